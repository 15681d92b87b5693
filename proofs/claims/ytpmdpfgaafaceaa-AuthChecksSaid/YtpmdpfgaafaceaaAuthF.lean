/- Layer 16: leaving a room: a statement that draws its order and holds two calls. -/
import Derived.Test.YtpmdpfgaafaceaaAuthE
import Derived.Deep.RegionHeld3
import Derived.Deep.DrawnRows
namespace Go.Proofs.Ytpmdpfgaafaceaa
open Go.RowKit Go.PlainAid
set_option linter.unusedVariables false

/-- What is known of a world in the middle of a call: nothing of the caller's has turned, the event's box, the row of events, the event. -/
structure Bun (w0 : World) (l : List Ev) (A : Option Addr) (ex : Ev) (g : Nat) (w : World) : Prop where
  hb : Below w0.heap.size w0 w
  ev : IsEvs w A 0 l
  he : IsEv w ex
  bx : IBox w g 32 ex.cells
section
variable {w0 : World} {l : List Ev} {A : Option Addr} {ex : Ev} {g : Nat} {w w' : World}
theorem Bun.below (h : Bun w0 l A ex g w) (hb : Below w.heap.size w w') : Bun w0 l A ex g w' :=
  ⟨h.hb.trans (hb.mono h.hb.size), h.ev.below hb, h.he.below hb, h.bx.below hb h.bx.lt⟩
theorem Bun.drew (h : Bun w0 l A ex g w) : Bun w0 l A ex g w.drew := h.below ⟨rfl, rfl, rfl, Nat.le_refl _, fun _ _ => rfl⟩
theorem cell_drew {a : Addr} {v : Value} (h : w.cell? a = some v) : w.drew.cell? a = some v := h
end

def leaveS (l : List Ev) (ex : Ev) : Int :=
  if (ex.sender.toList == ex.key.toList) = true then (if ((memberS l ex.sender).toList == [106, 111, 105, 110]) = true ∨ ((memberS l ex.sender).toList == [105, 110, 118, 105, 116, 101]) = true then 0 else 27)
  else if ((memberS l ex.sender).toList == [106, 111, 105, 110]) = false then 28
  else if ((memberS l ex.key).toList == [98, 97, 110]) = true ∧ levelS l ex.sender < needS l ⟨#[98, 97, 110]⟩ then 29
  else if levelS l ex.sender < needS l ⟨#[107, 105, 99, 107]⟩ ∨ levelS l ex.sender ≤ levelS l ex.key then 30 else 0

set_option maxRecDepth 100000 in
set_option maxHeartbeats 4000000 in
theorem leave_any (l : List Ev) (A : Option Addr) (n c : Nat) (ex : Ev) (w : World) (HE : IsEv w ex) (EV : IsEvs w A 0 l) (hn : n = l.length) (hnb : n ≤ 9223372036854775807) :
    Calls Try.prog 43 #[.slice A n c, .agg ex.cells] w fun e w' => e = .returned (.int .i64 (leaveS l ex)) ∧ Below w.heap.size w w' := by
  have HN := Lib.hid hn
  clear hn
  have HB := Below.refl w.heap.size w
  go_enter Try.func43, Try.ntmps43
  go_wp2_with (refine wpl_box_at rfl 32 (.tmp 1) rfl _ rfl ?_; intro w1 hw; have hb := hid_grow hw; have B3 := (hid_alloc hw).1; replace HB := HB.trans (hb.mono HB.size); (try replace EV := EV.below hb); (try replace HE := HE.below hb); clear hb hw; have c3_3 : w1.cell? ⟨_, 3, none⟩ = some (.string ex.sender) := B3.cell 3; have c3_5 : w1.cell? ⟨_, 5, none⟩ = some (.string ex.key) := B3.cell 5)
  have hbun : Bun w l A ex w.heap.size w1 := ⟨HB, EV, HE, B3⟩
  clear HB EV HE B3
  go_region_held3 (fun w' => Bun w l A ex w.heap.size w' ∧ w'.cell? ⟨w.heap.size, 3, none⟩ = some (.string ex.sender) ∧ w'.cell? ⟨w.heap.size, 5, none⟩ = some (.string ex.key)) ((go_split_ands; refine ⟨?_, ?_, ?_⟩ <;> first | assumption | (exact Bun.drew (by assumption)) | (exact cell_drew (by assumption)) | (exact Bun.below (by assumption) (by assumption)) | (exact cell_below (by assumption) (by assumption))))
    (first
      | (go_at_call 44; go_split_ands; refine (amember_any l A n c _ _ (Bun.ev (by assumption)) HN.out hnb).mono ?_; rintro e w' ⟨rfl, hb⟩)
      | (go_at_call 17; go_split_ands; refine (level_any l A n c _ _ (Bun.ev (by assumption)) HN.out hnb).mono ?_; rintro e w' ⟨rfl, hb⟩))
  go_split_ands
  have hq : Bun w l A ex w.heap.size w' := by assumption
  have HB := hq.hb
  have EV := hq.ev
  have HE := hq.he
  have B3 := hq.bx
  clear hbun c3_3 c3_5
  have c3_3 : w'.cell? ⟨w.heap.size, 3, none⟩ = some (.string ex.sender) := B3.cell 3
  have c3_5 : w'.cell? ⟨w.heap.size, 5, none⟩ = some (.string ex.key) := B3.cell 5
  clear hq
  go_wp2_with (first
    | (refine wpl_box_at rfl 32 (.tmp 1) rfl _ rfl ?_; intro w1 hw; have hb := hid_grow hw; have B3 := (hid_alloc hw).1; replace HB := HB.trans (hb.mono HB.size); (try replace EV := EV.below hb); (try replace HE := HE.below hb); clear hb hw; have c3_3 : w1.cell? ⟨_, 3, none⟩ = some (.string ex.sender) := B3.cell 3; have c3_5 : w1.cell? ⟨_, 5, none⟩ = some (.string ex.key) := B3.cell 5)
    | (go_at_call 44; (with_reducible refine (amember_any l A n c _ _ EV HN.out hnb).mono ?_); rintro e w1 ⟨rfl, hb⟩; replace HB := HB.trans (hb.mono HB.size); (try replace EV := EV.below hb); (try replace HE := HE.below hb); (try replace B3 := IBox.below B3 hb (IBox.lt B3)); (try replace c3_3 := cell_below hb c3_3); (try replace c3_5 := cell_below hb c3_5); clear hb)
    | (go_at_call 17; (with_reducible refine (level_any l A n c _ _ EV HN.out hnb).mono ?_); rintro e w1 ⟨rfl, hb⟩; replace HB := HB.trans (hb.mono HB.size); (try replace EV := EV.below hb); (try replace HE := HE.below hb); (try replace B3 := IBox.below B3 hb (IBox.lt B3)); (try replace c3_3 := cell_below hb c3_3); (try replace c3_5 := cell_below hb c3_5); clear hb)
    | (go_at_call 45; (with_reducible refine (need_any l A n c _ _ EV HN.out hnb).mono ?_); rintro e w1 ⟨rfl, hb⟩; replace HB := HB.trans (hb.mono HB.size); (try replace EV := EV.below hb); (try replace HE := HE.below hb); (try replace B3 := IBox.below B3 hb (IBox.lt B3)); (try replace c3_3 := cell_below hb c3_3); (try replace c3_5 := cell_below hb c3_5); clear hb))
  all_goals
    go_ret
    exact ⟨ret_int (by unfold leaveS; first | (simp_all; done) | (simp_all; omega)), HB⟩
end Go.Proofs.Ytpmdpfgaafaceaa
