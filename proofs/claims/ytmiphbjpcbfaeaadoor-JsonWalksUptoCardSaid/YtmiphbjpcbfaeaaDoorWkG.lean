/- Layer 2: the comparison in the body of JsonWalks' loop (a region that draws its order, within a round), walked once. -/
import Derived.Test.YtmiphbjpcbfaeaaDoorWkB
import Derived.Test.YtmiphbjpcbfaeaaDoorRndQ
namespace Go.Proofs.YtmiphbjpcbfaeaaDoor
open Go.RowKit Go.PlainAid
set_option linter.unusedVariables false
set_option linter.unusedSimpArgs false
attribute [local go_sem] Oper.semAt_some
def cL : Code → Code
  | .seq a _ => a
  | .block _ c => c
  | .loop c => c
  | .cond _ a _ => a
  | .rangeFunc _ _ _ b => b
  | c => c
def cR : Code → Code
  | .seq _ b => b
  | .cond _ _ b => b
  | .rangeFunc _ _ a _ => a
  | c => c
noncomputable def bodyOf (f : Func) : Code := match f.body with | some c => c | none => .skip
/-- The body of the outer loop over the walk. -/
noncomputable def wkBody : Code := cL (cL (cR (cL (cR (cR (cR (cL (cL (cR (cL (cL (cR (cL (cR (cR (cR (cR (cR (bodyOf Tryd.f3)))))))))))))))))))
/-- The comparison. -/
noncomputable def wkCmp : Code := cL (cR (cR (cL wkBody)))
/-- Are a place and a value alike in what the law looks at? -/
def likeV (xv pv : VM) : Bool := decide (xv.kind = pv.kind ∧ xv.i = pv.i ∧ xv.t = pv.t ∧ xv.b = pv.b ∧ xv.Ln = pv.Ln ∧ xv.Fn = pv.Fn)
set_option maxRecDepth 100000 in
set_option maxHeartbeats 16000000 in
theorem cmp_any {l n : Nat} {X : World} {b6 b10 : Addr} {g gx m n4 c4 : Nat} {pv xv : VM} {Q : Exit → Act → World → Prop}
    (z0 z1 z2 z3 z4 z5 z7 z8 z9 z11 z13 z14 z15 z16 z17 z18 z19 z20 z21 z22 z23 z24 z25 z26 z27 z28 z29 z30 z31 z32 z33 z34 z35 z36 z37 z38 z39 z40 z41 z42 z43 z44 z45 z46 z47 z48 z49 z50 z51 z52 z53 z54 z55 z56 z57 z58 z59 z60 z61 z62 z63 z64 z65 z66 z67 z68 z69 z70 z71 z72 z73 z74 z75 z76 z77 z78 z79 z80 z81 z82 z83 z84 z85 z86 z87 z88 z89 z90 z91 z92 z93 z94 z95 z96 z97 z98 z99 z100 z101 z102 z103 z104 z105 z106 z107 z108 z109 z110 z111 z112 z113 z114 z115 z116 z117 z118 z119 z120 z121 z122 z123 z124 z125 z126 z127 z128 z129 z130 z131 z132 z133 z134 z135 z136 z137 z138 z139 z140 z141 z142 z143 z144 z145 z146 z147 z148 z149 z150 z151 z152 z153 z154 : Value)
    (hbd : 0 ≤ ((m : Nat) : Int) ∧ ((m : Nat) : Int) < (n4 : Nat)) (c6 : X.cell? b6 = some (.slice (some ⟨g, 0, none⟩) n4 c4)) (c10 : X.cell? b10 = some (.int .i64 (m : Nat)))
    (p1 : X.cell? ⟨g, m * 7 + 1, none⟩ = some (.int .i64 pv.kind)) (p2 : X.cell? ⟨g, m * 7 + 2, none⟩ = some (.bool pv.b)) (p3 : X.cell? ⟨g, m * 7 + 3, none⟩ = some (.int .i64 pv.i)) (p4 : X.cell? ⟨g, m * 7 + 4, none⟩ = some (.string pv.t)) (p5 : X.cell? ⟨g, m * 7 + 5, none⟩ = some (.slice pv.LA pv.Ln pv.Lc)) (p6 : X.cell? ⟨g, m * 7 + 6, none⟩ = some (.slice pv.FA pv.Fn pv.Fc))
    (x0 : X.cell? ⟨gx, 0, none⟩ = some (.int .i64 xv.kind)) (x1 : X.cell? ⟨gx, 1, none⟩ = some (.bool xv.b)) (x2 : X.cell? ⟨gx, 2, none⟩ = some (.int .i64 xv.i)) (x3 : X.cell? ⟨gx, 3, none⟩ = some (.string xv.t)) (x4 : X.cell? ⟨gx, 4, none⟩ = some (.slice xv.LA xv.Ln xv.Lc)) (x5 : X.cell? ⟨gx, 5, none⟩ = some (.slice xv.FA xv.Fn xv.Fc))
    (hQ : ∀ (y51 y52 y53 y54 y55 y56 y57 y58 y59 y60 y61 y62 y63 y64 y65 y66 y67 y68 y69 y70 y71 y72 y73 y74 y75 y76 y77 y78 y79 y80 y81 y82 y83 y84 y85 y86 y87 y88 y89 y90 y91 y92 y93 y94 y95 y96 y97 y98 y99 y100 y101 y102 y103 y104 y105 y106 y107 y108 y109 y110 y111 y112 y113 y114 y115 y116 y117 y118 : Value) (Y : World), Below X.heap.size X Y → Q .normal { tmps := #[z0, z1, z2, z3, z4, z5, .pointer (some b6), z7, z8, z9, .pointer (some b10), z11, .pointer (some ⟨gx, 0, none⟩), .bool (likeV xv pv), z14, z15, z16, z17, z18, z19, z20, z21, z22, z23, z24, z25, z26, z27, z28, z29, z30, z31, z32, z33, z34, z35, z36, z37, z38, z39, z40, z41, z42, z43, z44, z45, z46, z47, z48, z49, z50, y51, y52, y53, y54, y55, y56, y57, y58, y59, y60, y61, y62, y63, y64, y65, y66, y67, y68, y69, y70, y71, y72, y73, y74, y75, y76, y77, y78, y79, y80, y81, y82, y83, y84, y85, y86, y87, y88, y89, y90, y91, y92, y93, y94, y95, y96, y97, y98, y99, y100, y101, y102, y103, y104, y105, y106, y107, y108, y109, y110, y111, y112, y113, y114, y115, y116, y117, y118, z119, z120, z121, z122, z123, z124, z125, z126, z127, z128, z129, z130, z131, z132, z133, z134, z135, z136, z137, z138, z139, z140, z141, z142, z143, z144, z145, z146, z147, z148, z149, z150, z151, z152, z153, z154], defers := [] } Y) :
    wkCmp.wpIn (Fence.wide.inRound l) n Tryd.prog Q { tmps := #[z0, z1, z2, z3, z4, z5, .pointer (some b6), z7, z8, z9, .pointer (some b10), z11, .pointer (some ⟨gx, 0, none⟩), z13, z14, z15, z16, z17, z18, z19, z20, z21, z22, z23, z24, z25, z26, z27, z28, z29, z30, z31, z32, z33, z34, z35, z36, z37, z38, z39, z40, z41, z42, z43, z44, z45, z46, z47, z48, z49, z50, z51, z52, z53, z54, z55, z56, z57, z58, z59, z60, z61, z62, z63, z64, z65, z66, z67, z68, z69, z70, z71, z72, z73, z74, z75, z76, z77, z78, z79, z80, z81, z82, z83, z84, z85, z86, z87, z88, z89, z90, z91, z92, z93, z94, z95, z96, z97, z98, z99, z100, z101, z102, z103, z104, z105, z106, z107, z108, z109, z110, z111, z112, z113, z114, z115, z116, z117, z118, z119, z120, z121, z122, z123, z124, z125, z126, z127, z128, z129, z130, z131, z132, z133, z134, z135, z136, z137, z138, z139, z140, z141, z142, z143, z144, z145, z146, z147, z148, z149, z150, z151, z152, z153, z154], defers := [] } X := by
  have HQ := Lib.hid hQ
  clear hQ
  dsimp only [wkCmp, wkBody, bodyOf, cL, cR, Tryd.f3, List.append]
  refine wpIn_region_round (by kernel_rfl) (by kernel_rfl) (by kernel_rfl) ?_
  by_cases e1 : xv.kind = pv.kind
  · rw [← e1] at p1
    by_cases e2 : xv.i = pv.i
    · rw [← e2] at p3
      by_cases e3 : xv.t = pv.t
      · rw [← e3] at p4
        by_cases e4 : xv.b = pv.b
        · rw [← e4] at p2
          by_cases e5 : xv.Ln = pv.Ln
          · rw [← e5] at p5
            by_cases e6 : xv.Fn = pv.Fn
            · rw [← e6] at p6
              have HL : likeV xv pv = true := by unfold likeV; simp [e1, e2, e3, e4, e5, e6]
              repeat (refine WQ.step (fun K hK => ?_); go_simp; first | (refine hK _ ?_; clear hK K) | (apply Exists.intro; refine ⟨fun _ => ?_, hK _ ?_⟩; clear hK K))
              refine WQ.nil ?_
              intro _ hw'
              obtain ⟨nq, hw''⟩ := hw'
              subst hw''
              rw [HL] at HQ
              exact HQ.out _ _ _ _ _ _ _ _ _ _ _ _ _ _ _ _ _ _ _ _ _ _ _ _ _ _ _ _ _ _ _ _ _ _ _ _ _ _ _ _ _ _ _ _ _ _ _ _ _ _ _ _ _ _ _ _ _ _ _ _ _ _ _ _ _ _ _ _ _ (below_drewN (Below.refl _ X) nq)
            · have HL : likeV xv pv = false := by unfold likeV; simp [e6]
              have n1 : (((xv.Fn : Nat) : Int) == (pv.Fn : Nat)) = false := by simpa using fun h => e6 (by omega)
              have n2 : ¬ ((xv.Fn : Nat) : Int) = (pv.Fn : Nat) := by omega
              repeat (refine WQ.step (fun K hK => ?_); go_simp; first | (refine hK _ ?_; clear hK K) | (apply Exists.intro; refine ⟨fun _ => ?_, hK _ ?_⟩; clear hK K))
              refine WQ.nil ?_
              intro _ hw'
              obtain ⟨nq, hw''⟩ := hw'
              subst hw''
              rw [HL] at HQ
              exact HQ.out _ _ _ _ _ _ _ _ _ _ _ _ _ _ _ _ _ _ _ _ _ _ _ _ _ _ _ _ _ _ _ _ _ _ _ _ _ _ _ _ _ _ _ _ _ _ _ _ _ _ _ _ _ _ _ _ _ _ _ _ _ _ _ _ _ _ _ _ _ (below_drewN (Below.refl _ X) nq)
          · have HL : likeV xv pv = false := by unfold likeV; simp [e5]
            have n1 : (((xv.Ln : Nat) : Int) == (pv.Ln : Nat)) = false := by simpa using fun h => e5 (by omega)
            have n2 : ¬ ((xv.Ln : Nat) : Int) = (pv.Ln : Nat) := by omega
            repeat (refine WQ.step (fun K hK => ?_); go_simp; first | (refine hK _ ?_; clear hK K) | (apply Exists.intro; refine ⟨fun _ => ?_, hK _ ?_⟩; clear hK K))
            refine WQ.nil ?_
            intro _ hw'
            obtain ⟨nq, hw''⟩ := hw'
            subst hw''
            rw [HL] at HQ
            exact HQ.out _ _ _ _ _ _ _ _ _ _ _ _ _ _ _ _ _ _ _ _ _ _ _ _ _ _ _ _ _ _ _ _ _ _ _ _ _ _ _ _ _ _ _ _ _ _ _ _ _ _ _ _ _ _ _ _ _ _ _ _ _ _ _ _ _ _ _ _ _ (below_drewN (Below.refl _ X) nq)
        · have HL : likeV xv pv = false := by unfold likeV; simp [e4]
          have n1 : (xv.b == pv.b) = false := by simpa using e4
          repeat (refine WQ.step (fun K hK => ?_); go_simp; first | (refine hK _ ?_; clear hK K) | (apply Exists.intro; refine ⟨fun _ => ?_, hK _ ?_⟩; clear hK K))
          refine WQ.nil ?_
          intro _ hw'
          obtain ⟨nq, hw''⟩ := hw'
          subst hw''
          rw [HL] at HQ
          exact HQ.out _ _ _ _ _ _ _ _ _ _ _ _ _ _ _ _ _ _ _ _ _ _ _ _ _ _ _ _ _ _ _ _ _ _ _ _ _ _ _ _ _ _ _ _ _ _ _ _ _ _ _ _ _ _ _ _ _ _ _ _ _ _ _ _ _ _ _ _ _ (below_drewN (Below.refl _ X) nq)
      · have HL : likeV xv pv = false := by unfold likeV; simp [e3]
        have n1 : (xv.t.toList == pv.t.toList) = false := by simpa [ba_toList] using fun h => e3 (ByteArray.ext (Array.ext' h))
        repeat (refine WQ.step (fun K hK => ?_); go_simp; first | (refine hK _ ?_; clear hK K) | (apply Exists.intro; refine ⟨fun _ => ?_, hK _ ?_⟩; clear hK K))
        refine WQ.nil ?_
        intro _ hw'
        obtain ⟨nq, hw''⟩ := hw'
        subst hw''
        rw [HL] at HQ
        exact HQ.out _ _ _ _ _ _ _ _ _ _ _ _ _ _ _ _ _ _ _ _ _ _ _ _ _ _ _ _ _ _ _ _ _ _ _ _ _ _ _ _ _ _ _ _ _ _ _ _ _ _ _ _ _ _ _ _ _ _ _ _ _ _ _ _ _ _ _ _ _ (below_drewN (Below.refl _ X) nq)
    · have HL : likeV xv pv = false := by unfold likeV; simp [e2]
      have n1 : (xv.i == pv.i) = false := by simpa using e2
      repeat (refine WQ.step (fun K hK => ?_); go_simp; first | (refine hK _ ?_; clear hK K) | (apply Exists.intro; refine ⟨fun _ => ?_, hK _ ?_⟩; clear hK K))
      refine WQ.nil ?_
      intro _ hw'
      obtain ⟨nq, hw''⟩ := hw'
      subst hw''
      rw [HL] at HQ
      exact HQ.out _ _ _ _ _ _ _ _ _ _ _ _ _ _ _ _ _ _ _ _ _ _ _ _ _ _ _ _ _ _ _ _ _ _ _ _ _ _ _ _ _ _ _ _ _ _ _ _ _ _ _ _ _ _ _ _ _ _ _ _ _ _ _ _ _ _ _ _ _ (below_drewN (Below.refl _ X) nq)
  · have HL : likeV xv pv = false := by unfold likeV; simp [e1]
    have n1 : (xv.kind == pv.kind) = false := by simpa using e1
    repeat (refine WQ.step (fun K hK => ?_); go_simp; first | (refine hK _ ?_; clear hK K) | (apply Exists.intro; refine ⟨fun _ => ?_, hK _ ?_⟩; clear hK K))
    refine WQ.nil ?_
    intro _ hw'
    obtain ⟨nq, hw''⟩ := hw'
    subst hw''
    rw [HL] at HQ
    exact HQ.out _ _ _ _ _ _ _ _ _ _ _ _ _ _ _ _ _ _ _ _ _ _ _ _ _ _ _ _ _ _ _ _ _ _ _ _ _ _ _ _ _ _ _ _ _ _ _ _ _ _ _ _ _ _ _ _ _ _ _ _ _ _ _ _ _ _ _ _ _ (below_drewN (Below.refl _ X) nq)
end Go.Proofs.YtmiphbjpcbfaeaaDoor
