/- The library's contracts on the sorted keys of a map at this seat's translation, laid by the shelf's own commands (no walk). -/
import Derived.Shelf.SlIter.Nil
import Derived.Shelf.SortM.Plain
import Derived.Shelf.SortM.SortNone
import Derived.Ground.GgzProg
import Derived.Ground.SlgmProg
import Derived.Test.YtmpoejgclalmfaaGreatProg
namespace Go.Proofs
open Go.RowKit Go.Maps Go.Sort Go.Shelf

def Tryz.keys42_ren : Go.Shelf.Ren := ⟨fun | 7 => 42 | 10 => 55 | n => n, fun | 23 => 51 | 26 => 9 | 3 => 4 | 28 => 78 | 0 => 0 | 27 => 77 | 33 => 44 | 4 => 4 | n => n, fun | n => n⟩
theorem Tryz.keys42 : Go.Proofs.SlLaysZ.n7 Tryz.prog Tryz.keys42_ren := {
  mixed := by kernel_rfl
  f7 := ⟨Tryz.f42.name, by decide, Tryz.func42.trans (congrArg some (by kernel_rfl))⟩
  f10 := ⟨Tryz.f55.name, by decide, Tryz.func55.trans (congrArg some (by kernel_rfl))⟩
  t0 := Tryz.underlying0
  a0 := Tryz.isAgg0
  z0 := Tryz.sizeOf0
  v0 := Tryz.zeroValue0
  t4 := Tryz.underlying4
  a4 := Tryz.isAgg4
  z4 := Tryz.sizeOf4
  v4 := Tryz.zeroValue4
  t23 := Tryz.underlying51
  a23 := Tryz.isAgg51
  z23 := Tryz.sizeOf51
  v23 := Tryz.zeroValue51
  t26 := Tryz.underlying9
  a26 := Tryz.isAgg9
  z26 := Tryz.sizeOf9
  v26 := Tryz.zeroValue9
  t27 := Tryz.underlying77
  a27 := Tryz.isAgg77
  z27 := Tryz.sizeOf77
  v27 := Tryz.zeroValue77
  t28 := Tryz.underlying78
  a28 := Tryz.isAgg78
  z28 := Tryz.sizeOf78
  v28 := Tryz.zeroValue78
  t33 := Tryz.underlying44
  a33 := Tryz.isAgg44
  z33 := Tryz.sizeOf44
  v33 := Tryz.zeroValue44 }
def Tryz.sorted41_ren : Go.Shelf.Ren := ⟨fun | 6 => 41 | 8 => 53 | 9 => 54 | 11 => 68 | 13 => 70 | 12 => 69 | 23 => 87 | 24 => 88 | 14 => 78 | 15 => 79 | 16 => 80 | 17 => 81 | 18 => 82 | 19 => 83 | 20 => 84 | 21 => 85 | 22 => 86 | 25 => 100 | 26 => 101 | 27 => 102 | 28 => 103 | 29 => 104 | 30 => 105 | 31 => 129 | n => n, fun | 26 => 9 | 28 => 78 | 24 => 40 | 0 => 0 | 3 => 3 | 37 => 101 | 48 => 118 | 50 => 120 | 4 => 4 | 40 => 111 | 39 => 110 | 45 => 115 | 5 => 5 | 9 => 9 | 51 => 141 | 55 => 145 | 57 => 169 | 58 => 170 | 33 => 44 | n => n, fun | n => n⟩
theorem Tryz.sorted41 : Go.Proofs.SlLaysZ.n6 Tryz.prog Tryz.sorted41_ren := {
  mixed := by kernel_rfl
  f6 := ⟨Tryz.f41.name, by decide, Tryz.func41.trans (congrArg some (by kernel_rfl))⟩
  f8 := ⟨Tryz.f53.name, by decide, Tryz.func53.trans (congrArg some (by kernel_rfl))⟩
  f11 := ⟨Tryz.f68.name, by decide, Tryz.func68.trans (congrArg some (by kernel_rfl))⟩
  t0 := Tryz.underlying0
  a0 := Tryz.isAgg0
  z0 := Tryz.sizeOf0
  v0 := Tryz.zeroValue0
  t24 := Tryz.underlying40
  a24 := Tryz.isAgg40
  z24 := Tryz.sizeOf40
  v24 := Tryz.zeroValue40
  t26 := Tryz.underlying9
  a26 := Tryz.isAgg9
  z26 := Tryz.sizeOf9
  v26 := Tryz.zeroValue9
  t28 := Tryz.underlying78
  a28 := Tryz.isAgg78
  z28 := Tryz.sizeOf78
  v28 := Tryz.zeroValue78
  i26 := by kernel_rfl }
def Tryz.sort54_ren : Go.Shelf.Ren := ⟨fun | 6 => 54 | 8 => 70 | 9 => 69 | 19 => 87 | 20 => 88 | 21 => 78 | 22 => 79 | 23 => 80 | 24 => 81 | 25 => 82 | 26 => 83 | 27 => 84 | 28 => 85 | 29 => 86 | 36 => 100 | 31 => 101 | 32 => 102 | 37 => 103 | 38 => 104 | 39 => 105 | 41 => 129 | n => n, fun | 27 => 40 | 29 => 9 | 3 => 3 | 32 => 101 | 26 => 40 | 0 => 0 | 44 => 118 | 46 => 120 | 4 => 4 | 36 => 111 | 35 => 110 | 41 => 115 | 5 => 5 | 9 => 9 | 53 => 141 | 57 => 145 | 63 => 169 | 64 => 170 | n => n, fun | n => n⟩
theorem Tryz.sort54 : Go.Proofs.SlLaysM.n6 Tryz.prog Tryz.sort54_ren := {
  mixed := by kernel_rfl
  f6 := ⟨Tryz.f54.name, by decide, Tryz.func54.trans (congrArg some (by kernel_rfl))⟩
  f8 := Tryz.func70.trans (congrArg some (by kernel_rfl))
  f9 := ⟨Tryz.f69.name, by decide, Tryz.func69.trans (congrArg some (by kernel_rfl))⟩
  f19 := Tryz.func87.trans (congrArg some (by kernel_rfl))
  f20 := Tryz.func88.trans (congrArg some (by kernel_rfl))
  f21 := ⟨Tryz.f78.name, by decide, Tryz.func78.trans (congrArg some (by kernel_rfl))⟩
  f22 := ⟨Tryz.f79.name, by decide, Tryz.func79.trans (congrArg some (by kernel_rfl))⟩
  f23 := ⟨Tryz.f80.name, by decide, Tryz.func80.trans (congrArg some (by kernel_rfl))⟩
  f24 := ⟨Tryz.f81.name, by decide, Tryz.func81.trans (congrArg some (by kernel_rfl))⟩
  f25 := ⟨Tryz.f82.name, by decide, Tryz.func82.trans (congrArg some (by kernel_rfl))⟩
  f26 := ⟨Tryz.f83.name, by decide, Tryz.func83.trans (congrArg some (by kernel_rfl))⟩
  f27 := ⟨Tryz.f84.name, by decide, Tryz.func84.trans (congrArg some (by kernel_rfl))⟩
  f28 := ⟨Tryz.f85.name, by decide, Tryz.func85.trans (congrArg some (by kernel_rfl))⟩
  f29 := ⟨Tryz.f86.name, by decide, Tryz.func86.trans (congrArg some (by kernel_rfl))⟩
  f31 := Tryz.func101.trans (congrArg some (by kernel_rfl))
  f32 := Tryz.func102.trans (congrArg some (by kernel_rfl))
  f36 := ⟨Tryz.f100.name, by decide, Tryz.func100.trans (congrArg some (by kernel_rfl))⟩
  f37 := ⟨Tryz.f103.name, by decide, Tryz.func103.trans (congrArg some (by kernel_rfl))⟩
  f38 := ⟨Tryz.f104.name, by decide, Tryz.func104.trans (congrArg some (by kernel_rfl))⟩
  f39 := ⟨Tryz.f105.name, by decide, Tryz.func105.trans (congrArg some (by kernel_rfl))⟩
  f41 := ⟨Tryz.f129.name, by decide, Tryz.func129.trans (congrArg some (by kernel_rfl))⟩
  t0 := Tryz.underlying0
  a0 := Tryz.isAgg0
  z0 := Tryz.sizeOf0
  v0 := Tryz.zeroValue0
  t3 := Tryz.underlying3
  a3 := Tryz.isAgg3
  z3 := Tryz.sizeOf3
  v3 := Tryz.zeroValue3
  t4 := Tryz.underlying4
  a4 := Tryz.isAgg4
  z4 := Tryz.sizeOf4
  v4 := Tryz.zeroValue4
  t5 := Tryz.underlying5
  a5 := Tryz.isAgg5
  z5 := Tryz.sizeOf5
  v5 := Tryz.zeroValue5
  t9 := Tryz.underlying9
  a9 := Tryz.isAgg9
  z9 := Tryz.sizeOf9
  v9 := Tryz.zeroValue9
  t26 := Tryz.underlying40
  a26 := Tryz.isAgg40
  z26 := Tryz.sizeOf40
  v26 := Tryz.zeroValue40
  t27 := Tryz.underlying40
  a27 := Tryz.isAgg40
  z27 := Tryz.sizeOf40
  v27 := Tryz.zeroValue40
  t29 := Tryz.underlying9
  a29 := Tryz.isAgg9
  z29 := Tryz.sizeOf9
  v29 := Tryz.zeroValue9
  t32 := Tryz.underlying101
  a32 := Tryz.isAgg101
  z32 := Tryz.sizeOf101
  v32 := Tryz.zeroValue101
  t35 := Tryz.underlying110
  a35 := Tryz.isAgg110
  z35 := Tryz.sizeOf110
  v35 := Tryz.zeroValue110
  t36 := Tryz.underlying111
  a36 := Tryz.isAgg111
  z36 := Tryz.sizeOf111
  v36 := Tryz.zeroValue111
  t41 := Tryz.underlying115
  a41 := Tryz.isAgg115
  z41 := Tryz.sizeOf115
  v41 := Tryz.zeroValue115
  t44 := Tryz.underlying118
  a44 := Tryz.isAgg118
  z44 := Tryz.sizeOf118
  v44 := Tryz.zeroValue118
  t46 := Tryz.underlying120
  a46 := Tryz.isAgg120
  z46 := Tryz.sizeOf120
  v46 := Tryz.zeroValue120
  t53 := Tryz.underlying141
  a53 := Tryz.isAgg141
  z53 := Tryz.sizeOf141
  v53 := Tryz.zeroValue141
  t57 := Tryz.underlying145
  a57 := Tryz.isAgg145
  z57 := Tryz.sizeOf145
  v57 := Tryz.zeroValue145
  t63 := Tryz.underlying169
  a63 := Tryz.isAgg169
  z63 := Tryz.sizeOf169
  v63 := Tryz.zeroValue169
  t64 := Tryz.underlying170
  a64 := Tryz.isAgg170
  z64 := Tryz.sizeOf170
  v64 := Tryz.zeroValue170 }
theorem Tryz.sorts41 (m : Nat) : AnyZ.SortsIn Tryz.prog Tryz.sorted41_ren Fence.wide m :=
  ⟨fun blk off cap ss W hH hblk hsz => callsIn_wide.2 (AnyM.slices_Sort_string Tryz.sort54 blk off cap ss W hH hblk hsz),
   fun p cap W => callsIn_wide.2 (AnyM.slices_Sort_string_none Tryz.sort54 p cap W)⟩

theorem Tryz.maps_Keys_42 (mb : Option Nat) (W : World) : CallsIn Fence.wide 5 Tryz.prog 42 #[.map mb] W fun e w' => e = .returned (.func (.func 55) #[] #[.pointer (some ⟨W.heap.size, 0, none⟩)]) ∧ w' = W.alloc (.cells #[.map mb] 51) :=
  AnyZ.keys_in Tryz.keys42 Fence.wide 5 trivial rfl mb W

set_option maxHeartbeats 1000000 in
theorem Tryz.slices_Sorted_keys_41_42 {H : Type} (b nn : Nat) (D0 : DataW H) (R : Value → Option (DataW H × List MemPlace)) (w : World) (hown : w.ownsMap Tryz.prog 9 R b nn D0) (hmax : Maps.size D0 ≤ maxLen) (hbytes : Maps.size D0 * 16 ≤ 140737488355328) :
    CallsIn Fence.wide 5 Tryz.prog 41 #[.func (.func 55) #[] #[.pointer (some ⟨w.heap.size, 0, none⟩)]] (w.alloc (.cells #[.map (some b)] 51)) fun e w' => ∃ (v : Value) (ss : List (List UInt8)), e = .returned v ∧ ss.Perm (strKeys D0) ∧
      w'.ownsRow (w.alloc (.cells #[.map (some b)] 51)).heap.size 9 1 v ss.length ((ss.mergeSort (fun x y => decide (x ≤ y))).map encStr) ∧ (v = .slice none 0 0 ↔ ss = []) ∧ Below (w.alloc (.cells #[.map (some b)] 51)).heap.size (w.alloc (.cells #[.map (some b)] 51)) w' := by
  have hbl := hown.lt
  have hseq : SeqGives Fence.wide 2 Tryz.prog 55 #[.pointer (some ⟨w.heap.size, 0, none⟩)] encStr (fun ss => ss.Perm (strKeys D0)) (Maps.size D0) (w.alloc (.cells #[.map (some b)] 51)) :=
    AnyZ.keys_gives (ρ := Tryz.keys42_ren) { Tryz.keys42 with } Fence.wide _ trivial rfl (by omega) w.heap.size b nn D0 _ (by simp) (by simp) (by
      obtain ⟨es, clock, hb, Ft, hs, hD⟩ := hown
      exact ⟨es, clock, (Below.heap_alloc _ _ b hbl).trans hb, Ft, hs, hD⟩)
  exact AnyZ.sorted_in Tryz.sorted41 Fence.wide 5 trivial trivial trivial trivial rfl (by omega) (Tryz.sorts41 _) (enters_of Tryz.func54 (by kernel_rfl) rfl) 55 #[.pointer (some ⟨w.heap.size, 0, none⟩)] trivial (enters_of Tryz.func55 (by kernel_rfl) rfl) _ _ hmax hbytes _ hseq

set_option maxHeartbeats 1000000 in
theorem Tryz.slices_Sorted_keys_nil_41_42 (w : World) :
    CallsIn Fence.wide 5 Tryz.prog 41 #[.func (.func 55) #[] #[.pointer (some ⟨w.heap.size, 0, none⟩)]] (w.alloc (.cells #[.map none] 51)) fun e w' => ∃ (v : Value) (ss : List (List UInt8)), e = .returned v ∧ ss = [] ∧
      w'.ownsRow (w.alloc (.cells #[.map none] 51)).heap.size 9 1 v ss.length ((ss.mergeSort (fun x y => decide (x ≤ y))).map encStr) ∧ (v = .slice none 0 0 ↔ ss = []) ∧ Below (w.alloc (.cells #[.map none] 51)).heap.size (w.alloc (.cells #[.map none] 51)) w' := by
  have hseq : SeqGives Fence.wide 2 Tryz.prog 55 #[.pointer (some ⟨w.heap.size, 0, none⟩)] encStr (fun ss : List (List UInt8) => ss = []) 0 (w.alloc (.cells #[.map none] 51)) :=
    AnyZ.keys_gives_nil (ρ := Tryz.keys42_ren) { Tryz.keys42 with } Fence.wide _ trivial rfl w.heap.size _ (by simp) (by simp)
  exact AnyZ.sorted_in Tryz.sorted41 Fence.wide 5 trivial trivial trivial trivial rfl (by omega) (Tryz.sorts41 _) (enters_of Tryz.func54 (by kernel_rfl) rfl) 55 #[.pointer (some ⟨w.heap.size, 0, none⟩)] trivial (enters_of Tryz.func55 (by kernel_rfl) rfl) _ 0 (Nat.zero_le _) (by omega) _ hseq



end Go.Proofs
