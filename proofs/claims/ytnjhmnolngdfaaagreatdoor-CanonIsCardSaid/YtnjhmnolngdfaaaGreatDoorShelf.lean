/- The library's contracts at this seat's translation, laid by the shelf's own two commands (no walk): each says what a library function returns. -/
import Derived.Shelf.Strings.Builder1
import Derived.Shelf.Small.Bits
import Derived.Shelf.Small.Strs
import Derived.Shelf.Small.Wraps
import Derived.Shelf.Strings.BuilderF
import Derived.Shelf.Strings.BuilderK
import Derived.Shelf.Strings.BuilderRune
import Derived.Shelf.Utf8.AppendRune
import Derived.Shelf.Utf8.AppendRunePlain
import Derived.Shelf.Strconv.Itoa0
import Derived.Shelf.Strconv.Itoa1
import Derived.Shelf.LaysM
import Derived.Shelf.Strconv.Itoa2
import Derived.Shelf.Strconv.Itoa3
import Derived.Shelf.Strconv.Itoa4
import Derived.Shelf.Strconv.ParseIntEmpty
import Derived.Shelf.Strconv.Clone
import Derived.Shelf.Strconv.SyntaxError
import Derived.Shelf.LaysC
import Derived.Shelf.Strconv.ToError
import Derived.Shelf.Strconv.Lower
import Derived.Shelf.Strconv.ParseUint10
import Derived.Shelf.Strconv.ParseUint10Empty
import Derived.Shelf.Strconv.ParseUint10Any
import Derived.Shelf.Strconv.ParseInt10
import Derived.Shelf.Strconv.RangeError
import Derived.Shelf.Strconv.ToErrorRange
import Derived.Shelf.Strconv.ParseUintEmpty
import Derived.Shelf.Strconv.ParseUint10b64
import Derived.Shelf.Strconv.ParseUint10b32
import Derived.Shelf.Strconv.ParseUint10b16
import Derived.Shelf.Strconv.ParseUint10b8
import Derived.Shelf.Strconv.ParseUint10At
import Derived.Shelf.Strconv.ParseInt10At64
import Derived.Shelf.Strconv.ParseInt10At32
import Derived.Shelf.Strconv.ParseInt10At16
import Derived.Shelf.Strconv.ParseInt10At8
import Derived.Shelf.Strconv.ParseInt10All
import Derived.Shelf.Strconv.ParseIntPublic10
import Derived.Shelf.Strconv.ErrVarParseInt
import Derived.Ground.MpProg
import Derived.Shelf.Pu.ParseUintPublic10
import Derived.Shelf.Pu.ErrVarParseUint
import Derived.Shelf.Strings.Search1
import Derived.Shelf.Unicode.Decode
import Derived.Shelf.Unicode.DecodeSlow
import Derived.Shelf.Unicode.DecodeAny
import Derived.Shelf.Strings.BuilderCap
import Derived.Shelf.Slices.Turned
import Derived.Test.YtnjhmnolngdfaaaGreatDoorProg
namespace Go.Proofs
open Go.Shelf
def Tryz.lays170_ren : Go.Shelf.Ren := ⟨fun | 170 => 44 | n => n, fun | 70 => 74 | 3 => 3 | 0 => 0 | 72 => 76 | 37 => 46 | 5 => 5 | n => n, fun | n => n⟩
theorem Tryz.lays170 : Go.Proofs.Lays.n170 Tryz.prog Tryz.lays170_ren := {
  mixed := by kernel_rfl
  f170 := Tryz.func44.trans (congrArg some (by kernel_rfl))
  t0 := Tryz.underlying0
  a0 := Tryz.isAgg0
  z0 := Tryz.sizeOf0
  v0 := Tryz.zeroValue0
  t3 := Tryz.underlying3
  a3 := Tryz.isAgg3
  z3 := Tryz.sizeOf3
  v3 := Tryz.zeroValue3
  t37 := Tryz.underlying46
  a37 := Tryz.isAgg46
  z37 := Tryz.sizeOf46
  v37 := Tryz.zeroValue46
  t70 := Tryz.underlying74
  a70 := Tryz.isAgg74
  z70 := Tryz.sizeOf74
  v70 := Tryz.zeroValue74
  t72 := Tryz.underlying76
  a72 := Tryz.isAgg76
  z72 := Tryz.sizeOf76
  v72 := Tryz.zeroValue76 }
open Go.RowKit in
def Tryz.lays169_ren : Go.Shelf.Ren := ⟨fun | 169 => 45 | n => n, fun | 70 => 74 | 9 => 9 | 0 => 0 | 72 => 76 | 37 => 46 | 127 => 105 | 3 => 3 | 5 => 5 | n => n, fun | n => n⟩
theorem Tryz.lays169 : Go.Proofs.Lays.n169 Tryz.prog Tryz.lays169_ren := {
  mixed := by kernel_rfl
  f169 := Tryz.func45.trans (congrArg some (by kernel_rfl))
  t0 := Tryz.underlying0
  a0 := Tryz.isAgg0
  z0 := Tryz.sizeOf0
  v0 := Tryz.zeroValue0
  t3 := Tryz.underlying3
  a3 := Tryz.isAgg3
  z3 := Tryz.sizeOf3
  v3 := Tryz.zeroValue3
  t9 := Tryz.underlying9
  a9 := Tryz.isAgg9
  z9 := Tryz.sizeOf9
  v9 := Tryz.zeroValue9
  t37 := Tryz.underlying46
  a37 := Tryz.isAgg46
  z37 := Tryz.sizeOf46
  v37 := Tryz.zeroValue46
  t70 := Tryz.underlying74
  a70 := Tryz.isAgg74
  z70 := Tryz.sizeOf74
  v70 := Tryz.zeroValue74
  t72 := Tryz.underlying76
  a72 := Tryz.isAgg76
  z72 := Tryz.sizeOf76
  v72 := Tryz.zeroValue76
  t127 := Tryz.underlying105
  a127 := Tryz.isAgg105
  z127 := Tryz.sizeOf105
  v127 := Tryz.zeroValue105 }
theorem Tryz.Builder_Extra_169 : Builder.Extra Tryz.prog Tryz.lays169_ren := {
  sizeBuilder := by kernel_rfl
  liesBuilder := by kernel_rfl
  t5 := Tryz.underlying5
  a5 := Tryz.isAgg5
  z5 := Tryz.sizeOf5
  v5 := Tryz.zeroValue5
  infoByte := by kernel_rfl
  cellsByte := by kernel_rfl
  sizeByte := by kernel_rfl
  neB5 := by decide }
open Go.RowKit in
open Go.RowKit in
open Go.RowKit in
def Tryz.lays128_ren : Go.Shelf.Ren := ⟨fun | 128 => 130 | n => n, fun | 51 => 151 | 3 => 3 | 4 => 4 | 46 => 123 | 5 => 5 | 9 => 9 | n => n, fun | n => n⟩
def Tryz.lays125_ren : Go.Shelf.Ren := ⟨fun | 125 => 104 | 128 => 130 | 129 => 131 | n => n, fun | 46 => 123 | 3 => 3 | 51 => 151 | 53 => 119 | 4 => 4 | 5 => 5 | 9 => 9 | n => n, fun | n => n⟩
def Tryz.lays213_ren : Go.Shelf.Ren := ⟨fun | 213 => 105 | 265 => 132 | n => n, fun | 9 => 9 | 3 => 3 | n => n, fun | n => n⟩
open Go.RowKit in
def Tryz.lays106_ren : Go.Shelf.Ren := ⟨fun | 106 => 86 | 213 => 105 | 265 => 132 | n => n, fun | 9 => 9 | 3 => 3 | n => n, fun | n => n⟩
theorem Tryz.lays106 : Go.Proofs.Lays.n106 Tryz.prog Tryz.lays106_ren := {
  mixed := by kernel_rfl
  f106 := Tryz.func86.trans (congrArg some (by kernel_rfl))
  f213 := Tryz.func105.trans (congrArg some (by kernel_rfl))
  f265 := Tryz.func132.trans (congrArg some (by kernel_rfl))
  t3 := Tryz.underlying3
  a3 := Tryz.isAgg3
  z3 := Tryz.sizeOf3
  v3 := Tryz.zeroValue3
  t9 := Tryz.underlying9
  a9 := Tryz.isAgg9
  z9 := Tryz.sizeOf9
  v9 := Tryz.zeroValue9 }
open Go.RowKit in
theorem Tryz.strings_Compare (a b : ByteArray) (w : World) :
    Calls Tryz.prog 86 #[.string a, .string b] w fun e w' => e = .returned (.int .i64 (Lib.compareBytes a.data.toList b.data.toList)) ∧ w' = w := Any.strings_Compare Tryz.lays106 a b w
def Tryz.lays137_ren : Go.Shelf.Ren := ⟨fun | 137 => 54 | 217 => 79 | 266 => 95 | n => n, fun | 9 => 9 | 5 => 5 | 3 => 3 | n => n, fun | n => n⟩
theorem Tryz.lays137 : Go.Proofs.Lays.n137 Tryz.prog Tryz.lays137_ren := {
  mixed := by kernel_rfl
  f137 := Tryz.func54.trans (congrArg some (by kernel_rfl))
  f217 := Tryz.func79.trans (congrArg some (by kernel_rfl))
  f266 := Tryz.func95.trans (congrArg some (by kernel_rfl))
  t3 := Tryz.underlying3
  a3 := Tryz.isAgg3
  z3 := Tryz.sizeOf3
  v3 := Tryz.zeroValue3
  t5 := Tryz.underlying5
  a5 := Tryz.isAgg5
  z5 := Tryz.sizeOf5
  v5 := Tryz.zeroValue5
  t9 := Tryz.underlying9
  a9 := Tryz.isAgg9
  z9 := Tryz.sizeOf9
  v9 := Tryz.zeroValue9 }
open Go.RowKit in
theorem Tryz.strings_IndexByte (s : ByteArray) (c : Int) (w : World) :
    Calls Tryz.prog 54 #[.string s, .int .u8 c] w fun e w' => e = .returned (.int .i64 (Lib.indexByte s.data.toList c.toNat.toUInt8)) ∧ w' = w := Any.strings_IndexByte Tryz.lays137 s c w
def Tryz.lays214_ren : Go.Shelf.Ren := ⟨fun | 214 => 88 | n => n, fun | 4 => 4 | 9 => 9 | n => n, fun | n => n⟩
open Go.RowKit in
def Tryz.lays121_ren : Go.Shelf.Ren := ⟨fun | 121 => 67 | 214 => 88 | n => n, fun | 4 => 4 | 9 => 9 | n => n, fun | n => n⟩
theorem Tryz.lays121 : Go.Proofs.Lays.n121 Tryz.prog Tryz.lays121_ren := {
  mixed := by kernel_rfl
  f121 := Tryz.func67.trans (congrArg some (by kernel_rfl))
  f214 := Tryz.func88.trans (congrArg some (by kernel_rfl))
  t4 := Tryz.underlying4
  a4 := Tryz.isAgg4
  z4 := Tryz.sizeOf4
  v4 := Tryz.zeroValue4
  t9 := Tryz.underlying9
  a9 := Tryz.isAgg9
  z9 := Tryz.sizeOf9
  v9 := Tryz.zeroValue9 }
open Go.RowKit in
theorem Tryz.strconv_FormatBool (b : Bool) (w : World) :
    Calls Tryz.prog 67 #[.bool b] w fun e w' => e = .returned (.string ⟨(Lib.formatBool b).toArray⟩) ∧ w' = w := Any.strconv_FormatBool Tryz.lays121 b w
open Go.RowKit in
theorem Tryz.Builder_Len_f (B b : Nat) (bs : List Value) (w : World) (h : Lib.IsBuilderF 76 5 B b bs w) :
    Calls Tryz.prog 44 #[.pointer (some ⟨b, 0, none⟩)] w fun e w' => e = .returned (.int .i64 bs.length) ∧ w' = w := Any.Builder_Len_f Tryz.lays170 B b bs w h
open Go.RowKit in
open Go.RowKit in
open Go.RowKit in
open Go.RowKit in
open Go.RowKit in
open Go.RowKit in
theorem Tryz.Builder_String_any_k (B b : Nat) (l : List UInt8) (w : World) (h : Lib.IsBuilderF 76 5 B b (Lib.byteCells l) w) (hBw : B ≤ w.heap.size) :
    Calls Tryz.prog 45 #[.pointer (some ⟨b, 0, none⟩)] w fun e w' => e = .returned (.string ⟨l.toArray⟩) ∧ (Lib.IsBuilderF 76 5 B b (Lib.byteCells l) w' ∧ Below B w w' ∧ Lib.OthersKept 5 (some b) w w') := Any.Builder_String_any_k Tryz.lays169 Tryz.Builder_Extra_169 B b l w h hBw
def Tryz.lays278_ren : Go.Shelf.Ren := ⟨fun | 278 => 121 | n => n, fun | 37 => 46 | 21 => 21 | 51 => 151 | 4 => 4 | 46 => 123 | 5 => 5 | n => n, fun | n => n⟩
open Go.RowKit in
def Tryz.lays242_ren : Go.Shelf.Ren := ⟨fun | 242 => 98 | 278 => 121 | n => n, fun | 37 => 46 | 21 => 21 | 51 => 151 | 4 => 4 | 5 => 5 | 46 => 123 | n => n, fun | n => n⟩
theorem Tryz.lays242 : Go.Proofs.Lays.n242 Tryz.prog Tryz.lays242_ren := {
  mixed := by kernel_rfl
  f242 := Tryz.func98.trans (congrArg some (by kernel_rfl))
  f278 := Tryz.func121.trans (congrArg some (by kernel_rfl))
  t4 := Tryz.underlying4
  a4 := Tryz.isAgg4
  z4 := Tryz.sizeOf4
  v4 := Tryz.zeroValue4
  t5 := Tryz.underlying5
  a5 := Tryz.isAgg5
  z5 := Tryz.sizeOf5
  v5 := Tryz.zeroValue5
  t21 := Tryz.underlying21
  a21 := Tryz.isAgg21
  z21 := Tryz.sizeOf21
  v21 := Tryz.zeroValue21
  t37 := Tryz.underlying46
  a37 := Tryz.isAgg46
  z37 := Tryz.sizeOf46
  v37 := Tryz.zeroValue46
  t46 := Tryz.underlying123
  a46 := Tryz.isAgg123
  z46 := Tryz.sizeOf123
  v46 := Tryz.zeroValue123
  t51 := Tryz.underlying151
  a51 := Tryz.isAgg151
  z51 := Tryz.sizeOf151
  v51 := Tryz.zeroValue151 }
open Go.RowKit in
theorem Tryz.utf8_AppendRune_row (B : Nat) (v : Value) (n : Nat) (xs : List Value) (r : Int) (hr0 : -2147483648 ≤ r) (hr1 : r ≤ 2147483647) (w : World) (hown : w.ownsRowF B 5 1 v n xs) (hlen : n + 4 ≤ 140737488355328) (hBw : B ≤ w.heap.size) :
    Calls Tryz.prog 98 #[v, .int .i32 r] w fun e w' => ∃ v', e = .returned v' ∧ w'.ownsRowF B 5 1 v' (n + (Lib.runeCells r).length) (xs ++ Lib.runeCells r) ∧ ∃ o, (w.alloc o).grownBy w' v.ownBlock := Any.utf8_AppendRune_row Tryz.lays242 (by kernel_rfl) B v n xs r hr0 hr1 w hown hlen hBw
open Go.RowKit in
open Go.RowKit in
def Tryz.lays129_ren : Go.Shelf.Ren := ⟨fun | 129 => 131 | n => n, fun | 53 => 119 | 3 => 3 | 4 => 4 | 46 => 123 | 5 => 5 | 9 => 9 | n => n, fun | n => n⟩
def Tryz.lays317_ren : Go.Shelf.Ren := ⟨fun | 317 => 133 | n => n, fun | 3 => 3 | 46 => 123 | n => n, fun | n => n⟩
open Go.Lib in
def Tryz.lays318_ren : Go.Shelf.Ren := ⟨fun | 318 => 134 | n => n, fun | 3 => 3 | 4 => 4 | n => n, fun | n => n⟩
open Go.Lib in
def Tryz.lays283_ren : Go.Shelf.Ren := ⟨fun | 283 => 107 | n => n, fun | 3 => 3 | 9 => 9 | 4 => 4 | n => n, fun | n => n⟩
open Go.Lib in
def Tryz.laysM284_ren : Go.Shelf.Ren := ⟨fun | 284 => 108 | 129 => 131 | 317 => 133 | 318 => 134 | n => n, fun | 53 => 119 | 3 => 3 | 212 => 166 | 0 => 0 | 4 => 4 | 46 => 123 | 5 => 5 | 9 => 9 | n => n, fun | 17 => 3 | n => n⟩
open Go.Lib in
def Tryz.lays285_ren : Go.Shelf.Ren := ⟨fun | 285 => 109 | n => n, fun | 37 => 46 | 53 => 119 | 3 => 3 | 4 => 4 | 51 => 151 | 9 => 9 | 5 => 5 | 0 => 0 | n => n, fun | n => n⟩
open Go.RowKit Go.Sort Go.Lib in
def Tryz.laysM246_ren : Go.Shelf.Ren := ⟨fun | 246 => 89 | 283 => 107 | 284 => 108 | 285 => 109 | 286 => 110 | 129 => 131 | 317 => 133 | 318 => 134 | 319 => 135 | 320 => 136 | 337 => 147 | 338 => 148 | n => n, fun | 2 => 2 | 3 => 3 | 9 => 9 | 4 => 4 | 171 => 138 | 0 => 0 | 53 => 119 | 37 => 46 | 5 => 5 | 173 => 141 | 212 => 166 | 51 => 151 | 20 => 20 | 213 => 167 | 46 => 123 | 232 => 184 | 233 => 185 | n => n, fun | 17 => 3 | 18 => 6 | 19 => 7 | n => n⟩
open Go.RowKit Go.Sort Go.Lib in
def Tryz.lays246_ren : Go.Shelf.Ren := ⟨fun | 246 => 89 | 283 => 107 | 284 => 108 | 285 => 109 | 286 => 110 | 129 => 131 | 317 => 133 | 318 => 134 | 319 => 135 | 320 => 136 | 337 => 147 | 338 => 148 | n => n, fun | 2 => 2 | 3 => 3 | 9 => 9 | 4 => 4 | 171 => 138 | 0 => 0 | 53 => 119 | 37 => 46 | 5 => 5 | 173 => 141 | 212 => 166 | 51 => 151 | 20 => 20 | 213 => 167 | 46 => 123 | 232 => 184 | 233 => 185 | n => n, fun | 17 => 3 | 18 => 6 | 19 => 7 | n => n⟩
open Go.RowKit Go.Sort Go.Lib in
def Tryz.laysM243_ren : Go.Shelf.Ren := ⟨fun | 243 => 111 | 246 => 89 | 283 => 107 | 284 => 108 | 285 => 109 | 286 => 110 | 129 => 131 | 317 => 133 | 318 => 134 | 319 => 135 | 320 => 136 | 337 => 147 | 338 => 148 | n => n, fun | 3 => 3 | 9 => 9 | 2 => 2 | 4 => 4 | 171 => 138 | 0 => 0 | 53 => 119 | 37 => 46 | 5 => 5 | 173 => 141 | 212 => 166 | 51 => 151 | 20 => 20 | 213 => 167 | 46 => 123 | 232 => 184 | 233 => 185 | n => n, fun | 17 => 3 | 18 => 6 | 19 => 7 | n => n⟩
open Go.RowKit Go.Sort Go.Lib in
def Tryz.lays243_ren : Go.Shelf.Ren := ⟨fun | 243 => 111 | 246 => 89 | 283 => 107 | 284 => 108 | 285 => 109 | 286 => 110 | 129 => 131 | 317 => 133 | 318 => 134 | 319 => 135 | 320 => 136 | 337 => 147 | 338 => 148 | n => n, fun | 3 => 3 | 9 => 9 | 2 => 2 | 4 => 4 | 171 => 138 | 0 => 0 | 53 => 119 | 37 => 46 | 5 => 5 | 173 => 141 | 212 => 166 | 51 => 151 | 20 => 20 | 213 => 167 | 46 => 123 | 232 => 184 | 233 => 185 | n => n, fun | 17 => 3 | 18 => 6 | 19 => 7 | n => n⟩
open Go.RowKit Go.Sort Go.Lib in
def Tryz.laysM171_ren : Go.Shelf.Ren := ⟨fun | 171 => 90 | 243 => 111 | 246 => 89 | 283 => 107 | 284 => 108 | 285 => 109 | 286 => 110 | 129 => 131 | 317 => 133 | 318 => 134 | 319 => 135 | 320 => 136 | 337 => 147 | 338 => 148 | n => n, fun | 3 => 3 | 9 => 9 | 2 => 2 | 4 => 4 | 171 => 138 | 0 => 0 | 53 => 119 | 37 => 46 | 5 => 5 | 173 => 141 | 212 => 166 | 51 => 151 | 20 => 20 | 213 => 167 | 46 => 123 | 232 => 184 | 233 => 185 | n => n, fun | 17 => 3 | 18 => 6 | 19 => 7 | n => n⟩
open Go.RowKit Go.Sort Go.Lib in
def Tryz.lays171_ren : Go.Shelf.Ren := ⟨fun | 171 => 90 | 243 => 111 | 246 => 89 | 283 => 107 | 284 => 108 | 285 => 109 | 286 => 110 | 129 => 131 | 317 => 133 | 318 => 134 | 319 => 135 | 320 => 136 | 337 => 147 | 338 => 148 | n => n, fun | 3 => 3 | 9 => 9 | 2 => 2 | 4 => 4 | 171 => 138 | 0 => 0 | 53 => 119 | 37 => 46 | 5 => 5 | 173 => 141 | 212 => 166 | 51 => 151 | 20 => 20 | 213 => 167 | 46 => 123 | 232 => 184 | 233 => 185 | n => n, fun | 17 => 3 | 18 => 6 | 19 => 7 | n => n⟩
theorem Tryz.lays171 : Go.Proofs.Lays.n171 Tryz.prog Tryz.lays171_ren := {
  mixed := by kernel_rfl
  f129 := Tryz.func131.trans (congrArg some (by kernel_rfl))
  f171 := Tryz.func90.trans (congrArg some (by kernel_rfl))
  f243 := Tryz.func111.trans (congrArg some (by kernel_rfl))
  f246 := Tryz.func89.trans (congrArg some (by kernel_rfl))
  f283 := Tryz.func107.trans (congrArg some (by kernel_rfl))
  f284 := Tryz.func108.trans (congrArg some (by kernel_rfl))
  f285 := Tryz.func109.trans (congrArg some (by kernel_rfl))
  f286 := Tryz.func110.trans (congrArg some (by kernel_rfl))
  f317 := Tryz.func133.trans (congrArg some (by kernel_rfl))
  f318 := Tryz.func134.trans (congrArg some (by kernel_rfl))
  f319 := Tryz.func135.trans (congrArg some (by kernel_rfl))
  f320 := Tryz.func136.trans (congrArg some (by kernel_rfl))
  f337 := Tryz.func147.trans (congrArg some (by kernel_rfl))
  f338 := Tryz.func148.trans (congrArg some (by kernel_rfl))
  t0 := Tryz.underlying0
  a0 := Tryz.isAgg0
  z0 := Tryz.sizeOf0
  v0 := Tryz.zeroValue0
  t2 := Tryz.underlying2
  a2 := Tryz.isAgg2
  z2 := Tryz.sizeOf2
  v2 := Tryz.zeroValue2
  t3 := Tryz.underlying3
  a3 := Tryz.isAgg3
  z3 := Tryz.sizeOf3
  v3 := Tryz.zeroValue3
  t4 := Tryz.underlying4
  a4 := Tryz.isAgg4
  z4 := Tryz.sizeOf4
  v4 := Tryz.zeroValue4
  t5 := Tryz.underlying5
  a5 := Tryz.isAgg5
  z5 := Tryz.sizeOf5
  v5 := Tryz.zeroValue5
  t9 := Tryz.underlying9
  a9 := Tryz.isAgg9
  z9 := Tryz.sizeOf9
  v9 := Tryz.zeroValue9
  t20 := Tryz.underlying20
  a20 := Tryz.isAgg20
  z20 := Tryz.sizeOf20
  v20 := Tryz.zeroValue20
  t37 := Tryz.underlying46
  a37 := Tryz.isAgg46
  z37 := Tryz.sizeOf46
  v37 := Tryz.zeroValue46
  t46 := Tryz.underlying123
  a46 := Tryz.isAgg123
  z46 := Tryz.sizeOf123
  v46 := Tryz.zeroValue123
  t51 := Tryz.underlying151
  a51 := Tryz.isAgg151
  z51 := Tryz.sizeOf151
  v51 := Tryz.zeroValue151
  t53 := Tryz.underlying119
  a53 := Tryz.isAgg119
  z53 := Tryz.sizeOf119
  v53 := Tryz.zeroValue119
  t171 := Tryz.underlying138
  a171 := Tryz.isAgg138
  z171 := Tryz.sizeOf138
  v171 := Tryz.zeroValue138
  t173 := Tryz.underlying141
  a173 := Tryz.isAgg141
  z173 := Tryz.sizeOf141
  v173 := Tryz.zeroValue141
  t212 := Tryz.underlying166
  a212 := Tryz.isAgg166
  z212 := Tryz.sizeOf166
  v212 := Tryz.zeroValue166
  t213 := Tryz.underlying167
  a213 := Tryz.isAgg167
  z213 := Tryz.sizeOf167
  t232 := Tryz.underlying184
  a232 := Tryz.isAgg184
  z232 := Tryz.sizeOf184
  v232 := Tryz.zeroValue184
  t233 := Tryz.underlying185
  a233 := Tryz.isAgg185
  z233 := Tryz.sizeOf185
  v233 := Tryz.zeroValue185
  g17 := by kernel_rfl
  g18 := by kernel_rfl
  g19 := by kernel_rfl }
open Go.RowKit Go.Sort Go.Lib in
theorem Tryz.strconv_Itoa_small (i : Nat) (hi : i < 100) (w : World) :
    Calls Tryz.prog 90 #[.int .i64 i] w fun e w' => e = .returned (.string ⟨(Lib.decDigits i).toArray⟩) ∧ w' = w := Any.strconv_Itoa_small Tryz.lays171 i hi w
def Tryz.laysM173_ren : Go.Shelf.Ren := ⟨fun | 173 => 68 | 246 => 89 | 283 => 107 | 284 => 108 | 285 => 109 | 286 => 110 | 129 => 131 | 317 => 133 | 318 => 134 | 319 => 135 | 320 => 136 | 337 => 147 | 338 => 148 | n => n, fun | 2 => 2 | 3 => 3 | 9 => 9 | 4 => 4 | 171 => 138 | 0 => 0 | 53 => 119 | 37 => 46 | 5 => 5 | 173 => 141 | 212 => 166 | 51 => 151 | 20 => 20 | 213 => 167 | 46 => 123 | 232 => 184 | 233 => 185 | n => n, fun | 17 => 3 | 18 => 6 | 19 => 7 | n => n⟩
theorem Tryz.laysM173 : Go.Proofs.LaysM.n173 Tryz.prog Tryz.laysM173_ren := {
  mixed := by kernel_rfl
  f129 := Tryz.func131.trans (congrArg some (by kernel_rfl))
  f173 := Tryz.func68.trans (congrArg some (by kernel_rfl))
  f246 := Tryz.func89.trans (congrArg some (by kernel_rfl))
  f283 := Tryz.func107.trans (congrArg some (by kernel_rfl))
  f284 := Tryz.func108.trans (congrArg some (by kernel_rfl))
  f285 := Tryz.func109.trans (congrArg some (by kernel_rfl))
  f286 := Tryz.func110.trans (congrArg some (by kernel_rfl))
  f317 := Tryz.func133.trans (congrArg some (by kernel_rfl))
  f318 := Tryz.func134.trans (congrArg some (by kernel_rfl))
  f319 := Tryz.func135.trans (congrArg some (by kernel_rfl))
  f320 := Tryz.func136.trans (congrArg some (by kernel_rfl))
  f337 := Tryz.func147.trans (congrArg some (by kernel_rfl))
  f338 := Tryz.func148.trans (congrArg some (by kernel_rfl))
  t0 := Tryz.underlying0
  a0 := Tryz.isAgg0
  z0 := Tryz.sizeOf0
  v0 := Tryz.zeroValue0
  t2 := Tryz.underlying2
  a2 := Tryz.isAgg2
  z2 := Tryz.sizeOf2
  v2 := Tryz.zeroValue2
  t3 := Tryz.underlying3
  a3 := Tryz.isAgg3
  z3 := Tryz.sizeOf3
  v3 := Tryz.zeroValue3
  t4 := Tryz.underlying4
  a4 := Tryz.isAgg4
  z4 := Tryz.sizeOf4
  v4 := Tryz.zeroValue4
  t5 := Tryz.underlying5
  a5 := Tryz.isAgg5
  z5 := Tryz.sizeOf5
  v5 := Tryz.zeroValue5
  t9 := Tryz.underlying9
  a9 := Tryz.isAgg9
  z9 := Tryz.sizeOf9
  v9 := Tryz.zeroValue9
  t20 := Tryz.underlying20
  a20 := Tryz.isAgg20
  z20 := Tryz.sizeOf20
  v20 := Tryz.zeroValue20
  t37 := Tryz.underlying46
  a37 := Tryz.isAgg46
  z37 := Tryz.sizeOf46
  v37 := Tryz.zeroValue46
  t46 := Tryz.underlying123
  a46 := Tryz.isAgg123
  z46 := Tryz.sizeOf123
  v46 := Tryz.zeroValue123
  t51 := Tryz.underlying151
  a51 := Tryz.isAgg151
  z51 := Tryz.sizeOf151
  v51 := Tryz.zeroValue151
  t53 := Tryz.underlying119
  a53 := Tryz.isAgg119
  z53 := Tryz.sizeOf119
  v53 := Tryz.zeroValue119
  t171 := Tryz.underlying138
  a171 := Tryz.isAgg138
  z171 := Tryz.sizeOf138
  v171 := Tryz.zeroValue138
  t173 := Tryz.underlying141
  a173 := Tryz.isAgg141
  z173 := Tryz.sizeOf141
  v173 := Tryz.zeroValue141
  t212 := Tryz.underlying166
  a212 := Tryz.isAgg166
  z212 := Tryz.sizeOf166
  v212 := Tryz.zeroValue166
  t213 := Tryz.underlying167
  a213 := Tryz.isAgg167
  z213 := Tryz.sizeOf167
  t232 := Tryz.underlying184
  a232 := Tryz.isAgg184
  z232 := Tryz.sizeOf184
  v232 := Tryz.zeroValue184
  t233 := Tryz.underlying185
  a233 := Tryz.isAgg185
  z233 := Tryz.sizeOf185
  v233 := Tryz.zeroValue185
  g17 := by kernel_rfl
  g18 := by kernel_rfl
  g19 := by kernel_rfl
  i0 := by kernel_rfl
  i2 := by kernel_rfl
  i3 := by kernel_rfl
  i4 := by kernel_rfl
  i5 := by kernel_rfl
  i9 := by kernel_rfl
  i20 := by kernel_rfl
  i37 := by kernel_rfl
  i46 := by kernel_rfl
  i51 := by kernel_rfl
  i53 := by kernel_rfl
  i171 := by kernel_rfl
  i173 := by kernel_rfl
  i212 := by kernel_rfl
  i232 := by kernel_rfl
  i233 := by kernel_rfl
  m17 := by kernel_rfl
  m18 := by kernel_rfl
  m19 := by kernel_rfl }
open Go.RowKit Go.Sort Go.Lib in
theorem Tryz.strconv_FormatInt_10 (n : Int) (h0 : -9223372036854775808 ≤ n) (h1 : n ≤ 9223372036854775807) (w : World) (htab : Lib.TabIs Tryz.prog w "internal/strconv.uint64pow10" .u64 Lib.pow10Tab) :
    Calls Tryz.prog 68 #[.int .i64 n, .int .i64 10] w fun e w' => e = .returned (.string ⟨(Lib.itoa n).toArray⟩) ∧ ∃ k os, w' = grow (w.drewN k) os := Any.strconv_FormatInt_10 Tryz.laysM173 n h0 h1 w htab
def Tryz.lays173_ren : Go.Shelf.Ren := ⟨fun | 173 => 68 | 246 => 89 | 283 => 107 | 284 => 108 | 285 => 109 | 286 => 110 | 129 => 131 | 317 => 133 | 318 => 134 | 319 => 135 | 320 => 136 | 337 => 147 | 338 => 148 | n => n, fun | 2 => 2 | 3 => 3 | 9 => 9 | 4 => 4 | 171 => 138 | 0 => 0 | 53 => 119 | 37 => 46 | 5 => 5 | 173 => 141 | 212 => 166 | 51 => 151 | 20 => 20 | 213 => 167 | 46 => 123 | 232 => 184 | 233 => 185 | n => n, fun | 17 => 3 | 18 => 6 | 19 => 7 | n => n⟩
open Go.RowKit Go.Sort Go.Lib in
def Tryz.lays247_ren : Go.Shelf.Ren := ⟨fun | 247 => 96 | 287 => 116 | 321 => 138 | 322 => 139 | n => n, fun | 9 => 9 | 3 => 3 | 2 => 2 | 75 => 28 | 4 => 4 | 167 => 147 | 5 => 5 | 53 => 119 | 175 => 131 | 46 => 123 | 37 => 46 | 0 => 0 | 21 => 21 | 80 => 79 | n => n, fun | n => n⟩
open Go.RowKit in
def Tryz.laysM316_ren : Go.Shelf.Ren := ⟨fun | 316 => 140 | n => n, fun | 9 => 9 | 3 => 3 | 4 => 4 | 37 => 46 | 0 => 0 | 127 => 105 | 5 => 5 | n => n, fun | n => n⟩
open Go.RowKit in
def Tryz.laysM279_ren : Go.Shelf.Ren := ⟨fun | 279 => 117 | 316 => 140 | n => n, fun | 9 => 9 | 168 => 148 | 75 => 28 | 210 => 171 | 3 => 3 | 4 => 4 | 37 => 46 | 0 => 0 | 127 => 105 | 80 => 79 | 5 => 5 | n => n, fun | 15 => 4 | n => n⟩
open Go.RowKit in
def Tryz.laysC245_ren : Go.Shelf.Ren := ⟨fun | 245 => 97 | 279 => 117 | 280 => 118 | 281 => 119 | 282 => 120 | 316 => 140 | 171 => 90 | 205 => 141 | 243 => 111 | 246 => 89 | 283 => 107 | 284 => 108 | 285 => 109 | 286 => 110 | 129 => 131 | 317 => 133 | 318 => 134 | 319 => 135 | 320 => 136 | 337 => 147 | 338 => 148 | n => n, fun | 9 => 9 | 3 => 3 | 75 => 28 | 167 => 147 | 4 => 4 | 168 => 148 | 210 => 171 | 37 => 46 | 0 => 0 | 127 => 105 | 145 => 181 | 143 => 179 | 2 => 2 | 171 => 138 | 53 => 119 | 5 => 5 | 173 => 141 | 212 => 166 | 51 => 151 | 20 => 20 | 213 => 167 | 46 => 123 | 232 => 184 | 233 => 185 | 80 => 79 | n => n, fun | 15 => 4 | 16 => 5 | 17 => 3 | 18 => 6 | 19 => 7 | n => n⟩
theorem Tryz.laysC245 : Go.Proofs.LaysC.n245 Tryz.prog Tryz.laysC245_ren := {
  mixed := by kernel_rfl
  f129 := Tryz.func131.trans (congrArg some (by kernel_rfl))
  f171 := Tryz.func90.trans (congrArg some (by kernel_rfl))
  f205 := Tryz.func141.trans (congrArg some (by kernel_rfl))
  f243 := Tryz.func111.trans (congrArg some (by kernel_rfl))
  f245 := Tryz.func97.trans (congrArg some (by kernel_rfl))
  f246 := Tryz.func89.trans (congrArg some (by kernel_rfl))
  f279 := Tryz.func117.trans (congrArg some (by kernel_rfl))
  f280 := Tryz.func118.trans (congrArg some (by kernel_rfl))
  f281 := Tryz.func119.trans (congrArg some (by kernel_rfl))
  f282 := Tryz.func120.trans (congrArg some (by kernel_rfl))
  f283 := Tryz.func107.trans (congrArg some (by kernel_rfl))
  f284 := Tryz.func108.trans (congrArg some (by kernel_rfl))
  f285 := Tryz.func109.trans (congrArg some (by kernel_rfl))
  f286 := Tryz.func110.trans (congrArg some (by kernel_rfl))
  f316 := Tryz.func140.trans (congrArg some (by kernel_rfl))
  f317 := Tryz.func133.trans (congrArg some (by kernel_rfl))
  f318 := Tryz.func134.trans (congrArg some (by kernel_rfl))
  f319 := Tryz.func135.trans (congrArg some (by kernel_rfl))
  f320 := Tryz.func136.trans (congrArg some (by kernel_rfl))
  f337 := Tryz.func147.trans (congrArg some (by kernel_rfl))
  f338 := Tryz.func148.trans (congrArg some (by kernel_rfl))
  t0 := Tryz.underlying0
  a0 := Tryz.isAgg0
  z0 := Tryz.sizeOf0
  v0 := Tryz.zeroValue0
  t2 := Tryz.underlying2
  a2 := Tryz.isAgg2
  z2 := Tryz.sizeOf2
  v2 := Tryz.zeroValue2
  t3 := Tryz.underlying3
  a3 := Tryz.isAgg3
  z3 := Tryz.sizeOf3
  v3 := Tryz.zeroValue3
  t4 := Tryz.underlying4
  a4 := Tryz.isAgg4
  z4 := Tryz.sizeOf4
  v4 := Tryz.zeroValue4
  t5 := Tryz.underlying5
  a5 := Tryz.isAgg5
  z5 := Tryz.sizeOf5
  v5 := Tryz.zeroValue5
  t9 := Tryz.underlying9
  a9 := Tryz.isAgg9
  z9 := Tryz.sizeOf9
  v9 := Tryz.zeroValue9
  t20 := Tryz.underlying20
  a20 := Tryz.isAgg20
  z20 := Tryz.sizeOf20
  v20 := Tryz.zeroValue20
  t37 := Tryz.underlying46
  a37 := Tryz.isAgg46
  z37 := Tryz.sizeOf46
  v37 := Tryz.zeroValue46
  t46 := Tryz.underlying123
  a46 := Tryz.isAgg123
  z46 := Tryz.sizeOf123
  v46 := Tryz.zeroValue123
  t51 := Tryz.underlying151
  a51 := Tryz.isAgg151
  z51 := Tryz.sizeOf151
  v51 := Tryz.zeroValue151
  t53 := Tryz.underlying119
  a53 := Tryz.isAgg119
  z53 := Tryz.sizeOf119
  v53 := Tryz.zeroValue119
  t75 := Tryz.underlying28
  a75 := Tryz.isAgg28
  z75 := Tryz.sizeOf28
  v75 := Tryz.zeroValue28
  t127 := Tryz.underlying105
  a127 := Tryz.isAgg105
  z127 := Tryz.sizeOf105
  v127 := Tryz.zeroValue105
  t143 := Tryz.underlying179
  a143 := Tryz.isAgg179
  z143 := Tryz.sizeOf179
  v143 := Tryz.zeroValue179
  t145 := Tryz.underlying181
  a145 := Tryz.isAgg181
  z145 := Tryz.sizeOf181
  v145 := Tryz.zeroValue181
  t167 := Tryz.underlying147
  a167 := Tryz.isAgg147
  z167 := Tryz.sizeOf147
  v167 := Tryz.zeroValue147
  t168 := Tryz.underlying148
  a168 := Tryz.isAgg148
  z168 := Tryz.sizeOf148
  v168 := Tryz.zeroValue148
  t171 := Tryz.underlying138
  a171 := Tryz.isAgg138
  z171 := Tryz.sizeOf138
  v171 := Tryz.zeroValue138
  t173 := Tryz.underlying141
  a173 := Tryz.isAgg141
  z173 := Tryz.sizeOf141
  v173 := Tryz.zeroValue141
  t210 := Tryz.underlying171
  a210 := Tryz.isAgg171
  z210 := Tryz.sizeOf171
  v210 := Tryz.zeroValue171
  t212 := Tryz.underlying166
  a212 := Tryz.isAgg166
  z212 := Tryz.sizeOf166
  v212 := Tryz.zeroValue166
  t213 := Tryz.underlying167
  a213 := Tryz.isAgg167
  z213 := Tryz.sizeOf167
  t232 := Tryz.underlying184
  a232 := Tryz.isAgg184
  z232 := Tryz.sizeOf184
  v232 := Tryz.zeroValue184
  t233 := Tryz.underlying185
  a233 := Tryz.isAgg185
  z233 := Tryz.sizeOf185
  v233 := Tryz.zeroValue185
  g15 := by kernel_rfl
  g16 := by kernel_rfl
  g17 := by kernel_rfl
  g18 := by kernel_rfl
  g19 := by kernel_rfl
  t80 := Tryz.underlying79
  a80 := Tryz.isAgg79
  z80 := Tryz.sizeOf79
  v80 := Tryz.zeroValue79
  i0 := by kernel_rfl
  i2 := by kernel_rfl
  i3 := by kernel_rfl
  i4 := by kernel_rfl
  i5 := by kernel_rfl
  i9 := by kernel_rfl
  i20 := by kernel_rfl
  i37 := by kernel_rfl
  i46 := by kernel_rfl
  i51 := by kernel_rfl
  i53 := by kernel_rfl
  i75 := by kernel_rfl
  i80 := by kernel_rfl
  i127 := by kernel_rfl
  i143 := by kernel_rfl
  i145 := by kernel_rfl
  i167 := by kernel_rfl
  i168 := by kernel_rfl
  i171 := by kernel_rfl
  i173 := by kernel_rfl
  i210 := by kernel_rfl
  i212 := by kernel_rfl
  i232 := by kernel_rfl
  i233 := by kernel_rfl
  m15 := by kernel_rfl
  m16 := by kernel_rfl
  m17 := by kernel_rfl
  m18 := by kernel_rfl
  m19 := by kernel_rfl
  c0 := by kernel_rfl
  c2 := by kernel_rfl
  c3 := by kernel_rfl
  c4 := by kernel_rfl
  c5 := by kernel_rfl
  c9 := by kernel_rfl
  c20 := by kernel_rfl
  c37 := by kernel_rfl
  c46 := by kernel_rfl
  c51 := by kernel_rfl
  c53 := by kernel_rfl
  c75 := by kernel_rfl
  c80 := by kernel_rfl
  c127 := by kernel_rfl
  c143 := by kernel_rfl
  c145 := by kernel_rfl
  c167 := by kernel_rfl
  c168 := by kernel_rfl
  c171 := by kernel_rfl
  c173 := by kernel_rfl
  c210 := by kernel_rfl
  c212 := by kernel_rfl
  c213 := by kernel_rfl
  c232 := by kernel_rfl
  c233 := by kernel_rfl }
open Go.RowKit in
theorem Tryz.strconv_toError_syntax (fn s : ByteArray) (base bits : Int) (ev : Value) (w : World) (hlim : s.size ≤ 281474976710656) (hv : w.cell? ⟨4, 0, none⟩ = some ev) (hev : ev = .nilIface ∨ ∃ te pe, ev = .iface te pe) :
    Calls Tryz.prog 97 #[.string fn, .string s, .int .i64 base, .int .i64 bits, .iface 147 (.int .i64 2)] w fun e w' => ∃ N, e = .returned (.iface 148 (.pointer (some ⟨N, 0, none⟩))) ∧ w.heap.size ≤ N ∧ w'.heap[N]? = some (.cells #[.string fn, .string s, ev] 171 (0, 0)) ∧ Below w.heap.size w w' := Any.strconv_toError_syntax Tryz.laysC245 fn s base bits ev w hlim hv hev
def Tryz.lays321_ren : Go.Shelf.Ren := ⟨fun | 321 => 138 | n => n, fun | 5 => 5 | n => n, fun | n => n⟩
theorem Tryz.lays321 : Go.Proofs.Lays.n321 Tryz.prog Tryz.lays321_ren := {
  mixed := by kernel_rfl
  f321 := Tryz.func138.trans (congrArg some (by kernel_rfl))
  t5 := Tryz.underlying5
  a5 := Tryz.isAgg5
  z5 := Tryz.sizeOf5
  v5 := Tryz.zeroValue5 }
open Go.RowKit in
theorem Tryz.internal_strconv_lower (c : Int) (w : World) :
    Calls Tryz.prog 138 #[.int .u8 c] w fun e w' => e = .returned (.int .u8 (bits .or .u8 c 32)) ∧ w' = w := Any.internal_strconv_lower Tryz.lays321 c w
def Tryz.lays287_ren : Go.Shelf.Ren := ⟨fun | 287 => 116 | 321 => 138 | 322 => 139 | n => n, fun | 9 => 9 | 3 => 3 | 53 => 119 | 75 => 28 | 4 => 4 | 167 => 147 | 5 => 5 | 46 => 123 | 37 => 46 | 0 => 0 | 21 => 21 | 80 => 79 | n => n, fun | n => n⟩
open Go.RowKit in
open Go.RowKit in
open Go.RowKit in
def Tryz.laysC247_ren : Go.Shelf.Ren := ⟨fun | 247 => 96 | 287 => 116 | 321 => 138 | 322 => 139 | n => n, fun | 9 => 9 | 3 => 3 | 2 => 2 | 75 => 28 | 4 => 4 | 167 => 147 | 5 => 5 | 53 => 119 | 175 => 131 | 46 => 123 | 37 => 46 | 0 => 0 | 21 => 21 | 80 => 79 | n => n, fun | n => n⟩
open Go.RowKit in
def Tryz.laysM280_ren : Go.Shelf.Ren := ⟨fun | 280 => 118 | 316 => 140 | n => n, fun | 9 => 9 | 168 => 148 | 75 => 28 | 210 => 171 | 3 => 3 | 4 => 4 | 37 => 46 | 0 => 0 | 127 => 105 | 80 => 79 | 5 => 5 | n => n, fun | 16 => 5 | n => n⟩
open Go.RowKit in
open Go.RowKit in
open Go.RowKit in
open Go.RowKit in
open Go.RowKit in
open Go.RowKit in
open Go.RowKit in
open Go.RowKit in
open Go.RowKit in
open Go.RowKit in
open Go.RowKit in
open Go.RowKit in
open Go.RowKit in
open Go.RowKit in
open Go.RowKit in
open Go.RowKit in
open Go.RowKit in
open Go.RowKit in
open Go.RowKit in
open Go.RowKit in
open Go.RowKit in
def Tryz.laysC174_ren : Go.Shelf.Ren := ⟨fun | 174 => 80 | 247 => 96 | 245 => 97 | 287 => 116 | 279 => 117 | 280 => 118 | 281 => 119 | 282 => 120 | 321 => 138 | 322 => 139 | 316 => 140 | 171 => 90 | 205 => 141 | 243 => 111 | 246 => 89 | 283 => 107 | 284 => 108 | 285 => 109 | 286 => 110 | 129 => 131 | 317 => 133 | 318 => 134 | 319 => 135 | 320 => 136 | 337 => 147 | 338 => 148 | n => n, fun | 9 => 9 | 3 => 3 | 2 => 2 | 75 => 28 | 85 => 113 | 4 => 4 | 167 => 147 | 5 => 5 | 53 => 119 | 175 => 131 | 46 => 123 | 168 => 148 | 37 => 46 | 0 => 0 | 210 => 171 | 21 => 21 | 127 => 105 | 145 => 181 | 143 => 179 | 171 => 138 | 173 => 141 | 212 => 166 | 51 => 151 | 20 => 20 | 213 => 167 | 232 => 184 | 233 => 185 | 80 => 79 | n => n, fun | 15 => 4 | 16 => 5 | 17 => 3 | 18 => 6 | 19 => 7 | n => n⟩
theorem Tryz.laysC174 : Go.Proofs.LaysC.n174 Tryz.prog Tryz.laysC174_ren := {
  mixed := by kernel_rfl
  f129 := Tryz.func131.trans (congrArg some (by kernel_rfl))
  f171 := Tryz.func90.trans (congrArg some (by kernel_rfl))
  f174 := Tryz.func80.trans (congrArg some (by kernel_rfl))
  f205 := Tryz.func141.trans (congrArg some (by kernel_rfl))
  f243 := Tryz.func111.trans (congrArg some (by kernel_rfl))
  f245 := Tryz.func97.trans (congrArg some (by kernel_rfl))
  f246 := Tryz.func89.trans (congrArg some (by kernel_rfl))
  f247 := Tryz.func96.trans (congrArg some (by kernel_rfl))
  f279 := Tryz.func117.trans (congrArg some (by kernel_rfl))
  f280 := Tryz.func118.trans (congrArg some (by kernel_rfl))
  f281 := Tryz.func119.trans (congrArg some (by kernel_rfl))
  f282 := Tryz.func120.trans (congrArg some (by kernel_rfl))
  f283 := Tryz.func107.trans (congrArg some (by kernel_rfl))
  f284 := Tryz.func108.trans (congrArg some (by kernel_rfl))
  f285 := Tryz.func109.trans (congrArg some (by kernel_rfl))
  f286 := Tryz.func110.trans (congrArg some (by kernel_rfl))
  f287 := Tryz.func116.trans (congrArg some (by kernel_rfl))
  f316 := Tryz.func140.trans (congrArg some (by kernel_rfl))
  f317 := Tryz.func133.trans (congrArg some (by kernel_rfl))
  f318 := Tryz.func134.trans (congrArg some (by kernel_rfl))
  f319 := Tryz.func135.trans (congrArg some (by kernel_rfl))
  f320 := Tryz.func136.trans (congrArg some (by kernel_rfl))
  f321 := Tryz.func138.trans (congrArg some (by kernel_rfl))
  f322 := Tryz.func139.trans (congrArg some (by kernel_rfl))
  f337 := Tryz.func147.trans (congrArg some (by kernel_rfl))
  f338 := Tryz.func148.trans (congrArg some (by kernel_rfl))
  t0 := Tryz.underlying0
  a0 := Tryz.isAgg0
  z0 := Tryz.sizeOf0
  v0 := Tryz.zeroValue0
  t2 := Tryz.underlying2
  a2 := Tryz.isAgg2
  z2 := Tryz.sizeOf2
  v2 := Tryz.zeroValue2
  t3 := Tryz.underlying3
  a3 := Tryz.isAgg3
  z3 := Tryz.sizeOf3
  v3 := Tryz.zeroValue3
  t4 := Tryz.underlying4
  a4 := Tryz.isAgg4
  z4 := Tryz.sizeOf4
  v4 := Tryz.zeroValue4
  t5 := Tryz.underlying5
  a5 := Tryz.isAgg5
  z5 := Tryz.sizeOf5
  v5 := Tryz.zeroValue5
  t9 := Tryz.underlying9
  a9 := Tryz.isAgg9
  z9 := Tryz.sizeOf9
  v9 := Tryz.zeroValue9
  t20 := Tryz.underlying20
  a20 := Tryz.isAgg20
  z20 := Tryz.sizeOf20
  v20 := Tryz.zeroValue20
  t21 := Tryz.underlying21
  a21 := Tryz.isAgg21
  z21 := Tryz.sizeOf21
  v21 := Tryz.zeroValue21
  t37 := Tryz.underlying46
  a37 := Tryz.isAgg46
  z37 := Tryz.sizeOf46
  v37 := Tryz.zeroValue46
  t46 := Tryz.underlying123
  a46 := Tryz.isAgg123
  z46 := Tryz.sizeOf123
  v46 := Tryz.zeroValue123
  t51 := Tryz.underlying151
  a51 := Tryz.isAgg151
  z51 := Tryz.sizeOf151
  v51 := Tryz.zeroValue151
  t53 := Tryz.underlying119
  a53 := Tryz.isAgg119
  z53 := Tryz.sizeOf119
  v53 := Tryz.zeroValue119
  t75 := Tryz.underlying28
  a75 := Tryz.isAgg28
  z75 := Tryz.sizeOf28
  v75 := Tryz.zeroValue28
  t85 := Tryz.underlying113
  a85 := Tryz.isAgg113
  z85 := Tryz.sizeOf113
  v85 := Tryz.zeroValue113
  t127 := Tryz.underlying105
  a127 := Tryz.isAgg105
  z127 := Tryz.sizeOf105
  v127 := Tryz.zeroValue105
  t143 := Tryz.underlying179
  a143 := Tryz.isAgg179
  z143 := Tryz.sizeOf179
  v143 := Tryz.zeroValue179
  t145 := Tryz.underlying181
  a145 := Tryz.isAgg181
  z145 := Tryz.sizeOf181
  v145 := Tryz.zeroValue181
  t167 := Tryz.underlying147
  a167 := Tryz.isAgg147
  z167 := Tryz.sizeOf147
  v167 := Tryz.zeroValue147
  t168 := Tryz.underlying148
  a168 := Tryz.isAgg148
  z168 := Tryz.sizeOf148
  v168 := Tryz.zeroValue148
  t171 := Tryz.underlying138
  a171 := Tryz.isAgg138
  z171 := Tryz.sizeOf138
  v171 := Tryz.zeroValue138
  t173 := Tryz.underlying141
  a173 := Tryz.isAgg141
  z173 := Tryz.sizeOf141
  v173 := Tryz.zeroValue141
  t175 := Tryz.underlying131
  a175 := Tryz.isAgg131
  z175 := Tryz.sizeOf131
  v175 := Tryz.zeroValue131
  t210 := Tryz.underlying171
  a210 := Tryz.isAgg171
  z210 := Tryz.sizeOf171
  v210 := Tryz.zeroValue171
  t212 := Tryz.underlying166
  a212 := Tryz.isAgg166
  z212 := Tryz.sizeOf166
  v212 := Tryz.zeroValue166
  t213 := Tryz.underlying167
  a213 := Tryz.isAgg167
  z213 := Tryz.sizeOf167
  t232 := Tryz.underlying184
  a232 := Tryz.isAgg184
  z232 := Tryz.sizeOf184
  v232 := Tryz.zeroValue184
  t233 := Tryz.underlying185
  a233 := Tryz.isAgg185
  z233 := Tryz.sizeOf185
  v233 := Tryz.zeroValue185
  g15 := by kernel_rfl
  g16 := by kernel_rfl
  g17 := by kernel_rfl
  g18 := by kernel_rfl
  g19 := by kernel_rfl
  t80 := Tryz.underlying79
  a80 := Tryz.isAgg79
  z80 := Tryz.sizeOf79
  v80 := Tryz.zeroValue79
  i0 := by kernel_rfl
  i2 := by kernel_rfl
  i3 := by kernel_rfl
  i4 := by kernel_rfl
  i5 := by kernel_rfl
  i9 := by kernel_rfl
  i20 := by kernel_rfl
  i21 := by kernel_rfl
  i37 := by kernel_rfl
  i46 := by kernel_rfl
  i51 := by kernel_rfl
  i53 := by kernel_rfl
  i75 := by kernel_rfl
  i80 := by kernel_rfl
  i85 := by kernel_rfl
  i127 := by kernel_rfl
  i143 := by kernel_rfl
  i145 := by kernel_rfl
  i167 := by kernel_rfl
  i168 := by kernel_rfl
  i171 := by kernel_rfl
  i173 := by kernel_rfl
  i175 := by kernel_rfl
  i210 := by kernel_rfl
  i212 := by kernel_rfl
  i232 := by kernel_rfl
  i233 := by kernel_rfl
  m15 := by kernel_rfl
  m16 := by kernel_rfl
  m17 := by kernel_rfl
  m18 := by kernel_rfl
  m19 := by kernel_rfl
  c0 := by kernel_rfl
  c2 := by kernel_rfl
  c3 := by kernel_rfl
  c4 := by kernel_rfl
  c5 := by kernel_rfl
  c9 := by kernel_rfl
  c20 := by kernel_rfl
  c21 := by kernel_rfl
  c37 := by kernel_rfl
  c46 := by kernel_rfl
  c51 := by kernel_rfl
  c53 := by kernel_rfl
  c75 := by kernel_rfl
  c80 := by kernel_rfl
  c85 := by kernel_rfl
  c127 := by kernel_rfl
  c143 := by kernel_rfl
  c145 := by kernel_rfl
  c167 := by kernel_rfl
  c168 := by kernel_rfl
  c171 := by kernel_rfl
  c173 := by kernel_rfl
  c175 := by kernel_rfl
  c210 := by kernel_rfl
  c212 := by kernel_rfl
  c213 := by kernel_rfl
  c232 := by kernel_rfl
  c233 := by kernel_rfl }
open Go.RowKit in
open Go.RowKit in
open Go.RowKit in
open Go.RowKit in
theorem Tryz.strconv_ParseInt_10_at64_ok (s : ByteArray) (hmax : s.size ≤ 9223372036854775806) (v : Int) (h : Lib.parseIntB 64 s.data.toList = .ok v) (w : World) :
    Calls Tryz.prog 80 #[.string s, .int .i64 10, .int .i64 64] w fun e w' => e = .returned (.tuple #[.int .i64 v, .nilIface]) ∧ (w' = w ∨ ∃ t, w' = Lib.bytesWorld w 5 t) := Any.strconv_ParseInt_10_at64_ok Tryz.laysC174 s hmax v h w
open Go.RowKit in
open Go.RowKit in
theorem Tryz.strconv_ParseInt_10_at64_range (s : ByteArray) (hlim : s.size ≤ 281474976710656) (h : Lib.parseIntB 64 s.data.toList = .range) (ev : Value) (w : World) (hv : w.cell? ⟨5, 0, none⟩ = some ev) (hev : ev = .nilIface ∨ ∃ te pe, ev = .iface te pe) :
    Calls Tryz.prog 80 #[.string s, .int .i64 10, .int .i64 64] w fun e w' => ∃ N, e = .returned (.tuple #[.int .i64 (Lib.intSat 64 s.data.toList), .iface 148 (.pointer (some ⟨N, 0, none⟩))]) ∧ w.heap.size ≤ N ∧ w'.heap[N]? = some (.cells #[.string ⟨#[80, 97, 114, 115, 101, 73, 110, 116]⟩, .string s, ev] 171 (0, 0)) ∧ Below w.heap.size w w' := Any.strconv_ParseInt_10_at64_range Tryz.laysC174 s hlim h ev w hv hev
open Go.RowKit in
open Go.RowKit in
open Go.RowKit in
open Go.RowKit in
open Go.RowKit in
open Go.RowKit in
open Go.RowKit in
open Go.RowKit in
open Go.RowKit in
open Go.RowKit in
open Go.RowKit in
open Go.RowKit in
open Go.RowKit in
open Go.RowKit in
open Go.RowKit in
open Go.RowKit in
open Go.RowKit in
open Go.RowKit in
open Go.RowKit in
def Tryz.laysPu14_ren : Go.Shelf.Ren := ⟨fun | 14 => 100 | 16 => 116 | 17 => 97 | 19 => 138 | 20 => 139 | 21 => 117 | 22 => 118 | 23 => 119 | 24 => 120 | 25 => 140 | 27 => 90 | 26 => 141 | 28 => 111 | 29 => 89 | 30 => 107 | 31 => 108 | 32 => 109 | 33 => 110 | 35 => 131 | 34 => 133 | 36 => 134 | 37 => 135 | 38 => 136 | 39 => 147 | 40 => 148 | n => n, fun | 9 => 9 | 3 => 3 | 22 => 119 | 24 => 28 | 25 => 131 | 4 => 4 | 34 => 147 | 5 => 5 | 36 => 123 | 37 => 46 | 0 => 0 | 39 => 148 | 21 => 21 | 44 => 171 | 47 => 105 | 50 => 181 | 48 => 179 | 2 => 2 | 52 => 138 | 55 => 141 | 59 => 166 | 60 => 151 | 20 => 20 | 61 => 167 | 65 => 184 | 66 => 185 | 67 => 79 | n => n, fun | 0 => 4 | 1 => 5 | 2 => 3 | 3 => 6 | 4 => 7 | n => n⟩
open Go.RowKit in
open Go.RowKit in
open Go.RowKit in
open Go.RowKit in
open Go.RowKit in
open Go.RowKit in
open Go.RowKit in
open Go.RowKit in
open Go.RowKit in
open Go.RowKit in
open Go.RowKit in
open Go.RowKit in
open Go.RowKit in
open Go.RowKit in
open Go.RowKit in
open Go.RowKit in
open Go.RowKit in
open Go.RowKit in
open Go.RowKit in
open Go.RowKit in
open Go.RowKit in
open Go.RowKit in
open Go.RowKit in
open Go.RowKit in
open Go.RowKit in
def Tryz.lays217_ren : Go.Shelf.Ren := ⟨fun | 217 => 79 | 266 => 95 | n => n, fun | 9 => 9 | 5 => 5 | 3 => 3 | n => n, fun | n => n⟩
open Go.RowKit Go.Lib in
def Tryz.lays197_ren : Go.Shelf.Ren := ⟨fun | 197 => 83 | 260 => 102 | n => n, fun | 9 => 9 | 21 => 21 | 3 => 3 | 4 => 4 | 5 => 5 | 105 => 117 | 119 => 152 | 0 => 0 | 46 => 123 | 139 => 155 | 138 => 154 | n => n, fun | 3 => 1 | 4 => 2 | n => n⟩
theorem Tryz.lays197 : Go.Proofs.Lays.n197 Tryz.prog Tryz.lays197_ren := {
  mixed := by kernel_rfl
  f197 := Tryz.func83.trans (congrArg some (by kernel_rfl))
  f260 := Tryz.func102.trans (congrArg some (by kernel_rfl))
  t0 := Tryz.underlying0
  a0 := Tryz.isAgg0
  z0 := Tryz.sizeOf0
  v0 := Tryz.zeroValue0
  t3 := Tryz.underlying3
  a3 := Tryz.isAgg3
  z3 := Tryz.sizeOf3
  v3 := Tryz.zeroValue3
  t4 := Tryz.underlying4
  a4 := Tryz.isAgg4
  z4 := Tryz.sizeOf4
  v4 := Tryz.zeroValue4
  t5 := Tryz.underlying5
  a5 := Tryz.isAgg5
  z5 := Tryz.sizeOf5
  v5 := Tryz.zeroValue5
  t9 := Tryz.underlying9
  a9 := Tryz.isAgg9
  z9 := Tryz.sizeOf9
  v9 := Tryz.zeroValue9
  t21 := Tryz.underlying21
  a21 := Tryz.isAgg21
  z21 := Tryz.sizeOf21
  v21 := Tryz.zeroValue21
  t46 := Tryz.underlying123
  a46 := Tryz.isAgg123
  z46 := Tryz.sizeOf123
  v46 := Tryz.zeroValue123
  t105 := Tryz.underlying117
  a105 := Tryz.isAgg117
  z105 := Tryz.sizeOf117
  v105 := Tryz.zeroValue117
  t119 := Tryz.underlying152
  a119 := Tryz.isAgg152
  z119 := Tryz.sizeOf152
  t138 := Tryz.underlying154
  a138 := Tryz.isAgg154
  z138 := Tryz.sizeOf154
  v138 := Tryz.zeroValue154
  t139 := Tryz.underlying155
  a139 := Tryz.isAgg155
  z139 := Tryz.sizeOf155
  v139 := Tryz.zeroValue155
  g3 := by kernel_rfl
  g4 := by kernel_rfl }
open Go.RowKit Go.Lib in
def Tryz.lays260_ren : Go.Shelf.Ren := ⟨fun | 260 => 102 | n => n, fun | 9 => 9 | 21 => 21 | 3 => 3 | 4 => 4 | 5 => 5 | 119 => 152 | 0 => 0 | 46 => 123 | 139 => 155 | 138 => 154 | n => n, fun | 3 => 1 | 4 => 2 | n => n⟩
open Go.RowKit Go.Lib in
open Go.RowKit Go.Lib in
theorem Tryz.utf8_DecodeRuneInString (s : ByteArray) (w : World) (hT : Lib.Utf8Tabs 1 2 w) :
    Calls Tryz.prog 83 #[.string s] w fun e w' => e = .returned (.tuple #[.int .i32 (Lib.decodeGo s).1, .int .i64 (Lib.decodeGo s).2]) ∧ Below w.heap.size w w' := Any.utf8_DecodeRuneInString Tryz.lays197 s w hT
def Tryz.lays109_ren : Go.Shelf.Ren := ⟨fun | 109 => 53 | n => n, fun | 31 => 37 | 9 => 9 | 3 => 3 | 0 => 0 | 4 => 4 | n => n, fun | n => n⟩
open Go.Lib in
open Go.Lib in
def Tryz.lays110_ren : Go.Shelf.Ren := ⟨fun | 110 => 34 | 109 => 53 | n => n, fun | 31 => 37 | 9 => 9 | 4 => 4 | 3 => 3 | 0 => 0 | n => n, fun | n => n⟩
theorem Tryz.lays110 : Go.Proofs.Lays.n110 Tryz.prog Tryz.lays110_ren := {
  mixed := by kernel_rfl
  f109 := Tryz.func53.trans (congrArg some (by kernel_rfl))
  f110 := Tryz.func34.trans (congrArg some (by kernel_rfl))
  t0 := Tryz.underlying0
  a0 := Tryz.isAgg0
  z0 := Tryz.sizeOf0
  v0 := Tryz.zeroValue0
  t3 := Tryz.underlying3
  a3 := Tryz.isAgg3
  z3 := Tryz.sizeOf3
  v3 := Tryz.zeroValue3
  t4 := Tryz.underlying4
  a4 := Tryz.isAgg4
  z4 := Tryz.sizeOf4
  v4 := Tryz.zeroValue4
  t9 := Tryz.underlying9
  a9 := Tryz.isAgg9
  z9 := Tryz.sizeOf9
  v9 := Tryz.zeroValue9
  t31 := Tryz.underlying37
  a31 := Tryz.isAgg37
  z31 := Tryz.sizeOf37
  v31 := Tryz.zeroValue37 }
open Go.Lib in
theorem Tryz.slices_Contains_string (b off n c : Nat) (zs : List ByteArray) (x : ByteArray) (w : World) (hz : n ≤ zs.length) (hbig : n ≤ 9223372036854775807) (hc : ∀ j, j < zs.length → w.cell? ⟨b, off + j, none⟩ = some (.string (zs.getD j ByteArray.empty))) :
    Calls Tryz.prog 34 #[.slice (some ⟨b, off, none⟩) n c, .string x] w fun e w' => e = .returned (.bool (Lib.containsS (zs.take n) x)) ∧ w' = w := Any.slices_Contains_string Tryz.lays110 b off n c zs x w hz hbig hc
open Go.Lib in
theorem Tryz.slices_Contains_string_empty (a : Option Addr) (c : Nat) (x : ByteArray) (w : World) :
    Calls Tryz.prog 34 #[.slice a 0 c, .string x] w fun e w' => e = .returned (.bool false) ∧ w' = w := Any.slices_Contains_string_empty Tryz.lays110 a c x w
end Go.Proofs
