/- The library's contracts at this seat's translation, laid by the shelf's own two commands (no walk): each says what a library function returns. -/
import Derived.Shelf.Strings.Builder1
import Derived.Shelf.Strings.Trim
import Derived.Shelf.Small.Utf8
import Derived.Shelf.Small.Strs
import Derived.Shelf.Strings.BuilderF
import Derived.Shelf.Strings.BuilderK
import Derived.Shelf.Utf8.AppendRune
import Derived.Shelf.Utf8.AppendRunePlain
import Derived.Shelf.Strconv.Bsearch
import Derived.Ground.FneProg
import Derived.Shelf.Strconv.NumErrorText
import Derived.Shelf.Strconv.Atoi
import Derived.Shelf.Strconv.Itoa0
import Derived.Shelf.Strconv.Itoa1
import Derived.Shelf.LaysM
import Derived.Shelf.Strconv.Itoa2
import Derived.Shelf.Strconv.Itoa3
import Derived.Shelf.Strconv.AtoiErrFast
import Derived.Shelf.Strconv.ParseIntEmpty
import Derived.Shelf.Strconv.AtoiFail
import Derived.Shelf.Strconv.Clone
import Derived.Shelf.Strconv.SyntaxError
import Derived.Shelf.LaysC
import Derived.Shelf.Strconv.ToError
import Derived.Shelf.Strconv.AtoiErr
import Derived.Shelf.Strconv.ErrVar
import Derived.Shelf.Strconv.Lower
import Derived.Shelf.Strconv.ParseUint10
import Derived.Shelf.Strconv.ParseUint10Empty
import Derived.Shelf.Strconv.ParseUint10Any
import Derived.Shelf.Strconv.ParseInt10
import Derived.Shelf.Strconv.AtoiLong
import Derived.Shelf.Strconv.AtoiInnerAll
import Derived.Shelf.Strconv.RangeError
import Derived.Shelf.Strconv.ToErrorRange
import Derived.Shelf.Strconv.AtoiAll
import Derived.Shelf.Strconv.ErrVarAll
import Derived.Shelf.Strconv.ParseUintEmpty
import Derived.Shelf.Strconv.ParseUint10b64
import Derived.Shelf.Strconv.ParseUint10b32
import Derived.Shelf.Strconv.ParseUint10b16
import Derived.Shelf.Strconv.ParseUint10b8
import Derived.Shelf.Strconv.ParseUint10At
import Derived.Shelf.Strconv.ParseInt10At64
import Derived.Shelf.Strconv.ParseInt10At32
import Derived.Shelf.Strconv.ParseInt10At16
import Derived.Shelf.Strconv.ParseInt10At8
import Derived.Shelf.Strconv.ParseInt10All
import Derived.Ground.MpProg
import Derived.Shelf.Pu.ParseUintPublic10
import Derived.Shelf.Pu.ErrVarParseUint
import Derived.Shelf.Strings.Search1
import Derived.Shelf.Unicode.Decode
import Derived.Shelf.Strings.Runes
import Derived.Shelf.Strings.AsciiSet
import Derived.Shelf.Unicode.DecodeSlow
import Derived.Shelf.Unicode.DecodeAny
import Derived.Shelf.Unicode.DecodeLast
import Derived.Shelf.Strings.BuilderCap
import Derived.Test.YtbehakabglegjaaGreatDoorProg
namespace Go.Proofs
open Go.Shelf
def Tryz.lays169_ren : Go.Shelf.Ren := ⟨fun | 169 => 49 | n => n, fun | 70 => 94 | 9 => 9 | 0 => 0 | 72 => 96 | 37 => 23 | 127 => 122 | 3 => 3 | 5 => 5 | n => n, fun | n => n⟩
theorem Tryz.lays169 : Go.Proofs.Lays.n169 Tryz.prog Tryz.lays169_ren := {
  mixed := by kernel_rfl
  f169 := Tryz.func49.trans (congrArg some (by kernel_rfl))
  t0 := Tryz.underlying0
  a0 := Tryz.isAgg0
  z0 := Tryz.sizeOf0
  v0 := Tryz.zeroValue0
  t3 := Tryz.underlying3
  a3 := Tryz.isAgg3
  z3 := Tryz.sizeOf3
  v3 := Tryz.zeroValue3
  t9 := Tryz.underlying9
  a9 := Tryz.isAgg9
  z9 := Tryz.sizeOf9
  v9 := Tryz.zeroValue9
  t37 := Tryz.underlying23
  a37 := Tryz.isAgg23
  z37 := Tryz.sizeOf23
  v37 := Tryz.zeroValue23
  t70 := Tryz.underlying94
  a70 := Tryz.isAgg94
  z70 := Tryz.sizeOf94
  v70 := Tryz.zeroValue94
  t72 := Tryz.underlying96
  a72 := Tryz.isAgg96
  z72 := Tryz.sizeOf96
  v72 := Tryz.zeroValue96
  t127 := Tryz.underlying122
  a127 := Tryz.isAgg122
  z127 := Tryz.sizeOf122
  v127 := Tryz.zeroValue122 }
theorem Tryz.Builder_Extra_169 : Builder.Extra Tryz.prog Tryz.lays169_ren := {
  sizeBuilder := by kernel_rfl
  liesBuilder := by kernel_rfl
  t5 := Tryz.underlying5
  a5 := Tryz.isAgg5
  z5 := Tryz.sizeOf5
  v5 := Tryz.zeroValue5
  infoByte := by kernel_rfl
  cellsByte := by kernel_rfl
  sizeByte := by kernel_rfl
  neB5 := by decide }
def Tryz.lays231_ren : Go.Shelf.Ren := ⟨fun | 231 => 59 | n => n, fun | 9 => 9 | 5 => 5 | 3 => 3 | 4 => 4 | n => n, fun | n => n⟩
def Tryz.lays232_ren : Go.Shelf.Ren := ⟨fun | 232 => 60 | n => n, fun | 9 => 9 | 5 => 5 | 3 => 3 | 4 => 4 | n => n, fun | n => n⟩
def Tryz.lays160_ren : Go.Shelf.Ren := ⟨fun | 160 => 35 | 232 => 60 | 231 => 59 | 227 => 61 | 234 => 63 | 233 => 62 | 236 => 65 | 235 => 64 | 228 => 94 | 271 => 97 | 151 => 96 | 197 => 95 | 120 => 118 | 152 => 117 | 260 => 116 | 137 => 58 | 119 => 129 | 224 => 130 | 225 => 131 | 217 => 93 | 266 => 115 | n => n, fun | 9 => 9 | 4 => 4 | 3 => 3 | 5 => 5 | 117 => 110 | 116 => 109 | 0 => 0 | 124 => 113 | 21 => 21 | 105 => 134 | 46 => 119 | 119 => 179 | 139 => 182 | 138 => 181 | n => n, fun | 3 => 2 | 4 => 3 | n => n⟩
theorem Tryz.lays160 : Go.Proofs.Lays.n160 Tryz.prog Tryz.lays160_ren := {
  mixed := by kernel_rfl
  f119 := Tryz.func129.trans (congrArg some (by kernel_rfl))
  f120 := Tryz.func118.trans (congrArg some (by kernel_rfl))
  f137 := Tryz.func58.trans (congrArg some (by kernel_rfl))
  f151 := Tryz.func96.trans (congrArg some (by kernel_rfl))
  f152 := Tryz.func117.trans (congrArg some (by kernel_rfl))
  f160 := Tryz.func35.trans (congrArg some (by kernel_rfl))
  f197 := Tryz.func95.trans (congrArg some (by kernel_rfl))
  f217 := Tryz.func93.trans (congrArg some (by kernel_rfl))
  f224 := Tryz.func130.trans (congrArg some (by kernel_rfl))
  f225 := Tryz.func131.trans (congrArg some (by kernel_rfl))
  f227 := Tryz.func61.trans (congrArg some (by kernel_rfl))
  f228 := Tryz.func94.trans (congrArg some (by kernel_rfl))
  f231 := Tryz.func59.trans (congrArg some (by kernel_rfl))
  f232 := Tryz.func60.trans (congrArg some (by kernel_rfl))
  f233 := Tryz.func62.trans (congrArg some (by kernel_rfl))
  f234 := Tryz.func63.trans (congrArg some (by kernel_rfl))
  f235 := Tryz.func64.trans (congrArg some (by kernel_rfl))
  f236 := Tryz.func65.trans (congrArg some (by kernel_rfl))
  f260 := Tryz.func116.trans (congrArg some (by kernel_rfl))
  f266 := Tryz.func115.trans (congrArg some (by kernel_rfl))
  f271 := Tryz.func97.trans (congrArg some (by kernel_rfl))
  t0 := Tryz.underlying0
  a0 := Tryz.isAgg0
  z0 := Tryz.sizeOf0
  v0 := Tryz.zeroValue0
  t3 := Tryz.underlying3
  a3 := Tryz.isAgg3
  z3 := Tryz.sizeOf3
  v3 := Tryz.zeroValue3
  t4 := Tryz.underlying4
  a4 := Tryz.isAgg4
  z4 := Tryz.sizeOf4
  v4 := Tryz.zeroValue4
  t5 := Tryz.underlying5
  a5 := Tryz.isAgg5
  z5 := Tryz.sizeOf5
  v5 := Tryz.zeroValue5
  t9 := Tryz.underlying9
  a9 := Tryz.isAgg9
  z9 := Tryz.sizeOf9
  v9 := Tryz.zeroValue9
  t21 := Tryz.underlying21
  a21 := Tryz.isAgg21
  z21 := Tryz.sizeOf21
  v21 := Tryz.zeroValue21
  t46 := Tryz.underlying119
  a46 := Tryz.isAgg119
  z46 := Tryz.sizeOf119
  v46 := Tryz.zeroValue119
  t105 := Tryz.underlying134
  a105 := Tryz.isAgg134
  z105 := Tryz.sizeOf134
  v105 := Tryz.zeroValue134
  t116 := Tryz.underlying109
  a116 := Tryz.isAgg109
  z116 := Tryz.sizeOf109
  t117 := Tryz.underlying110
  a117 := Tryz.isAgg110
  z117 := Tryz.sizeOf110
  v117 := Tryz.zeroValue110
  t119 := Tryz.underlying179
  a119 := Tryz.isAgg179
  z119 := Tryz.sizeOf179
  t124 := Tryz.underlying113
  a124 := Tryz.isAgg113
  z124 := Tryz.sizeOf113
  v124 := Tryz.zeroValue113
  t138 := Tryz.underlying181
  a138 := Tryz.isAgg181
  z138 := Tryz.sizeOf181
  v138 := Tryz.zeroValue181
  t139 := Tryz.underlying182
  a139 := Tryz.isAgg182
  z139 := Tryz.sizeOf182
  v139 := Tryz.zeroValue182
  g3 := by kernel_rfl
  g4 := by kernel_rfl }
def Tryz.lays119_ren : Go.Shelf.Ren := ⟨fun | 119 => 129 | n => n, fun | 21 => 21 | 4 => 4 | n => n, fun | n => n⟩
def Tryz.lays120_ren : Go.Shelf.Ren := ⟨fun | 120 => 118 | n => n, fun | 5 => 5 | 4 => 4 | n => n, fun | n => n⟩
def Tryz.lays137_ren : Go.Shelf.Ren := ⟨fun | 137 => 58 | 217 => 93 | 266 => 115 | n => n, fun | 9 => 9 | 5 => 5 | 3 => 3 | n => n, fun | n => n⟩
theorem Tryz.lays137 : Go.Proofs.Lays.n137 Tryz.prog Tryz.lays137_ren := {
  mixed := by kernel_rfl
  f137 := Tryz.func58.trans (congrArg some (by kernel_rfl))
  f217 := Tryz.func93.trans (congrArg some (by kernel_rfl))
  f266 := Tryz.func115.trans (congrArg some (by kernel_rfl))
  t3 := Tryz.underlying3
  a3 := Tryz.isAgg3
  z3 := Tryz.sizeOf3
  v3 := Tryz.zeroValue3
  t5 := Tryz.underlying5
  a5 := Tryz.isAgg5
  z5 := Tryz.sizeOf5
  v5 := Tryz.zeroValue5
  t9 := Tryz.underlying9
  a9 := Tryz.isAgg9
  z9 := Tryz.sizeOf9
  v9 := Tryz.zeroValue9 }
open Go.RowKit in
theorem Tryz.strings_IndexByte (s : ByteArray) (c : Int) (w : World) :
    Calls Tryz.prog 58 #[.string s, .int .u8 c] w fun e w' => e = .returned (.int .i64 (Lib.indexByte s.data.toList c.toNat.toUInt8)) ∧ w' = w := Any.strings_IndexByte Tryz.lays137 s c w
open Go.RowKit in
theorem Tryz.Builder_String_any_k (B b : Nat) (l : List UInt8) (w : World) (h : Lib.IsBuilderF 96 5 B b (Lib.byteCells l) w) (hBw : B ≤ w.heap.size) :
    Calls Tryz.prog 49 #[.pointer (some ⟨b, 0, none⟩)] w fun e w' => e = .returned (.string ⟨l.toArray⟩) ∧ (Lib.IsBuilderF 96 5 B b (Lib.byteCells l) w' ∧ Below B w w' ∧ Lib.OthersKept 5 (some b) w w') := Any.Builder_String_any_k Tryz.lays169 Tryz.Builder_Extra_169 B b l w h hBw
def Tryz.lays278_ren : Go.Shelf.Ren := ⟨fun | 278 => 207 | n => n, fun | 37 => 23 | 21 => 21 | 51 => 188 | 4 => 4 | 46 => 119 | 5 => 5 | n => n, fun | n => n⟩
def Tryz.lays242_ren : Go.Shelf.Ren := ⟨fun | 242 => 204 | 278 => 207 | n => n, fun | 37 => 23 | 21 => 21 | 51 => 188 | 4 => 4 | 5 => 5 | 46 => 119 | n => n, fun | n => n⟩
def Tryz.lays345_ren : Go.Shelf.Ren := ⟨fun | 345 => 205 | n => n, fun | 234 => 233 | 49 => 232 | 3 => 3 | 4 => 4 | 46 => 119 | 0 => 0 | n => n, fun | n => n⟩
def Tryz.lays346_ren : Go.Shelf.Ren := ⟨fun | 346 => 206 | n => n, fun | 236 => 236 | 51 => 188 | 3 => 3 | 4 => 4 | 46 => 119 | 0 => 0 | n => n, fun | n => n⟩
def Tryz.laysFn4_ren : Go.Shelf.Ren := ⟨fun | 4 => 196 | 5 => 198 | 6 => 199 | 7 => 200 | 8 => 95 | 9 => 201 | 10 => 116 | 11 => 202 | 12 => 203 | 13 => 204 | 14 => 129 | 15 => 205 | 16 => 206 | 17 => 207 | n => n, fun | 22 => 198 | 9 => 9 | 0 => 0 | 28 => 204 | 26 => 28 | 5 => 5 | 4 => 4 | 3 => 3 | 31 => 23 | 21 => 21 | 33 => 134 | 35 => 119 | 39 => 179 | 42 => 182 | 41 => 181 | 43 => 232 | 44 => 233 | 45 => 234 | 47 => 188 | 48 => 236 | 23 => 43 | n => n, fun | 0 => 2 | 1 => 3 | 2 => 9 | 3 => 10 | 4 => 11 | 5 => 12 | 6 => 13 | n => n⟩
def Tryz.lays244_ren : Go.Shelf.Ren := ⟨fun | 244 => 137 | 247 => 146 | 287 => 151 | 321 => 155 | 322 => 156 | n => n, fun | 9 => 9 | 3 => 3 | 75 => 28 | 4 => 4 | 5 => 5 | 167 => 195 | 37 => 23 | 0 => 0 | 85 => 196 | 2 => 2 | 53 => 157 | 175 => 192 | 46 => 119 | 21 => 21 | 80 => 43 | n => n, fun | n => n⟩
def Tryz.lays172_ren : Go.Shelf.Ren := ⟨fun | 172 => 123 | 244 => 137 | 245 => 138 | 247 => 146 | 279 => 147 | 280 => 148 | 281 => 149 | 282 => 150 | 287 => 151 | 316 => 153 | 171 => 37 | 205 => 154 | 321 => 155 | 322 => 156 | 243 => 67 | 246 => 98 | 283 => 119 | 284 => 120 | 285 => 121 | 286 => 122 | 129 => 133 | 317 => 132 | 318 => 134 | 319 => 135 | 320 => 136 | 337 => 144 | 338 => 145 | n => n, fun | 9 => 9 | 3 => 3 | 75 => 28 | 76 => 120 | 4 => 4 | 5 => 5 | 167 => 195 | 37 => 23 | 0 => 0 | 85 => 196 | 2 => 2 | 168 => 198 | 53 => 157 | 175 => 192 | 46 => 119 | 210 => 204 | 127 => 122 | 145 => 210 | 143 => 208 | 21 => 21 | 171 => 156 | 173 => 160 | 212 => 187 | 51 => 188 | 20 => 20 | 213 => 189 | 232 => 201 | 233 => 202 | 80 => 43 | n => n, fun | 15 => 7 | 16 => 8 | 17 => 4 | 18 => 5 | 19 => 6 | n => n⟩
theorem Tryz.lays172 : Go.Proofs.Lays.n172 Tryz.prog Tryz.lays172_ren := {
  mixed := by kernel_rfl
  f129 := Tryz.func133.trans (congrArg some (by kernel_rfl))
  f171 := Tryz.func37.trans (congrArg some (by kernel_rfl))
  f172 := Tryz.func123.trans (congrArg some (by kernel_rfl))
  f205 := Tryz.func154.trans (congrArg some (by kernel_rfl))
  f243 := Tryz.func67.trans (congrArg some (by kernel_rfl))
  f244 := Tryz.func137.trans (congrArg some (by kernel_rfl))
  f245 := Tryz.func138.trans (congrArg some (by kernel_rfl))
  f246 := Tryz.func98.trans (congrArg some (by kernel_rfl))
  f247 := Tryz.func146.trans (congrArg some (by kernel_rfl))
  f279 := Tryz.func147.trans (congrArg some (by kernel_rfl))
  f280 := Tryz.func148.trans (congrArg some (by kernel_rfl))
  f281 := Tryz.func149.trans (congrArg some (by kernel_rfl))
  f282 := Tryz.func150.trans (congrArg some (by kernel_rfl))
  f283 := Tryz.func119.trans (congrArg some (by kernel_rfl))
  f284 := Tryz.func120.trans (congrArg some (by kernel_rfl))
  f285 := Tryz.func121.trans (congrArg some (by kernel_rfl))
  f286 := Tryz.func122.trans (congrArg some (by kernel_rfl))
  f287 := Tryz.func151.trans (congrArg some (by kernel_rfl))
  f316 := Tryz.func153.trans (congrArg some (by kernel_rfl))
  f317 := Tryz.func132.trans (congrArg some (by kernel_rfl))
  f318 := Tryz.func134.trans (congrArg some (by kernel_rfl))
  f319 := Tryz.func135.trans (congrArg some (by kernel_rfl))
  f320 := Tryz.func136.trans (congrArg some (by kernel_rfl))
  f321 := Tryz.func155.trans (congrArg some (by kernel_rfl))
  f322 := Tryz.func156.trans (congrArg some (by kernel_rfl))
  f337 := Tryz.func144.trans (congrArg some (by kernel_rfl))
  f338 := Tryz.func145.trans (congrArg some (by kernel_rfl))
  t0 := Tryz.underlying0
  a0 := Tryz.isAgg0
  z0 := Tryz.sizeOf0
  v0 := Tryz.zeroValue0
  t2 := Tryz.underlying2
  a2 := Tryz.isAgg2
  z2 := Tryz.sizeOf2
  v2 := Tryz.zeroValue2
  t3 := Tryz.underlying3
  a3 := Tryz.isAgg3
  z3 := Tryz.sizeOf3
  v3 := Tryz.zeroValue3
  t4 := Tryz.underlying4
  a4 := Tryz.isAgg4
  z4 := Tryz.sizeOf4
  v4 := Tryz.zeroValue4
  t5 := Tryz.underlying5
  a5 := Tryz.isAgg5
  z5 := Tryz.sizeOf5
  v5 := Tryz.zeroValue5
  t9 := Tryz.underlying9
  a9 := Tryz.isAgg9
  z9 := Tryz.sizeOf9
  v9 := Tryz.zeroValue9
  t20 := Tryz.underlying20
  a20 := Tryz.isAgg20
  z20 := Tryz.sizeOf20
  v20 := Tryz.zeroValue20
  t21 := Tryz.underlying21
  a21 := Tryz.isAgg21
  z21 := Tryz.sizeOf21
  v21 := Tryz.zeroValue21
  t37 := Tryz.underlying23
  a37 := Tryz.isAgg23
  z37 := Tryz.sizeOf23
  v37 := Tryz.zeroValue23
  t46 := Tryz.underlying119
  a46 := Tryz.isAgg119
  z46 := Tryz.sizeOf119
  v46 := Tryz.zeroValue119
  t51 := Tryz.underlying188
  a51 := Tryz.isAgg188
  z51 := Tryz.sizeOf188
  v51 := Tryz.zeroValue188
  t53 := Tryz.underlying157
  a53 := Tryz.isAgg157
  z53 := Tryz.sizeOf157
  v53 := Tryz.zeroValue157
  t75 := Tryz.underlying28
  a75 := Tryz.isAgg28
  z75 := Tryz.sizeOf28
  v75 := Tryz.zeroValue28
  t76 := Tryz.underlying120
  a76 := Tryz.isAgg120
  z76 := Tryz.sizeOf120
  v76 := Tryz.zeroValue120
  t85 := Tryz.underlying196
  a85 := Tryz.isAgg196
  z85 := Tryz.sizeOf196
  v85 := Tryz.zeroValue196
  t127 := Tryz.underlying122
  a127 := Tryz.isAgg122
  z127 := Tryz.sizeOf122
  v127 := Tryz.zeroValue122
  t143 := Tryz.underlying208
  a143 := Tryz.isAgg208
  z143 := Tryz.sizeOf208
  v143 := Tryz.zeroValue208
  t145 := Tryz.underlying210
  a145 := Tryz.isAgg210
  z145 := Tryz.sizeOf210
  v145 := Tryz.zeroValue210
  t167 := Tryz.underlying195
  a167 := Tryz.isAgg195
  z167 := Tryz.sizeOf195
  v167 := Tryz.zeroValue195
  t168 := Tryz.underlying198
  a168 := Tryz.isAgg198
  z168 := Tryz.sizeOf198
  v168 := Tryz.zeroValue198
  t171 := Tryz.underlying156
  a171 := Tryz.isAgg156
  z171 := Tryz.sizeOf156
  v171 := Tryz.zeroValue156
  t173 := Tryz.underlying160
  a173 := Tryz.isAgg160
  z173 := Tryz.sizeOf160
  v173 := Tryz.zeroValue160
  t175 := Tryz.underlying192
  a175 := Tryz.isAgg192
  z175 := Tryz.sizeOf192
  v175 := Tryz.zeroValue192
  t210 := Tryz.underlying204
  a210 := Tryz.isAgg204
  z210 := Tryz.sizeOf204
  v210 := Tryz.zeroValue204
  t212 := Tryz.underlying187
  a212 := Tryz.isAgg187
  z212 := Tryz.sizeOf187
  v212 := Tryz.zeroValue187
  t213 := Tryz.underlying189
  a213 := Tryz.isAgg189
  z213 := Tryz.sizeOf189
  t232 := Tryz.underlying201
  a232 := Tryz.isAgg201
  z232 := Tryz.sizeOf201
  v232 := Tryz.zeroValue201
  t233 := Tryz.underlying202
  a233 := Tryz.isAgg202
  z233 := Tryz.sizeOf202
  v233 := Tryz.zeroValue202
  g15 := by kernel_rfl
  g16 := by kernel_rfl
  g17 := by kernel_rfl
  g18 := by kernel_rfl
  g19 := by kernel_rfl }
open Go.RowKit in
theorem Tryz.strconv_Atoi (s : ByteArray) (n : Int) (hl : s.size ≤ 18) (h : Lib.atoi s.data.toList = some n) (w : World) :
    Calls Tryz.prog 123 #[.string s] w fun e w' => e = .returned (.tuple #[.int .i64 n, .nilIface]) ∧ ∃ t, w' = Lib.bytesWorld w 5 t := Any.strconv_Atoi Tryz.lays172 s n hl h w
def Tryz.lays129_ren : Go.Shelf.Ren := ⟨fun | 129 => 133 | n => n, fun | 53 => 157 | 3 => 3 | 4 => 4 | 46 => 119 | 5 => 5 | 9 => 9 | n => n, fun | n => n⟩
def Tryz.lays317_ren : Go.Shelf.Ren := ⟨fun | 317 => 132 | n => n, fun | 3 => 3 | 46 => 119 | n => n, fun | n => n⟩
def Tryz.lays318_ren : Go.Shelf.Ren := ⟨fun | 318 => 134 | n => n, fun | 3 => 3 | 4 => 4 | n => n, fun | n => n⟩
def Tryz.lays283_ren : Go.Shelf.Ren := ⟨fun | 283 => 119 | n => n, fun | 3 => 3 | 9 => 9 | 4 => 4 | n => n, fun | n => n⟩
def Tryz.laysM284_ren : Go.Shelf.Ren := ⟨fun | 284 => 120 | 129 => 133 | 317 => 132 | 318 => 134 | n => n, fun | 53 => 157 | 3 => 3 | 212 => 187 | 0 => 0 | 4 => 4 | 46 => 119 | 5 => 5 | 9 => 9 | n => n, fun | 17 => 4 | n => n⟩
def Tryz.lays285_ren : Go.Shelf.Ren := ⟨fun | 285 => 121 | n => n, fun | 37 => 23 | 53 => 157 | 3 => 3 | 4 => 4 | 51 => 188 | 9 => 9 | 5 => 5 | 0 => 0 | n => n, fun | n => n⟩
def Tryz.laysM246_ren : Go.Shelf.Ren := ⟨fun | 246 => 98 | 283 => 119 | 284 => 120 | 285 => 121 | 286 => 122 | 129 => 133 | 317 => 132 | 318 => 134 | 319 => 135 | 320 => 136 | 337 => 144 | 338 => 145 | n => n, fun | 2 => 2 | 3 => 3 | 9 => 9 | 4 => 4 | 171 => 156 | 0 => 0 | 53 => 157 | 37 => 23 | 5 => 5 | 173 => 160 | 212 => 187 | 51 => 188 | 20 => 20 | 213 => 189 | 46 => 119 | 232 => 201 | 233 => 202 | n => n, fun | 17 => 4 | 18 => 5 | 19 => 6 | n => n⟩
def Tryz.lays246_ren : Go.Shelf.Ren := ⟨fun | 246 => 98 | 283 => 119 | 284 => 120 | 285 => 121 | 286 => 122 | 129 => 133 | 317 => 132 | 318 => 134 | 319 => 135 | 320 => 136 | 337 => 144 | 338 => 145 | n => n, fun | 2 => 2 | 3 => 3 | 9 => 9 | 4 => 4 | 171 => 156 | 0 => 0 | 53 => 157 | 37 => 23 | 5 => 5 | 173 => 160 | 212 => 187 | 51 => 188 | 20 => 20 | 213 => 189 | 46 => 119 | 232 => 201 | 233 => 202 | n => n, fun | 17 => 4 | 18 => 5 | 19 => 6 | n => n⟩
def Tryz.laysM243_ren : Go.Shelf.Ren := ⟨fun | 243 => 67 | 246 => 98 | 283 => 119 | 284 => 120 | 285 => 121 | 286 => 122 | 129 => 133 | 317 => 132 | 318 => 134 | 319 => 135 | 320 => 136 | 337 => 144 | 338 => 145 | n => n, fun | 3 => 3 | 9 => 9 | 2 => 2 | 4 => 4 | 171 => 156 | 0 => 0 | 53 => 157 | 37 => 23 | 5 => 5 | 173 => 160 | 212 => 187 | 51 => 188 | 20 => 20 | 213 => 189 | 46 => 119 | 232 => 201 | 233 => 202 | n => n, fun | 17 => 4 | 18 => 5 | 19 => 6 | n => n⟩
def Tryz.lays243_ren : Go.Shelf.Ren := ⟨fun | 243 => 67 | 246 => 98 | 283 => 119 | 284 => 120 | 285 => 121 | 286 => 122 | 129 => 133 | 317 => 132 | 318 => 134 | 319 => 135 | 320 => 136 | 337 => 144 | 338 => 145 | n => n, fun | 3 => 3 | 9 => 9 | 2 => 2 | 4 => 4 | 171 => 156 | 0 => 0 | 53 => 157 | 37 => 23 | 5 => 5 | 173 => 160 | 212 => 187 | 51 => 188 | 20 => 20 | 213 => 189 | 46 => 119 | 232 => 201 | 233 => 202 | n => n, fun | 17 => 4 | 18 => 5 | 19 => 6 | n => n⟩
def Tryz.laysM171_ren : Go.Shelf.Ren := ⟨fun | 171 => 37 | 243 => 67 | 246 => 98 | 283 => 119 | 284 => 120 | 285 => 121 | 286 => 122 | 129 => 133 | 317 => 132 | 318 => 134 | 319 => 135 | 320 => 136 | 337 => 144 | 338 => 145 | n => n, fun | 3 => 3 | 9 => 9 | 2 => 2 | 4 => 4 | 171 => 156 | 0 => 0 | 53 => 157 | 37 => 23 | 5 => 5 | 173 => 160 | 212 => 187 | 51 => 188 | 20 => 20 | 213 => 189 | 46 => 119 | 232 => 201 | 233 => 202 | n => n, fun | 17 => 4 | 18 => 5 | 19 => 6 | n => n⟩
theorem Tryz.laysM171 : Go.Proofs.LaysM.n171 Tryz.prog Tryz.laysM171_ren := {
  mixed := by kernel_rfl
  f129 := Tryz.func133.trans (congrArg some (by kernel_rfl))
  f171 := Tryz.func37.trans (congrArg some (by kernel_rfl))
  f243 := Tryz.func67.trans (congrArg some (by kernel_rfl))
  f246 := Tryz.func98.trans (congrArg some (by kernel_rfl))
  f283 := Tryz.func119.trans (congrArg some (by kernel_rfl))
  f284 := Tryz.func120.trans (congrArg some (by kernel_rfl))
  f285 := Tryz.func121.trans (congrArg some (by kernel_rfl))
  f286 := Tryz.func122.trans (congrArg some (by kernel_rfl))
  f317 := Tryz.func132.trans (congrArg some (by kernel_rfl))
  f318 := Tryz.func134.trans (congrArg some (by kernel_rfl))
  f319 := Tryz.func135.trans (congrArg some (by kernel_rfl))
  f320 := Tryz.func136.trans (congrArg some (by kernel_rfl))
  f337 := Tryz.func144.trans (congrArg some (by kernel_rfl))
  f338 := Tryz.func145.trans (congrArg some (by kernel_rfl))
  t0 := Tryz.underlying0
  a0 := Tryz.isAgg0
  z0 := Tryz.sizeOf0
  v0 := Tryz.zeroValue0
  t2 := Tryz.underlying2
  a2 := Tryz.isAgg2
  z2 := Tryz.sizeOf2
  v2 := Tryz.zeroValue2
  t3 := Tryz.underlying3
  a3 := Tryz.isAgg3
  z3 := Tryz.sizeOf3
  v3 := Tryz.zeroValue3
  t4 := Tryz.underlying4
  a4 := Tryz.isAgg4
  z4 := Tryz.sizeOf4
  v4 := Tryz.zeroValue4
  t5 := Tryz.underlying5
  a5 := Tryz.isAgg5
  z5 := Tryz.sizeOf5
  v5 := Tryz.zeroValue5
  t9 := Tryz.underlying9
  a9 := Tryz.isAgg9
  z9 := Tryz.sizeOf9
  v9 := Tryz.zeroValue9
  t20 := Tryz.underlying20
  a20 := Tryz.isAgg20
  z20 := Tryz.sizeOf20
  v20 := Tryz.zeroValue20
  t37 := Tryz.underlying23
  a37 := Tryz.isAgg23
  z37 := Tryz.sizeOf23
  v37 := Tryz.zeroValue23
  t46 := Tryz.underlying119
  a46 := Tryz.isAgg119
  z46 := Tryz.sizeOf119
  v46 := Tryz.zeroValue119
  t51 := Tryz.underlying188
  a51 := Tryz.isAgg188
  z51 := Tryz.sizeOf188
  v51 := Tryz.zeroValue188
  t53 := Tryz.underlying157
  a53 := Tryz.isAgg157
  z53 := Tryz.sizeOf157
  v53 := Tryz.zeroValue157
  t171 := Tryz.underlying156
  a171 := Tryz.isAgg156
  z171 := Tryz.sizeOf156
  v171 := Tryz.zeroValue156
  t173 := Tryz.underlying160
  a173 := Tryz.isAgg160
  z173 := Tryz.sizeOf160
  v173 := Tryz.zeroValue160
  t212 := Tryz.underlying187
  a212 := Tryz.isAgg187
  z212 := Tryz.sizeOf187
  v212 := Tryz.zeroValue187
  t213 := Tryz.underlying189
  a213 := Tryz.isAgg189
  z213 := Tryz.sizeOf189
  t232 := Tryz.underlying201
  a232 := Tryz.isAgg201
  z232 := Tryz.sizeOf201
  v232 := Tryz.zeroValue201
  t233 := Tryz.underlying202
  a233 := Tryz.isAgg202
  z233 := Tryz.sizeOf202
  v233 := Tryz.zeroValue202
  g17 := by kernel_rfl
  g18 := by kernel_rfl
  g19 := by kernel_rfl
  i0 := by kernel_rfl
  i2 := by kernel_rfl
  i3 := by kernel_rfl
  i4 := by kernel_rfl
  i5 := by kernel_rfl
  i9 := by kernel_rfl
  i20 := by kernel_rfl
  i37 := by kernel_rfl
  i46 := by kernel_rfl
  i51 := by kernel_rfl
  i53 := by kernel_rfl
  i171 := by kernel_rfl
  i173 := by kernel_rfl
  i212 := by kernel_rfl
  i232 := by kernel_rfl
  i233 := by kernel_rfl
  m17 := by kernel_rfl
  m18 := by kernel_rfl
  m19 := by kernel_rfl }
open Go.RowKit Go.Sort Go.Lib in
theorem Tryz.strconv_Itoa (n : Int) (h0 : -9223372036854775808 ≤ n) (h1 : n ≤ 9223372036854775807) (w : World) (htab : Lib.TabIs Tryz.prog w "internal/strconv.uint64pow10" .u64 Lib.pow10Tab) :
    Calls Tryz.prog 37 #[.int .i64 n] w fun e w' => e = .returned (.string ⟨(Lib.itoa n).toArray⟩) ∧ ∃ k os, w' = grow (w.drewN k) os := Any.strconv_Itoa Tryz.laysM171 n h0 h1 w htab
def Tryz.lays171_ren : Go.Shelf.Ren := ⟨fun | 171 => 37 | 243 => 67 | 246 => 98 | 283 => 119 | 284 => 120 | 285 => 121 | 286 => 122 | 129 => 133 | 317 => 132 | 318 => 134 | 319 => 135 | 320 => 136 | 337 => 144 | 338 => 145 | n => n, fun | 3 => 3 | 9 => 9 | 2 => 2 | 4 => 4 | 171 => 156 | 0 => 0 | 53 => 157 | 37 => 23 | 5 => 5 | 173 => 160 | 212 => 187 | 51 => 188 | 20 => 20 | 213 => 189 | 46 => 119 | 232 => 201 | 233 => 202 | n => n, fun | 17 => 4 | 18 => 5 | 19 => 6 | n => n⟩
def Tryz.lays247_ren : Go.Shelf.Ren := ⟨fun | 247 => 146 | 287 => 151 | 321 => 155 | 322 => 156 | n => n, fun | 9 => 9 | 3 => 3 | 2 => 2 | 75 => 28 | 4 => 4 | 167 => 195 | 5 => 5 | 53 => 157 | 175 => 192 | 46 => 119 | 37 => 23 | 0 => 0 | 21 => 21 | 80 => 43 | n => n, fun | n => n⟩
def Tryz.laysM316_ren : Go.Shelf.Ren := ⟨fun | 316 => 153 | n => n, fun | 9 => 9 | 3 => 3 | 4 => 4 | 37 => 23 | 0 => 0 | 127 => 122 | 5 => 5 | n => n, fun | n => n⟩
def Tryz.laysM279_ren : Go.Shelf.Ren := ⟨fun | 279 => 147 | 316 => 153 | n => n, fun | 9 => 9 | 168 => 198 | 75 => 28 | 210 => 204 | 3 => 3 | 4 => 4 | 37 => 23 | 0 => 0 | 127 => 122 | 80 => 43 | 5 => 5 | n => n, fun | 15 => 7 | n => n⟩
def Tryz.laysC245_ren : Go.Shelf.Ren := ⟨fun | 245 => 138 | 279 => 147 | 280 => 148 | 281 => 149 | 282 => 150 | 316 => 153 | 171 => 37 | 205 => 154 | 243 => 67 | 246 => 98 | 283 => 119 | 284 => 120 | 285 => 121 | 286 => 122 | 129 => 133 | 317 => 132 | 318 => 134 | 319 => 135 | 320 => 136 | 337 => 144 | 338 => 145 | n => n, fun | 9 => 9 | 3 => 3 | 75 => 28 | 167 => 195 | 4 => 4 | 168 => 198 | 210 => 204 | 37 => 23 | 0 => 0 | 127 => 122 | 145 => 210 | 143 => 208 | 2 => 2 | 171 => 156 | 53 => 157 | 5 => 5 | 173 => 160 | 212 => 187 | 51 => 188 | 20 => 20 | 213 => 189 | 46 => 119 | 232 => 201 | 233 => 202 | 80 => 43 | n => n, fun | 15 => 7 | 16 => 8 | 17 => 4 | 18 => 5 | 19 => 6 | n => n⟩
def Tryz.laysC172_ren : Go.Shelf.Ren := ⟨fun | 172 => 123 | 244 => 137 | 245 => 138 | 247 => 146 | 279 => 147 | 280 => 148 | 281 => 149 | 282 => 150 | 287 => 151 | 316 => 153 | 171 => 37 | 205 => 154 | 321 => 155 | 322 => 156 | 243 => 67 | 246 => 98 | 283 => 119 | 284 => 120 | 285 => 121 | 286 => 122 | 129 => 133 | 317 => 132 | 318 => 134 | 319 => 135 | 320 => 136 | 337 => 144 | 338 => 145 | n => n, fun | 9 => 9 | 3 => 3 | 75 => 28 | 76 => 120 | 4 => 4 | 5 => 5 | 167 => 195 | 37 => 23 | 0 => 0 | 85 => 196 | 2 => 2 | 168 => 198 | 53 => 157 | 175 => 192 | 46 => 119 | 210 => 204 | 127 => 122 | 145 => 210 | 143 => 208 | 21 => 21 | 171 => 156 | 173 => 160 | 212 => 187 | 51 => 188 | 20 => 20 | 213 => 189 | 232 => 201 | 233 => 202 | 80 => 43 | n => n, fun | 15 => 7 | 16 => 8 | 17 => 4 | 18 => 5 | 19 => 6 | n => n⟩
def Tryz.lays321_ren : Go.Shelf.Ren := ⟨fun | 321 => 155 | n => n, fun | 5 => 5 | n => n, fun | n => n⟩
def Tryz.lays287_ren : Go.Shelf.Ren := ⟨fun | 287 => 151 | 321 => 155 | 322 => 156 | n => n, fun | 9 => 9 | 3 => 3 | 53 => 157 | 75 => 28 | 4 => 4 | 167 => 195 | 5 => 5 | 46 => 119 | 37 => 23 | 0 => 0 | 21 => 21 | 80 => 43 | n => n, fun | n => n⟩
def Tryz.laysC247_ren : Go.Shelf.Ren := ⟨fun | 247 => 146 | 287 => 151 | 321 => 155 | 322 => 156 | n => n, fun | 9 => 9 | 3 => 3 | 2 => 2 | 75 => 28 | 4 => 4 | 167 => 195 | 5 => 5 | 53 => 157 | 175 => 192 | 46 => 119 | 37 => 23 | 0 => 0 | 21 => 21 | 80 => 43 | n => n, fun | n => n⟩
def Tryz.laysC244_ren : Go.Shelf.Ren := ⟨fun | 244 => 137 | 247 => 146 | 287 => 151 | 321 => 155 | 322 => 156 | n => n, fun | 9 => 9 | 3 => 3 | 75 => 28 | 4 => 4 | 5 => 5 | 167 => 195 | 37 => 23 | 0 => 0 | 85 => 196 | 2 => 2 | 53 => 157 | 175 => 192 | 46 => 119 | 21 => 21 | 80 => 43 | n => n, fun | n => n⟩
def Tryz.laysM280_ren : Go.Shelf.Ren := ⟨fun | 280 => 148 | 316 => 153 | n => n, fun | 9 => 9 | 168 => 198 | 75 => 28 | 210 => 204 | 3 => 3 | 4 => 4 | 37 => 23 | 0 => 0 | 127 => 122 | 80 => 43 | 5 => 5 | n => n, fun | 16 => 8 | n => n⟩
def Tryz.laysPu14_ren : Go.Shelf.Ren := ⟨fun | 14 => 140 | 16 => 151 | 17 => 138 | 19 => 155 | 20 => 156 | 21 => 147 | 22 => 148 | 23 => 149 | 24 => 150 | 25 => 153 | 27 => 37 | 26 => 154 | 28 => 67 | 29 => 98 | 30 => 119 | 31 => 120 | 32 => 121 | 33 => 122 | 35 => 133 | 34 => 132 | 36 => 134 | 37 => 135 | 38 => 136 | 39 => 144 | 40 => 145 | n => n, fun | 9 => 9 | 3 => 3 | 22 => 157 | 24 => 28 | 25 => 192 | 4 => 4 | 34 => 195 | 5 => 5 | 36 => 119 | 37 => 23 | 0 => 0 | 39 => 198 | 21 => 21 | 44 => 204 | 47 => 122 | 50 => 210 | 48 => 208 | 2 => 2 | 52 => 156 | 55 => 160 | 59 => 187 | 60 => 188 | 20 => 20 | 61 => 189 | 65 => 201 | 66 => 202 | 67 => 43 | n => n, fun | 0 => 7 | 1 => 8 | 2 => 4 | 3 => 5 | 4 => 6 | n => n⟩
theorem Tryz.laysPu14 : Go.Proofs.LaysPu.n14 Tryz.prog Tryz.laysPu14_ren := {
  mixed := by kernel_rfl
  f14 := Tryz.func140.trans (congrArg some (by kernel_rfl))
  f16 := Tryz.func151.trans (congrArg some (by kernel_rfl))
  f17 := Tryz.func138.trans (congrArg some (by kernel_rfl))
  f19 := Tryz.func155.trans (congrArg some (by kernel_rfl))
  f20 := Tryz.func156.trans (congrArg some (by kernel_rfl))
  f21 := Tryz.func147.trans (congrArg some (by kernel_rfl))
  f22 := Tryz.func148.trans (congrArg some (by kernel_rfl))
  f23 := Tryz.func149.trans (congrArg some (by kernel_rfl))
  f24 := Tryz.func150.trans (congrArg some (by kernel_rfl))
  f25 := Tryz.func153.trans (congrArg some (by kernel_rfl))
  f26 := Tryz.func154.trans (congrArg some (by kernel_rfl))
  f27 := Tryz.func37.trans (congrArg some (by kernel_rfl))
  f28 := Tryz.func67.trans (congrArg some (by kernel_rfl))
  f29 := Tryz.func98.trans (congrArg some (by kernel_rfl))
  f30 := Tryz.func119.trans (congrArg some (by kernel_rfl))
  f31 := Tryz.func120.trans (congrArg some (by kernel_rfl))
  f32 := Tryz.func121.trans (congrArg some (by kernel_rfl))
  f33 := Tryz.func122.trans (congrArg some (by kernel_rfl))
  f34 := Tryz.func132.trans (congrArg some (by kernel_rfl))
  f35 := Tryz.func133.trans (congrArg some (by kernel_rfl))
  f36 := Tryz.func134.trans (congrArg some (by kernel_rfl))
  f37 := Tryz.func135.trans (congrArg some (by kernel_rfl))
  f38 := Tryz.func136.trans (congrArg some (by kernel_rfl))
  f39 := Tryz.func144.trans (congrArg some (by kernel_rfl))
  f40 := Tryz.func145.trans (congrArg some (by kernel_rfl))
  t0 := Tryz.underlying0
  a0 := Tryz.isAgg0
  z0 := Tryz.sizeOf0
  v0 := Tryz.zeroValue0
  i0 := by kernel_rfl
  t2 := Tryz.underlying2
  a2 := Tryz.isAgg2
  z2 := Tryz.sizeOf2
  v2 := Tryz.zeroValue2
  i2 := by kernel_rfl
  t3 := Tryz.underlying3
  a3 := Tryz.isAgg3
  z3 := Tryz.sizeOf3
  v3 := Tryz.zeroValue3
  i3 := by kernel_rfl
  t4 := Tryz.underlying4
  a4 := Tryz.isAgg4
  z4 := Tryz.sizeOf4
  v4 := Tryz.zeroValue4
  i4 := by kernel_rfl
  t5 := Tryz.underlying5
  a5 := Tryz.isAgg5
  z5 := Tryz.sizeOf5
  v5 := Tryz.zeroValue5
  i5 := by kernel_rfl
  t9 := Tryz.underlying9
  a9 := Tryz.isAgg9
  z9 := Tryz.sizeOf9
  v9 := Tryz.zeroValue9
  i9 := by kernel_rfl
  t20 := Tryz.underlying20
  a20 := Tryz.isAgg20
  z20 := Tryz.sizeOf20
  v20 := Tryz.zeroValue20
  i20 := by kernel_rfl
  t21 := Tryz.underlying21
  a21 := Tryz.isAgg21
  z21 := Tryz.sizeOf21
  v21 := Tryz.zeroValue21
  i21 := by kernel_rfl
  t22 := Tryz.underlying157
  a22 := Tryz.isAgg157
  z22 := Tryz.sizeOf157
  v22 := Tryz.zeroValue157
  i22 := by kernel_rfl
  t24 := Tryz.underlying28
  a24 := Tryz.isAgg28
  z24 := Tryz.sizeOf28
  v24 := Tryz.zeroValue28
  i24 := by kernel_rfl
  t25 := Tryz.underlying192
  a25 := Tryz.isAgg192
  z25 := Tryz.sizeOf192
  v25 := Tryz.zeroValue192
  i25 := by kernel_rfl
  t34 := Tryz.underlying195
  a34 := Tryz.isAgg195
  z34 := Tryz.sizeOf195
  v34 := Tryz.zeroValue195
  i34 := by kernel_rfl
  c34 := by kernel_rfl
  t36 := Tryz.underlying119
  a36 := Tryz.isAgg119
  z36 := Tryz.sizeOf119
  v36 := Tryz.zeroValue119
  i36 := by kernel_rfl
  t37 := Tryz.underlying23
  a37 := Tryz.isAgg23
  z37 := Tryz.sizeOf23
  v37 := Tryz.zeroValue23
  i37 := by kernel_rfl
  t39 := Tryz.underlying198
  a39 := Tryz.isAgg198
  z39 := Tryz.sizeOf198
  v39 := Tryz.zeroValue198
  i39 := by kernel_rfl
  t44 := Tryz.underlying204
  a44 := Tryz.isAgg204
  z44 := Tryz.sizeOf204
  v44 := Tryz.zeroValue204
  i44 := by kernel_rfl
  t47 := Tryz.underlying122
  a47 := Tryz.isAgg122
  z47 := Tryz.sizeOf122
  v47 := Tryz.zeroValue122
  i47 := by kernel_rfl
  t48 := Tryz.underlying208
  a48 := Tryz.isAgg208
  z48 := Tryz.sizeOf208
  v48 := Tryz.zeroValue208
  i48 := by kernel_rfl
  t50 := Tryz.underlying210
  a50 := Tryz.isAgg210
  z50 := Tryz.sizeOf210
  v50 := Tryz.zeroValue210
  i50 := by kernel_rfl
  t52 := Tryz.underlying156
  a52 := Tryz.isAgg156
  z52 := Tryz.sizeOf156
  v52 := Tryz.zeroValue156
  i52 := by kernel_rfl
  t55 := Tryz.underlying160
  a55 := Tryz.isAgg160
  z55 := Tryz.sizeOf160
  v55 := Tryz.zeroValue160
  i55 := by kernel_rfl
  t59 := Tryz.underlying187
  a59 := Tryz.isAgg187
  z59 := Tryz.sizeOf187
  v59 := Tryz.zeroValue187
  i59 := by kernel_rfl
  t60 := Tryz.underlying188
  a60 := Tryz.isAgg188
  z60 := Tryz.sizeOf188
  v60 := Tryz.zeroValue188
  i60 := by kernel_rfl
  t61 := Tryz.underlying189
  a61 := Tryz.isAgg189
  z61 := Tryz.sizeOf189
  t65 := Tryz.underlying201
  a65 := Tryz.isAgg201
  z65 := Tryz.sizeOf201
  v65 := Tryz.zeroValue201
  i65 := by kernel_rfl
  t66 := Tryz.underlying202
  a66 := Tryz.isAgg202
  z66 := Tryz.sizeOf202
  v66 := Tryz.zeroValue202
  i66 := by kernel_rfl
  t67 := Tryz.underlying43
  a67 := Tryz.isAgg43
  z67 := Tryz.sizeOf43
  v67 := Tryz.zeroValue43
  i67 := by kernel_rfl
  g0 := by kernel_rfl
  m0 := by kernel_rfl
  g1 := by kernel_rfl
  m1 := by kernel_rfl
  g2 := by kernel_rfl
  m2 := by kernel_rfl
  g3 := by kernel_rfl
  m3 := by kernel_rfl
  g4 := by kernel_rfl
  m4 := by kernel_rfl }
open Go.RowKit in
theorem Tryz.strconv_ParseUint_10_at64_ok (s : ByteArray) (hmax : s.size ≤ 9223372036854775806) (u : Nat) (h : Lib.parseUintB 64 s.data.toList = .ok u) (w : World) :
    Calls Tryz.prog 140 #[.string s, .int .i64 10, .int .i64 64] w fun e w' => e = .returned (.tuple #[.int .u64 u, .nilIface]) ∧ (w' = w ∨ w' = Lib.bytesWorld w 5 s) := Any.strconv_ParseUint_10_at64_ok Tryz.laysPu14 s hmax u h w
open Go.RowKit in
open Go.RowKit in
theorem Tryz.strconv_ParseUint_10_at64_range (s : ByteArray) (hlim : s.size ≤ 281474976710656) (h : Lib.parseUintB 64 s.data.toList = .range) (ev : Value) (w : World) (hv : w.cell? ⟨8, 0, none⟩ = some ev) (hev : ev = .nilIface ∨ ∃ te pe, ev = .iface te pe) :
    Calls Tryz.prog 140 #[.string s, .int .i64 10, .int .i64 64] w fun e w' => ∃ N, e = .returned (.tuple #[.int .u64 18446744073709551615, .iface 198 (.pointer (some ⟨N, 0, none⟩))]) ∧ w.heap.size ≤ N ∧ w'.heap[N]? = some (.cells #[.string ⟨#[80, 97, 114, 115, 101, 85, 105, 110, 116]⟩, .string s, ev] 204 (0, 0)) ∧ Below w.heap.size w w' := Any.strconv_ParseUint_10_at64_range Tryz.laysPu14 s hlim h ev w hv hev
def Tryz.lays217_ren : Go.Shelf.Ren := ⟨fun | 217 => 93 | 266 => 115 | n => n, fun | 9 => 9 | 5 => 5 | 3 => 3 | n => n, fun | n => n⟩
def Tryz.lays224_ren : Go.Shelf.Ren := ⟨fun | 224 => 130 | n => n, fun | 3 => 3 | n => n, fun | n => n⟩
def Tryz.lays197_ren : Go.Shelf.Ren := ⟨fun | 197 => 95 | 260 => 116 | n => n, fun | 9 => 9 | 21 => 21 | 3 => 3 | 4 => 4 | 5 => 5 | 105 => 134 | 119 => 179 | 0 => 0 | 46 => 119 | 139 => 182 | 138 => 181 | n => n, fun | 3 => 2 | 4 => 3 | n => n⟩
theorem Tryz.lays197 : Go.Proofs.Lays.n197 Tryz.prog Tryz.lays197_ren := {
  mixed := by kernel_rfl
  f197 := Tryz.func95.trans (congrArg some (by kernel_rfl))
  f260 := Tryz.func116.trans (congrArg some (by kernel_rfl))
  t0 := Tryz.underlying0
  a0 := Tryz.isAgg0
  z0 := Tryz.sizeOf0
  v0 := Tryz.zeroValue0
  t3 := Tryz.underlying3
  a3 := Tryz.isAgg3
  z3 := Tryz.sizeOf3
  v3 := Tryz.zeroValue3
  t4 := Tryz.underlying4
  a4 := Tryz.isAgg4
  z4 := Tryz.sizeOf4
  v4 := Tryz.zeroValue4
  t5 := Tryz.underlying5
  a5 := Tryz.isAgg5
  z5 := Tryz.sizeOf5
  v5 := Tryz.zeroValue5
  t9 := Tryz.underlying9
  a9 := Tryz.isAgg9
  z9 := Tryz.sizeOf9
  v9 := Tryz.zeroValue9
  t21 := Tryz.underlying21
  a21 := Tryz.isAgg21
  z21 := Tryz.sizeOf21
  v21 := Tryz.zeroValue21
  t46 := Tryz.underlying119
  a46 := Tryz.isAgg119
  z46 := Tryz.sizeOf119
  v46 := Tryz.zeroValue119
  t105 := Tryz.underlying134
  a105 := Tryz.isAgg134
  z105 := Tryz.sizeOf134
  v105 := Tryz.zeroValue134
  t119 := Tryz.underlying179
  a119 := Tryz.isAgg179
  z119 := Tryz.sizeOf179
  t138 := Tryz.underlying181
  a138 := Tryz.isAgg181
  z138 := Tryz.sizeOf181
  v138 := Tryz.zeroValue181
  t139 := Tryz.underlying182
  a139 := Tryz.isAgg182
  z139 := Tryz.sizeOf182
  v139 := Tryz.zeroValue182
  g3 := by kernel_rfl
  g4 := by kernel_rfl }
def Tryz.lays152_ren : Go.Shelf.Ren := ⟨fun | 152 => 117 | 137 => 58 | 119 => 129 | 224 => 130 | 225 => 131 | 217 => 93 | 266 => 115 | n => n, fun | 9 => 9 | 21 => 21 | 3 => 3 | 4 => 4 | 5 => 5 | 0 => 0 | 46 => 119 | n => n, fun | n => n⟩
def Tryz.lays151_ren : Go.Shelf.Ren := ⟨fun | 151 => 96 | 152 => 117 | 137 => 58 | 119 => 129 | 224 => 130 | 225 => 131 | 217 => 93 | 266 => 115 | n => n, fun | 9 => 9 | 21 => 21 | 4 => 4 | 3 => 3 | 5 => 5 | 0 => 0 | 46 => 119 | n => n, fun | n => n⟩
def Tryz.lays227_ren : Go.Shelf.Ren := ⟨fun | 227 => 61 | n => n, fun | 9 => 9 | 116 => 109 | 4 => 4 | 0 => 0 | 3 => 3 | 5 => 5 | n => n, fun | n => n⟩
def Tryz.lays228_ren : Go.Shelf.Ren := ⟨fun | 228 => 94 | n => n, fun | 124 => 113 | 5 => 5 | 4 => 4 | 0 => 0 | 116 => 109 | n => n, fun | n => n⟩
def Tryz.lays260_ren : Go.Shelf.Ren := ⟨fun | 260 => 116 | n => n, fun | 9 => 9 | 21 => 21 | 3 => 3 | 4 => 4 | 5 => 5 | 119 => 179 | 0 => 0 | 46 => 119 | 139 => 182 | 138 => 181 | n => n, fun | 3 => 2 | 4 => 3 | n => n⟩
open Go.RowKit Go.Lib in
theorem Tryz.utf8_DecodeRuneInString (s : ByteArray) (w : World) (hT : Lib.Utf8Tabs 2 3 w) :
    Calls Tryz.prog 95 #[.string s] w fun e w' => e = .returned (.tuple #[.int .i32 (Lib.decodeGo s).1, .int .i64 (Lib.decodeGo s).2]) ∧ Below w.heap.size w w' := Any.utf8_DecodeRuneInString Tryz.lays197 s w hT
def Tryz.lays271_ren : Go.Shelf.Ren := ⟨fun | 271 => 97 | 120 => 118 | 197 => 95 | 260 => 116 | n => n, fun | 9 => 9 | 21 => 21 | 3 => 3 | 4 => 4 | 5 => 5 | 105 => 134 | 119 => 179 | 0 => 0 | 46 => 119 | 139 => 182 | 138 => 181 | n => n, fun | 3 => 2 | 4 => 3 | n => n⟩
end Go.Proofs
