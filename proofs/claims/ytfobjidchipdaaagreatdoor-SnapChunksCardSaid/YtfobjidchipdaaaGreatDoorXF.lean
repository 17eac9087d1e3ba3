/- Shelf, BuA -/
import Derived.Shelf.Strings.Builder1
import Derived.Shelf.Strings.Builder2
import Derived.Shelf.Strings.Trim
import Derived.Shelf.Small.Utf8
import Derived.Shelf.Small.Strs
import Derived.Shelf.Strings.BuilderF
import Derived.Shelf.Strconv.Atoi
import Derived.Shelf.Strconv.Itoa0
import Derived.Shelf.Strconv.Itoa1
import Derived.Shelf.LaysM
import Derived.Shelf.Strconv.Itoa2
import Derived.Shelf.Strconv.Itoa3
import Derived.Shelf.Bytes.GrowSliceCatch
import Derived.Shelf.Bytes.GrowSlice
import Derived.Shelf.Strings.Search1
import Derived.Shelf.Strings.Search2
import Derived.Shelf.Strings.Search3
import Derived.Shelf.Strings.Shaped
import Derived.Shelf.Strings.Prefix
import Derived.Shelf.Strings.Runes
import Derived.Shelf.Strings.AsciiSet
import Derived.Shelf.Bits.Mul64
import Derived.Shelf.Strings.Repeat
import Derived.Shelf.Unicode.DecodeSlow
import Derived.Ground.SlgmProg
import Derived.Shelf.SortM.Plain
import Derived.Shelf.SortM.SortNone
import Derived.Shelf.SlIter.Nil
import Derived.Ground.GgzProg
import Derived.Test.YtfobjidchipdaaaGreatDoorProg
import Derived.Test.YtfobjidchipdaaaGreatDoorXE
/-
  DERIVED: THE SHELF's CONTRACTS AT THIS DUMP, IN PLAIN WORDS (tools/lay-plain.mjs out of 'TryzShelfCut.lean', which tools/lay-shelf.mjs wrote): THE SAME DECLARATIONS UNDER THE SAME NAMES: 'import', 'namespace', 'open', 'def', 'theorem' AND NOTHING ELSE: no command of the shelf's: FOR A HAND-IN. Each laying: the table of numbers ('.._ren') and one theorem, a field a fact of the dump's own or the kernel's comparison; each contract: ONE APPLICATION.
-/
namespace Go.Proofs
open Go.Shelf
def Tryz.lays160_ren : Go.Shelf.Ren := ⟨fun | 160 => 85 | 232 => 114 | 231 => 113 | 227 => 115 | 234 => 117 | 233 => 116 | 236 => 119 | 235 => 118 | 228 => 141 | 271 => 144 | 151 => 143 | 197 => 142 | 120 => 173 | 152 => 172 | 260 => 171 | 137 => 193 | 119 => 194 | 224 => 177 | 225 => 176 | 217 => 175 | 266 => 195 | n => n, fun | 9 => 9 | 4 => 4 | 3 => 3 | 5 => 5 | 117 => 185 | 116 => 184 | 0 => 0 | 124 => 188 | 21 => 21 | 105 => 212 | 46 => 176 | 119 => 257 | 139 => 260 | 138 => 259 | n => n, fun | 3 => 5 | 4 => 6 | n => n⟩
theorem Tryz.lays160 : Go.Proofs.Lays.n160 Tryz.prog Tryz.lays160_ren := {
  mixed := by kernel_rfl
  f119 := Tryz.func194.trans (congrArg some (by kernel_rfl))
  f120 := Tryz.func173.trans (congrArg some (by kernel_rfl))
  f137 := Tryz.func193.trans (congrArg some (by kernel_rfl))
  f151 := Tryz.func143.trans (congrArg some (by kernel_rfl))
  f152 := Tryz.func172.trans (congrArg some (by kernel_rfl))
  f160 := Tryz.func85.trans (congrArg some (by kernel_rfl))
  f197 := Tryz.func142.trans (congrArg some (by kernel_rfl))
  f217 := Tryz.func175.trans (congrArg some (by kernel_rfl))
  f224 := Tryz.func177.trans (congrArg some (by kernel_rfl))
  f225 := Tryz.func176.trans (congrArg some (by kernel_rfl))
  f227 := Tryz.func115.trans (congrArg some (by kernel_rfl))
  f228 := Tryz.func141.trans (congrArg some (by kernel_rfl))
  f231 := Tryz.func113.trans (congrArg some (by kernel_rfl))
  f232 := Tryz.func114.trans (congrArg some (by kernel_rfl))
  f233 := Tryz.func116.trans (congrArg some (by kernel_rfl))
  f234 := Tryz.func117.trans (congrArg some (by kernel_rfl))
  f235 := Tryz.func118.trans (congrArg some (by kernel_rfl))
  f236 := Tryz.func119.trans (congrArg some (by kernel_rfl))
  f260 := Tryz.func171.trans (congrArg some (by kernel_rfl))
  f266 := Tryz.func195.trans (congrArg some (by kernel_rfl))
  f271 := Tryz.func144.trans (congrArg some (by kernel_rfl))
  t0 := Tryz.underlying0
  a0 := Tryz.isAgg0
  z0 := Tryz.sizeOf0
  v0 := Tryz.zeroValue0
  t3 := Tryz.underlying3
  a3 := Tryz.isAgg3
  z3 := Tryz.sizeOf3
  v3 := Tryz.zeroValue3
  t4 := Tryz.underlying4
  a4 := Tryz.isAgg4
  z4 := Tryz.sizeOf4
  v4 := Tryz.zeroValue4
  t5 := Tryz.underlying5
  a5 := Tryz.isAgg5
  z5 := Tryz.sizeOf5
  v5 := Tryz.zeroValue5
  t9 := Tryz.underlying9
  a9 := Tryz.isAgg9
  z9 := Tryz.sizeOf9
  v9 := Tryz.zeroValue9
  t21 := Tryz.underlying21
  a21 := Tryz.isAgg21
  z21 := Tryz.sizeOf21
  v21 := Tryz.zeroValue21
  t46 := Tryz.underlying176
  a46 := Tryz.isAgg176
  z46 := Tryz.sizeOf176
  v46 := Tryz.zeroValue176
  t105 := Tryz.underlying212
  a105 := Tryz.isAgg212
  z105 := Tryz.sizeOf212
  v105 := Tryz.zeroValue212
  t116 := Tryz.underlying184
  a116 := Tryz.isAgg184
  z116 := Tryz.sizeOf184
  t117 := Tryz.underlying185
  a117 := Tryz.isAgg185
  z117 := Tryz.sizeOf185
  v117 := Tryz.zeroValue185
  t119 := Tryz.underlying257
  a119 := Tryz.isAgg257
  z119 := Tryz.sizeOf257
  t124 := Tryz.underlying188
  a124 := Tryz.isAgg188
  z124 := Tryz.sizeOf188
  v124 := Tryz.zeroValue188
  t138 := Tryz.underlying259
  a138 := Tryz.isAgg259
  z138 := Tryz.sizeOf259
  v138 := Tryz.zeroValue259
  t139 := Tryz.underlying260
  a139 := Tryz.isAgg260
  z139 := Tryz.sizeOf260
  v139 := Tryz.zeroValue260
  g3 := by kernel_rfl
  g4 := by kernel_rfl }
def Tryz.lays172_ren : Go.Shelf.Ren := ⟨fun | 172 => 84 | 244 => 111 | 245 => 112 | 247 => 136 | 279 => 137 | 280 => 138 | 281 => 139 | 282 => 140 | 287 => 168 | 316 => 169 | 171 => 75 | 205 => 170 | 321 => 191 | 322 => 192 | 243 => 101 | 246 => 130 | 283 => 153 | 284 => 154 | 285 => 155 | 286 => 156 | 129 => 167 | 317 => 181 | 318 => 182 | 319 => 183 | 320 => 184 | 337 => 197 | 338 => 198 | n => n, fun | 9 => 9 | 3 => 3 | 75 => 152 | 76 => 153 | 4 => 4 | 5 => 5 | 167 => 206 | 37 => 22 | 0 => 0 | 85 => 207 | 2 => 2 | 168 => 209 | 53 => 217 | 175 => 234 | 46 => 176 | 210 => 238 | 127 => 220 | 145 => 256 | 143 => 254 | 21 => 21 | 171 => 221 | 173 => 224 | 212 => 245 | 51 => 175 | 20 => 20 | 213 => 246 | 232 => 266 | 233 => 267 | 80 => 132 | n => n, fun | 15 => 1 | 16 => 2 | 17 => 4 | 18 => 7 | 19 => 8 | n => n⟩
theorem Tryz.lays172 : Go.Proofs.Lays.n172 Tryz.prog Tryz.lays172_ren := {
  mixed := by kernel_rfl
  f129 := Tryz.func167.trans (congrArg some (by kernel_rfl))
  f171 := Tryz.func75.trans (congrArg some (by kernel_rfl))
  f172 := Tryz.func84.trans (congrArg some (by kernel_rfl))
  f205 := Tryz.func170.trans (congrArg some (by kernel_rfl))
  f243 := Tryz.func101.trans (congrArg some (by kernel_rfl))
  f244 := Tryz.func111.trans (congrArg some (by kernel_rfl))
  f245 := Tryz.func112.trans (congrArg some (by kernel_rfl))
  f246 := Tryz.func130.trans (congrArg some (by kernel_rfl))
  f247 := Tryz.func136.trans (congrArg some (by kernel_rfl))
  f279 := Tryz.func137.trans (congrArg some (by kernel_rfl))
  f280 := Tryz.func138.trans (congrArg some (by kernel_rfl))
  f281 := Tryz.func139.trans (congrArg some (by kernel_rfl))
  f282 := Tryz.func140.trans (congrArg some (by kernel_rfl))
  f283 := Tryz.func153.trans (congrArg some (by kernel_rfl))
  f284 := Tryz.func154.trans (congrArg some (by kernel_rfl))
  f285 := Tryz.func155.trans (congrArg some (by kernel_rfl))
  f286 := Tryz.func156.trans (congrArg some (by kernel_rfl))
  f287 := Tryz.func168.trans (congrArg some (by kernel_rfl))
  f316 := Tryz.func169.trans (congrArg some (by kernel_rfl))
  f317 := Tryz.func181.trans (congrArg some (by kernel_rfl))
  f318 := Tryz.func182.trans (congrArg some (by kernel_rfl))
  f319 := Tryz.func183.trans (congrArg some (by kernel_rfl))
  f320 := Tryz.func184.trans (congrArg some (by kernel_rfl))
  f321 := Tryz.func191.trans (congrArg some (by kernel_rfl))
  f322 := Tryz.func192.trans (congrArg some (by kernel_rfl))
  f337 := Tryz.func197.trans (congrArg some (by kernel_rfl))
  f338 := Tryz.func198.trans (congrArg some (by kernel_rfl))
  t0 := Tryz.underlying0
  a0 := Tryz.isAgg0
  z0 := Tryz.sizeOf0
  v0 := Tryz.zeroValue0
  t2 := Tryz.underlying2
  a2 := Tryz.isAgg2
  z2 := Tryz.sizeOf2
  v2 := Tryz.zeroValue2
  t3 := Tryz.underlying3
  a3 := Tryz.isAgg3
  z3 := Tryz.sizeOf3
  v3 := Tryz.zeroValue3
  t4 := Tryz.underlying4
  a4 := Tryz.isAgg4
  z4 := Tryz.sizeOf4
  v4 := Tryz.zeroValue4
  t5 := Tryz.underlying5
  a5 := Tryz.isAgg5
  z5 := Tryz.sizeOf5
  v5 := Tryz.zeroValue5
  t9 := Tryz.underlying9
  a9 := Tryz.isAgg9
  z9 := Tryz.sizeOf9
  v9 := Tryz.zeroValue9
  t20 := Tryz.underlying20
  a20 := Tryz.isAgg20
  z20 := Tryz.sizeOf20
  v20 := Tryz.zeroValue20
  t21 := Tryz.underlying21
  a21 := Tryz.isAgg21
  z21 := Tryz.sizeOf21
  v21 := Tryz.zeroValue21
  t37 := Tryz.underlying22
  a37 := Tryz.isAgg22
  z37 := Tryz.sizeOf22
  v37 := Tryz.zeroValue22
  t46 := Tryz.underlying176
  a46 := Tryz.isAgg176
  z46 := Tryz.sizeOf176
  v46 := Tryz.zeroValue176
  t51 := Tryz.underlying175
  a51 := Tryz.isAgg175
  z51 := Tryz.sizeOf175
  v51 := Tryz.zeroValue175
  t53 := Tryz.underlying217
  a53 := Tryz.isAgg217
  z53 := Tryz.sizeOf217
  v53 := Tryz.zeroValue217
  t75 := Tryz.underlying152
  a75 := Tryz.isAgg152
  z75 := Tryz.sizeOf152
  v75 := Tryz.zeroValue152
  t76 := Tryz.underlying153
  a76 := Tryz.isAgg153
  z76 := Tryz.sizeOf153
  v76 := Tryz.zeroValue153
  t85 := Tryz.underlying207
  a85 := Tryz.isAgg207
  z85 := Tryz.sizeOf207
  v85 := Tryz.zeroValue207
  t127 := Tryz.underlying220
  a127 := Tryz.isAgg220
  z127 := Tryz.sizeOf220
  v127 := Tryz.zeroValue220
  t143 := Tryz.underlying254
  a143 := Tryz.isAgg254
  z143 := Tryz.sizeOf254
  v143 := Tryz.zeroValue254
  t145 := Tryz.underlying256
  a145 := Tryz.isAgg256
  z145 := Tryz.sizeOf256
  v145 := Tryz.zeroValue256
  t167 := Tryz.underlying206
  a167 := Tryz.isAgg206
  z167 := Tryz.sizeOf206
  v167 := Tryz.zeroValue206
  t168 := Tryz.underlying209
  a168 := Tryz.isAgg209
  z168 := Tryz.sizeOf209
  v168 := Tryz.zeroValue209
  t171 := Tryz.underlying221
  a171 := Tryz.isAgg221
  z171 := Tryz.sizeOf221
  v171 := Tryz.zeroValue221
  t173 := Tryz.underlying224
  a173 := Tryz.isAgg224
  z173 := Tryz.sizeOf224
  v173 := Tryz.zeroValue224
  t175 := Tryz.underlying234
  a175 := Tryz.isAgg234
  z175 := Tryz.sizeOf234
  v175 := Tryz.zeroValue234
  t210 := Tryz.underlying238
  a210 := Tryz.isAgg238
  z210 := Tryz.sizeOf238
  v210 := Tryz.zeroValue238
  t212 := Tryz.underlying245
  a212 := Tryz.isAgg245
  z212 := Tryz.sizeOf245
  v212 := Tryz.zeroValue245
  t213 := Tryz.underlying246
  a213 := Tryz.isAgg246
  z213 := Tryz.sizeOf246
  t232 := Tryz.underlying266
  a232 := Tryz.isAgg266
  z232 := Tryz.sizeOf266
  v232 := Tryz.zeroValue266
  t233 := Tryz.underlying267
  a233 := Tryz.isAgg267
  z233 := Tryz.sizeOf267
  v233 := Tryz.zeroValue267
  g15 := by kernel_rfl
  g16 := by kernel_rfl
  g17 := by kernel_rfl
  g18 := by kernel_rfl
  g19 := by kernel_rfl }
open Go.RowKit in
/-- strconv.Atoi: "Atoi is equivalent to ParseInt(s, 10, 0), converted to type int.": AT A DECIMAL NUMERAL OF AT MOST 18 BYTES: its value, and a nil error. The world behind the call: the one new row that the library's '[]byte(s)' lays. (LAID: no walk: one application.) -/
theorem Tryz.strconv_Atoi (s : ByteArray) (n : Int) (hl : s.size ≤ 18) (h : Lib.atoi s.data.toList = some n) (w : World) :
    Calls Tryz.prog 84 #[.string s] w fun e w' => e = .returned (.tuple #[.int .i64 n, .nilIface]) ∧ ∃ t, w' = Lib.bytesWorld w 5 t := Any.strconv_Atoi Tryz.lays172 s n hl h w
def Tryz.laysM171_ren : Go.Shelf.Ren := ⟨fun | 171 => 75 | 243 => 101 | 246 => 130 | 283 => 153 | 284 => 154 | 285 => 155 | 286 => 156 | 129 => 167 | 317 => 181 | 318 => 182 | 319 => 183 | 320 => 184 | 337 => 197 | 338 => 198 | n => n, fun | 3 => 3 | 9 => 9 | 2 => 2 | 4 => 4 | 171 => 221 | 0 => 0 | 53 => 217 | 37 => 22 | 5 => 5 | 173 => 224 | 212 => 245 | 51 => 175 | 20 => 20 | 213 => 246 | 46 => 176 | 232 => 266 | 233 => 267 | n => n, fun | 17 => 4 | 18 => 7 | 19 => 8 | n => n⟩
theorem Tryz.laysM171 : Go.Proofs.LaysM.n171 Tryz.prog Tryz.laysM171_ren := {
  mixed := by kernel_rfl
  f129 := Tryz.func167.trans (congrArg some (by kernel_rfl))
  f171 := Tryz.func75.trans (congrArg some (by kernel_rfl))
  f243 := Tryz.func101.trans (congrArg some (by kernel_rfl))
  f246 := Tryz.func130.trans (congrArg some (by kernel_rfl))
  f283 := Tryz.func153.trans (congrArg some (by kernel_rfl))
  f284 := Tryz.func154.trans (congrArg some (by kernel_rfl))
  f285 := Tryz.func155.trans (congrArg some (by kernel_rfl))
  f286 := Tryz.func156.trans (congrArg some (by kernel_rfl))
  f317 := Tryz.func181.trans (congrArg some (by kernel_rfl))
  f318 := Tryz.func182.trans (congrArg some (by kernel_rfl))
  f319 := Tryz.func183.trans (congrArg some (by kernel_rfl))
  f320 := Tryz.func184.trans (congrArg some (by kernel_rfl))
  f337 := Tryz.func197.trans (congrArg some (by kernel_rfl))
  f338 := Tryz.func198.trans (congrArg some (by kernel_rfl))
  t0 := Tryz.underlying0
  a0 := Tryz.isAgg0
  z0 := Tryz.sizeOf0
  v0 := Tryz.zeroValue0
  t2 := Tryz.underlying2
  a2 := Tryz.isAgg2
  z2 := Tryz.sizeOf2
  v2 := Tryz.zeroValue2
  t3 := Tryz.underlying3
  a3 := Tryz.isAgg3
  z3 := Tryz.sizeOf3
  v3 := Tryz.zeroValue3
  t4 := Tryz.underlying4
  a4 := Tryz.isAgg4
  z4 := Tryz.sizeOf4
  v4 := Tryz.zeroValue4
  t5 := Tryz.underlying5
  a5 := Tryz.isAgg5
  z5 := Tryz.sizeOf5
  v5 := Tryz.zeroValue5
  t9 := Tryz.underlying9
  a9 := Tryz.isAgg9
  z9 := Tryz.sizeOf9
  v9 := Tryz.zeroValue9
  t20 := Tryz.underlying20
  a20 := Tryz.isAgg20
  z20 := Tryz.sizeOf20
  v20 := Tryz.zeroValue20
  t37 := Tryz.underlying22
  a37 := Tryz.isAgg22
  z37 := Tryz.sizeOf22
  v37 := Tryz.zeroValue22
  t46 := Tryz.underlying176
  a46 := Tryz.isAgg176
  z46 := Tryz.sizeOf176
  v46 := Tryz.zeroValue176
  t51 := Tryz.underlying175
  a51 := Tryz.isAgg175
  z51 := Tryz.sizeOf175
  v51 := Tryz.zeroValue175
  t53 := Tryz.underlying217
  a53 := Tryz.isAgg217
  z53 := Tryz.sizeOf217
  v53 := Tryz.zeroValue217
  t171 := Tryz.underlying221
  a171 := Tryz.isAgg221
  z171 := Tryz.sizeOf221
  v171 := Tryz.zeroValue221
  t173 := Tryz.underlying224
  a173 := Tryz.isAgg224
  z173 := Tryz.sizeOf224
  v173 := Tryz.zeroValue224
  t212 := Tryz.underlying245
  a212 := Tryz.isAgg245
  z212 := Tryz.sizeOf245
  v212 := Tryz.zeroValue245
  t213 := Tryz.underlying246
  a213 := Tryz.isAgg246
  z213 := Tryz.sizeOf246
  t232 := Tryz.underlying266
  a232 := Tryz.isAgg266
  z232 := Tryz.sizeOf266
  v232 := Tryz.zeroValue266
  t233 := Tryz.underlying267
  a233 := Tryz.isAgg267
  z233 := Tryz.sizeOf267
  v233 := Tryz.zeroValue267
  g17 := by kernel_rfl
  g18 := by kernel_rfl
  g19 := by kernel_rfl
  i0 := by kernel_rfl
  i2 := by kernel_rfl
  i3 := by kernel_rfl
  i4 := by kernel_rfl
  i5 := by kernel_rfl
  i9 := by kernel_rfl
  i20 := by kernel_rfl
  i37 := by kernel_rfl
  i46 := by kernel_rfl
  i51 := by kernel_rfl
  i53 := by kernel_rfl
  i171 := by kernel_rfl
  i173 := by kernel_rfl
  i212 := by kernel_rfl
  i232 := by kernel_rfl
  i233 := by kernel_rfl
  m17 := by kernel_rfl
  m18 := by kernel_rfl
  m19 := by kernel_rfl }
open Go.RowKit Go.Sort Go.Lib in
/-- strconv.Itoa: "Itoa is equivalent to FormatInt(int64(i), 10).": i's DECIMAL NUMERAL ('Lib.itoa': a '-' where i is negative, then the digits), FOR EVERY int. The world behind the call: the world before it, new blocks behind the heap (the library's 'var a [24]byte'), draws. (LAID: no walk: one application.) -/
theorem Tryz.strconv_Itoa (n : Int) (h0 : -9223372036854775808 ≤ n) (h1 : n ≤ 9223372036854775807) (w : World) (htab : Lib.TabIs Tryz.prog w "internal/strconv.uint64pow10" .u64 Lib.pow10Tab) :
    Calls Tryz.prog 75 #[.int .i64 n] w fun e w' => e = .returned (.string ⟨(Lib.itoa n).toArray⟩) ∧ ∃ k os, w' = grow (w.drewN k) os := Any.strconv_Itoa Tryz.laysM171 n h0 h1 w htab
def Tryz.laysM290_ren : Go.Shelf.Ren := ⟨fun | 290 => 147 | 324 => 174 | n => n, fun | 37 => 22 | 3 => 3 | 0 => 0 | 4 => 4 | 20 => 20 | 75 => 152 | 5 => 5 | 80 => 132 | 9 => 9 | n => n, fun | 14 => 0 | n => n⟩
theorem Tryz.laysM290 : Go.Proofs.LaysM.n290 Tryz.prog Tryz.laysM290_ren := {
  mixed := by kernel_rfl
  f290 := Tryz.func147.trans (congrArg some (by kernel_rfl))
  f324 := Tryz.func174.trans (congrArg some (by kernel_rfl))
  t0 := Tryz.underlying0
  a0 := Tryz.isAgg0
  z0 := Tryz.sizeOf0
  v0 := Tryz.zeroValue0
  t3 := Tryz.underlying3
  a3 := Tryz.isAgg3
  z3 := Tryz.sizeOf3
  v3 := Tryz.zeroValue3
  t4 := Tryz.underlying4
  a4 := Tryz.isAgg4
  z4 := Tryz.sizeOf4
  v4 := Tryz.zeroValue4
  t20 := Tryz.underlying20
  a20 := Tryz.isAgg20
  z20 := Tryz.sizeOf20
  v20 := Tryz.zeroValue20
  t37 := Tryz.underlying22
  a37 := Tryz.isAgg22
  z37 := Tryz.sizeOf22
  v37 := Tryz.zeroValue22
  t75 := Tryz.underlying152
  a75 := Tryz.isAgg152
  z75 := Tryz.sizeOf152
  v75 := Tryz.zeroValue152
  g14 := by kernel_rfl
  t5 := Tryz.underlying5
  a5 := Tryz.isAgg5
  z5 := Tryz.sizeOf5
  v5 := Tryz.zeroValue5
  t9 := Tryz.underlying9
  a9 := Tryz.isAgg9
  z9 := Tryz.sizeOf9
  v9 := Tryz.zeroValue9
  t80 := Tryz.underlying132
  a80 := Tryz.isAgg132
  z80 := Tryz.sizeOf132
  v80 := Tryz.zeroValue132
  i0 := by kernel_rfl
  i3 := by kernel_rfl
  i4 := by kernel_rfl
  i5 := by kernel_rfl
  i9 := by kernel_rfl
  i20 := by kernel_rfl
  i37 := by kernel_rfl
  i75 := by kernel_rfl
  i80 := by kernel_rfl
  m14 := by kernel_rfl }
open Go.RowKit in
/-- bytes.growSlice: "growSlice grows b by n, preserving the original content of b.": OF A SLICE THAT LIES AT THE HEAD OF A ROW: a new row, number 'w.heap.size': it begins with b's l cells; its capacity has room for n more; whatever lay below is as it was. (LAID: no walk: one application.) -/
theorem Tryz.bytes_growSlice_row (g l c n : Nat) (cur : Array Value) (w : World) (hg : w.heap[g]? = some (.cells cur 5 (0, 0))) (hcs : cur.size = c) (hlc : l ≤ c) (hn : 1 ≤ n) (hlim : l + n ≤ 140737488355328) (hc2 : c ≤ 140737488355328) (h1 : ∀ v ∈ cur.toList.take l, v.oneCell' = true) :
    Calls Tryz.prog 147 #[.slice (some ⟨g, 0, none⟩) l c, .int .i64 n] w fun e w' => ∃ cap2 cells, e = .returned (.slice (some ⟨w.heap.size, 0, none⟩) l cap2) ∧ w'.heap[w.heap.size]? = some (.cells cells 5 (0, 0)) ∧
      cells.size = cap2 ∧ cells.toList.take l = cur.toList.take l ∧ l + n ≤ cap2 ∧ cap2 ≤ maxLen ∧ Below w.heap.size w w' := Any.bytes_growSlice_row Tryz.laysM290 g l c n cur w hg hcs hlc hn hlim hc2 h1
open Go.RowKit in
/-- .. OF THE NIL SLICE: a new row with room for n. (LAID: no walk: one application.) -/
theorem Tryz.bytes_growSlice_nil (n : Nat) (w : World) (hn : 1 ≤ n) (hlim : n ≤ 140737488355328) :
    Calls Tryz.prog 147 #[.slice none 0 0, .int .i64 n] w fun e w' => ∃ cap2 cells, e = .returned (.slice (some ⟨w.heap.size, 0, none⟩) 0 cap2) ∧ w'.heap[w.heap.size]? = some (.cells cells 5 (0, 0)) ∧
      cells.size = cap2 ∧ n ≤ cap2 ∧ cap2 ≤ maxLen ∧ Below w.heap.size w w' := Any.bytes_growSlice_nil Tryz.laysM290 n w hn hlim
def Tryz.keys82_ren : Go.Shelf.Ren := ⟨fun | 7 => 82 | 10 => 109 | n => n, fun | 23 => 37 | 26 => 9 | 3 => 102 | 28 => 147 | 0 => 0 | 27 => 146 | 33 => 98 | 4 => 4 | n => n, fun | n => n⟩
theorem Tryz.keys82 : Go.Proofs.SlLaysZ.n7 Tryz.prog Tryz.keys82_ren := {
  mixed := by kernel_rfl
  f7 := ⟨Tryz.f82.name, by decide, Tryz.func82.trans (congrArg some (by kernel_rfl))⟩
  f10 := ⟨Tryz.f109.name, by decide, Tryz.func109.trans (congrArg some (by kernel_rfl))⟩
  t0 := Tryz.underlying0
  a0 := Tryz.isAgg0
  z0 := Tryz.sizeOf0
  v0 := Tryz.zeroValue0
  t4 := Tryz.underlying4
  a4 := Tryz.isAgg4
  z4 := Tryz.sizeOf4
  v4 := Tryz.zeroValue4
  t23 := Tryz.underlying37
  a23 := Tryz.isAgg37
  z23 := Tryz.sizeOf37
  v23 := Tryz.zeroValue37
  t26 := Tryz.underlying9
  a26 := Tryz.isAgg9
  z26 := Tryz.sizeOf9
  v26 := Tryz.zeroValue9
  t27 := Tryz.underlying146
  a27 := Tryz.isAgg146
  z27 := Tryz.sizeOf146
  v27 := Tryz.zeroValue146
  t28 := Tryz.underlying147
  a28 := Tryz.isAgg147
  z28 := Tryz.sizeOf147
  v28 := Tryz.zeroValue147
  t33 := Tryz.underlying98
  a33 := Tryz.isAgg98
  z33 := Tryz.sizeOf98
  v33 := Tryz.zeroValue98 }
def Tryz.sorted81_ren : Go.Shelf.Ren := ⟨fun | 6 => 81 | 8 => 107 | 9 => 108 | 11 => 132 | 13 => 134 | 12 => 133 | 23 => 166 | 24 => 167 | 14 => 157 | 15 => 158 | 16 => 159 | 17 => 160 | 18 => 161 | 19 => 162 | 20 => 163 | 21 => 164 | 22 => 165 | 25 => 185 | 26 => 186 | 27 => 187 | 28 => 188 | 29 => 189 | 30 => 190 | 31 => 199 | n => n, fun | 26 => 9 | 28 => 147 | 24 => 83 | 0 => 0 | 3 => 3 | 37 => 176 | 48 => 175 | 50 => 217 | 4 => 4 | 40 => 228 | 39 => 227 | 45 => 193 | 5 => 5 | 9 => 9 | 51 => 247 | 55 => 251 | 57 => 263 | 58 => 264 | 33 => 98 | n => n, fun | n => n⟩
theorem Tryz.sorted81 : Go.Proofs.SlLaysZ.n6 Tryz.prog Tryz.sorted81_ren := {
  mixed := by kernel_rfl
  f6 := ⟨Tryz.f81.name, by decide, Tryz.func81.trans (congrArg some (by kernel_rfl))⟩
  f8 := ⟨Tryz.f107.name, by decide, Tryz.func107.trans (congrArg some (by kernel_rfl))⟩
  f11 := ⟨Tryz.f132.name, by decide, Tryz.func132.trans (congrArg some (by kernel_rfl))⟩
  t0 := Tryz.underlying0
  a0 := Tryz.isAgg0
  z0 := Tryz.sizeOf0
  v0 := Tryz.zeroValue0
  t24 := Tryz.underlying83
  a24 := Tryz.isAgg83
  z24 := Tryz.sizeOf83
  v24 := Tryz.zeroValue83
  t26 := Tryz.underlying9
  a26 := Tryz.isAgg9
  z26 := Tryz.sizeOf9
  v26 := Tryz.zeroValue9
  t28 := Tryz.underlying147
  a28 := Tryz.isAgg147
  z28 := Tryz.sizeOf147
  v28 := Tryz.zeroValue147
  i26 := by kernel_rfl }
def Tryz.sort108_ren : Go.Shelf.Ren := ⟨fun | 6 => 108 | 8 => 134 | 9 => 133 | 19 => 166 | 20 => 167 | 21 => 157 | 22 => 158 | 23 => 159 | 24 => 160 | 25 => 161 | 26 => 162 | 27 => 163 | 28 => 164 | 29 => 165 | 36 => 185 | 31 => 186 | 32 => 187 | 37 => 188 | 38 => 189 | 39 => 190 | 41 => 199 | n => n, fun | 27 => 83 | 29 => 9 | 3 => 3 | 32 => 176 | 26 => 83 | 0 => 0 | 44 => 175 | 46 => 217 | 4 => 4 | 36 => 228 | 35 => 227 | 41 => 193 | 5 => 5 | 9 => 9 | 53 => 247 | 57 => 251 | 63 => 263 | 64 => 264 | n => n, fun | n => n⟩
theorem Tryz.sort108 : Go.Proofs.SlLaysM.n6 Tryz.prog Tryz.sort108_ren := {
  mixed := by kernel_rfl
  f6 := ⟨Tryz.f108.name, by decide, Tryz.func108.trans (congrArg some (by kernel_rfl))⟩
  f8 := Tryz.func134.trans (congrArg some (by kernel_rfl))
  f9 := ⟨Tryz.f133.name, by decide, Tryz.func133.trans (congrArg some (by kernel_rfl))⟩
  f19 := Tryz.func166.trans (congrArg some (by kernel_rfl))
  f20 := Tryz.func167.trans (congrArg some (by kernel_rfl))
  f21 := ⟨Tryz.f157.name, by decide, Tryz.func157.trans (congrArg some (by kernel_rfl))⟩
  f22 := ⟨Tryz.f158.name, by decide, Tryz.func158.trans (congrArg some (by kernel_rfl))⟩
  f23 := ⟨Tryz.f159.name, by decide, Tryz.func159.trans (congrArg some (by kernel_rfl))⟩
  f24 := ⟨Tryz.f160.name, by decide, Tryz.func160.trans (congrArg some (by kernel_rfl))⟩
  f25 := ⟨Tryz.f161.name, by decide, Tryz.func161.trans (congrArg some (by kernel_rfl))⟩
  f26 := ⟨Tryz.f162.name, by decide, Tryz.func162.trans (congrArg some (by kernel_rfl))⟩
  f27 := ⟨Tryz.f163.name, by decide, Tryz.func163.trans (congrArg some (by kernel_rfl))⟩
  f28 := ⟨Tryz.f164.name, by decide, Tryz.func164.trans (congrArg some (by kernel_rfl))⟩
  f29 := ⟨Tryz.f165.name, by decide, Tryz.func165.trans (congrArg some (by kernel_rfl))⟩
  f31 := Tryz.func186.trans (congrArg some (by kernel_rfl))
  f32 := Tryz.func187.trans (congrArg some (by kernel_rfl))
  f36 := ⟨Tryz.f185.name, by decide, Tryz.func185.trans (congrArg some (by kernel_rfl))⟩
  f37 := ⟨Tryz.f188.name, by decide, Tryz.func188.trans (congrArg some (by kernel_rfl))⟩
  f38 := ⟨Tryz.f189.name, by decide, Tryz.func189.trans (congrArg some (by kernel_rfl))⟩
  f39 := ⟨Tryz.f190.name, by decide, Tryz.func190.trans (congrArg some (by kernel_rfl))⟩
  f41 := ⟨Tryz.f199.name, by decide, Tryz.func199.trans (congrArg some (by kernel_rfl))⟩
  t0 := Tryz.underlying0
  a0 := Tryz.isAgg0
  z0 := Tryz.sizeOf0
  v0 := Tryz.zeroValue0
  t3 := Tryz.underlying3
  a3 := Tryz.isAgg3
  z3 := Tryz.sizeOf3
  v3 := Tryz.zeroValue3
  t4 := Tryz.underlying4
  a4 := Tryz.isAgg4
  z4 := Tryz.sizeOf4
  v4 := Tryz.zeroValue4
  t5 := Tryz.underlying5
  a5 := Tryz.isAgg5
  z5 := Tryz.sizeOf5
  v5 := Tryz.zeroValue5
  t9 := Tryz.underlying9
  a9 := Tryz.isAgg9
  z9 := Tryz.sizeOf9
  v9 := Tryz.zeroValue9
  t26 := Tryz.underlying83
  a26 := Tryz.isAgg83
  z26 := Tryz.sizeOf83
  v26 := Tryz.zeroValue83
  t27 := Tryz.underlying83
  a27 := Tryz.isAgg83
  z27 := Tryz.sizeOf83
  v27 := Tryz.zeroValue83
  t29 := Tryz.underlying9
  a29 := Tryz.isAgg9
  z29 := Tryz.sizeOf9
  v29 := Tryz.zeroValue9
  t32 := Tryz.underlying176
  a32 := Tryz.isAgg176
  z32 := Tryz.sizeOf176
  v32 := Tryz.zeroValue176
  t35 := Tryz.underlying227
  a35 := Tryz.isAgg227
  z35 := Tryz.sizeOf227
  v35 := Tryz.zeroValue227
  t36 := Tryz.underlying228
  a36 := Tryz.isAgg228
  z36 := Tryz.sizeOf228
  v36 := Tryz.zeroValue228
  t41 := Tryz.underlying193
  a41 := Tryz.isAgg193
  z41 := Tryz.sizeOf193
  v41 := Tryz.zeroValue193
  t44 := Tryz.underlying175
  a44 := Tryz.isAgg175
  z44 := Tryz.sizeOf175
  v44 := Tryz.zeroValue175
  t46 := Tryz.underlying217
  a46 := Tryz.isAgg217
  z46 := Tryz.sizeOf217
  v46 := Tryz.zeroValue217
  t53 := Tryz.underlying247
  a53 := Tryz.isAgg247
  z53 := Tryz.sizeOf247
  v53 := Tryz.zeroValue247
  t57 := Tryz.underlying251
  a57 := Tryz.isAgg251
  z57 := Tryz.sizeOf251
  v57 := Tryz.zeroValue251
  t63 := Tryz.underlying263
  a63 := Tryz.isAgg263
  z63 := Tryz.sizeOf263
  v63 := Tryz.zeroValue263
  t64 := Tryz.underlying264
  a64 := Tryz.isAgg264
  z64 := Tryz.sizeOf264
  v64 := Tryz.zeroValue264 }
open Go.RowKit Go.Maps Go.Sort in
theorem Tryz.sorts81 (m : Nat) : AnyZ.SortsIn Tryz.prog Tryz.sorted81_ren Fence.wide m :=
  ⟨fun blk off cap ss W hH hblk hsz => callsIn_wide.2 (AnyM.slices_Sort_string Tryz.sort108 blk off cap ss W hH hblk hsz),
   fun p cap W => callsIn_wide.2 (AnyM.slices_Sort_string_none Tryz.sort108 p cap W)⟩
open Go.RowKit Go.Maps Go.Sort in
theorem Tryz.maps_Keys_82 (mb : Option Nat) (W : World) : CallsIn Fence.wide 5 Tryz.prog 82 #[.map mb] W fun e w' => e = .returned (.func (.func 109) #[] #[.pointer (some ⟨W.heap.size, 0, none⟩)]) ∧ w' = W.alloc (.cells #[.map mb] 37) :=
  AnyZ.keys_in Tryz.keys82 Fence.wide 5 trivial rfl mb W
end Go.Proofs

/- The buffer of a writer: bytes are written behind others. -/
namespace Go.Proofs.YtfobjidchipdaaaGreatDoor.Wi
open Go Go.Proofs.YtfobjidchipdaaaGreatDoor.SL Go.Proofs.YtfobjidchipdaaaGreatDoor.G Go.Proofs.YtfobjidchipdaaaGreatDoor.Zt
set_option linter.unusedSimpArgs false
set_option linter.unusedVariables false
variable {B : World} {ro σ σ' : AH} {tag tag' : Nat → Nat}
theorem vU_one (d : Str) : ∀ v ∈ d.map vU, v.oneCell' = true := fun v hv => by
  obtain ⟨c, _, rfl⟩ := List.mem_map.1 hv; rfl
theorem vU_st (d : Str) : ∀ v ∈ d.map vU, storable v = true := fun v hv => by
  obtain ⟨c, _, rfl⟩ := List.mem_map.1 hv; rfl

theorem growSlice_ok {q n : Nat} {s : Sl} {l : List Value} {Q : Sl → AH → Prop} (h : Row tag σ q 5 s l) (hn : 1 ≤ n) (hl : l.length + n ≤ 140737488355328) (hc : s.cap ≤ 140737488355328) (h1 : ∀ v ∈ l, v.oneCell' = true)
    (hQ : ∀ s' tag' σ', (∀ R, Step R ro tag σ tag' σ') → Row tag' σ' q 5 s' l → l.length + n ≤ s'.cap → s'.cap ≤ 9223372036854775807 → Q s' σ') : c_bytes_growSlice B ro s (n : Int) σ Q := by
  refine ACalls.of_calls fun w hw hsep => ?_
  rcases h with ⟨rfl, rfl⟩ | ⟨b, cs, ha, htg, hbk, hln, hcp, hle, hg⟩
  · refine (Tryz.bytes_growSlice_nil n w hn (by simpa using hl)).mono ?_
    rintro e w' ⟨cap2, cells, he, hw', hsz, hroom, hmx, hb⟩
    obtain ⟨N, tag', hN, hst, hrow⟩ := new_row (tag := tag) q hw hsep (Nat.le_refl _) hw'
    exact ⟨_, N, he, hb, hN, ⟨some ⟨w.heap.size, 0, none⟩, 0, cap2⟩, rfl, hQ _ tag' _ hst (hrow 0 cap2 [] rfl hsz.symm (Nat.zero_le _) (by simp)) (by simpa using hroom) (by simpa [maxLen] using hmx)⟩
  · have hcur : w.heap[b]? = some (.cells cs 5 (0, 0)) := hw b _ (by unfold rd; rw [hsep b _ hbk]; exact hbk)
    have htake : cs.toList.take s.len = l := by
      apply List.ext_getElem?
      intro i
      rw [List.getElem?_take]
      split
      · rw [Array.getElem?_toList]; exact hg i (by omega)
      · rw [List.getElem?_eq_none (by omega)]
    have := Tryz.bytes_growSlice_row b s.len s.cap n cs w hcur hcp.symm hle hn (by rw [hln]; exact hl) hc (by rw [htake]; exact h1)
    unfold Sl.v
    rw [ha]
    refine this.mono ?_
    rintro e w' ⟨cap2, cells, he, hw', hsz, htk, hroom, hmx, hb⟩
    obtain ⟨N, tag', hN, hst, hrow⟩ := new_row (tag := tag) q hw hsep (Nat.le_refl _) hw'
    exact ⟨_, N, he, hb, hN, ⟨some ⟨w.heap.size, 0, none⟩, s.len, cap2⟩, rfl, hQ _ tag' _ hst (hrow s.len cap2 l hln hsz.symm (by omega) (by rw [htk, htake])) (by simp only; omega) (by simpa [maxLen] using hmx)⟩

/-- a buffer (and the mark behind it) at W, of the role r; its bytes lie in a row of the role r + 64 -/
def BufV (tag : Nat → Nat) (σ : AH) (r W : Nat) (s : Sl) (l : List Value) (bad : Bool) : Prop :=
  s.cap ≤ 9223372036854775807 ∧ ∃ lr : Int, Row tag σ r 167 ⟨some ⟨W, 0, none⟩, 4, 4⟩ [Sl.v s, .int .i64 0, .int .i8 lr, .bool bad] ∧ Row tag σ (r + 64) 5 s l
def BufAt (tag : Nat → Nat) (σ : AH) (r W : Nat) (acc : Str) (bad : Bool) : Prop := ∃ s, BufV tag σ r W s (acc.map vU) bad
theorem BufV.keep {R : List Nat} {r W : Nat} {s : Sl} {l : List Value} {bad : Bool} (h : BufV tag σ r W s l bad) (k : Step R ro tag σ tag' σ') (h1 : r ∉ R) (h2 : r + 64 ∉ R) : BufV tag' σ' r W s l bad := by
  obtain ⟨hc, lr, a, b⟩ := h
  exact ⟨hc, lr, a.keep k h1, b.keep k h2⟩
theorem BufAt.keep {R : List Nat} {r W : Nat} {acc : Str} {bad : Bool} (h : BufAt tag σ r W acc bad) (k : Step R ro tag σ tag' σ') (h1 : r ∉ R) (h2 : r + 64 ∉ R) : BufAt tag' σ' r W acc bad := by
  obtain ⟨s, h⟩ := h
  exact ⟨s, h.keep k h1 h2⟩

set_option maxRecDepth 100000 in
theorem tryGrow_ok {r W n : Nat} {s : Sl} {l : List Value} {bad : Bool} {Q : Int → Bool → AH → Prop} (h : BufV tag σ r W s l bad) (hs : SL.Sep ro σ) (hl : l.length + n ≤ 140737488355328)
    (hyes : l.length + n ≤ s.cap → ∀ s' xs σ', Step [r] ro tag σ tag σ' → xs.length = n → BufV tag σ' r W s' (l ++ xs) bad → Q l.length true σ') (hno : s.cap < l.length + n → Q 0 false σ) :
    c_bytes_Buffer_tryGrowByReslice B ro (some ⟨W, 0, none⟩) (n : Int) σ Q := by
  refine bytes_Buffer_tryGrowByReslice_ok fun _ => ?_
  unfold f_bytes_Buffer_tryGrowByReslice
  obtain ⟨hcap, lr, h1, h2⟩ := h
  obtain ⟨p, hp, hg⟩ := h1.ptr hs (by simp)
  cases hp
  have hln := h2.len
  have hc := h2.capAt
  refine ⟨_, rfl, s, hg 0 _ rfl, _, rfl, s, hg 0 _ rfl, ?_⟩
  refine awp_cap u30 ⟨_, rfl, ?_⟩
  rw [w64_eq (by omega) (by omega)]
  by_cases hroom : l.length + n ≤ s.cap
  · rw [if_pos (by omega)]
    have e : (⟨cutA s.a 0 s.cap 1, Int.toNat (IntKind.i64.wrap ((s.len : Int) + (n : Int))) - 0, s.cap - 0⟩ : Sl) = ⟨s.a, l.length + n, s.cap⟩ := by
      rw [cutA_zero, hln, w64_eq (by omega) (by omega)]
      simp only [Nat.sub_zero, Sl.mk.injEq, true_and, and_true]; omega
    refine ⟨_, rfl, s, hg 0 _ rfl, ⟨?_, trivial⟩, _, rfl, ?_⟩
    · simp only
      rw [w64_eq (by omega) (by omega)]; omega
    rw [e, hln]
    refine h1.st (i := 0) hs rfl (by simp) rfl fun σ2 st2 r2 => ?_
    obtain ⟨xs, hx, h3⟩ := h2.more hroom
    exact hyes hroom ⟨s.a, l.length + n, s.cap⟩ xs σ2 st2 hx ⟨hcap, lr, r2, h3.keep st2 (by simp)⟩
  · rw [if_neg (by omega)]
    exact hno (by omega)

set_option maxRecDepth 100000 in
theorem grow_ok {r W n : Nat} {s : Sl} {l : List Value} {bad : Bool} {Q : Int → AH → Prop} (h : BufV tag σ r W s l bad) (hs : SL.Sep ro σ) (hl : l.length + n ≤ 140737488355328) (hfull : s.cap < l.length + n) (h1c : ∀ v ∈ l, v.oneCell' = true)
    (hQ : ∀ s' xs tag' σ', Step [r, r + 64] ro tag σ tag' σ' → xs.length = n → BufV tag' σ' r W s' (l ++ xs) bad → Q l.length σ') :
    c_bytes_Buffer_grow B ro (some ⟨W, 0, none⟩) (n : Int) σ Q := by
  refine bytes_Buffer_grow_ok fun _ => ?_
  unfold f_bytes_Buffer_grow
  obtain ⟨hcap, lr, h1, h2⟩ := id h
  obtain ⟨p, hp, hg⟩ := h1.ptr hs (by simp)
  cases hp
  have hln := h2.len
  have hc := h2.capAt
  refine bytes_Buffer_Len_ok fun _ => ?_
  unfold f_bytes_Buffer_Len
  refine ⟨_, rfl, _, rfl, s, hg 0 _ rfl, 0, hg 1 _ rfl, ?_⟩
  rw [Int.sub_zero, w64_eq (by omega) (by omega), hln]
  dsimp only
  suffices hj : j2_bytes_Buffer_grow B ro (some ⟨W, 0, none⟩) (n : Int) (l.length : Int) Q σ by
    by_cases h0 : (l.length : Int) = 0
    · rw [if_pos h0]
      refine ⟨_, rfl, 0, hg 1 _ rfl, ?_⟩
      unfold j32_bytes_Buffer_grow
      rw [if_neg (by decide)]
      exact hj
    · rw [if_neg h0]
      unfold j32_bytes_Buffer_grow
      rw [if_neg (by decide)]
      exact hj
  unfold j2_bytes_Buffer_grow
  refine tryGrow_ok h hs hl (fun hroom => absurd hroom (by omega)) fun _ => ?_
  rw [if_neg (by decide)]
  refine ⟨_, rfl, s, hg 0 _ rfl, ?_⟩
  by_cases hsmall : s.a = none ∧ (n : Int) ≤ 64
  · rw [if_pos hsmall]
    have hnil : s = ⟨none, 0, 0⟩ ∧ l = [] := by
      rcases h2 with h | ⟨b, cs, ha, _⟩
      · exact h
      · rw [hsmall.1] at ha; cases ha
    obtain ⟨rfl, rfl⟩ := hnil
    have hn64 := hsmall.2
    refine ⟨⟨by omega, hn64, by decide, by decide⟩, ?_⟩
    refine nw_row (tag := tag) (r + 64) (zv := .int .u8 0) (n := 64) hs rfl fun x tag1 σ1 st1 r1 => ?_
    refine ⟨_, rfl, ?_⟩
    have r1' : Row tag1 σ1 (r + 64) 5 ⟨some ⟨x, 0, none⟩, n, 64⟩ ([] ++ (List.replicate 64 (Value.int .u8 0)).take n) := r1.take (n := n) (by simp; omega)
    have hx64 : (64 : Nat) ≤ 9223372036854775807 := by decide
    rw [Int.toNat_natCast]
    refine (h1.keep (st1 []) (by simp)).st (i := 0) (st1 []).sep rfl (by simp) rfl fun σ2 st2 r2 => ?_
    refine hQ ⟨some ⟨x, 0, none⟩, n, 64⟩ ((List.replicate 64 (Value.int .u8 0)).take n) tag1 σ2 (((st1 _).trans (st2.mono (by simp)))) (by simp; omega) ⟨hx64, lr, r2, r1'.keep st2 (by simp)⟩
  · rw [if_neg hsmall]
    refine ⟨_, rfl, s, hg 0 _ rfl, ?_⟩
    refine awp_cap u30 ⟨_, rfl, ?_⟩
    have hd : Int.tdiv (s.cap : Int) 2 = ((s.cap / 2 : Nat) : Int) := by
      rw [Int.tdiv_eq_ediv_of_nonneg (by omega)]; omega
    rw [hd, w64_eq (n := ((s.cap / 2 : Nat) : Int)) (by omega) (by omega), w64_eq (n := ((s.cap / 2 : Nat) : Int) - (l.length : Int)) (by omega) (by omega), if_neg (by omega), w64_eq (n := 9223372036854775807 - (s.cap : Int)) (by omega) (by omega), w64_eq (n := 9223372036854775807 - (s.cap : Int) - (n : Int)) (by omega) (by omega), if_neg (by omega)]
    refine ⟨_, rfl, _, rfl, _, rfl, s, hg 0 _ rfl, 0, hg 1 _ rfl, ?_, 0, hg 1 _ rfl, ?_⟩
    · exact ⟨trivial, by decide, by simp only [cutHi]; omega⟩
    rw [Int.zero_add, w64_eq (by omega) (by omega), show (⟨cutA s.a (Int.toNat 0) s.cap 1, s.len - Int.toNat 0, s.cap - Int.toNat 0⟩ : Sl) = s from by rw [show Int.toNat 0 = 0 from rfl, cutA_zero]; rfl]
    refine growSlice_ok h2 (by omega) hl (by omega) h1c fun s1 tag1 σ1 st1 r1 hc1 hc2 => ?_
    refine ⟨_, rfl, ?_⟩
    refine (h1.keep (st1 []) (by simp)).st (i := 0) (st1 []).sep rfl (by simp) rfl fun σ2 st2 r2 => ?_
    unfold j12_bytes_Buffer_grow
    refine ⟨_, rfl, ?_⟩
    refine r2.st (i := 1) st2.sep rfl (by simp) rfl fun σ3 st3 r3 => ?_
    obtain ⟨p3, hp3, hg3⟩ := r3.ptr st3.sep (by simp)
    cases hp3
    have e : (⟨cutA s1.a 0 s1.cap 1, Int.toNat (IntKind.i64.wrap ((l.length : Int) + (n : Int))) - 0, s1.cap - 0⟩ : Sl) = ⟨s1.a, l.length + n, s1.cap⟩ := by
      rw [cutA_zero, w64_eq (by omega) (by omega)]
      simp only [Nat.sub_zero, Sl.mk.injEq, true_and, and_true]; omega
    refine ⟨_, rfl, s1, hg3 0 _ rfl, ⟨?_, trivial⟩, _, rfl, ?_⟩
    · simp only
      rw [w64_eq (by omega) (by omega)]; omega
    rw [e]
    refine r3.st (i := 0) st3.sep rfl (by simp) rfl fun σ4 st4 r4 => ?_
    obtain ⟨xs, hx, r5⟩ := r1.more (n := n) hc1
    refine hQ ⟨s1.a, l.length + n, s1.cap⟩ xs tag1 σ4 ((st1 _).trans ((st2.mono (by simp)).trans ((st3.mono (by simp)).trans (st4.mono (by simp))))) hx ⟨hc2, lr, r4, ((r5.keep st2 (by simp)).keep st3 (by simp)).keep st4 (by simp)⟩

theorem ty5' : TyIs Tryz.prog 5 (.int .u8 0) 1 1 := TyIs.of (by kernel_rfl)
set_option maxRecDepth 100000 in
/-- the end of a write: the copy -/
theorem bufCopy {r W : Nat} {s : Sl} {acc d : Str} {xs : List Value} {bad : Bool} {x : Value} {t2 : TypeId} {Q : Int → AH → Prop} (h : BufV tag σ r W s (acc.map vU ++ xs) bad) (hs : SL.Sep ro σ) (hx : xs.length = d.length) (hsrc : Src Tryz.prog ro σ x (d.map vU))
    (hQ : ∀ n σ', Step [r + 64] ro tag σ tag σ' → BufAt tag σ' r W (acc ++ d) bad → Q n σ') :
    ∃ p25_6 : Addr, (some ⟨W, 0, none⟩ : Option Addr) = some p25_6 ∧ ∃ (x27_7 : Sl), acell ro σ p25_6 = some (Sl.v x27_7) ∧ cutOk (some (acc.length : Int)) none x27_7.len x27_7.cap ∧
      awp Tryz.prog ro (Builtin.copy_ #[22, t2] 3 #[Sl.v (⟨cutA x27_7.a (Int.toNat (acc.length : Int)) x27_7.cap 1, x27_7.len - Int.toNat (acc.length : Int), x27_7.cap - Int.toNat (acc.length : Int)⟩ : Sl), x]) (fun v σ => ∃ (x31_8 : Int), v = .int .i64 x31_8 ∧ Q x31_8 σ) σ := by
  obtain ⟨hcap, lr, h1, h2⟩ := h
  obtain ⟨p, hp, hg⟩ := h1.ptr hs (by simp)
  cases hp
  have hln := h2.len
  simp only [List.length_append, List.length_map] at hln
  refine ⟨_, rfl, s, hg 0 _ rfl, ⟨trivial, by omega, by simp only [cutHi]; omega⟩, ?_⟩
  rw [Int.toNat_natCast]
  refine awp_copyTail h2 hs u30 ty5' hsrc (by simp; omega) (vU_st d) fun σ1 st1 r1 => ?_
  refine ⟨_, rfl, hQ _ σ1 st1 ⟨s, hcap, lr, h1.keep st1 (by simp), ?_⟩⟩
  rw [List.take_left' (by simp)] at r1
  rw [List.map_append]; exact r1
set_option maxRecDepth 100000 in
theorem bufWrite_ok {r W : Nat} {acc d : Str} {s : Sl} {bad : Bool} {Q : Int → Value → AH → Prop} (h : BufAt tag σ r W acc bad) (hs : SL.Sep ro σ) (hl : acc.length + d.length ≤ 140737488355328) (hd : s.len = d.length)
    (hsrc : ∀ tag' σ', Step [r, r + 64] ro tag σ tag' σ' → SL.Read ro σ' s (d.map vU)) (hQ : ∀ n v tag' σ', Step [r, r + 64] ro tag σ tag' σ' → BufAt tag' σ' r W (acc ++ d) bad → Q n v σ') :
    c_bytes_Buffer_Write B ro (some ⟨W, 0, none⟩) s σ Q := by
  refine bytes_Buffer_Write_ok fun _ => ?_
  unfold f_bytes_Buffer_Write
  obtain ⟨s0, hcap, lr, h1, h2⟩ := h
  refine ⟨_, rfl, ?_⟩
  refine h1.st (i := 2) hs rfl (by simp) rfl fun σ1 st1 r1 => ?_
  have hb : BufV tag σ1 r W s0 (acc.map vU) bad := ⟨hcap, 0, r1, h2.keep st1 (by simp)⟩
  rw [hd]
  refine tryGrow_ok hb st1.sep (by simpa using hl) (fun hroom s2 xs σ2 st2 hx hb2 => ?_) fun hno => ?_
  · rw [if_neg (by simp)]
    unfold j4_bytes_Buffer_Write
    have st12 : Step [r, r + 64] ro tag σ tag σ2 := (st1.mono (by simp)).trans (st2.mono (by simp))
    rw [List.length_map]
    exact bufCopy (t2 := 22) (Q := fun n σ => Q n .nilIface σ) hb2 st2.sep hx (hsrc _ _ st12).src fun n σ3 st3 h3 => hQ n _ tag σ3 (st12.trans (st3.mono (by simp))) h3
  · rw [if_pos (by simp)]
    refine grow_ok hb st1.sep (by simpa using hl) hno (vU_one acc) fun s2 xs tag2 σ2 st2 hx hb2 => ?_
    unfold j4_bytes_Buffer_Write
    have st12 : Step [r, r + 64] ro tag σ tag2 σ2 := (st1.mono (by simp)).trans st2
    rw [List.length_map]
    exact bufCopy (t2 := 22) (Q := fun n σ => Q n .nilIface σ) hb2 st2.sep hx (hsrc _ _ st12).src fun n σ3 st3 h3 => hQ n _ tag2 σ3 (st12.trans (st3.mono (by simp))) h3
end Go.Proofs.YtfobjidchipdaaaGreatDoor.Wi
