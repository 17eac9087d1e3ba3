/- Shelf, PaB, PaC, ZtG, PaD, PaE, PaF -/
import Derived.Shelf.Strings.Builder1
import Derived.Shelf.Strings.Builder2
import Derived.Shelf.Strings.BuilderF
import Derived.Shelf.Strconv.Itoa0
import Derived.Shelf.Strconv.Itoa1
import Derived.Shelf.LaysM
import Derived.Shelf.Strconv.Itoa2
import Derived.Shelf.Strconv.Itoa3
import Derived.Shelf.Bytes.GrowSliceCatch
import Derived.Shelf.Bytes.GrowSlice
import Derived.Shelf.Strings.Search1
import Derived.Shelf.Strings.Search2
import Derived.Shelf.Strings.Search3
import Derived.Shelf.Strings.Count
import Derived.Shelf.Strings.Shaped
import Derived.Shelf.Strings.Prefix
import Derived.Shelf.Strings.Split
import Derived.Shelf.Strings.SplitShaped
import Derived.Shelf.Unicode.Decode
import Derived.Shelf.Strings.RuneCount
import Derived.Shelf.Strings.Explode
import Derived.Shelf.Bits.Mul64
import Derived.Shelf.Strings.Repeat
import Derived.Shelf.Unicode.DecodeSlow
import Derived.Ground.SlgmProg
import Derived.Shelf.SortM.Plain
import Derived.Shelf.SortM.SortNone
import Derived.Shelf.SlIter.Nil
import Derived.Ground.GgzProg
import Derived.Laws.RangeString
import Derived.Test.YthfpmipeejjogaaGreatDoorProg
import Derived.Test.YthfpmipeejjogaaGreatDoorXD
set_option maxRecDepth 100000
set_option maxHeartbeats 4000000
set_option linter.unusedVariables false
set_option linter.unusedSimpArgs false
open Go.IntKind (i64)
open Go.Proofs.Tryz
namespace Go.Proofs
open Go.Shelf
def Tryz.laysM171_ren : Go.Shelf.Ren := ⟨fun | 171 => 117 | 243 => 139 | 246 => 153 | 283 => 173 | 284 => 174 | 285 => 175 | 286 => 176 | 129 => 171 | 317 => 189 | 318 => 190 | 319 => 191 | 320 => 192 | 337 => 199 | 338 => 200 | n => n, fun | 3 => 3 | 9 => 9 | 2 => 2 | 4 => 4 | 171 => 260 | 0 => 0 | 53 => 245 | 37 => 30 | 5 => 5 | 173 => 262 | 212 => 275 | 51 => 242 | 20 => 20 | 213 => 276 | 46 => 230 | 232 => 284 | 233 => 285 | n => n, fun | 17 => 2 | 18 => 5 | 19 => 6 | n => n⟩
theorem Tryz.laysM171 : Go.Proofs.LaysM.n171 prog Tryz.laysM171_ren := {
 mixed := by kernel_rfl
 f129 := func171.trans (congrArg some (by kernel_rfl))
 f171 := func117.trans (congrArg some (by kernel_rfl))
 f243 := func139.trans (congrArg some (by kernel_rfl))
 f246 := func153.trans (congrArg some (by kernel_rfl))
 f283 := func173.trans (congrArg some (by kernel_rfl))
 f284 := func174.trans (congrArg some (by kernel_rfl))
 f285 := func175.trans (congrArg some (by kernel_rfl))
 f286 := func176.trans (congrArg some (by kernel_rfl))
 f317 := func189.trans (congrArg some (by kernel_rfl))
 f318 := func190.trans (congrArg some (by kernel_rfl))
 f319 := func191.trans (congrArg some (by kernel_rfl))
 f320 := func192.trans (congrArg some (by kernel_rfl))
 f337 := func199.trans (congrArg some (by kernel_rfl))
 f338 := func200.trans (congrArg some (by kernel_rfl))
 t0 := underlying0
 a0 := isAgg0
 z0 := sizeOf0
 v0 := zeroValue0
 t2 := underlying2
 a2 := isAgg2
 z2 := sizeOf2
 v2 := zeroValue2
 t3 := underlying3
 a3 := isAgg3
 z3 := sizeOf3
 v3 := zeroValue3
 t4 := underlying4
 a4 := isAgg4
 z4 := sizeOf4
 v4 := zeroValue4
 t5 := underlying5
 a5 := isAgg5
 z5 := sizeOf5
 v5 := zeroValue5
 t9 := underlying9
 a9 := isAgg9
 z9 := sizeOf9
 v9 := zeroValue9
 t20 := underlying20
 a20 := isAgg20
 z20 := sizeOf20
 v20 := zeroValue20
 t37 := underlying30
 a37 := isAgg30
 z37 := sizeOf30
 v37 := zeroValue30
 t46 := underlying230
 a46 := isAgg230
 z46 := sizeOf230
 v46 := zeroValue230
 t51 := underlying242
 a51 := isAgg242
 z51 := sizeOf242
 v51 := zeroValue242
 t53 := underlying245
 a53 := isAgg245
 z53 := sizeOf245
 v53 := zeroValue245
 t171 := underlying260
 a171 := isAgg260
 z171 := sizeOf260
 v171 := zeroValue260
 t173 := underlying262
 a173 := isAgg262
 z173 := sizeOf262
 v173 := zeroValue262
 t212 := underlying275
 a212 := isAgg275
 z212 := sizeOf275
 v212 := zeroValue275
 t213 := underlying276
 a213 := isAgg276
 z213 := sizeOf276
 t232 := underlying284
 a232 := isAgg284
 z232 := sizeOf284
 v232 := zeroValue284
 t233 := underlying285
 a233 := isAgg285
 z233 := sizeOf285
 v233 := zeroValue285
 g17 := by kernel_rfl
 g18 := by kernel_rfl
 g19 := by kernel_rfl
 i0 := by kernel_rfl
 i2 := by kernel_rfl
 i3 := by kernel_rfl
 i4 := by kernel_rfl
 i5 := by kernel_rfl
 i9 := by kernel_rfl
 i20 := by kernel_rfl
 i37 := by kernel_rfl
 i46 := by kernel_rfl
 i51 := by kernel_rfl
 i53 := by kernel_rfl
 i171 := by kernel_rfl
 i173 := by kernel_rfl
 i212 := by kernel_rfl
 i232 := by kernel_rfl
 i233 := by kernel_rfl
 m17 := by kernel_rfl
 m18 := by kernel_rfl
 m19 := by kernel_rfl }
open Go.RowKit Go.Sort Go.Lib in
theorem Tryz.strconv_Itoa (n : Int) (h0 : -9223372036854775808 ≤ n) (h1 : n ≤ 9223372036854775807) (w : World) (htab : Lib.TabIs prog w "internal/strconv.uint64pow10" .u64 Lib.pow10Tab) :
  Calls prog 117 #[.int .i64 n] w fun e w' => e = .returned (.string ⟨(Lib.itoa n).toArray⟩) ∧ ∃ k os, w' = grow (w.drewN k) os := Any.strconv_Itoa Tryz.laysM171 n h0 h1 w htab
def Tryz.laysM290_ren : Go.Shelf.Ren := ⟨fun | 290 => 152 | 324 => 172 | n => n, fun | 37 => 30 | 3 => 3 | 0 => 0 | 4 => 4 | 20 => 20 | 75 => 205 | 5 => 5 | 80 => 149 | 9 => 9 | n => n, fun | 14 => 1 | n => n⟩
theorem Tryz.laysM290 : Go.Proofs.LaysM.n290 prog Tryz.laysM290_ren := {
 mixed := by kernel_rfl
 f290 := func152.trans (congrArg some (by kernel_rfl))
 f324 := func172.trans (congrArg some (by kernel_rfl))
 t0 := underlying0
 a0 := isAgg0
 z0 := sizeOf0
 v0 := zeroValue0
 t3 := underlying3
 a3 := isAgg3
 z3 := sizeOf3
 v3 := zeroValue3
 t4 := underlying4
 a4 := isAgg4
 z4 := sizeOf4
 v4 := zeroValue4
 t20 := underlying20
 a20 := isAgg20
 z20 := sizeOf20
 v20 := zeroValue20
 t37 := underlying30
 a37 := isAgg30
 z37 := sizeOf30
 v37 := zeroValue30
 t75 := underlying205
 a75 := isAgg205
 z75 := sizeOf205
 v75 := zeroValue205
 g14 := by kernel_rfl
 t5 := underlying5
 a5 := isAgg5
 z5 := sizeOf5
 v5 := zeroValue5
 t9 := underlying9
 a9 := isAgg9
 z9 := sizeOf9
 v9 := zeroValue9
 t80 := underlying149
 a80 := isAgg149
 z80 := sizeOf149
 v80 := zeroValue149
 i0 := by kernel_rfl
 i3 := by kernel_rfl
 i4 := by kernel_rfl
 i5 := by kernel_rfl
 i9 := by kernel_rfl
 i20 := by kernel_rfl
 i37 := by kernel_rfl
 i75 := by kernel_rfl
 i80 := by kernel_rfl
 m14 := by kernel_rfl }
open Go.RowKit in
theorem Tryz.bytes_growSlice_row (g l c n : Nat) (cur : Array Value) (w : World) (hg : w.heap[g]? = some (.cells cur 5 (0, 0))) (hcs : cur.size = c) (hlc : l ≤ c) (hn : 1 ≤ n) (hlim : l + n ≤ 140737488355328) (hc2 : c ≤ 140737488355328) (h1 : ∀ v ∈ cur.toList.take l, v.oneCell' = true) :
  Calls prog 152 #[.slice (some ⟨g, 0, none⟩) l c, .int .i64 n] w fun e w' => ∃ cap2 cells, e = .returned (.slice (some ⟨w.heap.size, 0, none⟩) l cap2) ∧ w'.heap[w.heap.size]? = some (.cells cells 5 (0, 0)) ∧
   cells.size = cap2 ∧ cells.toList.take l = cur.toList.take l ∧ l + n ≤ cap2 ∧ cap2 ≤ maxLen ∧ Below w.heap.size w w' := Any.bytes_growSlice_row Tryz.laysM290 g l c n cur w hg hcs hlc hn hlim hc2 h1
open Go.RowKit in
theorem Tryz.bytes_growSlice_nil (n : Nat) (w : World) (hn : 1 ≤ n) (hlim : n ≤ 140737488355328) :
  Calls prog 152 #[.slice none 0 0, .int .i64 n] w fun e w' => ∃ cap2 cells, e = .returned (.slice (some ⟨w.heap.size, 0, none⟩) 0 cap2) ∧ w'.heap[w.heap.size]? = some (.cells cells 5 (0, 0)) ∧
   cells.size = cap2 ∧ n ≤ cap2 ∧ cap2 ≤ maxLen ∧ Below w.heap.size w w' := Any.bytes_growSlice_nil Tryz.laysM290 n w hn hlim
def Tryz.lays146_ren : Go.Shelf.Ren := ⟨fun | 146 => 128 | 221 => 146 | 268 => 158 | 138 => 159 | 143 => 160 | 195 => 179 | 197 => 180 | 218 => 181 | 219 => 182 | 260 => 193 | 217 => 194 | 225 => 195 | 224 => 196 | 267 => 197 | 266 => 201 | 314 => 202 | n => n, fun | 9 => 9 | 31 => 25 | 3 => 3 | 4 => 4 | 0 => 0 | 105 => 266 | 21 => 21 | 5 => 5 | 46 => 230 | 119 => 279 | 139 => 282 | 138 => 281 | 146 => 243 | 51 => 242 | n => n, fun | 1 => 0 | 3 => 3 | 4 => 4 | n => n⟩
theorem Tryz.lays146 : Go.Proofs.Lays.n146 prog Tryz.lays146_ren := {
 mixed := by kernel_rfl
 f138 := func159.trans (congrArg some (by kernel_rfl))
 f143 := func160.trans (congrArg some (by kernel_rfl))
 f146 := func128.trans (congrArg some (by kernel_rfl))
 f195 := func179.trans (congrArg some (by kernel_rfl))
 f197 := func180.trans (congrArg some (by kernel_rfl))
 f217 := func194.trans (congrArg some (by kernel_rfl))
 f218 := func181.trans (congrArg some (by kernel_rfl))
 f219 := func182.trans (congrArg some (by kernel_rfl))
 f221 := func146.trans (congrArg some (by kernel_rfl))
 f224 := func196.trans (congrArg some (by kernel_rfl))
 f225 := func195.trans (congrArg some (by kernel_rfl))
 f260 := func193.trans (congrArg some (by kernel_rfl))
 f266 := func201.trans (congrArg some (by kernel_rfl))
 f267 := func197.trans (congrArg some (by kernel_rfl))
 f268 := func158.trans (congrArg some (by kernel_rfl))
 f314 := func202.trans (congrArg some (by kernel_rfl))
 t0 := underlying0
 a0 := isAgg0
 z0 := sizeOf0
 v0 := zeroValue0
 t3 := underlying3
 a3 := isAgg3
 z3 := sizeOf3
 v3 := zeroValue3
 t4 := underlying4
 a4 := isAgg4
 z4 := sizeOf4
 v4 := zeroValue4
 t5 := underlying5
 a5 := isAgg5
 z5 := sizeOf5
 v5 := zeroValue5
 t9 := underlying9
 a9 := isAgg9
 z9 := sizeOf9
 v9 := zeroValue9
 t21 := underlying21
 a21 := isAgg21
 z21 := sizeOf21
 v21 := zeroValue21
 t31 := underlying25
 a31 := isAgg25
 z31 := sizeOf25
 v31 := zeroValue25
 t46 := underlying230
 a46 := isAgg230
 z46 := sizeOf230
 v46 := zeroValue230
 t51 := underlying242
 a51 := isAgg242
 z51 := sizeOf242
 v51 := zeroValue242
 t105 := underlying266
 a105 := isAgg266
 z105 := sizeOf266
 v105 := zeroValue266
 t119 := underlying279
 a119 := isAgg279
 z119 := sizeOf279
 t138 := underlying281
 a138 := isAgg281
 z138 := sizeOf281
 v138 := zeroValue281
 t139 := underlying282
 a139 := isAgg282
 z139 := sizeOf282
 v139 := zeroValue282
 t146 := underlying243
 a146 := isAgg243
 z146 := sizeOf243
 v146 := zeroValue243
 g1 := by kernel_rfl
 g3 := by kernel_rfl
 g4 := by kernel_rfl }
open Go.RowKit Go.Lib in
theorem Tryz.strings_Split (s sep : ByteArray) (m : Int) (w : World) (hs : s.size < 4294967281) (hm : w.cell? ⟨0, 0, none⟩ = some (.int .i64 m)) (h1 : 1 ≤ sep.size) :
  Calls prog 128 #[.string s, .string sep] w fun e w' =>
   e = .returned (.slice (some ⟨w.heap.size, 0, none⟩) (Lib.countB s sep + 1) (Lib.countB s sep + 1)) ∧ w' = w.alloc (.cells ((Lib.splitB sep 0 (Lib.countB s sep) s).map Value.string).toArray 9) := Any.strings_Split Tryz.lays146 (by kernel_rfl) s sep m w hs hm h1
def Tryz.laysM146_ren : Go.Shelf.Ren := ⟨fun | 146 => 128 | 221 => 146 | 268 => 158 | 138 => 159 | 143 => 160 | 195 => 179 | 197 => 180 | 218 => 181 | 219 => 182 | 260 => 193 | 217 => 194 | 225 => 195 | 224 => 196 | 267 => 197 | 266 => 201 | 314 => 202 | n => n, fun | 9 => 9 | 31 => 25 | 3 => 3 | 4 => 4 | 0 => 0 | 105 => 266 | 21 => 21 | 5 => 5 | 46 => 230 | 119 => 279 | 139 => 282 | 138 => 281 | 146 => 243 | 51 => 242 | n => n, fun | 1 => 0 | 3 => 3 | 4 => 4 | n => n⟩
theorem Tryz.laysM146 : Go.Proofs.LaysM.n146 prog Tryz.laysM146_ren := {
 mixed := by kernel_rfl
 f138 := func159.trans (congrArg some (by kernel_rfl))
 f143 := func160.trans (congrArg some (by kernel_rfl))
 f146 := func128.trans (congrArg some (by kernel_rfl))
 f195 := func179.trans (congrArg some (by kernel_rfl))
 f197 := func180.trans (congrArg some (by kernel_rfl))
 f217 := func194.trans (congrArg some (by kernel_rfl))
 f218 := func181.trans (congrArg some (by kernel_rfl))
 f219 := func182.trans (congrArg some (by kernel_rfl))
 f221 := func146.trans (congrArg some (by kernel_rfl))
 f224 := func196.trans (congrArg some (by kernel_rfl))
 f225 := func195.trans (congrArg some (by kernel_rfl))
 f260 := func193.trans (congrArg some (by kernel_rfl))
 f266 := func201.trans (congrArg some (by kernel_rfl))
 f267 := func197.trans (congrArg some (by kernel_rfl))
 f268 := func158.trans (congrArg some (by kernel_rfl))
 f314 := func202.trans (congrArg some (by kernel_rfl))
 t0 := underlying0
 a0 := isAgg0
 z0 := sizeOf0
 v0 := zeroValue0
 t3 := underlying3
 a3 := isAgg3
 z3 := sizeOf3
 v3 := zeroValue3
 t4 := underlying4
 a4 := isAgg4
 z4 := sizeOf4
 v4 := zeroValue4
 t5 := underlying5
 a5 := isAgg5
 z5 := sizeOf5
 v5 := zeroValue5
 t9 := underlying9
 a9 := isAgg9
 z9 := sizeOf9
 v9 := zeroValue9
 t21 := underlying21
 a21 := isAgg21
 z21 := sizeOf21
 v21 := zeroValue21
 t31 := underlying25
 a31 := isAgg25
 z31 := sizeOf25
 v31 := zeroValue25
 t46 := underlying230
 a46 := isAgg230
 z46 := sizeOf230
 v46 := zeroValue230
 t51 := underlying242
 a51 := isAgg242
 z51 := sizeOf242
 v51 := zeroValue242
 t105 := underlying266
 a105 := isAgg266
 z105 := sizeOf266
 v105 := zeroValue266
 t119 := underlying279
 a119 := isAgg279
 z119 := sizeOf279
 t138 := underlying281
 a138 := isAgg281
 z138 := sizeOf281
 v138 := zeroValue281
 t139 := underlying282
 a139 := isAgg282
 z139 := sizeOf282
 v139 := zeroValue282
 t146 := underlying243
 a146 := isAgg243
 z146 := sizeOf243
 v146 := zeroValue243
 g1 := by kernel_rfl
 g3 := by kernel_rfl
 g4 := by kernel_rfl
 i0 := by kernel_rfl
 i3 := by kernel_rfl
 i4 := by kernel_rfl
 i5 := by kernel_rfl
 i9 := by kernel_rfl
 i21 := by kernel_rfl
 i31 := by kernel_rfl
 i46 := by kernel_rfl
 i51 := by kernel_rfl
 i105 := by kernel_rfl
 i138 := by kernel_rfl
 i139 := by kernel_rfl
 i146 := by kernel_rfl
 m1 := by kernel_rfl
 s1_3 := fun w h => Go.Proofs.cell_of_shapedOpen_int (zero := #[.int .i64 0]) (t := 3) h (of_decide_eq_true (by kernel_rfl)) (by kernel_rfl) rfl (by kernel_rfl) (by kernel_rfl) underlying3
 m3 := by kernel_rfl
 m4 := by kernel_rfl }
def Tryz.lays105_ren : Go.Shelf.Ren := ⟨fun | 105 => 118 | 212 => 140 | 99 => 110 | 165 => 141 | 166 => 142 | 170 => 143 | 169 => 144 | 263 => 154 | 264 => 155 | 206 => 133 | 240 => 156 | 241 => 157 | 276 => 177 | 277 => 178 | n => n, fun | 9 => 9 | 3 => 3 | 4 => 4 | 20 => 20 | 0 => 0 | 46 => 230 | 109 => 231 | 5 => 5 | 72 => 235 | 76 => 206 | 51 => 242 | 146 => 243 | 53 => 245 | 148 => 246 | 70 => 233 | 37 => 30 | 75 => 205 | 127 => 248 | 164 => 264 | 80 => 149 | n => n, fun | n => n⟩
theorem Tryz.lays105 : Go.Proofs.Lays.n105 prog Tryz.lays105_ren := {
 mixed := by kernel_rfl
 f99 := func110.trans (congrArg some (by kernel_rfl))
 f105 := func118.trans (congrArg some (by kernel_rfl))
 f165 := func141.trans (congrArg some (by kernel_rfl))
 f166 := func142.trans (congrArg some (by kernel_rfl))
 f169 := func144.trans (congrArg some (by kernel_rfl))
 f170 := func143.trans (congrArg some (by kernel_rfl))
 f206 := func133.trans (congrArg some (by kernel_rfl))
 f212 := func140.trans (congrArg some (by kernel_rfl))
 f240 := func156.trans (congrArg some (by kernel_rfl))
 f241 := func157.trans (congrArg some (by kernel_rfl))
 f263 := func154.trans (congrArg some (by kernel_rfl))
 f264 := func155.trans (congrArg some (by kernel_rfl))
 f276 := func177.trans (congrArg some (by kernel_rfl))
 f277 := func178.trans (congrArg some (by kernel_rfl))
 t0 := underlying0
 a0 := isAgg0
 z0 := sizeOf0
 v0 := zeroValue0
 t3 := underlying3
 a3 := isAgg3
 z3 := sizeOf3
 v3 := zeroValue3
 t4 := underlying4
 a4 := isAgg4
 z4 := sizeOf4
 v4 := zeroValue4
 t5 := underlying5
 a5 := isAgg5
 z5 := sizeOf5
 v5 := zeroValue5
 t9 := underlying9
 a9 := isAgg9
 z9 := sizeOf9
 v9 := zeroValue9
 t20 := underlying20
 a20 := isAgg20
 z20 := sizeOf20
 v20 := zeroValue20
 t37 := underlying30
 a37 := isAgg30
 z37 := sizeOf30
 v37 := zeroValue30
 t46 := underlying230
 a46 := isAgg230
 z46 := sizeOf230
 v46 := zeroValue230
 t51 := underlying242
 a51 := isAgg242
 z51 := sizeOf242
 v51 := zeroValue242
 t53 := underlying245
 a53 := isAgg245
 z53 := sizeOf245
 v53 := zeroValue245
 t70 := underlying233
 a70 := isAgg233
 z70 := sizeOf233
 v70 := zeroValue233
 t72 := underlying235
 a72 := isAgg235
 z72 := sizeOf235
 v72 := zeroValue235
 t75 := underlying205
 a75 := isAgg205
 z75 := sizeOf205
 v75 := zeroValue205
 t76 := underlying206
 a76 := isAgg206
 z76 := sizeOf206
 v76 := zeroValue206
 t109 := underlying231
 a109 := isAgg231
 z109 := sizeOf231
 v109 := zeroValue231
 t127 := underlying248
 a127 := isAgg248
 z127 := sizeOf248
 v127 := zeroValue248
 t146 := underlying243
 a146 := isAgg243
 z146 := sizeOf243
 v146 := zeroValue243
 t148 := underlying246
 a148 := isAgg246
 z148 := sizeOf246
 v148 := zeroValue246
 t164 := underlying264
 a164 := isAgg264
 z164 := sizeOf264
 v164 := zeroValue264 }
theorem Builder_Extra_105 : Builder.Extra prog Tryz.lays105_ren := {
 sizeBuilder := by kernel_rfl
 liesBuilder := by kernel_rfl
 t5 := underlying5
 a5 := isAgg5
 z5 := sizeOf5
 v5 := zeroValue5
 infoByte := by kernel_rfl
 cellsByte := by kernel_rfl
 sizeByte := by kernel_rfl
 neB5 := by decide }
open Go.RowKit Go.Lib in
theorem Tryz.strings_Repeat (s : ByteArray) (c : Nat) (w : World) (hc : c ≤ 9223372036854775807) (hlen : s.size * c ≤ 140737488355328) :
  Calls prog 118 #[.string s, .int .i64 c] w fun e w' => e = .returned (.string ⟨(Lib.repeatL s.data.toList c).toArray⟩) ∧ Below w.heap.size w w' := Any.strings_Repeat Tryz.lays105 Builder_Extra_105 s c w hc hlen
def keys109_ren : Go.Shelf.Ren := ⟨fun | 7 => 109 | 10 => 132 | n => n, fun | 23 => 126 | 26 => 9 | 3 => 129 | 28 => 191 | 0 => 0 | 27 => 190 | 33 => 125 | 4 => 4 | n => n, fun | n => n⟩
theorem keys109 : Go.Proofs.SlLaysZ.n7 prog keys109_ren := {
 mixed := by kernel_rfl
 f7 := ⟨f109.name, by decide, func109.trans (congrArg some (by kernel_rfl))⟩
 f10 := ⟨f132.name, by decide, func132.trans (congrArg some (by kernel_rfl))⟩
 t0 := underlying0
 a0 := isAgg0
 z0 := sizeOf0
 v0 := zeroValue0
 t4 := underlying4
 a4 := isAgg4
 z4 := sizeOf4
 v4 := zeroValue4
 t23 := underlying126
 a23 := isAgg126
 z23 := sizeOf126
 v23 := zeroValue126
 t26 := underlying9
 a26 := isAgg9
 z26 := sizeOf9
 v26 := zeroValue9
 t27 := underlying190
 a27 := isAgg190
 z27 := sizeOf190
 v27 := zeroValue190
 t28 := underlying191
 a28 := isAgg191
 z28 := sizeOf191
 v28 := zeroValue191
 t33 := underlying125
 a33 := isAgg125
 z33 := sizeOf125
 v33 := zeroValue125 }
def sorted108_ren : Go.Shelf.Ren := ⟨fun | 6 => 108 | 8 => 130 | 9 => 131 | 11 => 147 | 13 => 149 | 12 => 148 | 23 => 170 | 24 => 171 | 14 => 161 | 15 => 162 | 16 => 163 | 17 => 164 | 18 => 165 | 19 => 166 | 20 => 167 | 21 => 168 | 22 => 169 | 25 => 183 | 26 => 184 | 27 => 185 | 28 => 186 | 29 => 187 | 30 => 188 | 31 => 198 | n => n, fun | 26 => 9 | 28 => 191 | 24 => 25 | 0 => 0 | 3 => 3 | 37 => 230 | 48 => 242 | 50 => 245 | 4 => 4 | 40 => 253 | 39 => 252 | 45 => 227 | 5 => 5 | 9 => 9 | 51 => 268 | 55 => 272 | 57 => 277 | 58 => 64 | 33 => 125 | n => n, fun | n => n⟩
theorem sorted108 : Go.Proofs.SlLaysZ.n6 prog sorted108_ren := {
 mixed := by kernel_rfl
 f6 := ⟨f108.name, by decide, func108.trans (congrArg some (by kernel_rfl))⟩
 f8 := ⟨f130.name, by decide, func130.trans (congrArg some (by kernel_rfl))⟩
 f11 := ⟨f147.name, by decide, func147.trans (congrArg some (by kernel_rfl))⟩
 t0 := underlying0
 a0 := isAgg0
 z0 := sizeOf0
 v0 := zeroValue0
 t24 := underlying25
 a24 := isAgg25
 z24 := sizeOf25
 v24 := zeroValue25
 t26 := underlying9
 a26 := isAgg9
 z26 := sizeOf9
 v26 := zeroValue9
 t28 := underlying191
 a28 := isAgg191
 z28 := sizeOf191
 v28 := zeroValue191
 i26 := by kernel_rfl }
def sort131_ren : Go.Shelf.Ren := ⟨fun | 6 => 131 | 8 => 149 | 9 => 148 | 19 => 170 | 20 => 171 | 21 => 161 | 22 => 162 | 23 => 163 | 24 => 164 | 25 => 165 | 26 => 166 | 27 => 167 | 28 => 168 | 29 => 169 | 36 => 183 | 31 => 184 | 32 => 185 | 37 => 186 | 38 => 187 | 39 => 188 | 41 => 198 | n => n, fun | 27 => 25 | 29 => 9 | 3 => 3 | 32 => 230 | 26 => 25 | 0 => 0 | 44 => 242 | 46 => 245 | 4 => 4 | 36 => 253 | 35 => 252 | 41 => 227 | 5 => 5 | 9 => 9 | 53 => 268 | 57 => 272 | 63 => 277 | 64 => 64 | n => n, fun | n => n⟩
theorem sort131 : Go.Proofs.SlLaysM.n6 prog sort131_ren := {
 mixed := by kernel_rfl
 f6 := ⟨f131.name, by decide, func131.trans (congrArg some (by kernel_rfl))⟩
 f8 := func149.trans (congrArg some (by kernel_rfl))
 f9 := ⟨f148.name, by decide, func148.trans (congrArg some (by kernel_rfl))⟩
 f19 := func170.trans (congrArg some (by kernel_rfl))
 f20 := func171.trans (congrArg some (by kernel_rfl))
 f21 := ⟨f161.name, by decide, func161.trans (congrArg some (by kernel_rfl))⟩
 f22 := ⟨f162.name, by decide, func162.trans (congrArg some (by kernel_rfl))⟩
 f23 := ⟨f163.name, by decide, func163.trans (congrArg some (by kernel_rfl))⟩
 f24 := ⟨f164.name, by decide, func164.trans (congrArg some (by kernel_rfl))⟩
 f25 := ⟨f165.name, by decide, func165.trans (congrArg some (by kernel_rfl))⟩
 f26 := ⟨f166.name, by decide, func166.trans (congrArg some (by kernel_rfl))⟩
 f27 := ⟨f167.name, by decide, func167.trans (congrArg some (by kernel_rfl))⟩
 f28 := ⟨f168.name, by decide, func168.trans (congrArg some (by kernel_rfl))⟩
 f29 := ⟨f169.name, by decide, func169.trans (congrArg some (by kernel_rfl))⟩
 f31 := func184.trans (congrArg some (by kernel_rfl))
 f32 := func185.trans (congrArg some (by kernel_rfl))
 f36 := ⟨f183.name, by decide, func183.trans (congrArg some (by kernel_rfl))⟩
 f37 := ⟨f186.name, by decide, func186.trans (congrArg some (by kernel_rfl))⟩
 f38 := ⟨f187.name, by decide, func187.trans (congrArg some (by kernel_rfl))⟩
 f39 := ⟨f188.name, by decide, func188.trans (congrArg some (by kernel_rfl))⟩
 f41 := ⟨f198.name, by decide, func198.trans (congrArg some (by kernel_rfl))⟩
 t0 := underlying0
 a0 := isAgg0
 z0 := sizeOf0
 v0 := zeroValue0
 t3 := underlying3
 a3 := isAgg3
 z3 := sizeOf3
 v3 := zeroValue3
 t4 := underlying4
 a4 := isAgg4
 z4 := sizeOf4
 v4 := zeroValue4
 t5 := underlying5
 a5 := isAgg5
 z5 := sizeOf5
 v5 := zeroValue5
 t9 := underlying9
 a9 := isAgg9
 z9 := sizeOf9
 v9 := zeroValue9
 t26 := underlying25
 a26 := isAgg25
 z26 := sizeOf25
 v26 := zeroValue25
 t27 := underlying25
 a27 := isAgg25
 z27 := sizeOf25
 v27 := zeroValue25
 t29 := underlying9
 a29 := isAgg9
 z29 := sizeOf9
 v29 := zeroValue9
 t32 := underlying230
 a32 := isAgg230
 z32 := sizeOf230
 v32 := zeroValue230
 t35 := underlying252
 a35 := isAgg252
 z35 := sizeOf252
 v35 := zeroValue252
 t36 := underlying253
 a36 := isAgg253
 z36 := sizeOf253
 v36 := zeroValue253
 t41 := underlying227
 a41 := isAgg227
 z41 := sizeOf227
 v41 := zeroValue227
 t44 := underlying242
 a44 := isAgg242
 z44 := sizeOf242
 v44 := zeroValue242
 t46 := underlying245
 a46 := isAgg245
 z46 := sizeOf245
 v46 := zeroValue245
 t53 := underlying268
 a53 := isAgg268
 z53 := sizeOf268
 v53 := zeroValue268
 t57 := underlying272
 a57 := isAgg272
 z57 := sizeOf272
 v57 := zeroValue272
 t63 := underlying277
 a63 := isAgg277
 z63 := sizeOf277
 v63 := zeroValue277
 t64 := underlying64
 a64 := isAgg64
 z64 := sizeOf64
 v64 := zeroValue64 }
open Go.RowKit Go.Maps Go.Sort in
theorem Tryz.sorts108 (m : Nat) : AnyZ.SortsIn prog sorted108_ren Fence.wide m :=
 ⟨fun blk off cap ss W hH hblk hsz => callsIn_wide.2 (AnyM.slices_Sort_string sort131 blk off cap ss W hH hblk hsz),
  fun p cap W => callsIn_wide.2 (AnyM.slices_Sort_string_none sort131 p cap W)⟩
open Go.RowKit Go.Maps Go.Sort in
theorem Tryz.maps_Keys_109 (mb : Option Nat) (W : World) : CallsIn Fence.wide 5 prog 109 #[.map mb] W fun e w' => e = .returned (.func (.func 132) #[] #[.pointer (some ⟨W.heap.size, 0, none⟩)]) ∧ w' = W.alloc (.cells #[.map mb] 126) :=
 AnyZ.keys_in keys109 Fence.wide 5 trivial rfl mb W
end Go.Proofs
namespace Go.Proofs.YthfpmipeejjogaaGreatDoor.Pa
open Go SL G
variable {B : World} {ro σ σ' : AH} {tag tag' : Nat → Nat}
theorem inc (j : Nat) (h : j < 4611686018427387904) : i64.wrap ((j : Int) + 1) = ((j + 1 : Nat) : Int) := by rw [SL.w64_eq (by omega) (by omega)]; rfl
theorem hasPrefix_ok {a p : ByteArray} {Q : Bool → AH → Prop} (hQ : Q ((L p).isPrefixOf (L a)) σ) : c_strings_HasPrefix B ro a p σ Q := by
 refine strings_HasPrefix_ok fun _ => ?_
 unfold f_strings_HasPrefix
 refine stringslite_HasPrefix_ok fun _ => ?_
 unfold f_stringslite_HasPrefix j1_stringslite_HasPrefix
 by_cases h : p.size ≤ a.size
 ·rw [if_pos (by omega)]
  refine ⟨⟨⟨by omega, by omega⟩, trivial⟩, ?_⟩
  have e : decide (a.extract 0 (Int.toNat (p.size : Int)) = p) = (L p).isPrefixOf (L a) := by
   rw [Int.toNat_natCast, Bool.eq_iff_iff, decide_eq_true_iff, List.isPrefixOf_iff_prefix, List.prefix_iff_eq_take]
   constructor
   ·intro h'; conv => lhs; rw [← h']
    rw [← S_L a, S_extract]; simp [L_len]
   ·intro h'
    apply L_inj
    rw [← S_L a, S_extract]; simp only [L_S, List.drop_zero]
    rw [L_len] at h'; exact h'.symm
  rw [e]; exact hQ
 ·rw [if_neg (by omega)]
  have e : (L p).isPrefixOf (L a) = false := by
   rw [Bool.eq_false_iff]
   intro h'
   have := (List.isPrefixOf_iff_prefix.1 h').length_le
   rw [L_len, L_len] at this; exact h this
  rw [e] at hQ; exact hQ
theorem last_ok {s : ByteArray} {Q : Int → AH → Prop} (hs : s.size < 4611686018427387904) (hQ : Q (li (L s) s.size) σ) : c_strings_LastIndexByte B ro s 47 σ Q := by
 refine strings_LastIndexByte_ok fun _ => ?_
 unfold f_strings_LastIndexByte
 refine bytealg_LastIndexByteString_ok fun _ => ?_
 unfold f_bytealg_LastIndexByteString
 rw [SL.w64_eq (by omega) (by omega)]
 suffices ∀ k, k ≤ s.size → Q (li (L s) k) σ → lfpD (l2_bytealg_LastIndexByteString B ro s 47 Q) ((k : Int) - 1) σ from this s.size (Nat.le_refl _) hQ
 intro k
 induction k with
 | zero =>
  intro _ h
  refine lfpD.intro ?_
  unfold l2_bytealg_LastIndexByteString
  rw [if_neg (by omega)]
  exact h
 | succ k ih =>
  intro hk h
  refine lfpD.intro ?_
  unfold l2_bytealg_LastIndexByteString
  rw [if_pos (by omega)]
  have e : ((k + 1 : Nat) : Int) - 1 = k := by omega
  rw [e]
  have hkl : k < (L s).length := by rw [L_len]; omega
  have hg : s[k]? = some ((L s)[k]) := by
   conv => lhs; rw [← S_L s]
   rw [S_get, List.getElem?_eq_getElem hkl]
  refine ⟨(L s)[k], by omega, by rw [Int.toNat_natCast]; exact hg, ?_⟩
  unfold li at h
  rw [List.getElem?_eq_getElem hkl] at h
  by_cases c : (L s)[k] = 47
  ·rw [if_pos (by rw [c])] at h
   rw [if_pos (by rw [c]; rfl)]
   exact h
  ·rw [if_neg (by simpa using c)] at h
   rw [if_neg, SL.w64_eq (by omega) (by omega)]
   ·exact ih (by omega) h
   ·intro h'
    refine c (UInt8.toNat_inj.1 ?_)
    have : ((L s)[k].toNat : Int) = 47 := h'
    show (L s)[k].toNat = 47
    omega
theorem awp_range_str {P : Program} {t : TypeId} {s : ByteArray} {K : Value → AH → Prop} (ht : P.underlying t = some .string) (h : ∀ b, ro b = none → σ b = none → K (.pointer (some ⟨b, 0, none⟩)) (upd σ b (.stringIter s 0))) : awp P ro (Instr.range t (.string s)) K σ := by
 unfold Instr.range
 simp only [bind_def]
 rw [awp_underlying ht]
 exact h
theorem awp_next_str {P : Program} {t : TypeId} {s : ByteArray} {b pos : Nat} {K : Value → AH → Prop} (hro : ro b = none) (hb : σ b = some (.stringIter s pos)) (h1 : s.size ≤ pos → K (.tuple #[.bool false]) σ)
  (h2 : pos < s.size → K (.tuple #[.bool true, .int .i64 pos, .int .i32 (Utf8.decode s pos).1]) (upd σ b (.stringIter s (pos + (Utf8.decode s pos).2)))) : awp P ro (Instr.next (.pointer (some ⟨b, 0, none⟩)) true t) K σ := by
 unfold Instr.next
 refine ⟨.stringIter s pos, by unfold rd; rw [hro]; exact hb, rfl, ?_⟩
 show awp P ro (if pos < s.size then _ else _) K σ
 by_cases h : pos < s.size
 ·rw [if_pos h]
  exact ⟨_, hb, rfl, h2 h⟩
 ·rw [if_neg h]
  exact h1 (by omega)
theorem decode_big (s : ByteArray) (pos : Nat) (h : ¬ (s.get! pos).toNat < 128) : 128 ≤ (Utf8.decode s pos).1 := by
 unfold Utf8.decode
 simp only [Nat.add_zero]
 rw [if_neg h]
 repeat' split
 all_goals simp_all [Utf8.runeError]
 all_goals omega
theorem name_ok {s : ByteArray} {Q : Bool → AH → Prop} (hQ : Q (nameOk (L s)) σ) : c_path_Name B ro s σ Q := by
 refine ACalls.quiet (R := fun v => v = .bool (nameOk (L s))) ?_ (fun v hv => ⟨_, hv, hQ⟩)
 have : c_path_Name B ro s (fun _ => none) fun r _ => r = nameOk (L s) := by
  refine path_Name_ok fun hs => ?_
  unfold f_path_Name
  by_cases g : ((s = ⟨#[]⟩ ∨ 32 < (s.size : Int)) ∨ s = ⟨#[46]⟩) ∨ s = ⟨#[46, 46]⟩
  ·rw [if_pos g]
   show false = nameOk (L s)
   symm
   rw [Bool.eq_false_iff]
   intro h
   unfold nameOk at h
   simp only [Bool.and_eq_true, decide_eq_true_eq, bne_iff_ne] at h
   obtain ⟨⟨⟨⟨h1, h2⟩, h3⟩, h4⟩, _⟩ := h
   rcases g with ((g | g) | g) | g
   ·rw [g] at h1; simp [L] at h1
   ·rw [L_len] at h2; omega
   ·rw [g] at h3; exact h3 rfl
   ·rw [g] at h4; exact h4 rfl
  ·rw [if_neg g]
   have hall : nameOk (L s) = (L s).all okc := by
    unfold nameOk
    have e1 : 1 ≤ (L s).length := by
     rw [L_len]
     rcases Nat.eq_zero_or_pos s.size with h0 | h0
     ·exact absurd (.inl (.inl (.inl (L_inj (List.eq_nil_of_length_eq_zero h0))))) g
     ·exact h0
    have e2 : (L s).length ≤ 32 := by
     rw [L_len]
     rcases Nat.lt_or_ge 32 s.size with h0 | h0
     ·exact absurd (.inl (.inl (.inr (by omega)))) g
     ·exact h0
    have e3 : L s ≠ [46] := fun h => g (.inl (.inr (L_inj h)))
    have e4 : L s ≠ [46, 46] := fun h => g (.inr (L_inj h))
    simp [e1, e2, e3, e4]
   rw [hall]
   have h9 : prog.underlying 9 = some .string := by kernel_rfl
   have hr := @awp_range_str ro (fun _ => none) prog 9 s (fun v σ => ∃ p21_2, v = Value.pointer (some p21_2) ∧ lfpD (l3_path_Name B ro p21_2 fun r x => r = List.all (L s) okc) () σ) h9
   refine hr ?_
   intro b hro hb
   refine ⟨⟨b, 0, none⟩, rfl, ?_⟩
   suffices ∀ m pos, pos + m = s.size → (∀ i, i < pos → ∀ c, (L s)[i]? = some c → okc c = true) → ∀ σ : AH, σ b = some (.stringIter s pos) → lfpD (l3_path_Name B ro ⟨b, 0, none⟩ fun r _ => r = (L s).all okc) () σ from
    this s.size 0 (Nat.zero_add _) (fun i h => absurd h (Nat.not_lt_zero _)) _ (upd_same _ _ _)
   intro m
   induction m with
   | zero =>
    intro pos hp hk σ hσ
    refine lfpD.intro ?_
    unfold l3_path_Name
    refine awp_next_str hro hσ (fun _ => .inl ⟨rfl, ?_⟩) (fun h => by omega)
    show true = (L s).all okc
    symm
    rw [List.all_eq_true]
    intro c hc
    obtain ⟨i, hi, e⟩ := List.getElem_of_mem hc
    exact hk i (by rw [L_len] at hi; omega) c (by rw [List.getElem?_eq_getElem hi, e])
   | succ m ih =>
    intro pos hp hk σ hσ
    have hpl : pos < (L s).length := by rw [L_len]; omega
    have hps : pos < s.size := by omega
    have hget : s[pos]'hps = (L s)[pos] := rfl
    have hgb : s.get! pos = (L s)[pos] := by
     have e : s.get! pos = s.data[pos]! := rfl
     rw [e, getElem!_pos s.data pos (by exact hps)]
     rfl
    refine lfpD.intro ?_
    unfold l3_path_Name
    refine awp_next_str hro hσ (fun h => by omega) (fun _ => .inr ⟨pos, _, rfl, ?_⟩)
    by_cases ha : ((L s)[pos]).toNat < 128
    ·rw [decode_ascii s pos hps (by rw [hget]; exact ha), hget]
     have step : ∀ x : Bool, x = okc ((L s)[pos]) → j6_path_Name B ro ⟨b, 0, none⟩ (fun r _ => r = (L s).all okc) (lfpD (l3_path_Name B ro ⟨b, 0, none⟩ fun r _ => r = (L s).all okc)) x (upd σ b (.stringIter s (pos + 1))) := by
      intro x hx
      unfold j6_path_Name
      split
      ·rename_i hx'
       refine ih (pos + 1) (by omega) (fun i hi c hc => ?_) _ (upd_same _ _ _)
       rcases Nat.lt_or_ge i pos with h | h
       ·exact hk i h c hc
       ·have : i = pos := by omega
        subst this
        rw [List.getElem?_eq_getElem hpl] at hc
        cases hc
        exact hx.symm.trans hx'
      ·rename_i hx'
       show false = (L s).all okc
       symm
       rw [Bool.eq_false_iff, ne_eq, List.all_eq_true]
       intro h
       exact hx' (hx.trans (h _ (List.getElem_mem hpl)))
     simp only
     generalize (L s)[pos] = c at step
     have iff : ∀ x : Bool, (x = true ↔ okc c = true) → x = okc c := fun x h => Bool.eq_iff_iff.2 h
     by_cases b1 : (97 : Int) ≤ (c.toNat : Int) ∧ (c.toNat : Int) ≤ 122
     ·rw [if_pos b1]
      exact step _ (iff _ (by simp [okc]; omega))
     ·rw [if_neg b1]
      by_cases b2 : (48 : Int) ≤ (c.toNat : Int) ∧ (c.toNat : Int) ≤ 57
      ·rw [if_pos b2]
       exact step _ (iff _ (by simp [okc]; omega))
      ·rw [if_neg b2]
       by_cases b3 : (c.toNat : Int) = 46
       ·rw [if_pos b3]
        exact step _ (iff _ (by simp [okc]; omega))
       ·rw [if_neg b3]
        by_cases b4 : (c.toNat : Int) = 95
        ·rw [if_pos b4]
         exact step _ (iff _ (by simp [okc]; omega))
        ·rw [if_neg b4]
         exact step _ (iff _ (by simp [okc]; omega))
    ·have hbig := decode_big s pos (by rw [hgb]; exact ha)
     generalize (Utf8.decode s pos).1 = x at hbig
     generalize (Utf8.decode s pos).2 = y
     have hno : false = (L s).all okc := by
      symm
      rw [Bool.eq_false_iff, ne_eq, List.all_eq_true]
      intro h
      have := h _ (List.getElem_mem hpl)
      simp [okc] at this
      omega
     rw [if_neg (by omega), if_neg (by omega), if_neg (by omega), if_neg (by omega)]
     unfold j6_path_Name
     rw [if_neg (by simp; omega)]
     exact hno
 exact ACalls.mono this fun v τ ⟨r, hv, hr⟩ => by rw [hv, hr]
end Go.Proofs.YthfpmipeejjogaaGreatDoor.Pa
namespace Go.Proofs.YthfpmipeejjogaaGreatDoor.Pa
open Go SL G Go.RowKit
structure Glob (ro : AH) : Prop where
 maxlen : ∃ m o, ro 0 = some o ∧ cellOf ⟨0, 0, none⟩ (some o) = some (.int .i64 m)
 tab : ∀ w : World, (∀ b o, ro b = some o → w.heap[b]? = some o) → Lib.TabIs prog w "internal/strconv.uint64pow10" .u64 Lib.pow10Tab
variable {B : World} {ro σ σ' : AH} {tag tag' : Nat → Nat}
theorem sees_ro {w : World} (h : Sees ro σ w) : ∀ b o, ro b = some o → w.heap[b]? = some o := fun b o hb => h b o (by unfold rd; rw [hb])
abbrev vS (l : Str) : Value := .string (S l)
theorem split_ok {s : ByteArray} {Q : Sl → AH → Prop} (r : Nat) (g : Glob ro) (hs : s.size < 4294967281) (hQ : ∀ sl tag' σ', (∀ R, Step R ro tag σ tag' σ') → Row tag' σ' r 9 sl ((cut (L s)).map vS) → Q sl σ') :
  c_strings_Split B ro s (⟨#[47]⟩ : ByteArray) σ Q := by
 refine ACalls.of_calls fun w hw hsep => ?_
 obtain ⟨m, o, h0, h1⟩ := g.maxlen
 have hm : w.cell? ⟨0, 0, none⟩ = some (.int .i64 m) := by rw [cell?_eq, sees_ro hw 0 o h0]; exact h1
 refine (Tryz.strings_Split s (S [47]) m w hs hm (by decide)).mono ?_
 rintro e w' ⟨he, rfl⟩
 have hmap : (Lib.splitB (S [47]) 0 (Lib.countB s (S [47])) s).map Value.string = (cut (L s)).map vS := by
  rw [← split_cut, List.map_map]
  refine List.map_congr_left fun x _ => ?_
  simp [vS]
 have hlen : (cut (L s)).length = Lib.countB s (S [47]) + 1 := by
  have := Lib.splitB_all (S [47]) (by decide) 0 _ s rfl
  rw [← split_cut, List.length_map, this]
 obtain ⟨N, tag', hN, hst, hrow⟩ := new_row (tag := tag) (w' := w.alloc (.cells ((Lib.splitB (S [47]) 0 (Lib.countB s (S [47])) s).map Value.string).toArray 9)) r hw hsep (Nat.le_refl w.heap.size) (heap_alloc_new w _)
 refine ⟨_, N, he, (Below.refl _ w).alloc (Nat.le_refl _) _, hN, ⟨some ⟨w.heap.size, 0, none⟩, Lib.countB s (S [47]) + 1, Lib.countB s (S [47]) + 1⟩, rfl, ?_⟩
 refine hQ _ tag' _ hst (hrow _ _ _ ?_ ?_ (Nat.le_refl _) ?_)
 ·rw [List.length_map, hlen]
 ·rw [hmap]; simp [hlen]
 ·rw [hmap]; simp only [List.toList_toArray]
  rw [List.take_of_length_le (by simp [hlen])]
theorem Row.sget {r : Nat} {e : TypeId} {s : Sl} {l : List Str} (h : Row tag σ r e s (l.map vS)) (hs : SL.Sep ro σ) {i : Nat} (hi : i < l.length) :
  ∃ p, s.a = some p ∧ s.len = l.length ∧ ∀ j (hj : j < l.length), acell ro σ (p.add (j * 1)) = some (vS l[j]) := by
 obtain ⟨p, hp, hg⟩ := h.ptr hs (by simp; omega)
 refine ⟨p, hp, by rw [h.len]; simp, fun j hj => hg j _ ?_⟩
 rw [List.getElem?_map, List.getElem?_eq_getElem hj]; rfl
theorem partsN_ok {s : ByteArray} {Q : Sl → Int → AH → Prop} (r : Nat) (g : Glob ro) (hnone : parts (L s) = none → ∀ σ', Q ⟨none, 0, 0⟩ 20 σ')
  (hsome : ∀ ps, parts (L s) = some ps → ∀ sl tag' σ', Step [] ro tag σ tag' σ' → Row tag' σ' r 9 sl (ps.map vS) → Q sl 0 σ') : c_path_Parts B ro s σ Q := by
 refine path_Parts_ok fun hs => ?_
 unfold f_path_Parts
 by_cases h1 : s = ⟨#[47]⟩
 ·rw [if_pos h1]
  refine hsome [] ?_ _ tag σ (Step.refl hs) (Row.nil r 9)
  subst h1; rfl
 ·have hne : L s ≠ [47] := fun h => h1 (L_inj h)
  rw [if_neg h1]
  by_cases h2 : 128 < (s.size : Int)
  ·rw [if_pos h2]
   unfold j1_path_Parts
   rw [if_pos rfl]
   refine hnone ?_ _
   unfold parts; rw [if_neg hne, if_neg]
   intro h; have := h.1; rw [L_len] at this; omega
  ·rw [if_neg h2]
   refine hasPrefix_ok ?_
   unfold j1_path_Parts
   by_cases h3 : (L s).head? = some 47
   ·obtain ⟨t, ht⟩ : ∃ t, L s = 47 :: t := by
     cases h : L s with
     | nil => rw [h] at h3; cases h3
     | cons c t => rw [h] at h3; cases h3; exact ⟨t, rfl⟩
    have hp : (L (⟨#[47]⟩ : ByteArray)).isPrefixOf (L s) = true := by rw [ht]; rfl
    rw [hp, if_neg (by decide)]
    have hsz : s.size = t.length + 1 := by rw [← L_len, ht]; rfl
    refine ⟨⟨trivial, ⟨by omega, by show (1 : Int) ≤ (s.size : Int); omega⟩⟩, ?_⟩
    have hex : s.extract (Int.toNat 1) s.size = S t := by
     conv => lhs; rw [← S_L s]
     rw [S_extract, S_size, List.take_length, ht]; rfl
    rw [hex]
    refine split_ok (tag := tag) r g (by simp; omega) fun sl tag1 σ1 st1 r1 => ?_
    rw [L_S] at r1
    have hln : sl.len = (cut t).length := by rw [r1.len, List.length_map]
    have hdrop : (L s).drop 1 = t := by rw [ht]; rfl
    by_cases h4 : (cut t).length ≤ 8
    ·rw [if_neg (by omega)]
     suffices ∀ m j, j + m = (cut t).length → (∀ i (hi : i < (cut t).length), i < j → nameOk (cut t)[i] = true) → lfpD (l5_path_Parts B ro sl Q) (j : Int) σ1 from
      this _ 0 (Nat.zero_add _) (fun i hi h => absurd h (Nat.not_lt_zero _))
     intro m
     induction m with
     | zero =>
      intro j hj hk
      refine lfpD.intro ?_
      unfold l5_path_Parts
      rw [if_neg (by omega)]
      unfold j4_path_Parts
      refine hsome (cut t) ?_ sl tag1 σ1 (st1 _) r1
      unfold parts
      rw [if_neg hne, hdrop, if_pos]
      refine ⟨by rw [L_len]; omega, h3, h4, ?_⟩
      rw [List.all_eq_true]
      intro x hx
      obtain ⟨i, hi, e⟩ := List.getElem_of_mem hx
      rw [← e]; exact hk i hi (by omega)
     | succ m ih =>
      intro j hj hk
      have hjl : j < (cut t).length := by omega
      obtain ⟨p, hp, _, hg⟩ := Row.sget r1 (st1 []).sep hjl
      refine lfpD.intro ?_
      unfold l5_path_Parts
      rw [if_pos (by omega)]
      refine ⟨p, hp, by omega, by omega, _, hg j hjl, ?_⟩
      refine name_ok ?_
      rw [L_S]
      by_cases h5 : nameOk (cut t)[j] = true
      ·rw [if_neg (by simpa using h5), inc j (by omega)]
       refine ih (j + 1) (by omega) fun i hi hij => ?_
       rcases Nat.lt_or_ge i j with h | h
       ·exact hk i hi h
       ·have : i = j := by omega
        subst this; exact h5
      ·rw [if_pos (by simpa using h5)]
       refine hnone ?_ _
       unfold parts
       rw [if_neg hne, hdrop, if_neg]
       intro h
       have := List.all_eq_true.1 h.2.2.2 _ (List.getElem_mem hjl)
       exact h5 this
    ·rw [if_pos (by omega)]
     refine hnone ?_ _
     unfold parts
     rw [if_neg hne, hdrop, if_neg]
     intro h; exact h4 h.2.2.1
   ·have hp : (L (⟨#[47]⟩ : ByteArray)).isPrefixOf (L s) = false := by
     rw [Bool.eq_false_iff]
     intro h
     apply h3
     cases hl : L s with
     | nil => rw [hl] at h; cases h
     | cons c t =>
      rw [hl] at h
      have : ([47] : Str).isPrefixOf (c :: t) = true := h
      simp at this
      rw [← this]; rfl
    rw [hp, if_pos (by decide)]
    refine hnone ?_ _
    unfold parts
    rw [if_neg hne, if_neg]
    intro h; exact h3 h.2.1
theorem parts_ok {s : ByteArray} {Q : Sl → Int → AH → Prop} (r : Nat) (g : Glob ro) (hnone : parts (L s) = none → ∀ sl σ', Q sl 20 σ')
  (hsome : ∀ ps, parts (L s) = some ps → ∀ sl tag' σ', Step [] ro tag σ tag' σ' → Row tag' σ' r 9 sl (ps.map vS) → Q sl 0 σ') : c_path_Parts B ro s σ Q := partsN_ok r g (fun h σ' => hnone h _ σ') hsome
def chk (l : Str) : Int := if (parts l).isSome then 0 else 20
theorem check_ok {s : ByteArray} {Q : Int → AH → Prop} (g : Glob ro) (hQ : Q (chk (L s)) σ) : c_path_Check B ro s σ Q := by
 refine ACalls.quiet (R := fun v => v = .int .i64 (chk (L s))) ?_ (fun v hv => ⟨_, hv, hQ⟩)
 have : c_path_Check B ro s (fun _ => none) fun r _ => r = chk (L s) := by
  refine path_Check_ok fun hs => ?_
  unfold f_path_Check
  refine parts_ok (tag := fun _ => 0) 0 g (fun h _ _ => ?_) (fun ps h _ _ _ _ _ => ?_)
  ·show (20 : Int) = chk (L s); unfold chk; rw [h]; rfl
  ·show (0 : Int) = chk (L s); unfold chk; rw [h]; rfl
 exact ACalls.mono this fun v τ ⟨r, hv, hr⟩ => by rw [hv, hr]
theorem chk_zero {l : Str} : chk l = 0 ↔ ∃ ps, parts l = some ps := by
 unfold chk
 cases h : parts l with
 | none => simp
 | some ps => simp
theorem slash_iff {ps : List Str} (h : Good ps) : mk ps = [47] ↔ ps = [] :=
 ⟨fun e => Classical.byContradiction fun hn => mk_ne hn h.ok e, fun e => by rw [e]; rfl⟩
theorem li_mk {ps : List Str} {x : Str} (hx : 47 ∉ x) : li (mk (ps ++ [x])) (mk (ps ++ [x])).length = ((if ps = [] then [] else mk ps).length : Int) := by
 rw [mk_snoc]
 have := li_word (if ps = [] then [] else mk ps) x hx x.length (Nat.le_refl _)
 rw [show ((if ps = [] then [] else mk ps) ++ 47 :: x).length = (if ps = [] then [] else mk ps).length + 1 + x.length by simp; omega]
 exact this
theorem mk_pos (ps : List Str) : 1 ≤ (mk ps).length := by obtain ⟨r, h⟩ := mk_head ps; rw [h]; simp
def parent (l : Str) : Option Str := match parts l with | some ps => if ps = [] then none else some (mk ps.dropLast) | none => none
theorem parent_ok {s : ByteArray} {Q : ByteArray → Int → AH → Prop} (g : Glob ro) (hnone : parent (L s) = none → Q (⟨#[]⟩ : ByteArray) 20 σ) (hsome : ∀ u, parent (L s) = some u → Q (S u) 0 σ) : c_path_Parent B ro s σ Q := by
 refine path_Parent_ok fun hs => ?_
 unfold f_path_Parent
 by_cases h1 : s = ⟨#[47]⟩
 ·rw [if_pos h1]
  unfold j1_path_Parent
  rw [if_pos rfl]
  refine hnone ?_
  subst h1; rfl
 ·rw [if_neg h1]
  refine check_ok g ?_
  unfold j1_path_Parent
  by_cases h2 : chk (L s) = 0
  ·rw [if_neg (by simpa using h2)]
   obtain ⟨ps, hps⟩ := chk_zero.1 h2
   obtain ⟨hl, hg⟩ := parts_iff.1 hps
   have hne : ps ≠ [] := fun e => h1 (L_inj (by rw [hl, e]; rfl))
   obtain ⟨qs, x, rfl⟩ : ∃ qs x, ps = qs ++ [x] := by
    rcases List.eq_nil_or_concat ps with e | ⟨qs, x, e⟩
    ·exact absurd e hne
    ·exact ⟨qs, x, by rw [e, List.concat_eq_append]⟩
   have hx : 47 ∉ x := name_no (hg.ok x (by simp))
   have hsz : s.size = (mk (qs ++ [x])).length := by rw [← L_len, hl]
   have h128 := hg.len
   refine last_ok (by omega) ?_
   rw [hl, hsz, li_mk hx]
   have hpar : parent (L s) = some (mk qs) := by unfold parent; rw [hps]; simp
   have hlen : (mk (qs ++ [x])).length = (if qs = [] then [] else mk qs).length + 1 + x.length := by rw [mk_snoc]; simp; omega
   have hmax : (if 1 < (((if qs = [] then [] else mk qs).length : Nat) : Int) then (((if qs = [] then [] else mk qs).length : Nat) : Int) else 1) = ((mk qs).length : Int) := by
    by_cases e : qs = []
    ·subst e; rfl
    ·rw [if_neg e]
     have := mk_pos qs
     split <;> omega
   rw [hmax]
   have hle : (mk qs).length ≤ (mk (qs ++ [x])).length := by
    rw [hlen]
    by_cases e : qs = []
    ·subst e; simp [mk]
    ·rw [if_neg e]; omega
   refine ⟨⟨⟨by omega, by omega⟩, trivial⟩, ?_⟩
   rw [Int.toNat_natCast]
   have hex : s.extract 0 (mk qs).length = S (mk qs) := by
    conv => lhs; rw [← S_L s]
    rw [S_extract, hl, List.drop_zero]
    congr 1
    rw [mk_snoc]
    by_cases e : qs = []
    ·subst e; rfl
    ·rw [if_neg e, List.take_left]
   rw [hex]
   exact hsome _ hpar
  ·rw [if_pos (by simpa using h2)]
   refine hnone ?_
   unfold parent
   cases h : parts (L s) with
   | none => rfl
   | some ps => exact absurd (chk_zero.2 ⟨ps, h⟩) h2
end Go.Proofs.YthfpmipeejjogaaGreatDoor.Pa
namespace Go.Proofs.YthfpmipeejjogaaGreatDoor.Zt
open Go SL Go.ChangeShapes Go.WideShapes Go.ChangeAt Go.RowKit
abbrev LAIDU : List (String × DataW Unit) := Rows.ztreeStillUptoRow.laid
theorem own : ownKnob prog.godebug = none := by kernel_rfl
theorem laidOut : laidOutB prog = true := by kernel_rfl
theorem var_sees {W w : World} (h : ∀ b o, all W b = some o → w.heap[b]? = some o) {n : String} {cs : Array Value} (hv : W.var? prog n = some cs) : w.var? prog n = some cs := by
 unfold World.var? at hv ⊢
 obtain ⟨g, hg, hx⟩ := Option.bind_eq_some_iff.1 hv
 rw [hg]
 show (match w.heap[g]? with | some (.cells cs _ _) => some cs | _ => none) = _
 cases hh : W.heap[g]? with
 | none => rw [hh] at hx; cases hx
 | some o => rw [h g o hh]; rw [hh] at hx; exact hx
theorem gPow : prog.globalNamed "internal/strconv.uint64pow10" = some 2 := by kernel_rfl
theorem eTab : prog.underlying 245 = some (.int .u64) := by kernel_rfl
theorem tPow : (prog.globals[2]?).map (·.type) = some 275 := by kernel_rfl
theorem globU {W : World} (hsh : W.ShapedOpen prog) (hL : laidMetH prog LAIDU W) : Pa.Glob (all W) := by
 rw [MakeChecks.laidMetH_plain _ _ _ (by kernel_rfl)] at hL
 obtain ⟨ps, ⟨g0, t0, cs0, f0, p0, q0, hg0, ht0, hv0, hd0, ⟨g1, t1, cs1, f1, p1, q1, hg1, ht1, hv1, hd1, ⟨g2, t2, cs2, f2, p2, q2, hg2, ht2, hv2, hd2, _, _⟩, _⟩, _⟩, _, _⟩ := hL
 have htab : Lib.TabIs prog W "internal/strconv.uint64pow10" .u64 Lib.pow10Tab := by
  obtain rfl := Option.some.inj (gPow.symm.trans hg2)
  obtain rfl := Option.some.inj (tPow.symm.trans ht2)
  unfold Lib.TabIs
  have hd2' : DataW.trod _ prog W 0 _ false f2 275 cs2.toList = some (Lib.tabData .u64 Lib.pow10Tab, p2) := hd2
  rw [hv2, ← Lib.cells_of_tab underlying275 eTab (by kernel_rfl) (by kernel_rfl) hd2']
 refine ⟨?_, fun w hw => var_sees hw htab⟩
 obtain ⟨m, hm⟩ := Tryz.laysM146.s1_3 W hsh
 have hm : W.cell? ⟨0, 0, none⟩ = some (.int .i64 m) := hm
 rw [cell?_eq] at hm
 cases hh : W.heap[0]? with
 | none => simp only at hm; rw [hh] at hm; cases hm
 | some o => simp only at hm; rw [hh] at hm; exact ⟨m, o, hh, hm⟩
theorem trod_lt' {H : Type} {enc : TypeId × Value → H} {W : World} {t : TypeId} {v : Value} {d : DataW H} {p : List MemPlace} (h : DataW.Trod enc prog W 0 (fun _ => true) true t v d p) : ∀ x ∈ p, x.block < W.heap.size := by
 obtain ⟨m, hm⟩ := h; exact DataW.trod_lt m _ _ _ hm
end Go.Proofs.YthfpmipeejjogaaGreatDoor.Zt
namespace Go.Proofs.YthfpmipeejjogaaGreatDoor.Pa
open Go SL G Go.RowKit
variable {B : World} {ro σ σ' : AH} {tag tag' : Nat → Nat}
theorem get_L (s : ByteArray) (i : Nat) (h : i < s.size) : s[i]? = some ((L s)[i]'(by rw [L_len]; exact h)) := by
 conv => lhs; rw [← S_L s]
 rw [S_get, List.getElem?_eq_getElem]
theorem okc_int (c : UInt8) : okc c = true ↔ (((97 ≤ (c.toNat : Int) ∧ (c.toNat : Int) ≤ 122) ∨ (48 ≤ (c.toNat : Int) ∧ (c.toNat : Int) ≤ 57)) ∨ (c.toNat : Int) = 46) ∨ (c.toNat : Int) = 95 ∨ (c.toNat : Int) = 45 := by
 simp [okc]; omega
theorem rname_ok {s : ByteArray} {Q : Bool → AH → Prop} (hQ : Q (nameOk (L s)) σ) : c_ref02_Name B ro s σ Q := by
 refine ref02_Name_ok fun hs => ?_
 unfold f_ref02_Name
 by_cases g : ((((s.size : Int) < 1) ∨ (32 < (s.size : Int))) ∨ s = ⟨#[46]⟩) ∨ s = ⟨#[46, 46]⟩
 ·rw [if_pos g]
  have : nameOk (L s) = false := by
   rw [Bool.eq_false_iff]
   intro h
   unfold nameOk at h
   simp only [Bool.and_eq_true, decide_eq_true_eq, bne_iff_ne] at h
   obtain ⟨⟨⟨⟨h1, h2⟩, h3⟩, h4⟩, _⟩ := h
   rw [L_len] at h1 h2
   rcases g with ((g | g) | g) | g
   ·omega
   ·omega
   ·rw [g] at h3; exact h3 rfl
   ·rw [g] at h4; exact h4 rfl
  rw [this] at hQ; exact hQ
 ·rw [if_neg g]
  have hall : nameOk (L s) = (L s).all okc := by
   unfold nameOk
   have e1 : 1 ≤ (L s).length := by rw [L_len]; omega
   have e2 : (L s).length ≤ 32 := by rw [L_len]; omega
   have e3 : L s ≠ [46] := fun h => g (.inl (.inr (L_inj h)))
   have e4 : L s ≠ [46, 46] := fun h => g (.inr (L_inj h))
   simp [e1, e2, e3, e4]
  rw [hall] at hQ
  have h32 : s.size ≤ 32 := by omega
  suffices ∀ m j, j + m = s.size → (∀ i, i < j → ∀ c, (L s)[i]? = some c → okc c = true) → lfpD (l2_ref02_Name B ro s Q) (j : Int) σ from
   this s.size 0 (Nat.zero_add _) (fun i h => absurd h (Nat.not_lt_zero _))
  intro m
  induction m with
  | zero =>
   intro j hj hk
   refine lfpD.intro ?_
   unfold l2_ref02_Name
   rw [if_neg (by omega)]
   have : (L s).all okc = true := by
    rw [List.all_eq_true]
    intro c hc
    obtain ⟨i, hi, e⟩ := List.getElem_of_mem hc
    exact hk i (by rw [L_len] at hi; omega) c (by rw [List.getElem?_eq_getElem hi, e])
   rw [this] at hQ; exact hQ
  | succ m ih =>
   intro j hj hk
   have hjl : j < (L s).length := by rw [L_len]; omega
   refine lfpD.intro ?_
   unfold l2_ref02_Name
   rw [if_pos (by omega)]
   refine ⟨(L s)[j], by omega, by rw [Int.toNat_natCast]; exact get_L s j (by omega), ?_⟩
   have key : ∀ x : Bool, (((x = true ∨ ((L s)[j].toNat : Int) = 46) ∨ ((L s)[j].toNat : Int) = 95) ∨ ((L s)[j].toNat : Int) = 45 ↔ okc (L s)[j] = true) → j5_ref02_Name B ro s j (L s)[j] Q (lfpD (l2_ref02_Name B ro s Q)) x σ := by
    intro x hx
    unfold j5_ref02_Name
    by_cases c : okc (L s)[j] = true
    ·rw [if_neg (fun h => h (hx.2 c)), inc j (by omega)]
     refine ih (j + 1) (by omega) fun i hi c' hc' => ?_
     rcases Nat.lt_or_ge i j with h | h
     ·exact hk i h c' hc'
     ·have : i = j := by omega
      subst this
      rw [List.getElem?_eq_getElem hjl] at hc'
      cases hc'; exact c
    ·rw [if_pos (fun h => c (hx.1 h))]
     have : (L s).all okc = false := by
      rw [Bool.eq_false_iff, ne_eq, List.all_eq_true]
      exact fun h => c (h _ (List.getElem_mem hjl))
     rw [this] at hQ; exact hQ
   by_cases b1 : (97 : Int) ≤ ((L s)[j].toNat : Int) ∧ ((L s)[j].toNat : Int) ≤ 122
   ·rw [if_pos b1]
    exact key _ (by rw [okc_int]; simp; omega)
   ·rw [if_neg b1]
    exact key _ (by rw [okc_int]; simp; omega)
theorem t25 : prog.underlying 25 = some (.slice 9) := by kernel_rfl
theorem rparts_ok {s : ByteArray} {Q : Sl → Bool → AH → Prop} (r : Nat) (hnone : parts (L s) = none → ∀ sl σ', Q sl false σ')
  (hsome : ∀ ps, parts (L s) = some ps → ∀ sl tag' σ', Step [r] ro tag σ tag' σ' → Row tag' σ' r 9 sl (ps.map vS) → Q sl true σ') : c_ref02_Parts B ro s σ Q := by
 refine ref02_Parts_ok fun hs => ?_
 unfold f_ref02_Parts
 by_cases h1 : s = ⟨#[47]⟩
 ·rw [if_pos h1]
  refine hsome [] ?_ _ tag σ (Step.refl hs) (Row.nil r 9)
  subst h1; rfl
 ·have hne : L s ≠ [47] := fun h => h1 (L_inj h)
  rw [if_neg h1]
  by_cases h2 : ((s.size : Int) < 1) ∨ 128 < (s.size : Int)
  ·rw [if_pos h2]
   unfold j1_ref02_Parts
   rw [if_pos rfl]
   refine hnone ?_ _ _
   unfold parts; rw [if_neg hne, if_neg]
   rintro ⟨a, b, _⟩
   rw [L_len] at a
   have : (L s).length = 0 := by rw [L_len]; omega
   rw [List.eq_nil_of_length_eq_zero this] at b
   cases b
  ·rw [if_neg h2]
   have h128 : s.size ≤ 128 := by omega
   have hpos : 0 < (L s).length := by rw [L_len]; omega
   refine ⟨(L s)[0], by omega, get_L s 0 (by omega), ?_⟩
   unfold j1_ref02_Parts
   by_cases h3 : (L s)[0] = 47
   ·rw [if_neg (by rw [h3]; decide)]
    obtain ⟨t, ht⟩ : ∃ t, L s = 47 :: t := by
     cases h : L s with
     | nil => rw [h] at hpos; cases hpos
     | cons c t => simp only [h, List.getElem_cons_zero] at h3; rw [h3]; exact ⟨t, rfl⟩
    have hsz : s.size = t.length + 1 := by rw [← L_len, ht]; rfl
    have hdrop : (L s).drop 1 = t := by rw [ht]; rfl
    have hno : ∀ x ∈ cut t, ¬ nameOk x = true → parts (L s) = none := fun x hx hx' => by
     unfold parts
     rw [if_neg hne, hdrop, if_neg]
     intro h; exact hx' (List.all_eq_true.1 h.2.2.2 x hx)
    have step : ∀ (i fr : Nat) (done : List Str) sl tag' σ' Y, i ≤ s.size → fr ≤ i → done.length ≤ i → ((L s).take i).drop fr ∈ cut t → Row tag' σ' r 9 sl (done.map vS) → Step [r] ro tag σ tag' σ' →
      (nameOk (((L s).take i).drop fr) = true → ∀ s2 tag2 σ2, Row tag2 σ2 r 9 s2 ((done ++ [((L s).take i).drop fr]).map vS) → Step [r] ro tag σ tag2 σ2 → Y (s2, ((i + 1 : Nat) : Int), ((i + 1 : Nat) : Int)) σ2) →
      j12_ref02_Parts B ro s sl (fr : Int) (i : Int) Q Y true σ' := by
     intro i fr done sl tag' σ' Y hi hf hdl hmem hr st hY
     unfold j12_ref02_Parts
     rw [if_pos rfl]
     have hcut : cutOk (some (fr : Int)) (some (i : Int)) s.size s.size := ⟨⟨by omega, by omega⟩, ⟨by omega, by simp [cutHi]; omega⟩⟩
     refine ⟨hcut, ?_⟩
     rw [Int.toNat_natCast, Int.toNat_natCast, S_ext]
     refine rname_ok ?_
     rw [L_S]
     by_cases hn : nameOk (((L s).take i).drop fr) = true
     ·rw [if_neg (by simpa using hn)]
      refine ⟨hcut, ?_⟩
      refine nw_cells (tag := tag') (r + 1) st.sep fun u tag2 σ2 st2 r2 => ?_
      have hr2 := hr.keep (st2 [])
      refine awp_append1 hr2 (st2 []).sep t25 ty9 rfl rfl (Row.cell1 r2 (st2 []).sep) rfl (by rw [List.length_map]; omega) (by decide) fun s' tag3 σ3 st3 r3 => ?_
      refine ⟨s', rfl, ?_⟩
      unfold j9_ref02_Parts
      rw [inc i (by omega)]
      exact hY hn s' tag3 σ3 (by rw [List.map_append]; exact r3) (st.trans ((st2 _).trans st3))
     ·rw [if_pos (by simpa using hn)]
      exact hnone (hno _ hmem hn) _ _
    suffices ∀ m i fr done sl tag' σ', i + m = s.size → fr ≤ i → 47 ∉ ((L s).take i).drop fr → cut t = done ++ cut ((L s).drop fr) → (∀ x ∈ done, nameOk x = true) → done.length ≤ i → Row tag' σ' r 9 sl (done.map vS) → Step [r] ro tag σ tag' σ' → lfpD (l5_ref02_Parts B ro s Q) (sl, (fr : Int), (i : Int)) σ' from
     this t.length 1 1 [] ⟨none, 0, 0⟩ tag σ (by omega) (Nat.le_refl _) (by rw [List.drop_eq_nil_of_le (by simp; omega)]; simp) (by rw [ht]; rfl) (by simp) (by simp) (Row.nil r 9) (Step.refl hs)
    intro m
    induction m with
    | zero =>
     intro i fr done sl tag' σ' hi hf2 hw hc hd hdl hr st
     refine lfpD.intro ?_
     unfold l5_ref02_Parts
     simp only
     rw [if_pos (by omega), if_pos (by omega)]
     have hti : (L s).take i = L s := List.take_of_length_le (by rw [L_len]; omega)
     rw [hti] at hw
     rw [cut_word _ hw] at hc
     refine step i fr done sl tag' σ' (lfpD (l5_ref02_Parts B ro s Q)) (by omega) hf2 hdl (by rw [hti, hc]; simp) hr st fun hn s2 tag2 σ2 r2 st2 => ?_
     rw [hti] at hn r2
     refine lfpD.intro ?_
     unfold l5_ref02_Parts
     simp only
     rw [if_neg (by omega)]
     unfold j3_ref02_Parts
     rw [← hc] at r2
     have hln : s2.len = (cut t).length := by rw [r2.len, List.length_map]
     by_cases h8 : 8 < (s2.len : Int)
     ·rw [if_pos h8]
      refine hnone ?_ _ _
      unfold parts
      rw [if_neg hne, hdrop, if_neg]
      intro h; have := h.2.2.1; omega
     ·rw [if_neg h8]
      refine hsome (cut t) ?_ s2 tag2 σ2 st2 r2
      unfold parts
      rw [if_neg hne, hdrop, if_pos]
      refine ⟨by rw [L_len]; omega, by rw [ht]; rfl, by omega, ?_⟩
      rw [List.all_eq_true, hc]
      intro x hx
      rcases List.mem_append.1 hx with h | h
      ·exact hd x h
      ·rw [List.mem_singleton] at h; rw [h]; exact hn
    | succ m ih =>
     intro i fr done sl tag' σ' hi hf2 hw hc hd hdl hr st
     have hil : i < (L s).length := by rw [L_len]; omega
     refine lfpD.intro ?_
     unfold l5_ref02_Parts
     simp only
     rw [if_pos (by omega), if_neg (by omega)]
     refine ⟨(L s)[i], by omega, by rw [Int.toNat_natCast]; exact get_L s i (by omega), ?_⟩
     have hsplit : (L s).drop fr = ((L s).take i).drop fr ++ (L s)[i] :: (L s).drop (i + 1) := by
      rw [← List.drop_eq_getElem_cons hil]
      conv => lhs; rw [← List.take_append_drop i (L s)]
      rw [List.drop_append_of_le_length (by simp; omega)]
     by_cases h47 : (L s)[i] = 47
     ·rw [h47] at hsplit ⊢
      rw [hsplit, cut_app _ _ hw] at hc
      rw [show (decide (((47 : UInt8).toNat : Int) = 47)) = true from by decide]
      refine step i fr done sl tag' σ' (lfpD (l5_ref02_Parts B ro s Q)) (by omega) hf2 hdl (by rw [hc]; simp) hr st fun hn s2 tag2 σ2 r2 st2 => ?_
      refine ih (i + 1) (i + 1) _ s2 tag2 σ2 (by omega) (Nat.le_refl _) (by rw [List.drop_eq_nil_of_le (by simp; omega)]; simp) (by rw [hc]; simp) (fun x hx => ?_) (by simp; omega) r2 st2
      rcases List.mem_append.1 hx with h | h
      ·exact hd x h
      ·rw [List.mem_singleton] at h; rw [h]; exact hn
     ·rw [show (decide ((((L s)[i]).toNat : Int) = 47)) = false from by
       simp; intro h; exact h47 (UInt8.toNat_inj.1 (by show (L s)[i].toNat = 47; omega))]
      unfold j12_ref02_Parts
      rw [if_neg (by decide)]
      unfold j9_ref02_Parts
      rw [inc i (by omega)]
      refine ih (i + 1) fr done sl tag' σ' (by omega) (by omega) ?_ hc hd (by omega) hr st
      rw [List.take_succ_eq_append_getElem hil, List.drop_append_of_le_length (by simp; omega)]
      intro h
      rcases List.mem_append.1 h with h | h
      ·exact hw h
      ·rw [List.mem_singleton] at h; exact h47 h.symm
   ·rw [if_pos (by simp; intro h; exact h3 (UInt8.toNat_inj.1 (by show (L s)[0].toNat = 47; omega)))]
    refine hnone ?_ _ _
    unfold parts
    rw [if_neg hne, if_neg]
    intro h
    apply h3
    have := h.2.1
    rw [List.head?_eq_getElem?, List.getElem?_eq_getElem hpos] at this
    exact Option.some.inj this
theorem mk_take_len (ps : List Str) : ∀ j, j ≤ ps.length → ((ps.take j).flatMap (fun x => 47 :: x)).length ≤ (ps.flatMap (fun x => 47 :: x)).length := by
 intro j hj
 conv => rhs; rw [← List.take_append_drop j ps]
 rw [List.flatMap_append, List.length_append]; omega
theorem rmake_ok {r : Nat} {s : Sl} {ps : List Str} {Q : ByteArray → AH → Prop} (h : Row tag σ r 9 s (ps.map vS)) (hs : SL.Sep ro σ) (hn : ps.length < 4611686018427387904) (hl : (mk ps).length < 4611686018427387904) (hQ : Q (S (mk ps)) σ) : c_ref02_Make B ro s σ Q := by
 refine ref02_Make_ok fun _ => ?_
 unfold f_ref02_Make
 have hln : s.len = ps.length := by rw [h.len, List.length_map]
 by_cases h0 : ps = []
 ·subst h0
  rw [if_pos (by rw [hln]; rfl)]
  exact hQ
 ·have hpos : 0 < ps.length := List.length_pos_iff.2 h0
  rw [if_neg (by omega)]
  unfold mk at hl hQ
  rw [if_neg h0] at hl hQ
  suffices ∀ m j, j + m = ps.length → lfpD (l3_ref02_Make B ro s Q) (S ((ps.take j).flatMap (fun x => 47 :: x)), (j : Int)) σ from this ps.length 0 (Nat.zero_add _)
  intro m
  induction m with
  | zero =>
   intro j hj
   refine lfpD.intro ?_
   unfold l3_ref02_Make
   simp only
   rw [if_neg (by omega), List.take_of_length_le (by omega)]
   exact hQ
  | succ m ih =>
   intro j hj
   have hjl : j < ps.length := by omega
   obtain ⟨p, hp, _, hg⟩ := Row.sget h hs hjl
   have h1 := mk_take_len ps (j + 1) (by omega)
   rw [List.take_succ_eq_append_getElem hjl, List.flatMap_append, List.length_append] at h1
   simp only [List.flatMap_cons, List.flatMap_nil, List.append_nil, List.length_cons] at h1
   refine lfpD.intro ?_
   unfold l3_ref02_Make
   simp only
   rw [if_pos (by omega)]
   refine ⟨p, hp, by omega, by omega, _, hg j hjl, by show 1 + (S ps[j]).size ≤ _; simp only [S_size]; omega, ?_, ?_⟩
   ·show _ + ((S [47]) ++ S ps[j]).size ≤ _
    rw [S_append]; simp only [S_size, List.length_append, List.length_cons, List.length_nil]; omega
   ·rw [inc j (by omega)]
    show lfpD _ (S ((ps.take j).flatMap (fun x => 47 :: x)) ++ (S [47] ++ S ps[j]), _) σ
    rw [S_append, S_append]
    have := ih (j + 1) (by omega)
    rw [List.take_succ_eq_append_getElem hjl, List.flatMap_append, List.flatMap_cons, List.flatMap_nil, List.append_nil] at this
    exact this
theorem good_small {ps : List Str} (h : Good ps) : ps.length < 4611686018427387904 ∧ (mk ps).length < 4611686018427387904 := by
 have := h.n; have := h.len; omega
theorem cutA_same (a : Option Addr) (c s : Nat) : cutA a 0 c s = a := by
 unfold cutA; split
 ·rfl
 ·cases a <;> simp
theorem Row.cap {r : Nat} {e : TypeId} {s : Sl} {l : List Value} (h : Row tag σ r e s l) : s.len ≤ s.cap := by
 rcases h with ⟨e, _⟩ | ⟨_, _, _, _, _, _, _, h, _⟩
 ·rw [e]; exact Nat.le_refl _
 ·exact h
theorem rparent_ok {s : ByteArray} {Q : ByteArray → Bool → AH → Prop} (hnone : parent (L s) = none → Q (⟨#[]⟩ : ByteArray) false σ) (hsome : ∀ u, parent (L s) = some u → Q (S u) true σ) : c_ref02_Parent B ro s σ Q := by
 refine ACalls.quiet (R := fun v => ∃ r0 r1, v = .tuple #[.string r0, .bool r1] ∧ ((parent (L s) = none ∧ r0 = (⟨#[]⟩ : ByteArray) ∧ r1 = false) ∨ ∃ u, parent (L s) = some u ∧ r0 = S u ∧ r1 = true)) ?_ ?_
 ·have : c_ref02_Parent B ro s (fun _ => none) fun r0 r1 _ => (parent (L s) = none ∧ r0 = (⟨#[]⟩ : ByteArray) ∧ r1 = false) ∨ ∃ u, parent (L s) = some u ∧ r0 = S u ∧ r1 = true := by
   refine ref02_Parent_ok fun hs => ?_
   unfold f_ref02_Parent
   refine rparts_ok (tag := fun _ => 0) 1 (fun h sl σ' => ?_) (fun ps hps sl tag' σ' st hr => ?_)
   ·rw [if_pos (by simp)]
    exact .inl ⟨by unfold parent; rw [h], rfl, rfl⟩
   ·have hln : sl.len = ps.length := by rw [hr.len, List.length_map]
    by_cases h0 : ps = []
    ·rw [if_pos (by right; rw [hln, h0]; rfl)]
     exact .inl ⟨by unfold parent; rw [hps, h0]; rfl, rfl, rfl⟩
    ·have hpos : 0 < ps.length := List.length_pos_iff.2 h0
     rw [if_neg (by simp; omega)]
     obtain ⟨_, hg⟩ := parts_iff.1 hps
     have h8 := hg.n
     rw [SL.w64_eq (by omega) (by omega)]
     refine ⟨⟨⟨by omega, by have := Row.cap hr; omega⟩, trivial⟩, ?_⟩
     have e : Int.toNat ((sl.len : Int) - 1) - 0 = ps.length - 1 := by omega
     rw [e, cutA_same]
     have ht := hr.take (n := ps.length - 1) (by simp)
     rw [← List.map_take, ← List.dropLast_eq_take] at ht
     have hg' := hg.up
     refine rmake_ok ht st.sep (good_small hg').1 (good_small hg').2 ?_
     exact .inr ⟨_, by unfold parent; rw [hps]; simp [h0], rfl, rfl⟩
  exact ACalls.mono this fun v τ ⟨r0, r1, hv, h⟩ => ⟨r0, r1, hv, h⟩
 ·rintro v ⟨r0, r1, hv, ⟨h, rfl, rfl⟩ | ⟨u, h, rfl, rfl⟩⟩
  ·exact ⟨_, _, hv, hnone h⟩
  ·exact ⟨_, _, hv, hsome u h⟩
theorem cut_app' (a r : Str) : cut (a ++ 47 :: r) = cut a ++ cut r := by
 induction a with
 | nil => rw [List.nil_append]; conv => lhs; unfold cut
          rw [if_pos rfl]; rfl
 | cons c a ih =>
  rw [List.cons_append]
  conv => lhs; unfold cut
  conv => rhs; arg 1; unfold cut
  by_cases h : c = 47
  ·rw [if_pos h, if_pos h, ih]; rfl
  ·rw [if_neg h, if_neg h, ih]
   cases hc : cut a with
   | nil => exact absurd hc (cut_ne a)
   | cons x xs => rfl
theorem under_iff {ps qs : List Str} (hp : Good ps) (hq : Good qs) (hn : ps ≠ []) : (mk qs = mk ps ∨ (mk ps ++ [47]) <+: mk qs) ↔ ps <+: qs := by
 have hcp : cut ((mk ps).drop 1) = ps := by unfold mk; rw [if_neg hn]; exact cut_mk ps hn fun x hx => name_no (hp.ok x hx)
 constructor
 ·rintro (h | ⟨r, h⟩)
  ·rw [mk_inj hq hp h]; exact List.prefix_refl _
  ·have hqn : qs ≠ [] := by
    intro e
    subst e
    have h1 := congrArg List.length h
    have h2 := mk_pos ps
    simp [mk] at h1
    simp only [mk] at h2
    omega
   have hcq : cut ((mk qs).drop 1) = qs := by unfold mk; rw [if_neg hqn]; exact cut_mk qs hqn fun x hx => name_no (hq.ok x hx)
   have e : (mk qs).drop 1 = (mk ps).drop 1 ++ 47 :: r := by
    rw [← h, List.append_assoc, List.drop_append_of_le_length (mk_pos ps)]; rfl
   rw [e, cut_app', hcp] at hcq
   exact ⟨_, hcq⟩
 ·rintro ⟨t, rfl⟩
  cases t with
  | nil => left; rw [List.append_nil]
  | cons x t =>
   right
   have e : mk (ps ++ x :: t) = mk ps ++ [47] ++ (x ++ t.flatMap (fun x => 47 :: x)) := by
    unfold mk
    rw [if_neg (by simp), if_neg hn, List.flatMap_append, List.flatMap_cons]; simp
   exact ⟨_, e.symm⟩
def under (p q : Str) : Option Bool := match parts p, parts q with | some ps, some qs => some (ps.isPrefixOf qs) | _, _ => none
theorem under_ok {p q : ByteArray} {Q : Bool → Int → AH → Prop} (g : Glob ro) (hnone : under (L p) (L q) = none → Q false 20 σ) (hsome : ∀ b, under (L p) (L q) = some b → Q b 0 σ) : c_path_Under B ro p q σ Q := by
 refine path_Under_ok fun hs => ?_
 unfold f_path_Under
 refine check_ok g ?_
 by_cases h1 : chk (L p) = 0
 ·rw [if_neg (by simpa using h1)]
  obtain ⟨ps, hps⟩ := chk_zero.1 h1
  refine check_ok g ?_
  unfold j2_path_Under
  by_cases h2 : chk (L q) = 0
  ·rw [if_neg (by simpa using h2)]
   obtain ⟨qs, hqs⟩ := chk_zero.1 h2
   obtain ⟨hpl, hpg⟩ := parts_iff.1 hps
   obtain ⟨hql, hqg⟩ := parts_iff.1 hqs
   have hu : under (L p) (L q) = some (ps.isPrefixOf qs) := by unfold under; rw [hps, hqs]
   have hres := hsome _ hu
   unfold j4_path_Under
   by_cases h3 : p = ⟨#[47]⟩ ∨ q = p
   ·rw [if_pos h3]
    have : ps.isPrefixOf qs = true := by
     rw [List.isPrefixOf_iff_prefix]
     rcases h3 with h | h
     ·have : ps = [] := (slash_iff hpg).1 (by rw [← hpl, h]; rfl)
      rw [this]; exact List.nil_prefix
     ·have : ps = qs := by rw [h, hps] at hqs; exact Option.some.inj hqs
      rw [this]; exact List.prefix_refl _
    rw [this] at hres; exact hres
   ·rw [if_neg h3]
    have hn : ps ≠ [] := fun e => h3 (.inl (L_inj (by rw [hpl, e]; rfl)))
    have h128 := hpg.len
    have hsz : p.size = (mk ps).length := by rw [← L_len, hpl]
    refine ⟨by show p.size + 1 ≤ _; omega, ?_⟩
    refine hasPrefix_ok ?_
    have e : (L (p ++ (⟨#[47]⟩ : ByteArray))).isPrefixOf (L q) = ps.isPrefixOf qs := by
     rw [L_append, hpl, hql, Bool.eq_iff_iff, List.isPrefixOf_iff_prefix, List.isPrefixOf_iff_prefix, ← under_iff hpg hqg hn]
     constructor
     ·intro h; exact .inr h
     ·rintro (h | h)
      ·exact absurd (.inr (L_inj (by rw [hpl, hql, h]))) h3
      ·exact h
    rw [e]; exact hres
  ·rw [if_pos (by simpa using h2)]
   refine hnone ?_
   unfold under
   cases h : parts (L q) with
   | none => cases parts (L p) <;> rfl
   | some qs => exact absurd (chk_zero.2 ⟨qs, h⟩) h2
 ·rw [if_pos (by simpa using h1)]
  unfold j2_path_Under
  rw [if_pos rfl]
  refine hnone ?_
  unfold under
  cases h : parts (L p) with
  | none => rfl
  | some qs => exact absurd (chk_zero.2 ⟨qs, h⟩) h1
def tens : Nat → Nat → Str
 | 0, _ => []
 | k + 1, n => tens k (n / 10) ++ [UInt8.ofNat (48 + n % 10)]
theorem tens_zero (k : Nat) : tens k 0 = List.replicate k 48 := by
 induction k with
 | zero => rfl
 | succ k ih => rw [tens, Nat.zero_div, ih, List.replicate_succ']; rfl
theorem tens_dec : ∀ (k n : Nat), n < 10 ^ (k + 1) → (Lib.decDigits n).length ≤ k + 1 ∧ List.replicate (k + 1 - (Lib.decDigits n).length) 48 ++ Lib.decDigits n = tens (k + 1) n := by
 intro k
 induction k with
 | zero =>
  intro n h
  have h : n < 10 := by simpa using h
  rw [Lib.decDigits, dif_pos h]
  refine ⟨by simp, ?_⟩
  simp [tens, Nat.mod_eq_of_lt h]
 | succ k ih =>
  intro n h
  by_cases h10 : n < 10
  ·rw [Lib.decDigits, dif_pos h10]
   refine ⟨by simp, ?_⟩
   rw [tens, Nat.div_eq_of_lt h10, tens_zero, Nat.mod_eq_of_lt h10]; simp
  ·rw [Lib.decDigits, dif_neg h10]
   obtain ⟨h1, h2⟩ := ih (n / 10) (by rw [Nat.div_lt_iff_lt_mul (by omega)]; rw [Nat.pow_succ] at h; exact h)
   refine ⟨by simp; omega, ?_⟩
   rw [tens, ← h2]
   simp only [List.length_append, List.length_cons, List.length_nil, ← List.append_assoc]
   rw [show k + 1 + 1 - ((Lib.decDigits (n / 10)).length + (0 + 1)) = k + 1 - (Lib.decDigits (n / 10)).length by omega]
theorem tens_len (k n : Nat) : (tens k n).length = k := by
 induction k generalizing n with
 | zero => rfl
 | succ k ih => rw [tens, List.length_append, ih]; rfl
theorem repeatL_rep (c : UInt8) (k : Nat) : Lib.repeatL [c] k = List.replicate k c := by
 induction k with
 | zero => rfl
 | succ k ih => rw [Lib.repeatL, ih]; rfl
theorem itoa_ok {n : Nat} {Q : ByteArray → AH → Prop} (g : Glob ro) (hn : n < 9223372036854775808) (hQ : Q (S (Lib.decDigits n)) σ) : c_strconv_Itoa B ro (n : Int) σ Q := by
 refine ACalls.of_calls fun w hw hsep => ?_
 refine (Tryz.strconv_Itoa (n : Int) (by omega) (by omega) w (g.tab w (sees_ro hw))).mono ?_
 rintro e w' ⟨he, k, os, rfl⟩
 have hb : Below w.heap.size w (Go.Sort.grow (w.drewN k) os) := ⟨rfl, rfl, rfl, by simp [Go.Sort.grow, World.drewN], fun b hb => by
  simp only [Go.Sort.grow, World.drewN]
  rw [Array.getElem?_append_left hb]⟩
 refine ⟨_, fun _ => none, he, hb, News.none _ _, S (Lib.decDigits n), ?_, ?_⟩
 ·rw [Lib.itoa_nonneg]; rfl
 ·rw [join_none_right]; exact hQ
theorem repeat_ok {k : Nat} {Q : ByteArray → AH → Prop} (hk : k ≤ 100) (hQ : Q (S (List.replicate k 48)) σ) : c_strings_Repeat B ro (⟨#[48]⟩ : ByteArray) (k : Int) σ Q := by
 refine ACalls.of_calls fun w hw hsep => ?_
 refine (Tryz.strings_Repeat (⟨#[48]⟩ : ByteArray) k w (by omega) (by show 1 * k ≤ _; omega)).mono ?_
 rintro e w' ⟨he, hb⟩
 refine ⟨_, fun _ => none, he, hb, News.none _ _, S (List.replicate k 48), ?_, ?_⟩
 ·rw [show (⟨#[48]⟩ : ByteArray).data.toList = [48] from rfl, repeatL_rep]; rfl
 ·rw [join_none_right]; exact hQ
def digits (n : Int) : Str := tens 10 n.toNat
def suffix (l : Str) (n : Int) : Option Str :=
 match parts l with
 | some ps => if ps = [] ∨ n < 0 ∨ 9999999999 < n then none else if (parts (l ++ digits n)).isSome then some (l ++ digits n) else none
 | none => none
theorem suffix_ok {p : ByteArray} {n : Int} {Q : ByteArray → Int → AH → Prop} (g : Glob ro) (hnone : suffix (L p) n = none → Q (⟨#[]⟩ : ByteArray) 20 σ) (hsome : ∀ u, suffix (L p) n = some u → Q (S u) 0 σ) : c_path_Suffix B ro p n σ Q := by
 refine path_Suffix_ok fun hs => ?_
 unfold f_path_Suffix
 by_cases h1 : (p = ⟨#[47]⟩ ∨ n < 0) ∨ 9999999999 < n
 ·rw [if_pos h1]
  unfold j1_path_Suffix
  rw [if_pos rfl]
  refine hnone ?_
  unfold suffix
  cases h : parts (L p) with
  | none => rfl
  | some ps =>
   obtain ⟨hl, hg⟩ := parts_iff.1 h
   refine if_pos ?_
   rcases h1 with (h1 | h1) | h1
   ·exact .inl ((slash_iff hg).1 (by rw [← hl, h1]; rfl))
   ·exact .inr (.inl h1)
   ·exact .inr (.inr h1)
 ·rw [if_neg h1]
  have hp1 : p ≠ ⟨#[47]⟩ := fun h => h1 (.inl (.inl h))
  obtain ⟨m, rfl⟩ : ∃ m : Nat, n = m := ⟨n.toNat, by omega⟩
  refine check_ok g ?_
  unfold j1_path_Suffix
  by_cases h2 : chk (L p) = 0
  ·rw [if_neg (by simpa using h2)]
   obtain ⟨ps, hps⟩ := chk_zero.1 h2
   obtain ⟨hl, hg⟩ := parts_iff.1 hps
   have hn : ps ≠ [] := fun e => hp1 (L_inj (by rw [hl, e]; rfl))
   refine itoa_ok g (by omega) ?_
   obtain ⟨hd1, hd2⟩ := tens_dec 9 m (by show m < 10000000000; omega)
   have e1 : i64.wrap (10 - ((S (Lib.decDigits m)).size : Int)) = ((9 + 1 - (Lib.decDigits m).length : Nat) : Int) := by
    rw [S_size, SL.w64_eq (by omega) (by omega)]; omega
   rw [e1]
   refine repeat_ok (by omega) ?_
   have hsz : p.size = (mk ps).length := by rw [← L_len, hl]
   have h128 := hg.len
   rw [S_append, hd2]
   refine ⟨by simp only [S_size, List.length_replicate]; omega, by rw [S_size, tens_len]; omega, ?_⟩
   have e2 : p ++ S (tens (9 + 1) m) = S (L p ++ digits m) := by
    conv => lhs; rw [← S_L p]
    rw [S_append]; rfl
   rw [e2]
   refine check_ok g ?_
   rw [L_S]
   have hsuf : suffix (L p) (m : Int) = if (parts (L p ++ digits m)).isSome then some (L p ++ digits m) else none := by
    unfold suffix; rw [hps]; simp only; rw [if_neg fun h => h.elim hn (by omega)]
   by_cases h3 : chk (L p ++ digits m) = 0
   ·rw [if_neg (by simpa using h3)]
    obtain ⟨qs, hqs⟩ := chk_zero.1 h3
    refine hsome _ ?_
    rw [hsuf, hqs]; rfl
   ·rw [if_pos (by simpa using h3)]
    have e3 : parts (L p ++ digits m) = none := by
     cases h : parts (L p ++ digits m) with
     | none => rfl
     | some qs => exact absurd (chk_zero.2 ⟨qs, h⟩) h3
    have : chk (L p ++ digits m) = 20 := by unfold chk; rw [e3]; rfl
    rw [this]
    refine hnone ?_
    rw [hsuf, e3]; rfl
  ·rw [if_pos (by simpa using h2)]
   refine hnone ?_
   unfold suffix
   cases h : parts (L p) with
   | none => rfl
   | some ps => exact absurd (chk_zero.2 ⟨ps, h⟩) h2
end Go.Proofs.YthfpmipeejjogaaGreatDoor.Pa
