/-
  Parts of the proof.
-/
import Derived.Shelf.Strings.OnBuilder
import Derived.Shelf.Small.Utf8
import Derived.Shelf.Small.Bits
import Derived.Shelf.Small.Wraps
import Derived.Shelf.Strings.Shaped
import Derived.Shelf.Sort.Plain
import Derived.Shelf.Strings.SplitShaped
import Derived.Shelf.Strings.IndexAnyAll
import Derived.Shelf.Strings.Explode
import Derived.Shelf.Unicode.DecodeSlow
import Derived.Shelf.Strings.BuilderCap
import Derived.Shelf.SortM.SortNone
import Derived.Shelf.Bytes.SlEqualAll
import Derived.Test.YtffffjngodinnaaGreatDoorProg
section
namespace Go.Proofs
open Go.Shelf
def Tryz.lays156_ren : Go.Shelf.Ren := ⟨fun | 156 => 177 | 165 => 191 | 166 => 192 | 169 => 193 | 240 => 210 | 241 => 211 | 276 => 217 | 277 => 218 | n => n, fun | 31 => 22 | 9 => 9 | 3 => 3 | 4 => 4 | 0 => 0 | 20 => 20 | 72 => 291 | 76 => 294 | 70 => 289 | 37 => 23 | 75 => 293 | 127 => 304 | 164 => 313 | 5 => 5 | 80 => 296 | n => n, fun | n => n⟩
theorem Tryz.lays156 : Go.Proofs.Lays.n156 Tryz.prog Tryz.lays156_ren := {
 mixed := by kernel_rfl
 f156 := Tryz.func177.trans (congrArg some (by kernel_rfl))
 f165 := Tryz.func191.trans (congrArg some (by kernel_rfl))
 f166 := Tryz.func192.trans (congrArg some (by kernel_rfl))
 f169 := Tryz.func193.trans (congrArg some (by kernel_rfl))
 f240 := Tryz.func210.trans (congrArg some (by kernel_rfl))
 f241 := Tryz.func211.trans (congrArg some (by kernel_rfl))
 f276 := Tryz.func217.trans (congrArg some (by kernel_rfl))
 f277 := Tryz.func218.trans (congrArg some (by kernel_rfl))
 t0 := Tryz.underlying0
 a0 := Tryz.isAgg0
 z0 := Tryz.sizeOf0
 v0 := Tryz.zeroValue0
 t3 := Tryz.underlying3
 a3 := Tryz.isAgg3
 z3 := Tryz.sizeOf3
 v3 := Tryz.zeroValue3
 t4 := Tryz.underlying4
 a4 := Tryz.isAgg4
 z4 := Tryz.sizeOf4
 v4 := Tryz.zeroValue4
 t9 := Tryz.underlying9
 a9 := Tryz.isAgg9
 z9 := Tryz.sizeOf9
 v9 := Tryz.zeroValue9
 t20 := Tryz.underlying20
 a20 := Tryz.isAgg20
 z20 := Tryz.sizeOf20
 v20 := Tryz.zeroValue20
 t31 := Tryz.underlying22
 a31 := Tryz.isAgg22
 z31 := Tryz.sizeOf22
 v31 := Tryz.zeroValue22
 t37 := Tryz.underlying23
 a37 := Tryz.isAgg23
 z37 := Tryz.sizeOf23
 v37 := Tryz.zeroValue23
 t70 := Tryz.underlying289
 a70 := Tryz.isAgg289
 z70 := Tryz.sizeOf289
 v70 := Tryz.zeroValue289
 t72 := Tryz.underlying291
 a72 := Tryz.isAgg291
 z72 := Tryz.sizeOf291
 v72 := Tryz.zeroValue291
 t75 := Tryz.underlying293
 a75 := Tryz.isAgg293
 z75 := Tryz.sizeOf293
 v75 := Tryz.zeroValue293
 t76 := Tryz.underlying294
 a76 := Tryz.isAgg294
 z76 := Tryz.sizeOf294
 v76 := Tryz.zeroValue294
 t127 := Tryz.underlying304
 a127 := Tryz.isAgg304
 z127 := Tryz.sizeOf304
 v127 := Tryz.zeroValue304
 t164 := Tryz.underlying313
 a164 := Tryz.isAgg313
 z164 := Tryz.sizeOf313
 v164 := Tryz.zeroValue313 }
theorem Tryz.Builder_Extra_156 : Builder.Extra Tryz.prog Tryz.lays156_ren := {
 sizeBuilder := by kernel_rfl
 liesBuilder := by kernel_rfl
 t5 := Tryz.underlying5
 a5 := Tryz.isAgg5
 z5 := Tryz.sizeOf5
 v5 := Tryz.zeroValue5
 infoByte := by kernel_rfl
 cellsByte := by kernel_rfl
 sizeByte := by kernel_rfl
 neB5 := by decide }
open Go.RowKit in
theorem Tryz.strings_Join (bk o c : Nat) (xs : List ByteArray) (sep : ByteArray) (w : World) (hcells : ∀ (j : Nat) x, xs[j]? = some x -> w.cell? ⟨bk, o + j, none⟩ = some (.string x)) (hbk : bk < w.heap.size) (hN : xs.length <= 140737488355328) (hcap : xs.length <= c) (hlen : (Lib.join (xs.map (·.data.toList)) sep.data.toList).length <= 140737488355328) :
 Calls Tryz.prog 177 #[.slice (some ⟨bk, o, none⟩) xs.length c, .string sep] w fun e w' => e = .returned (.string ⟨(Lib.join (xs.map (·.data.toList)) sep.data.toList).toArray⟩) /\ Below w.heap.size w w' := Any.strings_Join Tryz.lays156 Tryz.Builder_Extra_156 bk o c xs sep w hcells hbk hN hcap hlen
def Tryz.lays119_ren : Go.Shelf.Ren := ⟨fun | 119 => 209 | n => n, fun | 21 => 21 | 4 => 4 | n => n, fun | n => n⟩
theorem Tryz.lays119 : Go.Proofs.Lays.n119 Tryz.prog Tryz.lays119_ren := {
 mixed := by kernel_rfl
 f119 := Tryz.func209.trans (congrArg some (by kernel_rfl))
 t4 := Tryz.underlying4
 a4 := Tryz.isAgg4
 z4 := Tryz.sizeOf4
 v4 := Tryz.zeroValue4
 t21 := Tryz.underlying21
 a21 := Tryz.isAgg21
 z21 := Tryz.sizeOf21
 v21 := Tryz.zeroValue21 }
theorem Tryz.utf8_ValidRune (r : Int) (w : World) :
 Calls Tryz.prog 209 #[.int .i32 r] w fun e w' => e = .returned (.bool (Lib.validRune r)) /\ w' = w := Any.utf8_ValidRune Tryz.lays119 r w
def Tryz.lays125_ren : Go.Shelf.Ren := ⟨fun | 125 => 104 | 128 => 141 | 129 => 142 | n => n, fun | 46 => 209 | 3 => 3 | 51 => 248 | 53 => 250 | 4 => 4 | 5 => 5 | 9 => 9 | n => n, fun | n => n⟩
theorem Tryz.lays125 : Go.Proofs.Lays.n125 Tryz.prog Tryz.lays125_ren := {
 mixed := by kernel_rfl
 f125 := Tryz.func104.trans (congrArg some (by kernel_rfl))
 f128 := Tryz.func141.trans (congrArg some (by kernel_rfl))
 f129 := Tryz.func142.trans (congrArg some (by kernel_rfl))
 t3 := Tryz.underlying3
 a3 := Tryz.isAgg3
 z3 := Tryz.sizeOf3
 v3 := Tryz.zeroValue3
 t4 := Tryz.underlying4
 a4 := Tryz.isAgg4
 z4 := Tryz.sizeOf4
 v4 := Tryz.zeroValue4
 t5 := Tryz.underlying5
 a5 := Tryz.isAgg5
 z5 := Tryz.sizeOf5
 v5 := Tryz.zeroValue5
 t9 := Tryz.underlying9
 a9 := Tryz.isAgg9
 z9 := Tryz.sizeOf9
 v9 := Tryz.zeroValue9
 t46 := Tryz.underlying209
 a46 := Tryz.isAgg209
 z46 := Tryz.sizeOf209
 v46 := Tryz.zeroValue209
 t51 := Tryz.underlying248
 a51 := Tryz.isAgg248
 z51 := Tryz.sizeOf248
 v51 := Tryz.zeroValue248
 t53 := Tryz.underlying250
 a53 := Tryz.isAgg250
 z53 := Tryz.sizeOf250
 v53 := Tryz.zeroValue250 }
theorem Tryz.bits_Len (x : Int) (w : World) (h0 : 0 <= x) (h1 : x <= 18446744073709551615) :
 Calls Tryz.prog 104 #[.int .u64 x] w fun e w' => e = .returned (.int .i64 (Lib.bitLen x.toNat)) /\ w' = w := Any.bits_Len Tryz.lays125 x w h0 h1
def Tryz.lays137_ren : Go.Shelf.Ren := ⟨fun | 137 => 208 | 217 => 204 | 266 => 215 | n => n, fun | 9 => 9 | 5 => 5 | 3 => 3 | n => n, fun | n => n⟩
theorem Tryz.lays137 : Go.Proofs.Lays.n137 Tryz.prog Tryz.lays137_ren := {
 mixed := by kernel_rfl
 f137 := Tryz.func208.trans (congrArg some (by kernel_rfl))
 f217 := Tryz.func204.trans (congrArg some (by kernel_rfl))
 f266 := Tryz.func215.trans (congrArg some (by kernel_rfl))
 t3 := Tryz.underlying3
 a3 := Tryz.isAgg3
 z3 := Tryz.sizeOf3
 v3 := Tryz.zeroValue3
 t5 := Tryz.underlying5
 a5 := Tryz.isAgg5
 z5 := Tryz.sizeOf5
 v5 := Tryz.zeroValue5
 t9 := Tryz.underlying9
 a9 := Tryz.isAgg9
 z9 := Tryz.sizeOf9
 v9 := Tryz.zeroValue9 }
open Go.RowKit in
theorem Tryz.strings_IndexByte (s : ByteArray) (c : Int) (w : World) :
 Calls Tryz.prog 208 #[.string s, .int .u8 c] w fun e w' => e = .returned (.int .i64 (Lib.indexByte s.data.toList c.toNat.toUInt8)) /\ w' = w := Any.strings_IndexByte Tryz.lays137 s c w
def Tryz.lays210_ren : Go.Shelf.Ren := ⟨fun | 210 => 150 | 206 => 172 | n => n, fun | 9 => 9 | 4 => 4 | 3 => 3 | n => n, fun | n => n⟩
def Tryz.lays103_ren : Go.Shelf.Ren := ⟨fun | 103 => 120 | 210 => 150 | 206 => 172 | n => n, fun | 9 => 9 | 4 => 4 | 24 => 217 | 3 => 3 | n => n, fun | n => n⟩
theorem Tryz.lays103 : Go.Proofs.Lays.n103 Tryz.prog Tryz.lays103_ren := {
 mixed := by kernel_rfl
 f103 := Tryz.func120.trans (congrArg some (by kernel_rfl))
 f206 := Tryz.func172.trans (congrArg some (by kernel_rfl))
 f210 := Tryz.func150.trans (congrArg some (by kernel_rfl))
 t3 := Tryz.underlying3
 a3 := Tryz.isAgg3
 z3 := Tryz.sizeOf3
 v3 := Tryz.zeroValue3
 t4 := Tryz.underlying4
 a4 := Tryz.isAgg4
 z4 := Tryz.sizeOf4
 v4 := Tryz.zeroValue4
 t9 := Tryz.underlying9
 a9 := Tryz.isAgg9
 z9 := Tryz.sizeOf9
 v9 := Tryz.zeroValue9
 t24 := Tryz.underlying217
 a24 := Tryz.isAgg217
 z24 := Tryz.sizeOf217
 v24 := Tryz.zeroValue217 }
open Go.RowKit in
theorem Tryz.strings_CutPrefix (s p : ByteArray) (w : World) :
 Calls Tryz.prog 120 #[.string s, .string p] w fun e w' => e = .returned (.tuple #[.string ⟨(Lib.trimPrefix s.data.toList p.data.toList).toArray⟩, .bool (Lib.hasPrefix s.data.toList p.data.toList)]) /\ w' = w := Any.strings_CutPrefix Tryz.lays103 s p w
def Tryz.lays219_ren : Go.Shelf.Ren := ⟨fun | 219 => 186 | 217 => 204 | 225 => 205 | 224 => 206 | 267 => 207 | 266 => 215 | 314 => 216 | n => n, fun | 9 => 9 | 3 => 3 | 4 => 4 | 5 => 5 | 46 => 209 | 146 => 311 | 51 => 248 | n => n, fun | 1 => 0 | n => n⟩
def Tryz.lays143_ren : Go.Shelf.Ren := ⟨fun | 143 => 175 | 219 => 186 | 217 => 204 | 225 => 205 | 224 => 206 | 267 => 207 | 266 => 215 | 314 => 216 | n => n, fun | 9 => 9 | 3 => 3 | 4 => 4 | 5 => 5 | 46 => 209 | 146 => 311 | 51 => 248 | n => n, fun | 1 => 0 | n => n⟩
theorem Tryz.lays143 : Go.Proofs.Lays.n143 Tryz.prog Tryz.lays143_ren := {
 mixed := by kernel_rfl
 f143 := Tryz.func175.trans (congrArg some (by kernel_rfl))
 f217 := Tryz.func204.trans (congrArg some (by kernel_rfl))
 f219 := Tryz.func186.trans (congrArg some (by kernel_rfl))
 f224 := Tryz.func206.trans (congrArg some (by kernel_rfl))
 f225 := Tryz.func205.trans (congrArg some (by kernel_rfl))
 f266 := Tryz.func215.trans (congrArg some (by kernel_rfl))
 f267 := Tryz.func207.trans (congrArg some (by kernel_rfl))
 f314 := Tryz.func216.trans (congrArg some (by kernel_rfl))
 t3 := Tryz.underlying3
 a3 := Tryz.isAgg3
 z3 := Tryz.sizeOf3
 v3 := Tryz.zeroValue3
 t4 := Tryz.underlying4
 a4 := Tryz.isAgg4
 z4 := Tryz.sizeOf4
 v4 := Tryz.zeroValue4
 t5 := Tryz.underlying5
 a5 := Tryz.isAgg5
 z5 := Tryz.sizeOf5
 v5 := Tryz.zeroValue5
 t9 := Tryz.underlying9
 a9 := Tryz.isAgg9
 z9 := Tryz.sizeOf9
 v9 := Tryz.zeroValue9
 t46 := Tryz.underlying209
 a46 := Tryz.isAgg209
 z46 := Tryz.sizeOf209
 v46 := Tryz.zeroValue209
 t51 := Tryz.underlying248
 a51 := Tryz.isAgg248
 z51 := Tryz.sizeOf248
 v51 := Tryz.zeroValue248
 t146 := Tryz.underlying311
 a146 := Tryz.isAgg311
 z146 := Tryz.sizeOf311
 v146 := Tryz.zeroValue311
 g1 := by kernel_rfl }
open Go.RowKit Go.Lib in
theorem Tryz.strings_Index_one (s : ByteArray) (c : UInt8) (w : World) :
 Calls Tryz.prog 175 #[.string s, .string ⟨#[c]⟩] w fun e w' => e = .returned (.int .i64 (Lib.indexByte s.data.toList c)) /\ w' = w := Any.strings_Index_one Tryz.lays143 s c w
def Tryz.lays138_ren : Go.Shelf.Ren := ⟨fun | 138 => 174 | 195 => 183 | 218 => 185 | 143 => 175 | 219 => 186 | 217 => 204 | 225 => 205 | 224 => 206 | 267 => 207 | 266 => 215 | 314 => 216 | n => n, fun | 9 => 9 | 3 => 3 | 4 => 4 | 5 => 5 | 0 => 0 | 46 => 209 | 146 => 311 | 51 => 248 | n => n, fun | 1 => 0 | n => n⟩
theorem Tryz.lays138 : Go.Proofs.Lays.n138 Tryz.prog Tryz.lays138_ren := {
 mixed := by kernel_rfl
 f138 := Tryz.func174.trans (congrArg some (by kernel_rfl))
 f143 := Tryz.func175.trans (congrArg some (by kernel_rfl))
 f195 := Tryz.func183.trans (congrArg some (by kernel_rfl))
 f217 := Tryz.func204.trans (congrArg some (by kernel_rfl))
 f218 := Tryz.func185.trans (congrArg some (by kernel_rfl))
 f219 := Tryz.func186.trans (congrArg some (by kernel_rfl))
 f224 := Tryz.func206.trans (congrArg some (by kernel_rfl))
 f225 := Tryz.func205.trans (congrArg some (by kernel_rfl))
 f266 := Tryz.func215.trans (congrArg some (by kernel_rfl))
 f267 := Tryz.func207.trans (congrArg some (by kernel_rfl))
 f314 := Tryz.func216.trans (congrArg some (by kernel_rfl))
 t0 := Tryz.underlying0
 a0 := Tryz.isAgg0
 z0 := Tryz.sizeOf0
 v0 := Tryz.zeroValue0
 t3 := Tryz.underlying3
 a3 := Tryz.isAgg3
 z3 := Tryz.sizeOf3
 v3 := Tryz.zeroValue3
 t4 := Tryz.underlying4
 a4 := Tryz.isAgg4
 z4 := Tryz.sizeOf4
 v4 := Tryz.zeroValue4
 t5 := Tryz.underlying5
 a5 := Tryz.isAgg5
 z5 := Tryz.sizeOf5
 v5 := Tryz.zeroValue5
 t9 := Tryz.underlying9
 a9 := Tryz.isAgg9
 z9 := Tryz.sizeOf9
 v9 := Tryz.zeroValue9
 t46 := Tryz.underlying209
 a46 := Tryz.isAgg209
 z46 := Tryz.sizeOf209
 v46 := Tryz.zeroValue209
 t51 := Tryz.underlying248
 a51 := Tryz.isAgg248
 z51 := Tryz.sizeOf248
 v51 := Tryz.zeroValue248
 t146 := Tryz.underlying311
 a146 := Tryz.isAgg311
 z146 := Tryz.sizeOf311
 v146 := Tryz.zeroValue311
 g1 := by kernel_rfl }
open Go.RowKit Go.Lib in
theorem Tryz.strings_Count_one (s : ByteArray) (c : UInt8) (w : World) :
 Calls Tryz.prog 174 #[.string s, .string ⟨#[c]⟩] w fun e w' => e = .returned (.int .i64 (Lib.countByte s.data.toList c)) /\ w' = w := Any.strings_Count_one Tryz.lays138 s c w
def Tryz.lays190_ren : Go.Shelf.Ren := ⟨fun | 190 => 159 | 125 => 104 | 258 => 180 | 128 => 141 | 129 => 142 | 302 => 194 | 303 => 195 | 304 => 196 | 305 => 197 | 306 => 198 | 307 => 199 | 308 => 200 | 309 => 201 | 310 => 202 | 333 => 212 | 329 => 162 | 330 => 163 | 334 => 213 | 335 => 214 | 336 => 105 | 344 => 219 | n => n, fun | 31 => 22 | 9 => 9 | 3 => 3 | 46 => 209 | 0 => 0 | 51 => 248 | 53 => 250 | 4 => 4 | 183 => 241 | 182 => 240 | 131 => 245 | 5 => 5 | 218 => 263 | 222 => 267 | 228 => 277 | 229 => 278 | n => n, fun | n => n⟩
theorem Tryz.lays190 : Go.Proofs.Lays.n190 Tryz.prog Tryz.lays190_ren := {
 mixed := by kernel_rfl
 f125 := Tryz.func104.trans (congrArg some (by kernel_rfl))
 f128 := Tryz.func141.trans (congrArg some (by kernel_rfl))
 f129 := Tryz.func142.trans (congrArg some (by kernel_rfl))
 f190 := Tryz.func159.trans (congrArg some (by kernel_rfl))
 f258 := Tryz.func180.trans (congrArg some (by kernel_rfl))
 f302 := Tryz.func194.trans (congrArg some (by kernel_rfl))
 f303 := Tryz.func195.trans (congrArg some (by kernel_rfl))
 f304 := Tryz.func196.trans (congrArg some (by kernel_rfl))
 f305 := Tryz.func197.trans (congrArg some (by kernel_rfl))
 f306 := Tryz.func198.trans (congrArg some (by kernel_rfl))
 f307 := Tryz.func199.trans (congrArg some (by kernel_rfl))
 f308 := Tryz.func200.trans (congrArg some (by kernel_rfl))
 f309 := Tryz.func201.trans (congrArg some (by kernel_rfl))
 f310 := Tryz.func202.trans (congrArg some (by kernel_rfl))
 f329 := Tryz.func162.trans (congrArg some (by kernel_rfl))
 f330 := Tryz.func163.trans (congrArg some (by kernel_rfl))
 f333 := Tryz.func212.trans (congrArg some (by kernel_rfl))
 f334 := Tryz.func213.trans (congrArg some (by kernel_rfl))
 f335 := Tryz.func214.trans (congrArg some (by kernel_rfl))
 f336 := Tryz.func105.trans (congrArg some (by kernel_rfl))
 f344 := Tryz.func219.trans (congrArg some (by kernel_rfl))
 t0 := Tryz.underlying0
 a0 := Tryz.isAgg0
 z0 := Tryz.sizeOf0
 v0 := Tryz.zeroValue0
 t3 := Tryz.underlying3
 a3 := Tryz.isAgg3
 z3 := Tryz.sizeOf3
 v3 := Tryz.zeroValue3
 t4 := Tryz.underlying4
 a4 := Tryz.isAgg4
 z4 := Tryz.sizeOf4
 v4 := Tryz.zeroValue4
 t5 := Tryz.underlying5
 a5 := Tryz.isAgg5
 z5 := Tryz.sizeOf5
 v5 := Tryz.zeroValue5
 t9 := Tryz.underlying9
 a9 := Tryz.isAgg9
 z9 := Tryz.sizeOf9
 v9 := Tryz.zeroValue9
 t31 := Tryz.underlying22
 a31 := Tryz.isAgg22
 z31 := Tryz.sizeOf22
 v31 := Tryz.zeroValue22
 t46 := Tryz.underlying209
 a46 := Tryz.isAgg209
 z46 := Tryz.sizeOf209
 v46 := Tryz.zeroValue209
 t51 := Tryz.underlying248
 a51 := Tryz.isAgg248
 z51 := Tryz.sizeOf248
 v51 := Tryz.zeroValue248
 t53 := Tryz.underlying250
 a53 := Tryz.isAgg250
 z53 := Tryz.sizeOf250
 v53 := Tryz.zeroValue250
 t131 := Tryz.underlying245
 a131 := Tryz.isAgg245
 z131 := Tryz.sizeOf245
 v131 := Tryz.zeroValue245
 t182 := Tryz.underlying240
 a182 := Tryz.isAgg240
 z182 := Tryz.sizeOf240
 v182 := Tryz.zeroValue240
 t183 := Tryz.underlying241
 a183 := Tryz.isAgg241
 z183 := Tryz.sizeOf241
 v183 := Tryz.zeroValue241
 t218 := Tryz.underlying263
 a218 := Tryz.isAgg263
 z218 := Tryz.sizeOf263
 v218 := Tryz.zeroValue263
 t222 := Tryz.underlying267
 a222 := Tryz.isAgg267
 z222 := Tryz.sizeOf267
 v222 := Tryz.zeroValue267
 t228 := Tryz.underlying277
 a228 := Tryz.isAgg277
 z228 := Tryz.sizeOf277
 v228 := Tryz.zeroValue277
 t229 := Tryz.underlying278
 a229 := Tryz.isAgg278
 z229 := Tryz.sizeOf278
 v229 := Tryz.zeroValue278 }
open Go.Sort Go.RowKit in
theorem Tryz.slices_Sort_string (blk off cap : Nat) (ss : List (List UInt8)) (w : World) (hH : Holds encStr w blk off ss.toArray) (hblk : blk < w.heap.size) (hsz : ss.length < 4611686018427387904) :
 Calls Tryz.prog 159 #[.slice (some ⟨blk, off, none⟩) ss.length cap] w fun e w' =>
  e = .returned (.tuple #[]) /\ ∃ n os, w' = grow (putRow encStr (Sort.ahead w n) blk off (ss.mergeSort fun x y => decide (x <= y)).toArray) os := Any.slices_Sort_string Tryz.lays190 blk off cap ss w hH hblk hsz
def Tryz.lays100_ren : Go.Shelf.Ren := ⟨fun | 100 => 127 | 207 => 156 | n => n, fun | 9 => 9 | 4 => 4 | 3 => 3 | n => n, fun | n => n⟩
theorem Tryz.lays100 : Go.Proofs.Lays.n100 Tryz.prog Tryz.lays100_ren := {
 mixed := by kernel_rfl
 f100 := Tryz.func127.trans (congrArg some (by kernel_rfl))
 f207 := Tryz.func156.trans (congrArg some (by kernel_rfl))
 t3 := Tryz.underlying3
 a3 := Tryz.isAgg3
 z3 := Tryz.sizeOf3
 v3 := Tryz.zeroValue3
 t4 := Tryz.underlying4
 a4 := Tryz.isAgg4
 z4 := Tryz.sizeOf4
 v4 := Tryz.zeroValue4
 t9 := Tryz.underlying9
 a9 := Tryz.isAgg9
 z9 := Tryz.sizeOf9
 v9 := Tryz.zeroValue9 }
open Go.RowKit Go.Lib in
theorem Tryz.strings_HasSuffix (s p : ByteArray) (w : World) (hs : s.size <= 9223372036854775807) :
 Calls Tryz.prog 127 #[.string s, .string p] w fun e w' => e = .returned (.bool (Lib.hasSuffix s.data.toList p.data.toList)) /\ w' = w := Any.strings_HasSuffix Tryz.lays100 s p w hs
def Tryz.lays221_ren : Go.Shelf.Ren := ⟨fun | 221 => 151 | 268 => 173 | 138 => 174 | 143 => 175 | 195 => 183 | 197 => 184 | 218 => 185 | 219 => 186 | 260 => 203 | 217 => 204 | 225 => 205 | 224 => 206 | 267 => 207 | 266 => 215 | 314 => 216 | n => n, fun | 9 => 9 | 3 => 3 | 31 => 22 | 4 => 4 | 0 => 0 | 105 => 280 | 21 => 21 | 5 => 5 | 46 => 209 | 119 => 307 | 139 => 310 | 138 => 309 | 146 => 311 | 51 => 248 | n => n, fun | 1 => 0 | 3 => 1 | 4 => 2 | n => n⟩
theorem Tryz.lays221 : Go.Proofs.Lays.n221 Tryz.prog Tryz.lays221_ren := {
 mixed := by kernel_rfl
 f138 := Tryz.func174.trans (congrArg some (by kernel_rfl))
 f143 := Tryz.func175.trans (congrArg some (by kernel_rfl))
 f195 := Tryz.func183.trans (congrArg some (by kernel_rfl))
 f197 := Tryz.func184.trans (congrArg some (by kernel_rfl))
 f217 := Tryz.func204.trans (congrArg some (by kernel_rfl))
 f218 := Tryz.func185.trans (congrArg some (by kernel_rfl))
 f219 := Tryz.func186.trans (congrArg some (by kernel_rfl))
 f221 := Tryz.func151.trans (congrArg some (by kernel_rfl))
 f224 := Tryz.func206.trans (congrArg some (by kernel_rfl))
 f225 := Tryz.func205.trans (congrArg some (by kernel_rfl))
 f260 := Tryz.func203.trans (congrArg some (by kernel_rfl))
 f266 := Tryz.func215.trans (congrArg some (by kernel_rfl))
 f267 := Tryz.func207.trans (congrArg some (by kernel_rfl))
 f268 := Tryz.func173.trans (congrArg some (by kernel_rfl))
 f314 := Tryz.func216.trans (congrArg some (by kernel_rfl))
 t0 := Tryz.underlying0
 a0 := Tryz.isAgg0
 z0 := Tryz.sizeOf0
 v0 := Tryz.zeroValue0
 t3 := Tryz.underlying3
 a3 := Tryz.isAgg3
 z3 := Tryz.sizeOf3
 v3 := Tryz.zeroValue3
 t4 := Tryz.underlying4
 a4 := Tryz.isAgg4
 z4 := Tryz.sizeOf4
 v4 := Tryz.zeroValue4
 t5 := Tryz.underlying5
 a5 := Tryz.isAgg5
 z5 := Tryz.sizeOf5
 v5 := Tryz.zeroValue5
 t9 := Tryz.underlying9
 a9 := Tryz.isAgg9
 z9 := Tryz.sizeOf9
 v9 := Tryz.zeroValue9
 t21 := Tryz.underlying21
 a21 := Tryz.isAgg21
 z21 := Tryz.sizeOf21
 v21 := Tryz.zeroValue21
 t31 := Tryz.underlying22
 a31 := Tryz.isAgg22
 z31 := Tryz.sizeOf22
 v31 := Tryz.zeroValue22
 t46 := Tryz.underlying209
 a46 := Tryz.isAgg209
 z46 := Tryz.sizeOf209
 v46 := Tryz.zeroValue209
 t51 := Tryz.underlying248
 a51 := Tryz.isAgg248
 z51 := Tryz.sizeOf248
 v51 := Tryz.zeroValue248
 t105 := Tryz.underlying280
 a105 := Tryz.isAgg280
 z105 := Tryz.sizeOf280
 v105 := Tryz.zeroValue280
 t119 := Tryz.underlying307
 a119 := Tryz.isAgg307
 z119 := Tryz.sizeOf307
 t138 := Tryz.underlying309
 a138 := Tryz.isAgg309
 z138 := Tryz.sizeOf309
 v138 := Tryz.zeroValue309
 t139 := Tryz.underlying310
 a139 := Tryz.isAgg310
 z139 := Tryz.sizeOf310
 v139 := Tryz.zeroValue310
 t146 := Tryz.underlying311
 a146 := Tryz.isAgg311
 z146 := Tryz.sizeOf311
 v146 := Tryz.zeroValue311
 g1 := by kernel_rfl
 g3 := by kernel_rfl
 g4 := by kernel_rfl }
def Tryz.lays152_ren : Go.Shelf.Ren := ⟨fun | 152 => 187 | 137 => 208 | 119 => 209 | 224 => 206 | 225 => 205 | 217 => 204 | 266 => 215 | n => n, fun | 9 => 9 | 21 => 21 | 3 => 3 | 4 => 4 | 5 => 5 | 0 => 0 | 46 => 209 | n => n, fun | n => n⟩
theorem Tryz.lays152 : Go.Proofs.Lays.n152 Tryz.prog Tryz.lays152_ren := {
 mixed := by kernel_rfl
 f119 := Tryz.func209.trans (congrArg some (by kernel_rfl))
 f137 := Tryz.func208.trans (congrArg some (by kernel_rfl))
 f152 := Tryz.func187.trans (congrArg some (by kernel_rfl))
 f217 := Tryz.func204.trans (congrArg some (by kernel_rfl))
 f224 := Tryz.func206.trans (congrArg some (by kernel_rfl))
 f225 := Tryz.func205.trans (congrArg some (by kernel_rfl))
 f266 := Tryz.func215.trans (congrArg some (by kernel_rfl))
 t0 := Tryz.underlying0
 a0 := Tryz.isAgg0
 z0 := Tryz.sizeOf0
 v0 := Tryz.zeroValue0
 t3 := Tryz.underlying3
 a3 := Tryz.isAgg3
 z3 := Tryz.sizeOf3
 v3 := Tryz.zeroValue3
 t4 := Tryz.underlying4
 a4 := Tryz.isAgg4
 z4 := Tryz.sizeOf4
 v4 := Tryz.zeroValue4
 t5 := Tryz.underlying5
 a5 := Tryz.isAgg5
 z5 := Tryz.sizeOf5
 v5 := Tryz.zeroValue5
 t9 := Tryz.underlying9
 a9 := Tryz.isAgg9
 z9 := Tryz.sizeOf9
 v9 := Tryz.zeroValue9
 t21 := Tryz.underlying21
 a21 := Tryz.isAgg21
 z21 := Tryz.sizeOf21
 v21 := Tryz.zeroValue21
 t46 := Tryz.underlying209
 a46 := Tryz.isAgg209
 z46 := Tryz.sizeOf209
 v46 := Tryz.zeroValue209 }
open Go.RowKit Go.Lib in
theorem Tryz.strings_IndexRune_ascii (s : ByteArray) (r : Int) (w : World) (h0 : 0 <= r) (h1 : r < 128) :
 Calls Tryz.prog 187 #[.string s, .int .i32 r] w fun e w' => e = .returned (.int .i64 (Lib.indexByte s.data.toList r.toNat.toUInt8)) /\ w' = w := Any.strings_IndexRune_ascii Tryz.lays152 s r w h0 h1
def Tryz.lays226_ren : Go.Shelf.Ren := ⟨fun | 226 => 188 | n => n, fun | 3 => 3 | 4 => 4 | n => n, fun | n => n⟩
theorem Tryz.lays226 : Go.Proofs.Lays.n226 Tryz.prog Tryz.lays226_ren := {
 mixed := by kernel_rfl
 f226 := Tryz.func188.trans (congrArg some (by kernel_rfl))
 t3 := Tryz.underlying3
 a3 := Tryz.isAgg3
 z3 := Tryz.sizeOf3
 v3 := Tryz.zeroValue3
 t4 := Tryz.underlying4
 a4 := Tryz.isAgg4
 z4 := Tryz.sizeOf4
 v4 := Tryz.zeroValue4 }
open Go.RowKit Go.Lib in
theorem Tryz.strings_shouldUseASCIISet (n : Int) (w : World) :
 Calls Tryz.prog 188 #[.int .i64 n] w fun e w' => e = .returned (.bool (decide (8 < n))) /\ w' = w := Any.strings_shouldUseASCIISet Tryz.lays226 n w
def Tryz.lays153_ren : Go.Shelf.Ren := ⟨fun | 153 => 176 | 152 => 187 | 226 => 188 | 227 => 189 | 228 => 190 | 137 => 208 | 119 => 209 | 224 => 206 | 225 => 205 | 217 => 204 | 266 => 215 | n => n, fun | 9 => 9 | 3 => 3 | 4 => 4 | 5 => 5 | 21 => 21 | 117 => 286 | 116 => 285 | 0 => 0 | 46 => 209 | 124 => 303 | n => n, fun | n => n⟩
theorem Tryz.lays153 : Go.Proofs.Lays.n153 Tryz.prog Tryz.lays153_ren := {
 mixed := by kernel_rfl
 f119 := Tryz.func209.trans (congrArg some (by kernel_rfl))
 f137 := Tryz.func208.trans (congrArg some (by kernel_rfl))
 f152 := Tryz.func187.trans (congrArg some (by kernel_rfl))
 f153 := Tryz.func176.trans (congrArg some (by kernel_rfl))
 f217 := Tryz.func204.trans (congrArg some (by kernel_rfl))
 f224 := Tryz.func206.trans (congrArg some (by kernel_rfl))
 f225 := Tryz.func205.trans (congrArg some (by kernel_rfl))
 f226 := Tryz.func188.trans (congrArg some (by kernel_rfl))
 f227 := Tryz.func189.trans (congrArg some (by kernel_rfl))
 f228 := Tryz.func190.trans (congrArg some (by kernel_rfl))
 f266 := Tryz.func215.trans (congrArg some (by kernel_rfl))
 t0 := Tryz.underlying0
 a0 := Tryz.isAgg0
 z0 := Tryz.sizeOf0
 v0 := Tryz.zeroValue0
 t3 := Tryz.underlying3
 a3 := Tryz.isAgg3
 z3 := Tryz.sizeOf3
 v3 := Tryz.zeroValue3
 t4 := Tryz.underlying4
 a4 := Tryz.isAgg4
 z4 := Tryz.sizeOf4
 v4 := Tryz.zeroValue4
 t5 := Tryz.underlying5
 a5 := Tryz.isAgg5
 z5 := Tryz.sizeOf5
 v5 := Tryz.zeroValue5
 t9 := Tryz.underlying9
 a9 := Tryz.isAgg9
 z9 := Tryz.sizeOf9
 v9 := Tryz.zeroValue9
 t21 := Tryz.underlying21
 a21 := Tryz.isAgg21
 z21 := Tryz.sizeOf21
 v21 := Tryz.zeroValue21
 t46 := Tryz.underlying209
 a46 := Tryz.isAgg209
 z46 := Tryz.sizeOf209
 v46 := Tryz.zeroValue209
 t116 := Tryz.underlying285
 a116 := Tryz.isAgg285
 z116 := Tryz.sizeOf285
 t117 := Tryz.underlying286
 a117 := Tryz.isAgg286
 z117 := Tryz.sizeOf286
 v117 := Tryz.zeroValue286
 t124 := Tryz.underlying303
 a124 := Tryz.isAgg303
 z124 := Tryz.sizeOf303
 v124 := Tryz.zeroValue303 }
open Go.RowKit Go.Lib in
theorem Tryz.strings_IndexAny_long (hv116 : ∀ w, (zeroValue 285).run Tryz.prog w = .ok (.agg (Array.replicate 256 (.bool false))) w) (s chars : ByteArray) (w : World) (h2 : 2 <= chars.size) (h8 : 8 < s.size) (hs : s.size < 4294967281) (hcs : chars.size < 4294967281) (hascii : ∀ (j : Nat) b, chars.data.toList[j]? = some b -> b.toNat < 128) :
 Calls Tryz.prog 176 #[.string s, .string chars] w fun e w' => e = .returned (.int .i64 (Lib.indexAny s.data.toList chars.data.toList)) /\ w' = ((w.alloc (.cells (Lib.setCells chars.data.toList) 285)).alloc (.cells (Lib.setCells chars.data.toList) 285)) := Any.strings_IndexAny_long Tryz.lays153 hv116 (by kernel_rfl) s chars w h2 h8 hs hcs hascii
def Tryz.laysSlM6_f159_ren : Go.Shelf.Ren := ⟨fun | 6 => 159 | 8 => 104 | 9 => 180 | 19 => 141 | 20 => 142 | 21 => 194 | 22 => 195 | 23 => 196 | 24 => 197 | 25 => 198 | 26 => 199 | 27 => 200 | 28 => 201 | 29 => 202 | 36 => 212 | 31 => 162 | 32 => 163 | 37 => 213 | 38 => 214 | 39 => 105 | 41 => 219 | n => n, fun | 27 => 22 | 29 => 9 | 3 => 3 | 32 => 209 | 26 => 22 | 0 => 0 | 44 => 248 | 46 => 250 | 4 => 4 | 36 => 241 | 35 => 240 | 41 => 245 | 5 => 5 | 9 => 9 | 53 => 263 | 57 => 267 | 63 => 277 | 64 => 278 | n => n, fun | n => n⟩
theorem Tryz.laysSlM6_f159 : Go.Proofs.SlLaysM.n6 Tryz.prog Tryz.laysSlM6_f159_ren := {
 mixed := by kernel_rfl
 f6 := ⟨Tryz.f159.name, by decide, Tryz.func159.trans (congrArg some (by kernel_rfl))⟩
 f8 := Tryz.func104.trans (congrArg some (by kernel_rfl))
 f9 := ⟨Tryz.f180.name, by decide, Tryz.func180.trans (congrArg some (by kernel_rfl))⟩
 f19 := Tryz.func141.trans (congrArg some (by kernel_rfl))
 f20 := Tryz.func142.trans (congrArg some (by kernel_rfl))
 f21 := ⟨Tryz.f194.name, by decide, Tryz.func194.trans (congrArg some (by kernel_rfl))⟩
 f22 := ⟨Tryz.f195.name, by decide, Tryz.func195.trans (congrArg some (by kernel_rfl))⟩
 f23 := ⟨Tryz.f196.name, by decide, Tryz.func196.trans (congrArg some (by kernel_rfl))⟩
 f24 := ⟨Tryz.f197.name, by decide, Tryz.func197.trans (congrArg some (by kernel_rfl))⟩
 f25 := ⟨Tryz.f198.name, by decide, Tryz.func198.trans (congrArg some (by kernel_rfl))⟩
 f26 := ⟨Tryz.f199.name, by decide, Tryz.func199.trans (congrArg some (by kernel_rfl))⟩
 f27 := ⟨Tryz.f200.name, by decide, Tryz.func200.trans (congrArg some (by kernel_rfl))⟩
 f28 := ⟨Tryz.f201.name, by decide, Tryz.func201.trans (congrArg some (by kernel_rfl))⟩
 f29 := ⟨Tryz.f202.name, by decide, Tryz.func202.trans (congrArg some (by kernel_rfl))⟩
 f31 := Tryz.func162.trans (congrArg some (by kernel_rfl))
 f32 := Tryz.func163.trans (congrArg some (by kernel_rfl))
 f36 := ⟨Tryz.f212.name, by decide, Tryz.func212.trans (congrArg some (by kernel_rfl))⟩
 f37 := ⟨Tryz.f213.name, by decide, Tryz.func213.trans (congrArg some (by kernel_rfl))⟩
 f38 := ⟨Tryz.f214.name, by decide, Tryz.func214.trans (congrArg some (by kernel_rfl))⟩
 f39 := ⟨Tryz.f105.name, by decide, Tryz.func105.trans (congrArg some (by kernel_rfl))⟩
 f41 := ⟨Tryz.f219.name, by decide, Tryz.func219.trans (congrArg some (by kernel_rfl))⟩
 t0 := Tryz.underlying0
 a0 := Tryz.isAgg0
 z0 := Tryz.sizeOf0
 v0 := Tryz.zeroValue0
 t3 := Tryz.underlying3
 a3 := Tryz.isAgg3
 z3 := Tryz.sizeOf3
 v3 := Tryz.zeroValue3
 t4 := Tryz.underlying4
 a4 := Tryz.isAgg4
 z4 := Tryz.sizeOf4
 v4 := Tryz.zeroValue4
 t5 := Tryz.underlying5
 a5 := Tryz.isAgg5
 z5 := Tryz.sizeOf5
 v5 := Tryz.zeroValue5
 t9 := Tryz.underlying9
 a9 := Tryz.isAgg9
 z9 := Tryz.sizeOf9
 v9 := Tryz.zeroValue9
 t26 := Tryz.underlying22
 a26 := Tryz.isAgg22
 z26 := Tryz.sizeOf22
 v26 := Tryz.zeroValue22
 t27 := Tryz.underlying22
 a27 := Tryz.isAgg22
 z27 := Tryz.sizeOf22
 v27 := Tryz.zeroValue22
 t29 := Tryz.underlying9
 a29 := Tryz.isAgg9
 z29 := Tryz.sizeOf9
 v29 := Tryz.zeroValue9
 t32 := Tryz.underlying209
 a32 := Tryz.isAgg209
 z32 := Tryz.sizeOf209
 v32 := Tryz.zeroValue209
 t35 := Tryz.underlying240
 a35 := Tryz.isAgg240
 z35 := Tryz.sizeOf240
 v35 := Tryz.zeroValue240
 t36 := Tryz.underlying241
 a36 := Tryz.isAgg241
 z36 := Tryz.sizeOf241
 v36 := Tryz.zeroValue241
 t41 := Tryz.underlying245
 a41 := Tryz.isAgg245
 z41 := Tryz.sizeOf245
 v41 := Tryz.zeroValue245
 t44 := Tryz.underlying248
 a44 := Tryz.isAgg248
 z44 := Tryz.sizeOf248
 v44 := Tryz.zeroValue248
 t46 := Tryz.underlying250
 a46 := Tryz.isAgg250
 z46 := Tryz.sizeOf250
 v46 := Tryz.zeroValue250
 t53 := Tryz.underlying263
 a53 := Tryz.isAgg263
 z53 := Tryz.sizeOf263
 v53 := Tryz.zeroValue263
 t57 := Tryz.underlying267
 a57 := Tryz.isAgg267
 z57 := Tryz.sizeOf267
 v57 := Tryz.zeroValue267
 t63 := Tryz.underlying277
 a63 := Tryz.isAgg277
 z63 := Tryz.sizeOf277
 v63 := Tryz.zeroValue277
 t64 := Tryz.underlying278
 a64 := Tryz.isAgg278
 z64 := Tryz.sizeOf278
 v64 := Tryz.zeroValue278 }
open Go.RowKit Go.Sort in
theorem Tryz.slices_Sort_string_none (p : Option Addr) (cap : Nat) (w : World) :
 Calls Tryz.prog 159 #[.slice p 0 cap] w fun e w' => e = .returned (.tuple #[]) /\ w' = w := AnyM.slices_Sort_string_none Tryz.laysSlM6_f159 p cap w
def Tryz.laysnb115_ren : Go.Shelf.Ren := ⟨fun | 115 => 92 | n => n, fun | 37 => 23 | 4 => 4 | 9 => 9 | 5 => 5 | n => n, fun | n => n⟩
def Tryz.lays115_ren : Go.Shelf.Ren := ⟨fun | 115 => 92 | n => n, fun | 37 => 23 | 4 => 4 | 9 => 9 | 5 => 5 | n => n, fun | n => n⟩
theorem Tryz.lays115 : Go.Proofs.Lays.n115 Tryz.prog Tryz.lays115_ren := {
 mixed := by kernel_rfl
 f115 := Tryz.func92.trans (congrArg some (by kernel_rfl))
 t4 := Tryz.underlying4
 a4 := Tryz.isAgg4
 z4 := Tryz.sizeOf4
 v4 := Tryz.zeroValue4
 t9 := Tryz.underlying9
 a9 := Tryz.isAgg9
 z9 := Tryz.sizeOf9
 v9 := Tryz.zeroValue9
 t37 := Tryz.underlying23
 a37 := Tryz.isAgg23
 z37 := Tryz.sizeOf23
 v37 := Tryz.zeroValue23 }
theorem Tryz.bytes_Equal (v1 v2 : Value) (xs ys : List Int) (w : World) (h1 : (convert 23 9 v1).run Tryz.prog w = .ok (.string (strOfNums xs)) w) (h2 : (convert 23 9 v2).run Tryz.prog w = .ok (.string (strOfNums ys)) w) :
 Calls Tryz.prog 92 #[v1, v2] w fun e w' => e = .returned (.bool (Lib.bytesOf xs == Lib.bytesOf ys)) /\ w' = w := Any.bytes_Equal Tryz.lays115 v1 v2 xs ys w h1 h2
end Go.Proofs
end
