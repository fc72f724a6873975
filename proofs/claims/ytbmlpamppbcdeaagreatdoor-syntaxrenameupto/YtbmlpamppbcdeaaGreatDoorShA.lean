/- A part of the proof of SyntaxRename. -/
import Derived.Shelf.Strings.Builder1
import Derived.Shelf.Small.Bits
import Derived.Shelf.Small.Strs
import Derived.Shelf.Strings.BuilderF
import Derived.Shelf.Strings.BuilderK
import Derived.Shelf.Strconv.Atoi
import Derived.Shelf.Strconv.Itoa0
import Derived.Shelf.Strconv.Itoa1
import Derived.Shelf.LaysM
import Derived.Shelf.Strconv.Itoa2
import Derived.Shelf.Strconv.Itoa3
import Derived.Shelf.Strconv.Clone
import Derived.Shelf.Strings.Search1
import Derived.Shelf.Strings.Search2
import Derived.Shelf.Strings.Search3
import Derived.Shelf.Strings.Shaped
import Derived.Shelf.Sort.Plain
import Derived.Shelf.Slices.Equal
import Derived.Ground.Names2Prog
import Derived.Shelf.Slices.Clone
import Derived.Shelf.Slices.In.SortNone
import Derived.Ground.SlgnProg
import Derived.Shelf.SlicesE.Clone
import Derived.Test.YtbmlpamppbcdeaaGreatDoorProg
namespace Go.Proofs
open Go.Shelf
def Tryz.laysM171_ren : Go.Shelf.Ren := ⟨fun | 171 => 156 | 243 => 223 | 246 => 262 | 283 => 282 | 284 => 283 | 285 => 284 | 286 => 285 | 129 => 241 | 317 => 297 | 318 => 298 | 319 => 299 | 320 => 300 | 337 => 310 | 338 => 311 | n => n, fun | 3 => 3 | 9 => 9 | 2 => 2 | 4 => 4 | 171 => 274 | 0 => 0 | 53 => 255 | 37 => 61 | 5 => 5 | 173 => 276 | 212 => 290 | 51 => 253 | 20 => 20 | 213 => 291 | 46 => 212 | 232 => 303 | 233 => 304 | n => n, fun | 17 => 1 | 18 => 5 | 19 => 6 | n => n⟩
theorem Tryz.laysM171 : Go.Proofs.LaysM.n171 Tryz.prog Tryz.laysM171_ren := {
  mixed := by kernel_rfl
  f129 := Tryz.func241.trans (congrArg some (by kernel_rfl))
  f171 := Tryz.func156.trans (congrArg some (by kernel_rfl))
  f243 := Tryz.func223.trans (congrArg some (by kernel_rfl))
  f246 := Tryz.func262.trans (congrArg some (by kernel_rfl))
  f283 := Tryz.func282.trans (congrArg some (by kernel_rfl))
  f284 := Tryz.func283.trans (congrArg some (by kernel_rfl))
  f285 := Tryz.func284.trans (congrArg some (by kernel_rfl))
  f286 := Tryz.func285.trans (congrArg some (by kernel_rfl))
  f317 := Tryz.func297.trans (congrArg some (by kernel_rfl))
  f318 := Tryz.func298.trans (congrArg some (by kernel_rfl))
  f319 := Tryz.func299.trans (congrArg some (by kernel_rfl))
  f320 := Tryz.func300.trans (congrArg some (by kernel_rfl))
  f337 := Tryz.func310.trans (congrArg some (by kernel_rfl))
  f338 := Tryz.func311.trans (congrArg some (by kernel_rfl))
  t0 := Tryz.underlying0
  a0 := Tryz.isAgg0
  z0 := Tryz.sizeOf0
  v0 := Tryz.zeroValue0
  t2 := Tryz.underlying2
  a2 := Tryz.isAgg2
  z2 := Tryz.sizeOf2
  v2 := Tryz.zeroValue2
  t3 := Tryz.underlying3
  a3 := Tryz.isAgg3
  z3 := Tryz.sizeOf3
  v3 := Tryz.zeroValue3
  t4 := Tryz.underlying4
  a4 := Tryz.isAgg4
  z4 := Tryz.sizeOf4
  v4 := Tryz.zeroValue4
  t5 := Tryz.underlying5
  a5 := Tryz.isAgg5
  z5 := Tryz.sizeOf5
  v5 := Tryz.zeroValue5
  t9 := Tryz.underlying9
  a9 := Tryz.isAgg9
  z9 := Tryz.sizeOf9
  v9 := Tryz.zeroValue9
  t20 := Tryz.underlying20
  a20 := Tryz.isAgg20
  z20 := Tryz.sizeOf20
  v20 := Tryz.zeroValue20
  t37 := Tryz.underlying61
  a37 := Tryz.isAgg61
  z37 := Tryz.sizeOf61
  v37 := Tryz.zeroValue61
  t46 := Tryz.underlying212
  a46 := Tryz.isAgg212
  z46 := Tryz.sizeOf212
  v46 := Tryz.zeroValue212
  t51 := Tryz.underlying253
  a51 := Tryz.isAgg253
  z51 := Tryz.sizeOf253
  v51 := Tryz.zeroValue253
  t53 := Tryz.underlying255
  a53 := Tryz.isAgg255
  z53 := Tryz.sizeOf255
  v53 := Tryz.zeroValue255
  t171 := Tryz.underlying274
  a171 := Tryz.isAgg274
  z171 := Tryz.sizeOf274
  v171 := Tryz.zeroValue274
  t173 := Tryz.underlying276
  a173 := Tryz.isAgg276
  z173 := Tryz.sizeOf276
  v173 := Tryz.zeroValue276
  t212 := Tryz.underlying290
  a212 := Tryz.isAgg290
  z212 := Tryz.sizeOf290
  v212 := Tryz.zeroValue290
  t213 := Tryz.underlying291
  a213 := Tryz.isAgg291
  z213 := Tryz.sizeOf291
  t232 := Tryz.underlying303
  a232 := Tryz.isAgg303
  z232 := Tryz.sizeOf303
  v232 := Tryz.zeroValue303
  t233 := Tryz.underlying304
  a233 := Tryz.isAgg304
  z233 := Tryz.sizeOf304
  v233 := Tryz.zeroValue304
  g17 := by kernel_rfl
  g18 := by kernel_rfl
  g19 := by kernel_rfl
  i0 := by kernel_rfl
  i2 := by kernel_rfl
  i3 := by kernel_rfl
  i4 := by kernel_rfl
  i5 := by kernel_rfl
  i9 := by kernel_rfl
  i20 := by kernel_rfl
  i37 := by kernel_rfl
  i46 := by kernel_rfl
  i51 := by kernel_rfl
  i53 := by kernel_rfl
  i171 := by kernel_rfl
  i173 := by kernel_rfl
  i212 := by kernel_rfl
  i232 := by kernel_rfl
  i233 := by kernel_rfl
  m17 := by kernel_rfl
  m18 := by kernel_rfl
  m19 := by kernel_rfl }
open Go.RowKit Go.Sort Go.Lib in
theorem Tryz.strconv_Itoa (n : Int) (h0 : -9223372036854775808 ≤ n) (h1 : n ≤ 9223372036854775807) (w : World) (htab : Lib.TabIs Tryz.prog w "internal/strconv.uint64pow10" .u64 Lib.pow10Tab) :
    Calls Tryz.prog 156 #[.int .i64 n] w fun e w' => e = .returned (.string ⟨(Lib.itoa n).toArray⟩) ∧ ∃ k os, w' = grow (w.drewN k) os := Any.strconv_Itoa Tryz.laysM171 n h0 h1 w htab
def Tryz.lays144_ren : Go.Shelf.Ren := ⟨fun | 144 => 244 | 143 => 272 | 219 => 288 | 217 => 289 | 225 => 301 | 224 => 302 | 267 => 303 | 266 => 304 | 314 => 312 | n => n, fun | 9 => 9 | 4 => 4 | 3 => 3 | 5 => 5 | 46 => 212 | 146 => 297 | 51 => 253 | n => n, fun | 1 => 2 | n => n⟩
theorem Tryz.lays144 : Go.Proofs.Lays.n144 Tryz.prog Tryz.lays144_ren := {
  mixed := by kernel_rfl
  f143 := Tryz.func272.trans (congrArg some (by kernel_rfl))
  f144 := Tryz.func244.trans (congrArg some (by kernel_rfl))
  f217 := Tryz.func289.trans (congrArg some (by kernel_rfl))
  f219 := Tryz.func288.trans (congrArg some (by kernel_rfl))
  f224 := Tryz.func302.trans (congrArg some (by kernel_rfl))
  f225 := Tryz.func301.trans (congrArg some (by kernel_rfl))
  f266 := Tryz.func304.trans (congrArg some (by kernel_rfl))
  f267 := Tryz.func303.trans (congrArg some (by kernel_rfl))
  f314 := Tryz.func312.trans (congrArg some (by kernel_rfl))
  t3 := Tryz.underlying3
  a3 := Tryz.isAgg3
  z3 := Tryz.sizeOf3
  v3 := Tryz.zeroValue3
  t4 := Tryz.underlying4
  a4 := Tryz.isAgg4
  z4 := Tryz.sizeOf4
  v4 := Tryz.zeroValue4
  t5 := Tryz.underlying5
  a5 := Tryz.isAgg5
  z5 := Tryz.sizeOf5
  v5 := Tryz.zeroValue5
  t9 := Tryz.underlying9
  a9 := Tryz.isAgg9
  z9 := Tryz.sizeOf9
  v9 := Tryz.zeroValue9
  t46 := Tryz.underlying212
  a46 := Tryz.isAgg212
  z46 := Tryz.sizeOf212
  v46 := Tryz.zeroValue212
  t51 := Tryz.underlying253
  a51 := Tryz.isAgg253
  z51 := Tryz.sizeOf253
  v51 := Tryz.zeroValue253
  t146 := Tryz.underlying297
  a146 := Tryz.isAgg297
  z146 := Tryz.sizeOf297
  v146 := Tryz.zeroValue297
  g1 := by kernel_rfl }
open Go.RowKit Go.Lib in
theorem Tryz.strings_Contains (s sub : ByteArray) (m : Int) (w : World) (hs : s.size < 4294967281) (hm : w.cell? ⟨2, 0, none⟩ = some (.int .i64 m)) :
    Calls Tryz.prog 244 #[.string s, .string sub] w fun e w' => e = .returned (.bool (Lib.contains s.data.toList sub.data.toList)) ∧ w' = w := Any.strings_Contains Tryz.lays144 s sub m w hs hm
def Tryz.lays190_ren : Go.Shelf.Ren := ⟨fun | 190 => 92 | 125 => 178 | 258 => 177 | 128 => 240 | 129 => 241 | 302 => 231 | 303 => 232 | 304 => 233 | 305 => 234 | 306 => 235 | 307 => 236 | 308 => 237 | 309 => 238 | 310 => 239 | 333 => 266 | 329 => 267 | 330 => 268 | 334 => 269 | 335 => 270 | 336 => 271 | 344 => 287 | n => n, fun | 31 => 28 | 9 => 9 | 3 => 3 | 46 => 212 | 0 => 0 | 51 => 253 | 53 => 255 | 4 => 4 | 183 => 246 | 182 => 245 | 131 => 250 | 5 => 5 | 218 => 263 | 222 => 267 | 228 => 279 | 229 => 280 | n => n, fun | n => n⟩
theorem Tryz.lays190 : Go.Proofs.Lays.n190 Tryz.prog Tryz.lays190_ren := {
  mixed := by kernel_rfl
  f125 := Tryz.func178.trans (congrArg some (by kernel_rfl))
  f128 := Tryz.func240.trans (congrArg some (by kernel_rfl))
  f129 := Tryz.func241.trans (congrArg some (by kernel_rfl))
  f190 := Tryz.func92.trans (congrArg some (by kernel_rfl))
  f258 := Tryz.func177.trans (congrArg some (by kernel_rfl))
  f302 := Tryz.func231.trans (congrArg some (by kernel_rfl))
  f303 := Tryz.func232.trans (congrArg some (by kernel_rfl))
  f304 := Tryz.func233.trans (congrArg some (by kernel_rfl))
  f305 := Tryz.func234.trans (congrArg some (by kernel_rfl))
  f306 := Tryz.func235.trans (congrArg some (by kernel_rfl))
  f307 := Tryz.func236.trans (congrArg some (by kernel_rfl))
  f308 := Tryz.func237.trans (congrArg some (by kernel_rfl))
  f309 := Tryz.func238.trans (congrArg some (by kernel_rfl))
  f310 := Tryz.func239.trans (congrArg some (by kernel_rfl))
  f329 := Tryz.func267.trans (congrArg some (by kernel_rfl))
  f330 := Tryz.func268.trans (congrArg some (by kernel_rfl))
  f333 := Tryz.func266.trans (congrArg some (by kernel_rfl))
  f334 := Tryz.func269.trans (congrArg some (by kernel_rfl))
  f335 := Tryz.func270.trans (congrArg some (by kernel_rfl))
  f336 := Tryz.func271.trans (congrArg some (by kernel_rfl))
  f344 := Tryz.func287.trans (congrArg some (by kernel_rfl))
  t0 := Tryz.underlying0
  a0 := Tryz.isAgg0
  z0 := Tryz.sizeOf0
  v0 := Tryz.zeroValue0
  t3 := Tryz.underlying3
  a3 := Tryz.isAgg3
  z3 := Tryz.sizeOf3
  v3 := Tryz.zeroValue3
  t4 := Tryz.underlying4
  a4 := Tryz.isAgg4
  z4 := Tryz.sizeOf4
  v4 := Tryz.zeroValue4
  t5 := Tryz.underlying5
  a5 := Tryz.isAgg5
  z5 := Tryz.sizeOf5
  v5 := Tryz.zeroValue5
  t9 := Tryz.underlying9
  a9 := Tryz.isAgg9
  z9 := Tryz.sizeOf9
  v9 := Tryz.zeroValue9
  t31 := Tryz.underlying28
  a31 := Tryz.isAgg28
  z31 := Tryz.sizeOf28
  v31 := Tryz.zeroValue28
  t46 := Tryz.underlying212
  a46 := Tryz.isAgg212
  z46 := Tryz.sizeOf212
  v46 := Tryz.zeroValue212
  t51 := Tryz.underlying253
  a51 := Tryz.isAgg253
  z51 := Tryz.sizeOf253
  v51 := Tryz.zeroValue253
  t53 := Tryz.underlying255
  a53 := Tryz.isAgg255
  z53 := Tryz.sizeOf255
  v53 := Tryz.zeroValue255
  t131 := Tryz.underlying250
  a131 := Tryz.isAgg250
  z131 := Tryz.sizeOf250
  v131 := Tryz.zeroValue250
  t182 := Tryz.underlying245
  a182 := Tryz.isAgg245
  z182 := Tryz.sizeOf245
  v182 := Tryz.zeroValue245
  t183 := Tryz.underlying246
  a183 := Tryz.isAgg246
  z183 := Tryz.sizeOf246
  v183 := Tryz.zeroValue246
  t218 := Tryz.underlying263
  a218 := Tryz.isAgg263
  z218 := Tryz.sizeOf263
  v218 := Tryz.zeroValue263
  t222 := Tryz.underlying267
  a222 := Tryz.isAgg267
  z222 := Tryz.sizeOf267
  v222 := Tryz.zeroValue267
  t228 := Tryz.underlying279
  a228 := Tryz.isAgg279
  z228 := Tryz.sizeOf279
  v228 := Tryz.zeroValue279
  t229 := Tryz.underlying280
  a229 := Tryz.isAgg280
  z229 := Tryz.sizeOf280
  v229 := Tryz.zeroValue280 }
open Go.Sort Go.RowKit in
theorem Tryz.slices_Sort_string (blk off cap : Nat) (ss : List (List UInt8)) (w : World) (hH : Holds encStr w blk off ss.toArray) (hblk : blk < w.heap.size) (hsz : ss.length < 4611686018427387904) :
    Calls Tryz.prog 92 #[.slice (some ⟨blk, off, none⟩) ss.length cap] w fun e w' =>
      e = .returned (.tuple #[]) ∧ ∃ n os, w' = grow (putRow encStr (Sort.ahead w n) blk off (ss.mergeSort fun x y => decide (x ≤ y)).toArray) os := Any.slices_Sort_string Tryz.lays190 blk off cap ss w hH hblk hsz
end Go.Proofs

