/- A part of the proof of InterpSpaces. -/
import Derived.Shelf.Small.Bits
import Derived.Shelf.Small.Wraps
import Derived.Shelf.Strconv.Itoa0
import Derived.Shelf.Strconv.Itoa1
import Derived.Shelf.LaysM
import Derived.Shelf.Strconv.Itoa2
import Derived.Shelf.Strconv.Itoa3
import Derived.Shelf.Strconv.Clone
import Derived.Shelf.Strings.Search1
import Derived.Shelf.Strings.Search2
import Derived.Shelf.Strings.Search3
import Derived.Shelf.Strings.Shaped
import Derived.Shelf.Sort.Plain
import Derived.Shelf.Slices.Turned
import Derived.Shelf.Slices.Equal
import Derived.Ground.Names2Prog
import Derived.Shelf.Slices.Clone
import Derived.Shelf.Slices.SearchI
import Derived.Shelf.Slices.In.SortNone
import Derived.Shelf.Slices.Empties2
import Derived.Ground.SlgnProg
import Derived.Shelf.SlicesE.Clone
import Derived.Test.YtnabbmegmkdehaaGreatDoorProg
set_option linter.defProp false
namespace Go.Proofs
open Go.Shelf
def Tryz.laysM171_ren : Go.Shelf.Ren := ⟨fun | 171 => 242 | 243 => 308 | 246 => 342 | 283 => 360 | 284 => 361 | 285 => 362 | 286 => 363 | 129 => 329 | 317 => 366 | 318 => 367 | 319 => 368 | 320 => 369 | 337 => 371 | 338 => 372 | n => n, fun | 3 => 3 | 9 => 9 | 2 => 2 | 4 => 4 | 171 => 356 | 0 => 0 | 53 => 339 | 37 => 321 | 5 => 5 | 173 => 358 | 212 => 363 | 51 => 337 | 20 => 20 | 213 => 364 | 46 => 299 | 232 => 366 | 233 => 367 | n => n, fun | 17 => 0 | 18 => 2 | 19 => 3 | n => n⟩
theorem Tryz.laysM171 : Go.Proofs.LaysM.n171 Tryz.prog Tryz.laysM171_ren := {
  mixed := by kernel_rfl
  f129 := Tryz.func329.trans (congrArg some (by kernel_rfl))
  f171 := Tryz.func242.trans (congrArg some (by kernel_rfl))
  f243 := Tryz.func308.trans (congrArg some (by kernel_rfl))
  f246 := Tryz.func342.trans (congrArg some (by kernel_rfl))
  f283 := Tryz.func360.trans (congrArg some (by kernel_rfl))
  f284 := Tryz.func361.trans (congrArg some (by kernel_rfl))
  f285 := Tryz.func362.trans (congrArg some (by kernel_rfl))
  f286 := Tryz.func363.trans (congrArg some (by kernel_rfl))
  f317 := Tryz.func366.trans (congrArg some (by kernel_rfl))
  f318 := Tryz.func367.trans (congrArg some (by kernel_rfl))
  f319 := Tryz.func368.trans (congrArg some (by kernel_rfl))
  f320 := Tryz.func369.trans (congrArg some (by kernel_rfl))
  f337 := Tryz.func371.trans (congrArg some (by kernel_rfl))
  f338 := Tryz.func372.trans (congrArg some (by kernel_rfl))
  t0 := Tryz.underlying0
  a0 := Tryz.isAgg0
  z0 := Tryz.sizeOf0
  v0 := Tryz.zeroValue0
  t2 := Tryz.underlying2
  a2 := Tryz.isAgg2
  z2 := Tryz.sizeOf2
  v2 := Tryz.zeroValue2
  t3 := Tryz.underlying3
  a3 := Tryz.isAgg3
  z3 := Tryz.sizeOf3
  v3 := Tryz.zeroValue3
  t4 := Tryz.underlying4
  a4 := Tryz.isAgg4
  z4 := Tryz.sizeOf4
  v4 := Tryz.zeroValue4
  t5 := Tryz.underlying5
  a5 := Tryz.isAgg5
  z5 := Tryz.sizeOf5
  v5 := Tryz.zeroValue5
  t9 := Tryz.underlying9
  a9 := Tryz.isAgg9
  z9 := Tryz.sizeOf9
  v9 := Tryz.zeroValue9
  t20 := Tryz.underlying20
  a20 := Tryz.isAgg20
  z20 := Tryz.sizeOf20
  v20 := Tryz.zeroValue20
  t37 := Tryz.underlying321
  a37 := Tryz.isAgg321
  z37 := Tryz.sizeOf321
  v37 := Tryz.zeroValue321
  t46 := Tryz.underlying299
  a46 := Tryz.isAgg299
  z46 := Tryz.sizeOf299
  v46 := Tryz.zeroValue299
  t51 := Tryz.underlying337
  a51 := Tryz.isAgg337
  z51 := Tryz.sizeOf337
  v51 := Tryz.zeroValue337
  t53 := Tryz.underlying339
  a53 := Tryz.isAgg339
  z53 := Tryz.sizeOf339
  v53 := Tryz.zeroValue339
  t171 := Tryz.underlying356
  a171 := Tryz.isAgg356
  z171 := Tryz.sizeOf356
  v171 := Tryz.zeroValue356
  t173 := Tryz.underlying358
  a173 := Tryz.isAgg358
  z173 := Tryz.sizeOf358
  v173 := Tryz.zeroValue358
  t212 := Tryz.underlying363
  a212 := Tryz.isAgg363
  z212 := Tryz.sizeOf363
  v212 := Tryz.zeroValue363
  t213 := Tryz.underlying364
  a213 := Tryz.isAgg364
  z213 := Tryz.sizeOf364
  t232 := Tryz.underlying366
  a232 := Tryz.isAgg366
  z232 := Tryz.sizeOf366
  v232 := Tryz.zeroValue366
  t233 := Tryz.underlying367
  a233 := Tryz.isAgg367
  z233 := Tryz.sizeOf367
  v233 := Tryz.zeroValue367
  g17 := by kernel_rfl
  g18 := by kernel_rfl
  g19 := by kernel_rfl
  i0 := by kernel_rfl
  i2 := by kernel_rfl
  i3 := by kernel_rfl
  i4 := by kernel_rfl
  i5 := by kernel_rfl
  i9 := by kernel_rfl
  i20 := by kernel_rfl
  i37 := by kernel_rfl
  i46 := by kernel_rfl
  i51 := by kernel_rfl
  i53 := by kernel_rfl
  i171 := by kernel_rfl
  i173 := by kernel_rfl
  i212 := by kernel_rfl
  i232 := by kernel_rfl
  i233 := by kernel_rfl
  m17 := by kernel_rfl
  m18 := by kernel_rfl
  m19 := by kernel_rfl }
open Go.RowKit Go.Sort Go.Lib in
theorem Tryz.strconv_Itoa (n : Int) (h0 : -9223372036854775808 ≤ n) (h1 : n ≤ 9223372036854775807) (w : World) (htab : Lib.TabIs Tryz.prog w "internal/strconv.uint64pow10" .u64 Lib.pow10Tab) :
    Calls Tryz.prog 242 #[.int .i64 n] w fun e w' => e = .returned (.string ⟨(Lib.itoa n).toArray⟩) ∧ ∃ k os, w' = grow (w.drewN k) os := Any.strconv_Itoa Tryz.laysM171 n h0 h1 w htab
def Tryz.laysM316_ren : Go.Shelf.Ren := ⟨fun | 316 => 243 | n => n, fun | 9 => 9 | 3 => 3 | 4 => 4 | 37 => 321 | 0 => 0 | 127 => 322 | 5 => 5 | n => n, fun | n => n⟩
theorem Tryz.laysM316 : Go.Proofs.LaysM.n316 Tryz.prog Tryz.laysM316_ren := {
  mixed := by kernel_rfl
  f316 := Tryz.func243.trans (congrArg some (by kernel_rfl))
  t0 := Tryz.underlying0
  a0 := Tryz.isAgg0
  z0 := Tryz.sizeOf0
  v0 := Tryz.zeroValue0
  t3 := Tryz.underlying3
  a3 := Tryz.isAgg3
  z3 := Tryz.sizeOf3
  v3 := Tryz.zeroValue3
  t4 := Tryz.underlying4
  a4 := Tryz.isAgg4
  z4 := Tryz.sizeOf4
  v4 := Tryz.zeroValue4
  t9 := Tryz.underlying9
  a9 := Tryz.isAgg9
  z9 := Tryz.sizeOf9
  v9 := Tryz.zeroValue9
  t37 := Tryz.underlying321
  a37 := Tryz.isAgg321
  z37 := Tryz.sizeOf321
  v37 := Tryz.zeroValue321
  t127 := Tryz.underlying322
  a127 := Tryz.isAgg322
  z127 := Tryz.sizeOf322
  v127 := Tryz.zeroValue322
  t5 := Tryz.underlying5
  a5 := Tryz.isAgg5
  z5 := Tryz.sizeOf5
  v5 := Tryz.zeroValue5
  i0 := by kernel_rfl
  i3 := by kernel_rfl
  i4 := by kernel_rfl
  i5 := by kernel_rfl
  i9 := by kernel_rfl
  i37 := by kernel_rfl
  i127 := by kernel_rfl }
open Go.RowKit in
theorem Tryz.stringslite_Clone (s : ByteArray) (w : World) (hlim : s.size ≤ 281474976710656) :
    Calls Tryz.prog 243 #[.string s] w fun e w' => e = .returned (.string s) ∧ Below w.heap.size w w' := Any.stringslite_Clone Tryz.laysM316 s w hlim
def Tryz.lays144_ren : Go.Shelf.Ren := ⟨fun | 144 => 345 | 143 => 364 | 219 => 370 | 217 => 373 | 225 => 374 | 224 => 375 | 267 => 376 | 266 => 377 | 314 => 378 | n => n, fun | 9 => 9 | 4 => 4 | 3 => 3 | 5 => 5 | 46 => 299 | 146 => 368 | 51 => 337 | n => n, fun | 1 => 1 | n => n⟩
theorem Tryz.lays144 : Go.Proofs.Lays.n144 Tryz.prog Tryz.lays144_ren := {
  mixed := by kernel_rfl
  f143 := Tryz.func364.trans (congrArg some (by kernel_rfl))
  f144 := Tryz.func345.trans (congrArg some (by kernel_rfl))
  f217 := Tryz.func373.trans (congrArg some (by kernel_rfl))
  f219 := Tryz.func370.trans (congrArg some (by kernel_rfl))
  f224 := Tryz.func375.trans (congrArg some (by kernel_rfl))
  f225 := Tryz.func374.trans (congrArg some (by kernel_rfl))
  f266 := Tryz.func377.trans (congrArg some (by kernel_rfl))
  f267 := Tryz.func376.trans (congrArg some (by kernel_rfl))
  f314 := Tryz.func378.trans (congrArg some (by kernel_rfl))
  t3 := Tryz.underlying3
  a3 := Tryz.isAgg3
  z3 := Tryz.sizeOf3
  v3 := Tryz.zeroValue3
  t4 := Tryz.underlying4
  a4 := Tryz.isAgg4
  z4 := Tryz.sizeOf4
  v4 := Tryz.zeroValue4
  t5 := Tryz.underlying5
  a5 := Tryz.isAgg5
  z5 := Tryz.sizeOf5
  v5 := Tryz.zeroValue5
  t9 := Tryz.underlying9
  a9 := Tryz.isAgg9
  z9 := Tryz.sizeOf9
  v9 := Tryz.zeroValue9
  t46 := Tryz.underlying299
  a46 := Tryz.isAgg299
  z46 := Tryz.sizeOf299
  v46 := Tryz.zeroValue299
  t51 := Tryz.underlying337
  a51 := Tryz.isAgg337
  z51 := Tryz.sizeOf337
  v51 := Tryz.zeroValue337
  t146 := Tryz.underlying368
  a146 := Tryz.isAgg368
  z146 := Tryz.sizeOf368
  v146 := Tryz.zeroValue368
  g1 := by kernel_rfl }
open Go.RowKit Go.Lib in
theorem Tryz.strings_Contains (s sub : ByteArray) (m : Int) (w : World) (hs : s.size < 4294967281) (hm : w.cell? ⟨1, 0, none⟩ = some (.int .i64 m)) :
    Calls Tryz.prog 345 #[.string s, .string sub] w fun e w' => e = .returned (.bool (Lib.contains s.data.toList sub.data.toList)) ∧ w' = w := Any.strings_Contains Tryz.lays144 s sub m w hs hm
def Tryz.lays189_ren : Go.Shelf.Ren := ⟨fun | 189 => 215 | 125 => 276 | 257 => 275 | 128 => 328 | 129 => 329 | 294 => 319 | 295 => 320 | 296 => 321 | 297 => 322 | 298 => 323 | 299 => 324 | 216 => 325 | 300 => 326 | 301 => 327 | 328 => 349 | 329 => 350 | 330 => 351 | 331 => 352 | 332 => 353 | 215 => 354 | 343 => 365 | n => n, fun | 28 => 28 | 3 => 3 | 46 => 299 | 0 => 0 | 51 => 337 | 53 => 339 | 4 => 4 | 183 => 330 | 182 => 329 | 131 => 95 | 5 => 5 | 9 => 9 | 218 => 349 | 222 => 353 | 228 => 361 | 229 => 134 | n => n, fun | n => n⟩
theorem Tryz.lays189 : Go.Proofs.Lays.n189 Tryz.prog Tryz.lays189_ren := {
  mixed := by kernel_rfl
  f125 := Tryz.func276.trans (congrArg some (by kernel_rfl))
  f128 := Tryz.func328.trans (congrArg some (by kernel_rfl))
  f129 := Tryz.func329.trans (congrArg some (by kernel_rfl))
  f189 := Tryz.func215.trans (congrArg some (by kernel_rfl))
  f215 := Tryz.func354.trans (congrArg some (by kernel_rfl))
  f216 := Tryz.func325.trans (congrArg some (by kernel_rfl))
  f257 := Tryz.func275.trans (congrArg some (by kernel_rfl))
  f294 := Tryz.func319.trans (congrArg some (by kernel_rfl))
  f295 := Tryz.func320.trans (congrArg some (by kernel_rfl))
  f296 := Tryz.func321.trans (congrArg some (by kernel_rfl))
  f297 := Tryz.func322.trans (congrArg some (by kernel_rfl))
  f298 := Tryz.func323.trans (congrArg some (by kernel_rfl))
  f299 := Tryz.func324.trans (congrArg some (by kernel_rfl))
  f300 := Tryz.func326.trans (congrArg some (by kernel_rfl))
  f301 := Tryz.func327.trans (congrArg some (by kernel_rfl))
  f328 := Tryz.func349.trans (congrArg some (by kernel_rfl))
  f329 := Tryz.func350.trans (congrArg some (by kernel_rfl))
  f330 := Tryz.func351.trans (congrArg some (by kernel_rfl))
  f331 := Tryz.func352.trans (congrArg some (by kernel_rfl))
  f332 := Tryz.func353.trans (congrArg some (by kernel_rfl))
  f343 := Tryz.func365.trans (congrArg some (by kernel_rfl))
  t0 := Tryz.underlying0
  a0 := Tryz.isAgg0
  z0 := Tryz.sizeOf0
  v0 := Tryz.zeroValue0
  t3 := Tryz.underlying3
  a3 := Tryz.isAgg3
  z3 := Tryz.sizeOf3
  v3 := Tryz.zeroValue3
  t4 := Tryz.underlying4
  a4 := Tryz.isAgg4
  z4 := Tryz.sizeOf4
  v4 := Tryz.zeroValue4
  t5 := Tryz.underlying5
  a5 := Tryz.isAgg5
  z5 := Tryz.sizeOf5
  v5 := Tryz.zeroValue5
  t9 := Tryz.underlying9
  a9 := Tryz.isAgg9
  z9 := Tryz.sizeOf9
  v9 := Tryz.zeroValue9
  t28 := Tryz.underlying28
  a28 := Tryz.isAgg28
  z28 := Tryz.sizeOf28
  v28 := Tryz.zeroValue28
  t46 := Tryz.underlying299
  a46 := Tryz.isAgg299
  z46 := Tryz.sizeOf299
  v46 := Tryz.zeroValue299
  t51 := Tryz.underlying337
  a51 := Tryz.isAgg337
  z51 := Tryz.sizeOf337
  v51 := Tryz.zeroValue337
  t53 := Tryz.underlying339
  a53 := Tryz.isAgg339
  z53 := Tryz.sizeOf339
  v53 := Tryz.zeroValue339
  t131 := Tryz.underlying95
  a131 := Tryz.isAgg95
  z131 := Tryz.sizeOf95
  v131 := Tryz.zeroValue95
  t182 := Tryz.underlying329
  a182 := Tryz.isAgg329
  z182 := Tryz.sizeOf329
  v182 := Tryz.zeroValue329
  t183 := Tryz.underlying330
  a183 := Tryz.isAgg330
  z183 := Tryz.sizeOf330
  v183 := Tryz.zeroValue330
  t218 := Tryz.underlying349
  a218 := Tryz.isAgg349
  z218 := Tryz.sizeOf349
  v218 := Tryz.zeroValue349
  t222 := Tryz.underlying353
  a222 := Tryz.isAgg353
  z222 := Tryz.sizeOf353
  v222 := Tryz.zeroValue353
  t228 := Tryz.underlying361
  a228 := Tryz.isAgg361
  z228 := Tryz.sizeOf361
  v228 := Tryz.zeroValue361
  t229 := Tryz.underlying134
  a229 := Tryz.isAgg134
  z229 := Tryz.sizeOf134
  v229 := Tryz.zeroValue134 }
open Go.Sort Go.RowKit in
theorem Tryz.slices_Sort_int (blk off cap : Nat) (zs : List Int) (w : World) (hH : Holds (Value.int .i64) w blk off zs.toArray) (hblk : blk < w.heap.size) (hsz : zs.length < 4611686018427387904) :
    Calls Tryz.prog 215 #[.slice (some ⟨blk, off, none⟩) zs.length cap] w fun e w' =>
      e = .returned (.tuple #[]) ∧ ∃ n os, w' = grow (putRow (Value.int .i64) (Sort.ahead w n) blk off (zs.mergeSort fun x y => decide (x ≤ y)).toArray) os := Any.slices_Sort_int Tryz.lays189 blk off cap zs w hH hblk hsz
open Go.RowKit Go.Sort in
theorem Tryz.slices_Sort_int_none (p : Option Addr) (cap : Nat) (w : World) :
    Calls Tryz.prog 215 #[.slice p 0 cap] w fun e w' => e = .returned (.tuple #[]) ∧ w' = w := Any.slices_Sort_int_none Tryz.lays189 p cap w
end Go.Proofs

