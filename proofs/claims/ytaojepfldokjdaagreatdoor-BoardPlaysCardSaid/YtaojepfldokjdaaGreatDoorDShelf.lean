/- Laws that the claim's text stands on: part DShelf of them. -/
import Derived.Test.YtaojepfldokjdaaGreatDoorM1
import Derived.Test.YtaojepfldokjdaaGreatDoorM2
import Derived.Test.YtaojepfldokjdaaGreatDoorM3
import Derived.Test.YtaojepfldokjdaaGreatDoorM4
import Derived.Shelf.Strings.Builder1
import Derived.Shelf.Strings.Builder2
import Derived.Shelf.Strings.OnBuilder
import Derived.Shelf.Small.Utf8
import Derived.Shelf.Small.Strs
import Derived.Shelf.Small.Wraps
import Derived.Shelf.Strings.BuilderF
import Derived.Shelf.Strings.BuilderK
import Derived.Shelf.Strings.BuilderRune
import Derived.Shelf.Utf8.AppendRune
import Derived.Shelf.Utf8.AppendRunePlain
import Derived.Shelf.Utf8.RuneCount
import Derived.Shelf.Strings.Builder2Cap
import Derived.Shelf.Strconv.Itoa0
import Derived.Shelf.Strconv.Itoa1
import Derived.Shelf.LaysM
import Derived.Shelf.Strconv.Itoa2
import Derived.Shelf.Strconv.Itoa3
import Derived.Shelf.Strconv.Itoa4
import Derived.Shelf.Strings.Search1
import Derived.Shelf.Strings.Search2
import Derived.Shelf.Strings.Search3
import Derived.Shelf.Strings.Cut
import Derived.Shelf.Strings.Count
import Derived.Shelf.Strings.Shaped
import Derived.Shelf.Strings.Prefix
import Derived.Shelf.Strings.Split
import Derived.Shelf.Strings.SplitShaped
import Derived.Shelf.Unicode.Decode
import Derived.Shelf.Strings.RuneCount
import Derived.Shelf.Strings.Explode
import Derived.Shelf.Unicode.DecodeSlow
import Derived.Shelf.Unicode.DecodeAny
import Derived.Shelf.Strings.BuilderCap
import Derived.Test.YtaojepfldokjdaaGreatDoorProg
set_option linter.unusedVariables false
set_option linter.unusedSimpArgs false

namespace Go.Proofs
open Go.Shelf
def Tryz.lays156_ren : Go.Shelf.Ren := ⟨fun | 156 => 253 | 165 => 278 | 166 => 279 | 169 => 193 | 240 => 232 | 241 => 295 | 276 => 261 | 277 => 309 | n => n, fun | 31 => 264 | 9 => 9 | 3 => 3 | 4 => 4 | 0 => 0 | 20 => 20 | 72 => 319 | 76 => 327 | 70 => 317 | 37 => 289 | 75 => 326 | 127 => 355 | 164 => 381 | 5 => 5 | 80 => 210 | n => n, fun | n => n⟩
theorem Tryz.lays156 : Go.Proofs.Lays.n156 Tryz.prog Tryz.lays156_ren := {
  mixed := by kernel_rfl
  f156 := Tryz.func253.trans (congrArg some (by kernel_rfl))
  f165 := Tryz.func278.trans (congrArg some (by kernel_rfl))
  f166 := Tryz.func279.trans (congrArg some (by kernel_rfl))
  f169 := Tryz.func193.trans (congrArg some (by kernel_rfl))
  f240 := Tryz.func232.trans (congrArg some (by kernel_rfl))
  f241 := Tryz.func295.trans (congrArg some (by kernel_rfl))
  f276 := Tryz.func261.trans (congrArg some (by kernel_rfl))
  f277 := Tryz.func309.trans (congrArg some (by kernel_rfl))
  t0 := Tryz.underlying0
  a0 := Tryz.isAgg0
  z0 := Tryz.sizeOf0
  v0 := Tryz.zeroValue0
  t3 := Tryz.underlying3
  a3 := Tryz.isAgg3
  z3 := Tryz.sizeOf3
  v3 := Tryz.zeroValue3
  t4 := Tryz.underlying4
  a4 := Tryz.isAgg4
  z4 := Tryz.sizeOf4
  v4 := Tryz.zeroValue4
  t9 := Tryz.underlying9
  a9 := Tryz.isAgg9
  z9 := Tryz.sizeOf9
  v9 := Tryz.zeroValue9
  t20 := Tryz.underlying20
  a20 := Tryz.isAgg20
  z20 := Tryz.sizeOf20
  v20 := Tryz.zeroValue20
  t31 := Tryz.underlying264
  a31 := Tryz.isAgg264
  z31 := Tryz.sizeOf264
  v31 := Tryz.zeroValue264
  t37 := Tryz.underlying289
  a37 := Tryz.isAgg289
  z37 := Tryz.sizeOf289
  v37 := Tryz.zeroValue289
  t70 := Tryz.underlying317
  a70 := Tryz.isAgg317
  z70 := Tryz.sizeOf317
  v70 := Tryz.zeroValue317
  t72 := Tryz.underlying319
  a72 := Tryz.isAgg319
  z72 := Tryz.sizeOf319
  v72 := Tryz.zeroValue319
  t75 := Tryz.underlying326
  a75 := Tryz.isAgg326
  z75 := Tryz.sizeOf326
  v75 := Tryz.zeroValue326
  t76 := Tryz.underlying327
  a76 := Tryz.isAgg327
  z76 := Tryz.sizeOf327
  v76 := Tryz.zeroValue327
  t127 := Tryz.underlying355
  a127 := Tryz.isAgg355
  z127 := Tryz.sizeOf355
  v127 := Tryz.zeroValue355
  t164 := Tryz.underlying381
  a164 := Tryz.isAgg381
  z164 := Tryz.sizeOf381
  v164 := Tryz.zeroValue381 }
theorem Tryz.Builder_Extra_156 : Builder.Extra Tryz.prog Tryz.lays156_ren := {
  sizeBuilder := by kernel_rfl
  liesBuilder := by kernel_rfl
  t5 := Tryz.underlying5
  a5 := Tryz.isAgg5
  z5 := Tryz.sizeOf5
  v5 := Tryz.zeroValue5
  infoByte := by kernel_rfl
  cellsByte := by kernel_rfl
  sizeByte := by kernel_rfl
  neB5 := by decide }
open Go.RowKit in
/-- strings.Join: "Join concatenates the elements of its first argument to create a single string. The separator string sep is placed between elements in the resulting string.": HOWEVER MANY ELEMENTS. Below the heap's end the world is as it was. (LAID: no walk: one application.) -/
theorem Tryz.strings_Join (bk o c : Nat) (xs : List ByteArray) (sep : ByteArray) (w : World) (hcells : ∀ (j : Nat) x, xs[j]? = some x → w.cell? ⟨bk, o + j, none⟩ = some (.string x)) (hbk : bk < w.heap.size) (hN : xs.length ≤ 140737488355328) (hcap : xs.length ≤ c) (hlen : (Lib.join (xs.map (·.data.toList)) sep.data.toList).length ≤ 140737488355328) :
    Calls Tryz.prog 253 #[.slice (some ⟨bk, o, none⟩) xs.length c, .string sep] w fun e w' => e = .returned (.string ⟨(Lib.join (xs.map (·.data.toList)) sep.data.toList).toArray⟩) ∧ Below w.heap.size w w' := Any.strings_Join Tryz.lays156 Tryz.Builder_Extra_156 bk o c xs sep w hcells hbk hN hcap hlen
def Tryz.laysM171_ren : Go.Shelf.Ren := ⟨fun | 171 => 252 | 243 => 277 | 246 => 276 | 283 => 291 | 284 => 292 | 285 => 293 | 286 => 294 | 129 => 305 | 317 => 304 | 318 => 306 | 319 => 307 | 320 => 308 | 337 => 312 | 338 => 313 | n => n, fun | 3 => 3 | 9 => 9 | 2 => 2 | 4 => 4 | 171 => 409 | 0 => 0 | 53 => 384 | 37 => 289 | 5 => 5 | 173 => 412 | 212 => 427 | 51 => 383 | 20 => 20 | 213 => 428 | 46 => 389 | 232 => 434 | 233 => 435 | n => n, fun | 17 => 3 | 18 => 4 | 19 => 5 | n => n⟩
theorem Tryz.laysM171 : Go.Proofs.LaysM.n171 Tryz.prog Tryz.laysM171_ren := {
  mixed := by kernel_rfl
  f129 := Tryz.func305.trans (congrArg some (by kernel_rfl))
  f171 := Tryz.func252.trans (congrArg some (by kernel_rfl))
  f243 := Tryz.func277.trans (congrArg some (by kernel_rfl))
  f246 := Tryz.func276.trans (congrArg some (by kernel_rfl))
  f283 := Tryz.func291.trans (congrArg some (by kernel_rfl))
  f284 := Tryz.func292.trans (congrArg some (by kernel_rfl))
  f285 := Tryz.func293.trans (congrArg some (by kernel_rfl))
  f286 := Tryz.func294.trans (congrArg some (by kernel_rfl))
  f317 := Tryz.func304.trans (congrArg some (by kernel_rfl))
  f318 := Tryz.func306.trans (congrArg some (by kernel_rfl))
  f319 := Tryz.func307.trans (congrArg some (by kernel_rfl))
  f320 := Tryz.func308.trans (congrArg some (by kernel_rfl))
  f337 := Tryz.func312.trans (congrArg some (by kernel_rfl))
  f338 := Tryz.func313.trans (congrArg some (by kernel_rfl))
  t0 := Tryz.underlying0
  a0 := Tryz.isAgg0
  z0 := Tryz.sizeOf0
  v0 := Tryz.zeroValue0
  t2 := Tryz.underlying2
  a2 := Tryz.isAgg2
  z2 := Tryz.sizeOf2
  v2 := Tryz.zeroValue2
  t3 := Tryz.underlying3
  a3 := Tryz.isAgg3
  z3 := Tryz.sizeOf3
  v3 := Tryz.zeroValue3
  t4 := Tryz.underlying4
  a4 := Tryz.isAgg4
  z4 := Tryz.sizeOf4
  v4 := Tryz.zeroValue4
  t5 := Tryz.underlying5
  a5 := Tryz.isAgg5
  z5 := Tryz.sizeOf5
  v5 := Tryz.zeroValue5
  t9 := Tryz.underlying9
  a9 := Tryz.isAgg9
  z9 := Tryz.sizeOf9
  v9 := Tryz.zeroValue9
  t20 := Tryz.underlying20
  a20 := Tryz.isAgg20
  z20 := Tryz.sizeOf20
  v20 := Tryz.zeroValue20
  t37 := Tryz.underlying289
  a37 := Tryz.isAgg289
  z37 := Tryz.sizeOf289
  v37 := Tryz.zeroValue289
  t46 := Tryz.underlying389
  a46 := Tryz.isAgg389
  z46 := Tryz.sizeOf389
  v46 := Tryz.zeroValue389
  t51 := Tryz.underlying383
  a51 := Tryz.isAgg383
  z51 := Tryz.sizeOf383
  v51 := Tryz.zeroValue383
  t53 := Tryz.underlying384
  a53 := Tryz.isAgg384
  z53 := Tryz.sizeOf384
  v53 := Tryz.zeroValue384
  t171 := Tryz.underlying409
  a171 := Tryz.isAgg409
  z171 := Tryz.sizeOf409
  v171 := Tryz.zeroValue409
  t173 := Tryz.underlying412
  a173 := Tryz.isAgg412
  z173 := Tryz.sizeOf412
  v173 := Tryz.zeroValue412
  t212 := Tryz.underlying427
  a212 := Tryz.isAgg427
  z212 := Tryz.sizeOf427
  v212 := Tryz.zeroValue427
  t213 := Tryz.underlying428
  a213 := Tryz.isAgg428
  z213 := Tryz.sizeOf428
  t232 := Tryz.underlying434
  a232 := Tryz.isAgg434
  z232 := Tryz.sizeOf434
  v232 := Tryz.zeroValue434
  t233 := Tryz.underlying435
  a233 := Tryz.isAgg435
  z233 := Tryz.sizeOf435
  v233 := Tryz.zeroValue435
  g17 := by kernel_rfl
  g18 := by kernel_rfl
  g19 := by kernel_rfl
  i0 := by kernel_rfl
  i2 := by kernel_rfl
  i3 := by kernel_rfl
  i4 := by kernel_rfl
  i5 := by kernel_rfl
  i9 := by kernel_rfl
  i20 := by kernel_rfl
  i37 := by kernel_rfl
  i46 := by kernel_rfl
  i51 := by kernel_rfl
  i53 := by kernel_rfl
  i171 := by kernel_rfl
  i173 := by kernel_rfl
  i212 := by kernel_rfl
  i232 := by kernel_rfl
  i233 := by kernel_rfl
  m17 := by kernel_rfl
  m18 := by kernel_rfl
  m19 := by kernel_rfl }
open Go.RowKit Go.Sort Go.Lib in
/-- strconv.Itoa: "Itoa is equivalent to FormatInt(int64(i), 10).": i's DECIMAL NUMERAL ('Lib.itoa': a '-' where i is negative, then the digits), FOR EVERY int. The world behind the call: the world before it, new blocks behind the heap (the library's 'var a [24]byte'), draws. (LAID: no walk: one application.) -/
theorem Tryz.strconv_Itoa (n : Int) (h0 : -9223372036854775808 ≤ n) (h1 : n ≤ 9223372036854775807) (w : World) (htab : Lib.TabIs Tryz.prog w "internal/strconv.uint64pow10" .u64 Lib.pow10Tab) :
    Calls Tryz.prog 252 #[.int .i64 n] w fun e w' => e = .returned (.string ⟨(Lib.itoa n).toArray⟩) ∧ ∃ k os, w' = grow (w.drewN k) os := Any.strconv_Itoa Tryz.laysM171 n h0 h1 w htab
def Tryz.laysM173_ren : Go.Shelf.Ren := ⟨fun | 173 => 251 | 246 => 276 | 283 => 291 | 284 => 292 | 285 => 293 | 286 => 294 | 129 => 305 | 317 => 304 | 318 => 306 | 319 => 307 | 320 => 308 | 337 => 312 | 338 => 313 | n => n, fun | 2 => 2 | 3 => 3 | 9 => 9 | 4 => 4 | 171 => 409 | 0 => 0 | 53 => 384 | 37 => 289 | 5 => 5 | 173 => 412 | 212 => 427 | 51 => 383 | 20 => 20 | 213 => 428 | 46 => 389 | 232 => 434 | 233 => 435 | n => n, fun | 17 => 3 | 18 => 4 | 19 => 5 | n => n⟩
theorem Tryz.laysM173 : Go.Proofs.LaysM.n173 Tryz.prog Tryz.laysM173_ren := {
  mixed := by kernel_rfl
  f129 := Tryz.func305.trans (congrArg some (by kernel_rfl))
  f173 := Tryz.func251.trans (congrArg some (by kernel_rfl))
  f246 := Tryz.func276.trans (congrArg some (by kernel_rfl))
  f283 := Tryz.func291.trans (congrArg some (by kernel_rfl))
  f284 := Tryz.func292.trans (congrArg some (by kernel_rfl))
  f285 := Tryz.func293.trans (congrArg some (by kernel_rfl))
  f286 := Tryz.func294.trans (congrArg some (by kernel_rfl))
  f317 := Tryz.func304.trans (congrArg some (by kernel_rfl))
  f318 := Tryz.func306.trans (congrArg some (by kernel_rfl))
  f319 := Tryz.func307.trans (congrArg some (by kernel_rfl))
  f320 := Tryz.func308.trans (congrArg some (by kernel_rfl))
  f337 := Tryz.func312.trans (congrArg some (by kernel_rfl))
  f338 := Tryz.func313.trans (congrArg some (by kernel_rfl))
  t0 := Tryz.underlying0
  a0 := Tryz.isAgg0
  z0 := Tryz.sizeOf0
  v0 := Tryz.zeroValue0
  t2 := Tryz.underlying2
  a2 := Tryz.isAgg2
  z2 := Tryz.sizeOf2
  v2 := Tryz.zeroValue2
  t3 := Tryz.underlying3
  a3 := Tryz.isAgg3
  z3 := Tryz.sizeOf3
  v3 := Tryz.zeroValue3
  t4 := Tryz.underlying4
  a4 := Tryz.isAgg4
  z4 := Tryz.sizeOf4
  v4 := Tryz.zeroValue4
  t5 := Tryz.underlying5
  a5 := Tryz.isAgg5
  z5 := Tryz.sizeOf5
  v5 := Tryz.zeroValue5
  t9 := Tryz.underlying9
  a9 := Tryz.isAgg9
  z9 := Tryz.sizeOf9
  v9 := Tryz.zeroValue9
  t20 := Tryz.underlying20
  a20 := Tryz.isAgg20
  z20 := Tryz.sizeOf20
  v20 := Tryz.zeroValue20
  t37 := Tryz.underlying289
  a37 := Tryz.isAgg289
  z37 := Tryz.sizeOf289
  v37 := Tryz.zeroValue289
  t46 := Tryz.underlying389
  a46 := Tryz.isAgg389
  z46 := Tryz.sizeOf389
  v46 := Tryz.zeroValue389
  t51 := Tryz.underlying383
  a51 := Tryz.isAgg383
  z51 := Tryz.sizeOf383
  v51 := Tryz.zeroValue383
  t53 := Tryz.underlying384
  a53 := Tryz.isAgg384
  z53 := Tryz.sizeOf384
  v53 := Tryz.zeroValue384
  t171 := Tryz.underlying409
  a171 := Tryz.isAgg409
  z171 := Tryz.sizeOf409
  v171 := Tryz.zeroValue409
  t173 := Tryz.underlying412
  a173 := Tryz.isAgg412
  z173 := Tryz.sizeOf412
  v173 := Tryz.zeroValue412
  t212 := Tryz.underlying427
  a212 := Tryz.isAgg427
  z212 := Tryz.sizeOf427
  v212 := Tryz.zeroValue427
  t213 := Tryz.underlying428
  a213 := Tryz.isAgg428
  z213 := Tryz.sizeOf428
  t232 := Tryz.underlying434
  a232 := Tryz.isAgg434
  z232 := Tryz.sizeOf434
  v232 := Tryz.zeroValue434
  t233 := Tryz.underlying435
  a233 := Tryz.isAgg435
  z233 := Tryz.sizeOf435
  v233 := Tryz.zeroValue435
  g17 := by kernel_rfl
  g18 := by kernel_rfl
  g19 := by kernel_rfl
  i0 := by kernel_rfl
  i2 := by kernel_rfl
  i3 := by kernel_rfl
  i4 := by kernel_rfl
  i5 := by kernel_rfl
  i9 := by kernel_rfl
  i20 := by kernel_rfl
  i37 := by kernel_rfl
  i46 := by kernel_rfl
  i51 := by kernel_rfl
  i53 := by kernel_rfl
  i171 := by kernel_rfl
  i173 := by kernel_rfl
  i212 := by kernel_rfl
  i232 := by kernel_rfl
  i233 := by kernel_rfl
  m17 := by kernel_rfl
  m18 := by kernel_rfl
  m19 := by kernel_rfl }
open Go.RowKit Go.Sort Go.Lib in
/-- strconv.FormatInt: "FormatInt returns the string representation of i in the given base": AT BASE 10: i's decimal numeral, for every int64. (LAID: no walk: one application.) -/
theorem Tryz.strconv_FormatInt_10 (n : Int) (h0 : -9223372036854775808 ≤ n) (h1 : n ≤ 9223372036854775807) (w : World) (htab : Lib.TabIs Tryz.prog w "internal/strconv.uint64pow10" .u64 Lib.pow10Tab) :
    Calls Tryz.prog 251 #[.int .i64 n, .int .i64 10] w fun e w' => e = .returned (.string ⟨(Lib.itoa n).toArray⟩) ∧ ∃ k os, w' = grow (w.drewN k) os := Any.strconv_FormatInt_10 Tryz.laysM173 n h0 h1 w htab
end Go.Proofs

