/-
  DERIVED: THE SHELF's CONTRACTS AT THIS DUMP, IN PLAIN WORDS (tools/lay-plain.mjs out of 'TryzShelf.lean', which tools/lay-shelf.mjs wrote): THE SAME DECLARATIONS UNDER THE SAME NAMES: 'import', 'namespace', 'open', 'def', 'theorem' AND NOTHING ELSE: no command of the shelf's: FOR A HAND-IN. Each laying: the table of numbers ('.._ren') and one theorem, a field a fact of the dump's own or the kernel's comparison; each contract: ONE APPLICATION.
  Numerals: what Go's library reads and writes, in this text's words.
  Contracts of the library's numerals, off the shelf.
  strconv.FormatUint at base 10, walked; its contract.
-/
import Derived.Shelf.Small.Bits
import Derived.Shelf.Strconv.Atoi
import Derived.Shelf.Strconv.Itoa0
import Derived.Shelf.Strconv.Itoa1
import Derived.Shelf.LaysM
import Derived.Shelf.Strconv.Itoa2
import Derived.Shelf.Strconv.Itoa3
import Derived.Shelf.Strconv.AtoiErrFast
import Derived.Shelf.Strconv.ParseIntEmpty
import Derived.Shelf.Strconv.AtoiFail
import Derived.Shelf.Strconv.Clone
import Derived.Shelf.Strconv.SyntaxError
import Derived.Shelf.LaysC
import Derived.Shelf.Strconv.ToError
import Derived.Shelf.Strconv.Lower
import Derived.Shelf.Strconv.ParseUint10
import Derived.Shelf.Strconv.ParseUint10Empty
import Derived.Shelf.Strconv.ParseUint10Any
import Derived.Shelf.Strconv.ParseInt10
import Derived.Shelf.Strconv.AtoiLong
import Derived.Shelf.Strconv.AtoiInnerAll
import Derived.Shelf.Strconv.RangeError
import Derived.Shelf.Strconv.ToErrorRange
import Derived.Shelf.Strconv.AtoiAll
import Derived.Shelf.Strconv.ErrVarAll
import Derived.Shelf.Strconv.ParseUintEmpty
import Derived.Shelf.Strconv.ParseUint10b64
import Derived.Shelf.Strconv.ParseUint10b32
import Derived.Shelf.Strconv.ParseUint10b16
import Derived.Shelf.Strconv.ParseUint10b8
import Derived.Shelf.Strconv.ParseUint10At
import Derived.Shelf.Strconv.ParseInt10At64
import Derived.Shelf.Strconv.ParseInt10At32
import Derived.Shelf.Strconv.ParseInt10At16
import Derived.Shelf.Strconv.ParseInt10At8
import Derived.Shelf.Strconv.ParseInt10All
import Derived.Shelf.Strconv.ParseIntPublic10
import Derived.Shelf.Strconv.ErrVarParseInt
import Derived.Ground.MpProg
import Derived.Shelf.Pu.ParseUintPublic10
import Derived.Shelf.Pu.ErrVarParseUint
import Derived.Shelf.Bits.Mul64
import Derived.Test.YtkccoijckckhmaaGreatDoorProg
import Derived.Test.YtkccoijckckhmaaGreatDoorM5
import Derived.Lib.AtoiAll
import Derived.Lib.ParseIntB
import Derived.Lib.AppendIntMem
import Derived.Lib.AtoiErrMem
import Derived.Lib.Walk
import Derived.Lib.ItoaMem
import Derived.WalkKit
import Derived.BigCall
import Derived.BigGuard
set_option linter.all false

namespace Go.Proofs
open Go.Shelf
def Tryz.lays283_ren : Go.Shelf.Ren := ⟨fun | 283 => 248 | n => n, fun | 3 => 3 | 9 => 9 | 4 => 4 | n => n, fun | n => n⟩
theorem Tryz.lays283 : Go.Proofs.Lays.n283 Tryz.prog Tryz.lays283_ren := {
  mixed := by kernel_rfl
  f283 := Tryz.func248.trans (congrArg some (by kernel_rfl))
  t3 := Tryz.underlying3
  a3 := Tryz.isAgg3
  z3 := Tryz.sizeOf3
  v3 := Tryz.zeroValue3
  t4 := Tryz.underlying4
  a4 := Tryz.isAgg4
  z4 := Tryz.sizeOf4
  v4 := Tryz.zeroValue4
  t9 := Tryz.underlying9
  a9 := Tryz.isAgg9
  z9 := Tryz.sizeOf9
  v9 := Tryz.zeroValue9 }
open Go.Lib in
/-- internal/strconv.small: "small returns the string for an i with 0 <= i < nSmalls.": i's decimal numeral. The world is as it was. (LAID: no walk: one application.) -/
theorem Tryz.internal_strconv_small (i : Nat) (h : i < 100) (w : World) :
    Calls Tryz.prog 248 #[.int .i64 i] w fun e w' => e = .returned (.string ⟨(Lib.decDigits i).toArray⟩) ∧ w' = w := Any.internal_strconv_small Tryz.lays283 i h w
def Tryz.lays285_ren : Go.Shelf.Ren := ⟨fun | 285 => 250 | n => n, fun | 37 => 284 | 53 => 243 | 3 => 3 | 4 => 4 | 51 => 288 | 9 => 9 | 5 => 5 | 0 => 0 | n => n, fun | n => n⟩
theorem Tryz.lays285 : Go.Proofs.Lays.n285 Tryz.prog Tryz.lays285_ren := {
  mixed := by kernel_rfl
  f285 := Tryz.func250.trans (congrArg some (by kernel_rfl))
  t0 := Tryz.underlying0
  a0 := Tryz.isAgg0
  z0 := Tryz.sizeOf0
  v0 := Tryz.zeroValue0
  t3 := Tryz.underlying3
  a3 := Tryz.isAgg3
  z3 := Tryz.sizeOf3
  v3 := Tryz.zeroValue3
  t4 := Tryz.underlying4
  a4 := Tryz.isAgg4
  z4 := Tryz.sizeOf4
  v4 := Tryz.zeroValue4
  t5 := Tryz.underlying5
  a5 := Tryz.isAgg5
  z5 := Tryz.sizeOf5
  v5 := Tryz.zeroValue5
  t9 := Tryz.underlying9
  a9 := Tryz.isAgg9
  z9 := Tryz.sizeOf9
  v9 := Tryz.zeroValue9
  t37 := Tryz.underlying284
  a37 := Tryz.isAgg284
  z37 := Tryz.sizeOf284
  v37 := Tryz.zeroValue284
  t51 := Tryz.underlying288
  a51 := Tryz.isAgg288
  z51 := Tryz.sizeOf288
  v51 := Tryz.zeroValue288
  t53 := Tryz.underlying243
  a53 := Tryz.isAgg243
  z53 := Tryz.sizeOf243
  v53 := Tryz.zeroValue243 }
open Go.RowKit Go.Sort Go.Lib in
/-- internal/strconv.formatBase10: "formatBase10 formats the decimal representation of u into a. The caller is responsible for ensuring that a is big enough to hold u. If a is too big, leading zeros will be filled in as needed.": THE ROW HOLDS u's DIGITS ('FmtInv .. 0 ..': every place t holds 'dg u (len - 1 - t)'); all else is as it was but for the count of draws. (LAID: no walk: one application.) -/
theorem Tryz.internal_strconv_formatBase10 (blk off cap : Nat) (u : Nat) (d : Array UInt8) (w : World) (hH : Holds (fun (b : UInt8) => Value.int .u8 (b.toNat : Int)) w blk off d) (hu : u < 10 ^ d.size) (hu64 : u < 18446744073709551616) (hsz : d.size < 4611686018427387904) :
    Calls Tryz.prog 250 #[.slice (some ⟨blk, off, none⟩) d.size cap, .int .u64 u] w fun e w' =>
      e = .returned (.tuple #[]) ∧ ∃ (n v' : Nat) (dk : Array UInt8), w' = (putRow (fun (b : UInt8) => Value.int .u8 (b.toNat : Int)) w blk off dk).drewN n ∧ FmtInv d.size u 0 v' dk := Any.internal_strconv_formatBase10 Tryz.lays285 blk off cap u d w hH hu hu64 hsz
def Tryz.laysM171_ren : Go.Shelf.Ren := ⟨fun | 171 => 161 | 243 => 201 | 246 => 229 | 283 => 248 | 284 => 249 | 285 => 250 | 286 => 251 | 129 => 245 | 317 => 255 | 318 => 256 | 319 => 257 | 320 => 258 | 337 => 259 | 338 => 260 | n => n, fun | 3 => 3 | 9 => 9 | 2 => 2 | 4 => 4 | 171 => 311 | 0 => 0 | 53 => 243 | 37 => 284 | 5 => 5 | 173 => 313 | 212 => 322 | 51 => 288 | 20 => 20 | 213 => 323 | 46 => 253 | 232 => 324 | 233 => 325 | n => n, fun | 17 => 2 | 18 => 3 | 19 => 4 | n => n⟩
theorem Tryz.laysM171 : Go.Proofs.LaysM.n171 Tryz.prog Tryz.laysM171_ren := {
  mixed := by kernel_rfl
  f129 := Tryz.func245.trans (congrArg some (by kernel_rfl))
  f171 := Tryz.func161.trans (congrArg some (by kernel_rfl))
  f243 := Tryz.func201.trans (congrArg some (by kernel_rfl))
  f246 := Tryz.func229.trans (congrArg some (by kernel_rfl))
  f283 := Tryz.func248.trans (congrArg some (by kernel_rfl))
  f284 := Tryz.func249.trans (congrArg some (by kernel_rfl))
  f285 := Tryz.func250.trans (congrArg some (by kernel_rfl))
  f286 := Tryz.func251.trans (congrArg some (by kernel_rfl))
  f317 := Tryz.func255.trans (congrArg some (by kernel_rfl))
  f318 := Tryz.func256.trans (congrArg some (by kernel_rfl))
  f319 := Tryz.func257.trans (congrArg some (by kernel_rfl))
  f320 := Tryz.func258.trans (congrArg some (by kernel_rfl))
  f337 := Tryz.func259.trans (congrArg some (by kernel_rfl))
  f338 := Tryz.func260.trans (congrArg some (by kernel_rfl))
  t0 := Tryz.underlying0
  a0 := Tryz.isAgg0
  z0 := Tryz.sizeOf0
  v0 := Tryz.zeroValue0
  t2 := Tryz.underlying2
  a2 := Tryz.isAgg2
  z2 := Tryz.sizeOf2
  v2 := Tryz.zeroValue2
  t3 := Tryz.underlying3
  a3 := Tryz.isAgg3
  z3 := Tryz.sizeOf3
  v3 := Tryz.zeroValue3
  t4 := Tryz.underlying4
  a4 := Tryz.isAgg4
  z4 := Tryz.sizeOf4
  v4 := Tryz.zeroValue4
  t5 := Tryz.underlying5
  a5 := Tryz.isAgg5
  z5 := Tryz.sizeOf5
  v5 := Tryz.zeroValue5
  t9 := Tryz.underlying9
  a9 := Tryz.isAgg9
  z9 := Tryz.sizeOf9
  v9 := Tryz.zeroValue9
  t20 := Tryz.underlying20
  a20 := Tryz.isAgg20
  z20 := Tryz.sizeOf20
  v20 := Tryz.zeroValue20
  t37 := Tryz.underlying284
  a37 := Tryz.isAgg284
  z37 := Tryz.sizeOf284
  v37 := Tryz.zeroValue284
  t46 := Tryz.underlying253
  a46 := Tryz.isAgg253
  z46 := Tryz.sizeOf253
  v46 := Tryz.zeroValue253
  t51 := Tryz.underlying288
  a51 := Tryz.isAgg288
  z51 := Tryz.sizeOf288
  v51 := Tryz.zeroValue288
  t53 := Tryz.underlying243
  a53 := Tryz.isAgg243
  z53 := Tryz.sizeOf243
  v53 := Tryz.zeroValue243
  t171 := Tryz.underlying311
  a171 := Tryz.isAgg311
  z171 := Tryz.sizeOf311
  v171 := Tryz.zeroValue311
  t173 := Tryz.underlying313
  a173 := Tryz.isAgg313
  z173 := Tryz.sizeOf313
  v173 := Tryz.zeroValue313
  t212 := Tryz.underlying322
  a212 := Tryz.isAgg322
  z212 := Tryz.sizeOf322
  v212 := Tryz.zeroValue322
  t213 := Tryz.underlying323
  a213 := Tryz.isAgg323
  z213 := Tryz.sizeOf323
  t232 := Tryz.underlying324
  a232 := Tryz.isAgg324
  z232 := Tryz.sizeOf324
  v232 := Tryz.zeroValue324
  t233 := Tryz.underlying325
  a233 := Tryz.isAgg325
  z233 := Tryz.sizeOf325
  v233 := Tryz.zeroValue325
  g17 := by kernel_rfl
  g18 := by kernel_rfl
  g19 := by kernel_rfl
  i0 := by kernel_rfl
  i2 := by kernel_rfl
  i3 := by kernel_rfl
  i4 := by kernel_rfl
  i5 := by kernel_rfl
  i9 := by kernel_rfl
  i20 := by kernel_rfl
  i37 := by kernel_rfl
  i46 := by kernel_rfl
  i51 := by kernel_rfl
  i53 := by kernel_rfl
  i171 := by kernel_rfl
  i173 := by kernel_rfl
  i212 := by kernel_rfl
  i232 := by kernel_rfl
  i233 := by kernel_rfl
  m17 := by kernel_rfl
  m18 := by kernel_rfl
  m19 := by kernel_rfl }
open Go.RowKit Go.Sort Go.Lib in
/-- strconv.Itoa: "Itoa is equivalent to FormatInt(int64(i), 10).": i's DECIMAL NUMERAL ('Lib.itoa': a '-' where i is negative, then the digits), FOR EVERY int. The world behind the call: the world before it, new blocks behind the heap (the library's 'var a [24]byte'), draws. (LAID: no walk: one application.) -/
theorem Tryz.strconv_Itoa (n : Int) (h0 : -9223372036854775808 ≤ n) (h1 : n ≤ 9223372036854775807) (w : World) (htab : Lib.TabIs Tryz.prog w "internal/strconv.uint64pow10" .u64 Lib.pow10Tab) :
    Calls Tryz.prog 161 #[.int .i64 n] w fun e w' => e = .returned (.string ⟨(Lib.itoa n).toArray⟩) ∧ ∃ k os, w' = grow (w.drewN k) os := Any.strconv_Itoa Tryz.laysM171 n h0 h1 w htab
def Tryz.laysC172_ren : Go.Shelf.Ren := ⟨fun | 172 => 180 | 244 => 215 | 245 => 178 | 247 => 177 | 279 => 211 | 280 => 212 | 281 => 213 | 282 => 214 | 287 => 210 | 316 => 238 | 171 => 161 | 205 => 239 | 321 => 236 | 322 => 237 | 243 => 201 | 246 => 229 | 283 => 248 | 284 => 249 | 285 => 250 | 286 => 251 | 129 => 245 | 317 => 255 | 318 => 256 | 319 => 257 | 320 => 258 | 337 => 259 | 338 => 260 | n => n, fun | 9 => 9 | 3 => 3 | 75 => 205 | 76 => 241 | 4 => 4 | 5 => 5 | 167 => 275 | 37 => 284 | 0 => 0 | 85 => 206 | 2 => 2 | 168 => 278 | 53 => 243 | 175 => 276 | 46 => 253 | 210 => 306 | 127 => 316 | 145 => 319 | 143 => 317 | 21 => 21 | 171 => 311 | 173 => 313 | 212 => 322 | 51 => 288 | 20 => 20 | 213 => 323 | 232 => 324 | 233 => 325 | 80 => 326 | n => n, fun | 15 => 0 | 16 => 1 | 17 => 2 | 18 => 3 | 19 => 4 | n => n⟩
theorem Tryz.laysC172 : Go.Proofs.LaysC.n172 Tryz.prog Tryz.laysC172_ren := {
  mixed := by kernel_rfl
  f129 := Tryz.func245.trans (congrArg some (by kernel_rfl))
  f171 := Tryz.func161.trans (congrArg some (by kernel_rfl))
  f172 := Tryz.func180.trans (congrArg some (by kernel_rfl))
  f205 := Tryz.func239.trans (congrArg some (by kernel_rfl))
  f243 := Tryz.func201.trans (congrArg some (by kernel_rfl))
  f244 := Tryz.func215.trans (congrArg some (by kernel_rfl))
  f245 := Tryz.func178.trans (congrArg some (by kernel_rfl))
  f246 := Tryz.func229.trans (congrArg some (by kernel_rfl))
  f247 := Tryz.func177.trans (congrArg some (by kernel_rfl))
  f279 := Tryz.func211.trans (congrArg some (by kernel_rfl))
  f280 := Tryz.func212.trans (congrArg some (by kernel_rfl))
  f281 := Tryz.func213.trans (congrArg some (by kernel_rfl))
  f282 := Tryz.func214.trans (congrArg some (by kernel_rfl))
  f283 := Tryz.func248.trans (congrArg some (by kernel_rfl))
  f284 := Tryz.func249.trans (congrArg some (by kernel_rfl))
  f285 := Tryz.func250.trans (congrArg some (by kernel_rfl))
  f286 := Tryz.func251.trans (congrArg some (by kernel_rfl))
  f287 := Tryz.func210.trans (congrArg some (by kernel_rfl))
  f316 := Tryz.func238.trans (congrArg some (by kernel_rfl))
  f317 := Tryz.func255.trans (congrArg some (by kernel_rfl))
  f318 := Tryz.func256.trans (congrArg some (by kernel_rfl))
  f319 := Tryz.func257.trans (congrArg some (by kernel_rfl))
  f320 := Tryz.func258.trans (congrArg some (by kernel_rfl))
  f321 := Tryz.func236.trans (congrArg some (by kernel_rfl))
  f322 := Tryz.func237.trans (congrArg some (by kernel_rfl))
  f337 := Tryz.func259.trans (congrArg some (by kernel_rfl))
  f338 := Tryz.func260.trans (congrArg some (by kernel_rfl))
  t0 := Tryz.underlying0
  a0 := Tryz.isAgg0
  z0 := Tryz.sizeOf0
  v0 := Tryz.zeroValue0
  t2 := Tryz.underlying2
  a2 := Tryz.isAgg2
  z2 := Tryz.sizeOf2
  v2 := Tryz.zeroValue2
  t3 := Tryz.underlying3
  a3 := Tryz.isAgg3
  z3 := Tryz.sizeOf3
  v3 := Tryz.zeroValue3
  t4 := Tryz.underlying4
  a4 := Tryz.isAgg4
  z4 := Tryz.sizeOf4
  v4 := Tryz.zeroValue4
  t5 := Tryz.underlying5
  a5 := Tryz.isAgg5
  z5 := Tryz.sizeOf5
  v5 := Tryz.zeroValue5
  t9 := Tryz.underlying9
  a9 := Tryz.isAgg9
  z9 := Tryz.sizeOf9
  v9 := Tryz.zeroValue9
  t20 := Tryz.underlying20
  a20 := Tryz.isAgg20
  z20 := Tryz.sizeOf20
  v20 := Tryz.zeroValue20
  t21 := Tryz.underlying21
  a21 := Tryz.isAgg21
  z21 := Tryz.sizeOf21
  v21 := Tryz.zeroValue21
  t37 := Tryz.underlying284
  a37 := Tryz.isAgg284
  z37 := Tryz.sizeOf284
  v37 := Tryz.zeroValue284
  t46 := Tryz.underlying253
  a46 := Tryz.isAgg253
  z46 := Tryz.sizeOf253
  v46 := Tryz.zeroValue253
  t51 := Tryz.underlying288
  a51 := Tryz.isAgg288
  z51 := Tryz.sizeOf288
  v51 := Tryz.zeroValue288
  t53 := Tryz.underlying243
  a53 := Tryz.isAgg243
  z53 := Tryz.sizeOf243
  v53 := Tryz.zeroValue243
  t75 := Tryz.underlying205
  a75 := Tryz.isAgg205
  z75 := Tryz.sizeOf205
  v75 := Tryz.zeroValue205
  t76 := Tryz.underlying241
  a76 := Tryz.isAgg241
  z76 := Tryz.sizeOf241
  v76 := Tryz.zeroValue241
  t85 := Tryz.underlying206
  a85 := Tryz.isAgg206
  z85 := Tryz.sizeOf206
  v85 := Tryz.zeroValue206
  t127 := Tryz.underlying316
  a127 := Tryz.isAgg316
  z127 := Tryz.sizeOf316
  v127 := Tryz.zeroValue316
  t143 := Tryz.underlying317
  a143 := Tryz.isAgg317
  z143 := Tryz.sizeOf317
  v143 := Tryz.zeroValue317
  t145 := Tryz.underlying319
  a145 := Tryz.isAgg319
  z145 := Tryz.sizeOf319
  v145 := Tryz.zeroValue319
  t167 := Tryz.underlying275
  a167 := Tryz.isAgg275
  z167 := Tryz.sizeOf275
  v167 := Tryz.zeroValue275
  t168 := Tryz.underlying278
  a168 := Tryz.isAgg278
  z168 := Tryz.sizeOf278
  v168 := Tryz.zeroValue278
  t171 := Tryz.underlying311
  a171 := Tryz.isAgg311
  z171 := Tryz.sizeOf311
  v171 := Tryz.zeroValue311
  t173 := Tryz.underlying313
  a173 := Tryz.isAgg313
  z173 := Tryz.sizeOf313
  v173 := Tryz.zeroValue313
  t175 := Tryz.underlying276
  a175 := Tryz.isAgg276
  z175 := Tryz.sizeOf276
  v175 := Tryz.zeroValue276
  t210 := Tryz.underlying306
  a210 := Tryz.isAgg306
  z210 := Tryz.sizeOf306
  v210 := Tryz.zeroValue306
  t212 := Tryz.underlying322
  a212 := Tryz.isAgg322
  z212 := Tryz.sizeOf322
  v212 := Tryz.zeroValue322
  t213 := Tryz.underlying323
  a213 := Tryz.isAgg323
  z213 := Tryz.sizeOf323
  t232 := Tryz.underlying324
  a232 := Tryz.isAgg324
  z232 := Tryz.sizeOf324
  v232 := Tryz.zeroValue324
  t233 := Tryz.underlying325
  a233 := Tryz.isAgg325
  z233 := Tryz.sizeOf325
  v233 := Tryz.zeroValue325
  g15 := by kernel_rfl
  g16 := by kernel_rfl
  g17 := by kernel_rfl
  g18 := by kernel_rfl
  g19 := by kernel_rfl
  t80 := Tryz.underlying326
  a80 := Tryz.isAgg326
  z80 := Tryz.sizeOf326
  v80 := Tryz.zeroValue326
  i0 := by kernel_rfl
  i2 := by kernel_rfl
  i3 := by kernel_rfl
  i4 := by kernel_rfl
  i5 := by kernel_rfl
  i9 := by kernel_rfl
  i20 := by kernel_rfl
  i21 := by kernel_rfl
  i37 := by kernel_rfl
  i46 := by kernel_rfl
  i51 := by kernel_rfl
  i53 := by kernel_rfl
  i75 := by kernel_rfl
  i76 := by kernel_rfl
  i80 := by kernel_rfl
  i85 := by kernel_rfl
  i127 := by kernel_rfl
  i143 := by kernel_rfl
  i145 := by kernel_rfl
  i167 := by kernel_rfl
  i168 := by kernel_rfl
  i171 := by kernel_rfl
  i173 := by kernel_rfl
  i175 := by kernel_rfl
  i210 := by kernel_rfl
  i212 := by kernel_rfl
  i232 := by kernel_rfl
  i233 := by kernel_rfl
  m15 := by kernel_rfl
  m16 := by kernel_rfl
  m17 := by kernel_rfl
  m18 := by kernel_rfl
  m19 := by kernel_rfl
  c0 := by kernel_rfl
  c2 := by kernel_rfl
  c3 := by kernel_rfl
  c4 := by kernel_rfl
  c5 := by kernel_rfl
  c9 := by kernel_rfl
  c20 := by kernel_rfl
  c21 := by kernel_rfl
  c37 := by kernel_rfl
  c46 := by kernel_rfl
  c51 := by kernel_rfl
  c53 := by kernel_rfl
  c75 := by kernel_rfl
  c76 := by kernel_rfl
  c80 := by kernel_rfl
  c85 := by kernel_rfl
  c127 := by kernel_rfl
  c143 := by kernel_rfl
  c145 := by kernel_rfl
  c167 := by kernel_rfl
  c168 := by kernel_rfl
  c171 := by kernel_rfl
  c173 := by kernel_rfl
  c175 := by kernel_rfl
  c210 := by kernel_rfl
  c212 := by kernel_rfl
  c213 := by kernel_rfl
  c232 := by kernel_rfl
  c233 := by kernel_rfl }
open Go.RowKit in
/-- strconv.Atoi, AT EVERY STRING THAT SPELLS AN int ('Lib.atoiAll .. = .ok v'; of whatever length: leading zeros count): v, AND NO ERROR. The world: as it was, or with the one new row that '[]byte(..)' lays. (LAID: no walk: one application.) -/
theorem Tryz.strconv_Atoi_ok (s : ByteArray) (hmax : s.size ≤ 9223372036854775806) (v : Int) (h : Lib.atoiAll s.data.toList = .ok v) (w : World) :
    Calls Tryz.prog 180 #[.string s] w fun e w' => e = .returned (.tuple #[.int .i64 v, .nilIface]) ∧ (w' = w ∨ ∃ t, w' = Lib.bytesWorld w 5 t) := Any.strconv_Atoi_ok Tryz.laysC172 s hmax v h w
open Go.RowKit in
theorem Tryz.strconv_Atoi_range_var (s : ByteArray) (hlim : s.size ≤ 281474976710656) (h : Lib.atoiAll s.data.toList = .range) (tp : TypeId) (p : Value) (w : World) (hvar : w.var? Tryz.prog "strconv.ErrRange" = some #[.iface tp p]) :
    Calls Tryz.prog 180 #[.string s] w fun e w' => ∃ N, e = .returned (.tuple #[.int .i64 (Lib.atoiSat s.data.toList), .iface 278 (.pointer (some ⟨N, 0, none⟩))]) ∧ w.heap.size ≤ N ∧ w'.heap[N]? = some (.cells #[.string ⟨#[65, 116, 111, 105]⟩, .string s, .iface tp p] 306 (0, 0)) ∧ Below w.heap.size w w' := Any.strconv_Atoi_range_var Tryz.laysC172 s hlim h tp p w hvar
def Tryz.laysC174_ren : Go.Shelf.Ren := ⟨fun | 174 => 134 | 247 => 177 | 245 => 178 | 287 => 210 | 279 => 211 | 280 => 212 | 281 => 213 | 282 => 214 | 321 => 236 | 322 => 237 | 316 => 238 | 171 => 161 | 205 => 239 | 243 => 201 | 246 => 229 | 283 => 248 | 284 => 249 | 285 => 250 | 286 => 251 | 129 => 245 | 317 => 255 | 318 => 256 | 319 => 257 | 320 => 258 | 337 => 259 | 338 => 260 | n => n, fun | 9 => 9 | 3 => 3 | 2 => 2 | 75 => 205 | 85 => 206 | 4 => 4 | 167 => 275 | 5 => 5 | 53 => 243 | 175 => 276 | 46 => 253 | 168 => 278 | 37 => 284 | 0 => 0 | 210 => 306 | 21 => 21 | 127 => 316 | 145 => 319 | 143 => 317 | 171 => 311 | 173 => 313 | 212 => 322 | 51 => 288 | 20 => 20 | 213 => 323 | 232 => 324 | 233 => 325 | 80 => 326 | n => n, fun | 15 => 0 | 16 => 1 | 17 => 2 | 18 => 3 | 19 => 4 | n => n⟩
theorem Tryz.laysC174 : Go.Proofs.LaysC.n174 Tryz.prog Tryz.laysC174_ren := {
  mixed := by kernel_rfl
  f129 := Tryz.func245.trans (congrArg some (by kernel_rfl))
  f171 := Tryz.func161.trans (congrArg some (by kernel_rfl))
  f174 := Tryz.func134.trans (congrArg some (by kernel_rfl))
  f205 := Tryz.func239.trans (congrArg some (by kernel_rfl))
  f243 := Tryz.func201.trans (congrArg some (by kernel_rfl))
  f245 := Tryz.func178.trans (congrArg some (by kernel_rfl))
  f246 := Tryz.func229.trans (congrArg some (by kernel_rfl))
  f247 := Tryz.func177.trans (congrArg some (by kernel_rfl))
  f279 := Tryz.func211.trans (congrArg some (by kernel_rfl))
  f280 := Tryz.func212.trans (congrArg some (by kernel_rfl))
  f281 := Tryz.func213.trans (congrArg some (by kernel_rfl))
  f282 := Tryz.func214.trans (congrArg some (by kernel_rfl))
  f283 := Tryz.func248.trans (congrArg some (by kernel_rfl))
  f284 := Tryz.func249.trans (congrArg some (by kernel_rfl))
  f285 := Tryz.func250.trans (congrArg some (by kernel_rfl))
  f286 := Tryz.func251.trans (congrArg some (by kernel_rfl))
  f287 := Tryz.func210.trans (congrArg some (by kernel_rfl))
  f316 := Tryz.func238.trans (congrArg some (by kernel_rfl))
  f317 := Tryz.func255.trans (congrArg some (by kernel_rfl))
  f318 := Tryz.func256.trans (congrArg some (by kernel_rfl))
  f319 := Tryz.func257.trans (congrArg some (by kernel_rfl))
  f320 := Tryz.func258.trans (congrArg some (by kernel_rfl))
  f321 := Tryz.func236.trans (congrArg some (by kernel_rfl))
  f322 := Tryz.func237.trans (congrArg some (by kernel_rfl))
  f337 := Tryz.func259.trans (congrArg some (by kernel_rfl))
  f338 := Tryz.func260.trans (congrArg some (by kernel_rfl))
  t0 := Tryz.underlying0
  a0 := Tryz.isAgg0
  z0 := Tryz.sizeOf0
  v0 := Tryz.zeroValue0
  t2 := Tryz.underlying2
  a2 := Tryz.isAgg2
  z2 := Tryz.sizeOf2
  v2 := Tryz.zeroValue2
  t3 := Tryz.underlying3
  a3 := Tryz.isAgg3
  z3 := Tryz.sizeOf3
  v3 := Tryz.zeroValue3
  t4 := Tryz.underlying4
  a4 := Tryz.isAgg4
  z4 := Tryz.sizeOf4
  v4 := Tryz.zeroValue4
  t5 := Tryz.underlying5
  a5 := Tryz.isAgg5
  z5 := Tryz.sizeOf5
  v5 := Tryz.zeroValue5
  t9 := Tryz.underlying9
  a9 := Tryz.isAgg9
  z9 := Tryz.sizeOf9
  v9 := Tryz.zeroValue9
  t20 := Tryz.underlying20
  a20 := Tryz.isAgg20
  z20 := Tryz.sizeOf20
  v20 := Tryz.zeroValue20
  t21 := Tryz.underlying21
  a21 := Tryz.isAgg21
  z21 := Tryz.sizeOf21
  v21 := Tryz.zeroValue21
  t37 := Tryz.underlying284
  a37 := Tryz.isAgg284
  z37 := Tryz.sizeOf284
  v37 := Tryz.zeroValue284
  t46 := Tryz.underlying253
  a46 := Tryz.isAgg253
  z46 := Tryz.sizeOf253
  v46 := Tryz.zeroValue253
  t51 := Tryz.underlying288
  a51 := Tryz.isAgg288
  z51 := Tryz.sizeOf288
  v51 := Tryz.zeroValue288
  t53 := Tryz.underlying243
  a53 := Tryz.isAgg243
  z53 := Tryz.sizeOf243
  v53 := Tryz.zeroValue243
  t75 := Tryz.underlying205
  a75 := Tryz.isAgg205
  z75 := Tryz.sizeOf205
  v75 := Tryz.zeroValue205
  t85 := Tryz.underlying206
  a85 := Tryz.isAgg206
  z85 := Tryz.sizeOf206
  v85 := Tryz.zeroValue206
  t127 := Tryz.underlying316
  a127 := Tryz.isAgg316
  z127 := Tryz.sizeOf316
  v127 := Tryz.zeroValue316
  t143 := Tryz.underlying317
  a143 := Tryz.isAgg317
  z143 := Tryz.sizeOf317
  v143 := Tryz.zeroValue317
  t145 := Tryz.underlying319
  a145 := Tryz.isAgg319
  z145 := Tryz.sizeOf319
  v145 := Tryz.zeroValue319
  t167 := Tryz.underlying275
  a167 := Tryz.isAgg275
  z167 := Tryz.sizeOf275
  v167 := Tryz.zeroValue275
  t168 := Tryz.underlying278
  a168 := Tryz.isAgg278
  z168 := Tryz.sizeOf278
  v168 := Tryz.zeroValue278
  t171 := Tryz.underlying311
  a171 := Tryz.isAgg311
  z171 := Tryz.sizeOf311
  v171 := Tryz.zeroValue311
  t173 := Tryz.underlying313
  a173 := Tryz.isAgg313
  z173 := Tryz.sizeOf313
  v173 := Tryz.zeroValue313
  t175 := Tryz.underlying276
  a175 := Tryz.isAgg276
  z175 := Tryz.sizeOf276
  v175 := Tryz.zeroValue276
  t210 := Tryz.underlying306
  a210 := Tryz.isAgg306
  z210 := Tryz.sizeOf306
  v210 := Tryz.zeroValue306
  t212 := Tryz.underlying322
  a212 := Tryz.isAgg322
  z212 := Tryz.sizeOf322
  v212 := Tryz.zeroValue322
  t213 := Tryz.underlying323
  a213 := Tryz.isAgg323
  z213 := Tryz.sizeOf323
  t232 := Tryz.underlying324
  a232 := Tryz.isAgg324
  z232 := Tryz.sizeOf324
  v232 := Tryz.zeroValue324
  t233 := Tryz.underlying325
  a233 := Tryz.isAgg325
  z233 := Tryz.sizeOf325
  v233 := Tryz.zeroValue325
  g15 := by kernel_rfl
  g16 := by kernel_rfl
  g17 := by kernel_rfl
  g18 := by kernel_rfl
  g19 := by kernel_rfl
  t80 := Tryz.underlying326
  a80 := Tryz.isAgg326
  z80 := Tryz.sizeOf326
  v80 := Tryz.zeroValue326
  i0 := by kernel_rfl
  i2 := by kernel_rfl
  i3 := by kernel_rfl
  i4 := by kernel_rfl
  i5 := by kernel_rfl
  i9 := by kernel_rfl
  i20 := by kernel_rfl
  i21 := by kernel_rfl
  i37 := by kernel_rfl
  i46 := by kernel_rfl
  i51 := by kernel_rfl
  i53 := by kernel_rfl
  i75 := by kernel_rfl
  i80 := by kernel_rfl
  i85 := by kernel_rfl
  i127 := by kernel_rfl
  i143 := by kernel_rfl
  i145 := by kernel_rfl
  i167 := by kernel_rfl
  i168 := by kernel_rfl
  i171 := by kernel_rfl
  i173 := by kernel_rfl
  i175 := by kernel_rfl
  i210 := by kernel_rfl
  i212 := by kernel_rfl
  i232 := by kernel_rfl
  i233 := by kernel_rfl
  m15 := by kernel_rfl
  m16 := by kernel_rfl
  m17 := by kernel_rfl
  m18 := by kernel_rfl
  m19 := by kernel_rfl
  c0 := by kernel_rfl
  c2 := by kernel_rfl
  c3 := by kernel_rfl
  c4 := by kernel_rfl
  c5 := by kernel_rfl
  c9 := by kernel_rfl
  c20 := by kernel_rfl
  c21 := by kernel_rfl
  c37 := by kernel_rfl
  c46 := by kernel_rfl
  c51 := by kernel_rfl
  c53 := by kernel_rfl
  c75 := by kernel_rfl
  c80 := by kernel_rfl
  c85 := by kernel_rfl
  c127 := by kernel_rfl
  c143 := by kernel_rfl
  c145 := by kernel_rfl
  c167 := by kernel_rfl
  c168 := by kernel_rfl
  c171 := by kernel_rfl
  c173 := by kernel_rfl
  c175 := by kernel_rfl
  c210 := by kernel_rfl
  c212 := by kernel_rfl
  c213 := by kernel_rfl
  c232 := by kernel_rfl
  c233 := by kernel_rfl }
open Go.RowKit in
/-- strconv.ParseInt(s, 10, 64), AT EVERY STRING THAT SPELLS AN int64 ('Lib.parseIntB 64 s.data.toList = .ok v'): v, AND NO ERROR. (LAID: no walk: one application.) -/
theorem Tryz.strconv_ParseInt_10_at64_ok (s : ByteArray) (hmax : s.size ≤ 9223372036854775806) (v : Int) (h : Lib.parseIntB 64 s.data.toList = .ok v) (w : World) :
    Calls Tryz.prog 134 #[.string s, .int .i64 10, .int .i64 64] w fun e w' => e = .returned (.tuple #[.int .i64 v, .nilIface]) ∧ (w' = w ∨ ∃ t, w' = Lib.bytesWorld w 5 t) := Any.strconv_ParseInt_10_at64_ok Tryz.laysC174 s hmax v h w
open Go.RowKit in
theorem Tryz.strconv_ParseInt_10_at64_range_var (s : ByteArray) (hlim : s.size ≤ 281474976710656) (h : Lib.parseIntB 64 s.data.toList = .range) (tp : TypeId) (p : Value) (w : World) (hvar : w.var? Tryz.prog "strconv.ErrRange" = some #[.iface tp p]) :
    Calls Tryz.prog 134 #[.string s, .int .i64 10, .int .i64 64] w fun e w' => ∃ N, e = .returned (.tuple #[.int .i64 (Lib.intSat 64 s.data.toList), .iface 278 (.pointer (some ⟨N, 0, none⟩))]) ∧ w.heap.size ≤ N ∧ w'.heap[N]? = some (.cells #[.string ⟨#[80, 97, 114, 115, 101, 73, 110, 116]⟩, .string s, .iface tp p] 306 (0, 0)) ∧ Below w.heap.size w w' := Any.strconv_ParseInt_10_at64_range_var Tryz.laysC174 s hlim h tp p w hvar
def Tryz.laysPu14_ren : Go.Shelf.Ren := ⟨fun | 14 => 240 | 16 => 210 | 17 => 178 | 19 => 236 | 20 => 237 | 21 => 211 | 22 => 212 | 23 => 213 | 24 => 214 | 25 => 238 | 27 => 161 | 26 => 239 | 28 => 201 | 29 => 229 | 30 => 248 | 31 => 249 | 32 => 250 | 33 => 251 | 35 => 245 | 34 => 255 | 36 => 256 | 37 => 257 | 38 => 258 | 39 => 259 | 40 => 260 | n => n, fun | 9 => 9 | 3 => 3 | 22 => 243 | 24 => 205 | 25 => 276 | 4 => 4 | 34 => 275 | 5 => 5 | 36 => 253 | 37 => 284 | 0 => 0 | 39 => 278 | 21 => 21 | 44 => 306 | 47 => 316 | 50 => 319 | 48 => 317 | 2 => 2 | 52 => 311 | 55 => 313 | 59 => 322 | 60 => 288 | 20 => 20 | 61 => 323 | 65 => 324 | 66 => 325 | 67 => 326 | n => n, fun | 0 => 0 | 1 => 1 | 2 => 2 | 3 => 3 | 4 => 4 | n => n⟩
theorem Tryz.laysPu14 : Go.Proofs.LaysPu.n14 Tryz.prog Tryz.laysPu14_ren := {
  mixed := by kernel_rfl
  f14 := Tryz.func240.trans (congrArg some (by kernel_rfl))
  f16 := Tryz.func210.trans (congrArg some (by kernel_rfl))
  f17 := Tryz.func178.trans (congrArg some (by kernel_rfl))
  f19 := Tryz.func236.trans (congrArg some (by kernel_rfl))
  f20 := Tryz.func237.trans (congrArg some (by kernel_rfl))
  f21 := Tryz.func211.trans (congrArg some (by kernel_rfl))
  f22 := Tryz.func212.trans (congrArg some (by kernel_rfl))
  f23 := Tryz.func213.trans (congrArg some (by kernel_rfl))
  f24 := Tryz.func214.trans (congrArg some (by kernel_rfl))
  f25 := Tryz.func238.trans (congrArg some (by kernel_rfl))
  f26 := Tryz.func239.trans (congrArg some (by kernel_rfl))
  f27 := Tryz.func161.trans (congrArg some (by kernel_rfl))
  f28 := Tryz.func201.trans (congrArg some (by kernel_rfl))
  f29 := Tryz.func229.trans (congrArg some (by kernel_rfl))
  f30 := Tryz.func248.trans (congrArg some (by kernel_rfl))
  f31 := Tryz.func249.trans (congrArg some (by kernel_rfl))
  f32 := Tryz.func250.trans (congrArg some (by kernel_rfl))
  f33 := Tryz.func251.trans (congrArg some (by kernel_rfl))
  f34 := Tryz.func255.trans (congrArg some (by kernel_rfl))
  f35 := Tryz.func245.trans (congrArg some (by kernel_rfl))
  f36 := Tryz.func256.trans (congrArg some (by kernel_rfl))
  f37 := Tryz.func257.trans (congrArg some (by kernel_rfl))
  f38 := Tryz.func258.trans (congrArg some (by kernel_rfl))
  f39 := Tryz.func259.trans (congrArg some (by kernel_rfl))
  f40 := Tryz.func260.trans (congrArg some (by kernel_rfl))
  t0 := Tryz.underlying0
  a0 := Tryz.isAgg0
  z0 := Tryz.sizeOf0
  v0 := Tryz.zeroValue0
  i0 := by kernel_rfl
  t2 := Tryz.underlying2
  a2 := Tryz.isAgg2
  z2 := Tryz.sizeOf2
  v2 := Tryz.zeroValue2
  i2 := by kernel_rfl
  t3 := Tryz.underlying3
  a3 := Tryz.isAgg3
  z3 := Tryz.sizeOf3
  v3 := Tryz.zeroValue3
  i3 := by kernel_rfl
  t4 := Tryz.underlying4
  a4 := Tryz.isAgg4
  z4 := Tryz.sizeOf4
  v4 := Tryz.zeroValue4
  i4 := by kernel_rfl
  t5 := Tryz.underlying5
  a5 := Tryz.isAgg5
  z5 := Tryz.sizeOf5
  v5 := Tryz.zeroValue5
  i5 := by kernel_rfl
  t9 := Tryz.underlying9
  a9 := Tryz.isAgg9
  z9 := Tryz.sizeOf9
  v9 := Tryz.zeroValue9
  i9 := by kernel_rfl
  t20 := Tryz.underlying20
  a20 := Tryz.isAgg20
  z20 := Tryz.sizeOf20
  v20 := Tryz.zeroValue20
  i20 := by kernel_rfl
  t21 := Tryz.underlying21
  a21 := Tryz.isAgg21
  z21 := Tryz.sizeOf21
  v21 := Tryz.zeroValue21
  i21 := by kernel_rfl
  t22 := Tryz.underlying243
  a22 := Tryz.isAgg243
  z22 := Tryz.sizeOf243
  v22 := Tryz.zeroValue243
  i22 := by kernel_rfl
  t24 := Tryz.underlying205
  a24 := Tryz.isAgg205
  z24 := Tryz.sizeOf205
  v24 := Tryz.zeroValue205
  i24 := by kernel_rfl
  t25 := Tryz.underlying276
  a25 := Tryz.isAgg276
  z25 := Tryz.sizeOf276
  v25 := Tryz.zeroValue276
  i25 := by kernel_rfl
  t34 := Tryz.underlying275
  a34 := Tryz.isAgg275
  z34 := Tryz.sizeOf275
  v34 := Tryz.zeroValue275
  i34 := by kernel_rfl
  c34 := by kernel_rfl
  t36 := Tryz.underlying253
  a36 := Tryz.isAgg253
  z36 := Tryz.sizeOf253
  v36 := Tryz.zeroValue253
  i36 := by kernel_rfl
  t37 := Tryz.underlying284
  a37 := Tryz.isAgg284
  z37 := Tryz.sizeOf284
  v37 := Tryz.zeroValue284
  i37 := by kernel_rfl
  t39 := Tryz.underlying278
  a39 := Tryz.isAgg278
  z39 := Tryz.sizeOf278
  v39 := Tryz.zeroValue278
  i39 := by kernel_rfl
  t44 := Tryz.underlying306
  a44 := Tryz.isAgg306
  z44 := Tryz.sizeOf306
  v44 := Tryz.zeroValue306
  i44 := by kernel_rfl
  t47 := Tryz.underlying316
  a47 := Tryz.isAgg316
  z47 := Tryz.sizeOf316
  v47 := Tryz.zeroValue316
  i47 := by kernel_rfl
  t48 := Tryz.underlying317
  a48 := Tryz.isAgg317
  z48 := Tryz.sizeOf317
  v48 := Tryz.zeroValue317
  i48 := by kernel_rfl
  t50 := Tryz.underlying319
  a50 := Tryz.isAgg319
  z50 := Tryz.sizeOf319
  v50 := Tryz.zeroValue319
  i50 := by kernel_rfl
  t52 := Tryz.underlying311
  a52 := Tryz.isAgg311
  z52 := Tryz.sizeOf311
  v52 := Tryz.zeroValue311
  i52 := by kernel_rfl
  t55 := Tryz.underlying313
  a55 := Tryz.isAgg313
  z55 := Tryz.sizeOf313
  v55 := Tryz.zeroValue313
  i55 := by kernel_rfl
  t59 := Tryz.underlying322
  a59 := Tryz.isAgg322
  z59 := Tryz.sizeOf322
  v59 := Tryz.zeroValue322
  i59 := by kernel_rfl
  t60 := Tryz.underlying288
  a60 := Tryz.isAgg288
  z60 := Tryz.sizeOf288
  v60 := Tryz.zeroValue288
  i60 := by kernel_rfl
  t61 := Tryz.underlying323
  a61 := Tryz.isAgg323
  z61 := Tryz.sizeOf323
  t65 := Tryz.underlying324
  a65 := Tryz.isAgg324
  z65 := Tryz.sizeOf324
  v65 := Tryz.zeroValue324
  i65 := by kernel_rfl
  t66 := Tryz.underlying325
  a66 := Tryz.isAgg325
  z66 := Tryz.sizeOf325
  v66 := Tryz.zeroValue325
  i66 := by kernel_rfl
  t67 := Tryz.underlying326
  a67 := Tryz.isAgg326
  z67 := Tryz.sizeOf326
  v67 := Tryz.zeroValue326
  i67 := by kernel_rfl
  g0 := by kernel_rfl
  m0 := by kernel_rfl
  g1 := by kernel_rfl
  m1 := by kernel_rfl
  g2 := by kernel_rfl
  m2 := by kernel_rfl
  g3 := by kernel_rfl
  m3 := by kernel_rfl
  g4 := by kernel_rfl
  m4 := by kernel_rfl }
open Go.RowKit in
/-- strconv.ParseUint(s, 10, 64), AT EVERY STRING THAT SPELLS A uint64 ('Lib.parseUintB 64 s.data.toList = .ok u'): u, AND NO ERROR. (LAID: no walk: one application.) -/
theorem Tryz.strconv_ParseUint_10_at64_ok (s : ByteArray) (hmax : s.size ≤ 9223372036854775806) (u : Nat) (h : Lib.parseUintB 64 s.data.toList = .ok u) (w : World) :
    Calls Tryz.prog 240 #[.string s, .int .i64 10, .int .i64 64] w fun e w' => e = .returned (.tuple #[.int .u64 u, .nilIface]) ∧ (w' = w ∨ w' = Lib.bytesWorld w 5 s) := Any.strconv_ParseUint_10_at64_ok Tryz.laysPu14 s hmax u h w
open Go.RowKit in
theorem Tryz.strconv_ParseUint_10_at64_range_var (s : ByteArray) (hlim : s.size ≤ 281474976710656) (h : Lib.parseUintB 64 s.data.toList = .range) (tp : TypeId) (p : Value) (w : World) (hvar : w.var? Tryz.prog "strconv.ErrRange" = some #[.iface tp p]) :
    Calls Tryz.prog 240 #[.string s, .int .i64 10, .int .i64 64] w fun e w' => ∃ N, e = .returned (.tuple #[.int .u64 18446744073709551615, .iface 278 (.pointer (some ⟨N, 0, none⟩))]) ∧ w.heap.size ≤ N ∧ w'.heap[N]? = some (.cells #[.string ⟨#[80, 97, 114, 115, 101, 85, 105, 110, 116]⟩, .string s, .iface tp p] 306 (0, 0)) ∧ Below w.heap.size w w' := Any.strconv_ParseUint_10_at64_range_var Tryz.laysPu14 s hlim h tp p w hvar
end Go.Proofs

namespace Go.Proofs.YtkccoijckckhmaaGreatDoor.Ev
open Go

theorem decDigits_spec : ∀ u : Nat, valL (Lib.decDigits u) = u ∧ (∀ b, b ∈ Lib.decDigits u → digB b = true) ∧ (0 < u → ∃ b r, Lib.decDigits u = b :: r ∧ b.toNat ≠ 48) := by
  intro u
  induction u using Nat.strongRecOn with
  | ind u ih =>
    rw [Lib.decDigits]
    by_cases h : u < 10
    · rw [dif_pos h]
      obtain ⟨h1, h2⟩ := digB_of u h
      refine ⟨by simp [valL]; omega, fun b hb => ?_, fun h0 => ⟨_, [], rfl, by rw [h2]; omega⟩⟩
      rw [List.mem_singleton.1 hb]; exact h1
    · rw [dif_neg h]
      obtain ⟨h1, h2⟩ := digB_of (u % 10) (by omega)
      obtain ⟨i1, i2, i3⟩ := ih (u / 10) (by omega)
      refine ⟨?_, fun b hb => ?_, fun _ => ?_⟩
      · rw [valL_append, i1]
        simp [valL, h2]
        omega
      · rcases List.mem_append.1 hb with hb | hb
        · exact i2 b hb
        · rw [List.mem_singleton.1 hb]; exact h1
      · obtain ⟨b, r, e, hb⟩ := i3 (by omega)
        exact ⟨b, r ++ [UInt8.ofNat (48 + u % 10)], by rw [e]; rfl, hb⟩

theorem decDigits_natL (u : Nat) : Lib.decDigits u = natL u := by
  obtain ⟨h1, h2, h3⟩ := decDigits_spec u
  refine can_unique ⟨h2, ?_⟩ (natL_can u) (by rw [h1, (natL_val u).1])
  rcases Nat.eq_zero_or_pos u with h | h
  · left; subst h; rw [Lib.decDigits, dif_pos (by omega)]; rfl
  · right; exact h3 h

theorem itoa_intS (n : Int) : (⟨(Lib.itoa n).toArray⟩ : ByteArray) = intS n := by
  unfold Lib.itoa intS
  cases n with
  | ofNat n =>
    rw [if_neg (by simp)]
    show _ = natS n
    unfold natS
    rw [decDigits_natL]; rfl
  | negSucc n =>
    rw [if_pos (Int.negSucc_lt_zero n), decDigits_natL]; rfl

theorem parseUintM_spec : ∀ (l : List UInt8) (acc : Nat), (∀ b, b ∈ l → digB b = true) → acc ≤ 18446744073709551615 → Lib.parseUintM 18446744073709551615 acc l = if acc * 10 ^ l.length + valL l ≤ 18446744073709551615 then .ok (acc * 10 ^ l.length + valL l) else .range
  | [], acc, _, h => by
    simp only [Lib.parseUintM, List.length_nil, Nat.pow_zero, Nat.mul_one, show valL [] = 0 from rfl, Nat.add_zero]
    rw [if_pos h]
  | c :: l, acc, hd, h => by
    have hc := hd c (List.mem_cons_self ..)
    simp only [digB, Bool.and_eq_true, Nat.ble_eq] at hc
    have hp : 0 < 10 ^ l.length := Nat.pow_pos (by omega)
    obtain ⟨P, hP⟩ : ∃ P, 10 ^ l.length = P := ⟨_, rfl⟩
    obtain ⟨d, hdd⟩ : ∃ d, c.toNat - 48 = d := ⟨_, rfl⟩
    have e : acc * 10 ^ (c :: l).length + valL (c :: l) = (acc * 10 + d) * P + valL l := by
      rw [valL_cons, List.length_cons, Nat.pow_succ, hP, hdd]; grind
    rw [hP] at hp
    have hge : acc * 10 + d ≤ (acc * 10 + d) * P := Nat.le_mul_of_pos_right _ hp
    rw [e]
    unfold Lib.parseUintM
    rw [if_pos hc, hdd]
    by_cases h1 : 1844674407370955162 ≤ acc
    · rw [if_pos h1, if_neg (by omega)]
    · rw [if_neg h1]
      by_cases h2 : 18446744073709551615 < acc * 10 + d
      · rw [if_pos h2, if_neg (by omega)]
      · rw [if_neg h2, parseUintM_spec l _ (fun b hb => hd b (List.mem_cons_of_mem _ hb)) (by omega), hP]

theorem parseUintB_can {l : List UInt8} (h : Can l) : Lib.parseUintB 64 l = if valL l ≤ 18446744073709551615 then .ok (valL l) else .range := by
  have := can_pos h
  unfold Lib.parseUintB
  rw [if_neg (by intro h'; subst h'; simp at this), parseUintM_spec l 0 h.1 (by omega), Nat.zero_mul, Nat.zero_add]

theorem parseUint10_eq : ∀ (l : List UInt8) (acc : Nat), Lib.parseUint10 acc l = Lib.parseUintM 18446744073709551615 acc l
  | [], _ => rfl
  | c :: l, acc => by
    unfold Lib.parseUint10 Lib.parseUintM
    rw [parseUint10_eq l]
    by_cases h : 18446744073709551616 ≤ acc * 10 + (c.toNat - 48)
    · rw [if_pos h, if_pos (show 18446744073709551615 < acc * 10 + (c.toNat - 48) by omega)]
    · rw [if_neg h, if_neg (show ¬ 18446744073709551615 < acc * 10 + (c.toNat - 48) by omega)]

theorem parseMag_can {l : List UInt8} (h : Can l) : Lib.parseMag l = if valL l ≤ 18446744073709551615 then .ok (valL l) else .range := by
  have := can_pos h
  unfold Lib.parseMag
  rw [if_neg (by intro h'; subst h'; simp at this), parseUint10_eq, parseUintM_spec l 0 h.1 (by omega), Nat.zero_mul, Nat.zero_add]

/-- How the two kinds of canonical integers are read. -/
theorem intV_kinds {s : ByteArray} {n : Int} (h : intV s = some n) : (∃ c r, s.data.toList = c :: r ∧ c.toNat ≠ 43 ∧ c.toNat ≠ 45 ∧ Can (c :: r) ∧ n = (valL (c :: r) : Nat)) ∨ ∃ r, s.data.toList = 45 :: r ∧ Can r ∧ valL r ≠ 0 ∧ n = -((valL r : Nat) : Int) := by
  unfold intV at h
  split at h
  · rename_i l heq
    split at h
    · rename_i hc; cases h; exact .inr ⟨l, heq, (canL_iff _).1 hc.1, hc.2, rfl⟩
    · cases h
  · rename_i l hne
    split at h
    · rename_i hc
      cases h
      have hcan := (canL_iff _).1 hc
      obtain ⟨b, r, hb, hd⟩ := can_head hcan
      simp only [digB, Bool.and_eq_true, Nat.ble_eq] at hd
      refine .inl ⟨b, r, hb, by omega, by omega, by rw [← hb]; exact hcan, by rw [hb]⟩
    · cases h

theorem atoiAll_int {s : ByteArray} {n : Int} (h : intV s = some n) : Lib.atoiAll s.data.toList = if -9223372036854775808 ≤ n ∧ n ≤ 9223372036854775807 then .ok n else .range := by
  rcases intV_kinds h with ⟨c, r, hl, h1, h2, hc, rfl⟩ | ⟨r, hl, hc, h0, rfl⟩
  · rw [hl]
    unfold Lib.atoiAll
    simp only [h1, h2, or_self, if_false, parseMag_can hc]
    by_cases hm : valL (c :: r) ≤ 18446744073709551615
    · rw [if_pos hm]
      by_cases hb : valL (c :: r) ≤ 9223372036854775807
      · rw [if_pos (show -9223372036854775808 ≤ ((valL (c :: r) : Nat) : Int) ∧ ((valL (c :: r) : Nat) : Int) ≤ 9223372036854775807 by omega)]
        simp only
        rw [if_neg (by omega), if_neg (by simp)]
      · rw [if_neg (show ¬ (-9223372036854775808 ≤ ((valL (c :: r) : Nat) : Int) ∧ ((valL (c :: r) : Nat) : Int) ≤ 9223372036854775807) by omega)]
        simp only
        rw [if_pos ⟨by simp, by omega⟩]
    · rw [if_neg hm, if_neg (show ¬ (-9223372036854775808 ≤ ((valL (c :: r) : Nat) : Int) ∧ ((valL (c :: r) : Nat) : Int) ≤ 9223372036854775807) by omega)]
  · rw [hl]
    unfold Lib.atoiAll
    simp only [show (45 : UInt8).toNat = 45 from rfl, or_true, if_true, parseMag_can hc]
    by_cases hm : valL r ≤ 18446744073709551615
    · rw [if_pos hm]
      by_cases hb : valL r ≤ 9223372036854775808
      · rw [if_pos (show -9223372036854775808 ≤ -((valL r : Nat) : Int) ∧ -((valL r : Nat) : Int) ≤ 9223372036854775807 by omega)]
        simp only
        rw [if_neg (by simp), if_neg (by simp; omega)]
      · rw [if_neg (show ¬ (-9223372036854775808 ≤ -((valL r : Nat) : Int) ∧ -((valL r : Nat) : Int) ≤ 9223372036854775807) by omega)]
        simp only
        rw [if_neg (by simp), if_pos ⟨trivial, by omega⟩]
    · rw [if_neg hm, if_neg (show ¬ (-9223372036854775808 ≤ -((valL r : Nat) : Int) ∧ -((valL r : Nat) : Int) ≤ 9223372036854775807) by omega)]

theorem parseIntB_int {s : ByteArray} {n : Int} (h : intV s = some n) : Lib.parseIntB 64 s.data.toList = if -9223372036854775808 ≤ n ∧ n ≤ 9223372036854775807 then .ok n else .range := by
  have e63 : 2 ^ (64 - 1) = 9223372036854775808 := rfl
  rcases intV_kinds h with ⟨c, r, hl, h1, h2, hc, rfl⟩ | ⟨r, hl, hc, h0, rfl⟩
  · rw [hl]
    unfold Lib.parseIntB
    simp only [h1, h2, or_self, if_false, parseUintB_can hc, e63]
    by_cases hm : valL (c :: r) ≤ 18446744073709551615
    · rw [if_pos hm]
      by_cases hb : valL (c :: r) ≤ 9223372036854775807
      · rw [if_pos (show -9223372036854775808 ≤ ((valL (c :: r) : Nat) : Int) ∧ ((valL (c :: r) : Nat) : Int) ≤ 9223372036854775807 by omega)]
        simp only
        rw [if_neg (by omega), if_neg (by simp)]
      · rw [if_neg (show ¬ (-9223372036854775808 ≤ ((valL (c :: r) : Nat) : Int) ∧ ((valL (c :: r) : Nat) : Int) ≤ 9223372036854775807) by omega)]
        simp only
        rw [if_pos ⟨by simp, by omega⟩]
    · rw [if_neg hm, if_neg (show ¬ (-9223372036854775808 ≤ ((valL (c :: r) : Nat) : Int) ∧ ((valL (c :: r) : Nat) : Int) ≤ 9223372036854775807) by omega)]
  · rw [hl]
    unfold Lib.parseIntB
    simp only [show (45 : UInt8).toNat = 45 from rfl, or_true, if_true, parseUintB_can hc, e63]
    by_cases hm : valL r ≤ 18446744073709551615
    · rw [if_pos hm]
      by_cases hb : valL r ≤ 9223372036854775808
      · rw [if_pos (show -9223372036854775808 ≤ -((valL r : Nat) : Int) ∧ -((valL r : Nat) : Int) ≤ 9223372036854775807 by omega)]
        simp only
        rw [if_neg (by simp), if_neg (by simp; omega)]
      · rw [if_neg (show ¬ (-9223372036854775808 ≤ -((valL r : Nat) : Int) ∧ -((valL r : Nat) : Int) ≤ 9223372036854775807) by omega)]
        simp only
        rw [if_neg (by simp), if_pos ⟨trivial, by omega⟩]
    · rw [if_neg hm, if_neg (show ¬ (-9223372036854775808 ≤ -((valL r : Nat) : Int) ∧ -((valL r : Nat) : Int) ≤ 9223372036854775807) by omega)]

end Go.Proofs.YtkccoijckckhmaaGreatDoor.Ev

namespace Go.Proofs.YtkccoijckckhmaaGreatDoor.Ev
open Go Go.RowKit Go.Sort

theorem Laid.tab {w : World} (h : Laid w) : Lib.TabIs Tryz.prog w "internal/strconv.uint64pow10" .u64 Lib.pow10Tab := by
  obtain ⟨el, z, hp⟩ := h.pow
  have hg : Tryz.prog.globalNamed "internal/strconv.uint64pow10" = some 2 := by kernel_rfl
  unfold Lib.TabIs World.var?
  rw [hg]
  simp only [Option.bind_some, hp]

theorem Laid.range {w : World} (h : Laid w) : ∃ tp p, w.var? Tryz.prog "strconv.ErrRange" = some #[.iface tp p] := by
  obtain ⟨tp, p, el, z, hp⟩ := h.ran
  have hg : Tryz.prog.globalNamed "strconv.ErrRange" = some 1 := by kernel_rfl
  refine ⟨tp, p, ?_⟩
  unfold World.var?
  rw [hg]
  simp only [Option.bind_some, hp]

theorem enter (f : FuncId) {fn : Func} (h : Tryz.prog.funcs[f]? = some fn) (h1 : (fn.name == "runtime.NumGoroutine") = false) (h2 : fn.body.isNone = false) : Enterable Tryz.prog f := ⟨fn, h, h1, h2⟩

theorem rdl1 {c : Cm} {vs : List Value} {p : PV} (h : RdL c noMu vs [p]) : ∃ v, vs = [v] ∧ Rd c noMu v p := by
  match vs, h with
  | [v], h => exact ⟨v, rfl, h.1⟩
theorem rdl2 {c : Cm} {vs : List Value} {p q : PV} (h : RdL c noMu vs [p, q]) : ∃ v u, vs = [v, u] ∧ Rd c noMu v p ∧ Rd c noMu u q := by
  match vs, h with
  | [v, u], h => exact ⟨v, u, rfl, h.1, h.2.1⟩
theorem rdl3 {c : Cm} {vs : List Value} {p q r : PV} (h : RdL c noMu vs [p, q, r]) : ∃ v u x, vs = [v, u, x] ∧ Rd c noMu v p ∧ Rd c noMu u q ∧ Rd c noMu x r := by
  match vs, h with
  | [v, u, x], h => exact ⟨v, u, x, rfl, h.1, h.2.1, h.2.2.1⟩
theorem rd_s {c : Cm} {v : Value} {s : ByteArray} (h : Rd c noMu v (.str s)) : v = .string s := by cases h; rfl
theorem rd_i {c : Cm} {v : Value} {k : IntKind} {n : Int} (h : Rd c noMu v (.int k n)) : v = .int k n := by cases h; rfl

theorem rd_tup2 {c : Cm} {a b : Value} {p q : PV} (h1 : Rd c noMu a p) (h2 : Rd c noMu b q) : Rd c noMu (.tuple #[a, b]) (.tup [p, q]) := by
  refine .tup _ _ rfl fun i x hx => ?_
  match i, hx with
  | 0, hx => cases hx; exact h1
  | 1, hx => cases hx; exact h2

theorem below_same {w w' : World} (h : w' = w ∨ ∃ t, w' = Lib.bytesWorld w 5 t) : Below w.heap.size w w' := by
  rcases h with rfl | ⟨t, rfl⟩
  · exact Below.refl _ _
  · exact Lib.bytesWorld_below _ _ _

theorem i64B_iff {n : Int} (h : i64B n = true) : -9223372036854775808 ≤ n ∧ n ≤ 9223372036854775807 := by
  unfold i64B at h
  cases n with
  | ofNat m => have := Nat.le_of_ble_eq_true h; simp only [Int.ofNat_eq_natCast]; omega
  | negSucc m => have := Nat.le_of_ble_eq_true h; omega

theorem itoa_contract : Contract Tryz.prog 161 gItoa where
  enter := enter _ Tryz.func161 (by kernel_rfl) rfl
  pure := by
    intro args r h
    unfold gItoa at h
    split at h
    · intro p hp; rw [List.mem_singleton.1 hp]; exact .int _ _
    · cases h
  calls := by
    intro args r h w c vs hc hl hr
    unfold gItoa at h
    split at h
    · rename_i n
      cases hb : i64B n with
      | false => rw [hb] at h; cases h
      | true =>
        rw [hb] at h; cases h
        obtain ⟨v, rfl, hv⟩ := rdl1 hr
        rw [rd_i hv]
        obtain ⟨b1, b2⟩ := i64B_iff hb
        refine (Tryz.strconv_Itoa n b1 b2 w hl.tab).mono ?_
        rintro e w' ⟨rfl, k, os, rfl⟩
        refine ⟨_, rfl, ?_, Lib.below_grow _ _ (Nat.le_refl _) _ _⟩
        rw [itoa_intS]
        exact .str _
    · cases h

theorem atoi_arg {args : List PV} {r : PV} (h : gAtoi args = some r) : ∃ s n, args = [.str s] ∧ s.size ≤ 20000 ∧ intV s = some n ∧ (((-9223372036854775808 ≤ n ∧ n ≤ 9223372036854775807) ∧ r = .tup [.int .i64 n, .nilI]) ∨ (¬ (-9223372036854775808 ≤ n ∧ n ≤ 9223372036854775807) ∧ r = .tup [.un, .anyI])) := by
  unfold gAtoi at h
  split at h
  · rename_i s
    cases hs : Nat.ble s.size 20000 with
    | false => rw [hs] at h; cases h
    | true =>
      rw [hs, cond_true] at h
      split at h
      · rename_i n hn
        refine ⟨s, n, rfl, Nat.le_of_ble_eq_true hs, hn, ?_⟩
        split at h
        · rename_i hb; cases h; exact .inl ⟨hb, rfl⟩
        · rename_i hb; cases h; exact .inr ⟨hb, rfl⟩
      · cases h
  · cases h

theorem atoi_contract : Contract Tryz.prog 180 gAtoi where
  enter := enter _ Tryz.func180 (by kernel_rfl) rfl
  pure := by
    intro args r h
    obtain ⟨s, n, rfl, _⟩ := atoi_arg h
    intro p hp; rw [List.mem_singleton.1 hp]; exact .str _
  calls := by
    intro args r h w c vs hc hl hr
    obtain ⟨s, n, rfl, hs, hn, hk⟩ := atoi_arg h
    obtain ⟨v, rfl, hv⟩ := rdl1 hr
    rw [rd_s hv]
    have ha := atoiAll_int hn
    rcases hk with ⟨hb, rfl⟩ | ⟨hb, rfl⟩
    · rw [if_pos hb] at ha
      refine (Tryz.strconv_Atoi_ok s (by omega) n ha w).mono ?_
      rintro e w' ⟨rfl, hw⟩
      exact ⟨_, rfl, rd_tup2 (.int _ _) .nilI, below_same hw⟩
    · rw [if_neg hb] at ha
      obtain ⟨tp, p, hv⟩ := hl.range
      refine (Tryz.strconv_Atoi_range_var s (by omega) ha tp p w hv).mono ?_
      rintro e w' ⟨N, rfl, _, _, hw⟩
      exact ⟨_, rfl, rd_tup2 (.un _) (.anyI _ _), hw⟩

theorem parseInt_contract : Contract Tryz.prog 134 gParseInt where
  enter := enter _ Tryz.func134 (by kernel_rfl) rfl
  pure := by
    intro args r h
    unfold gParseInt at h
    split at h
    · intro p hp
      rcases List.mem_cons.1 hp with rfl | hp
      · exact .str _
      · rcases List.mem_cons.1 hp with rfl | hp
        · exact .int _ _
        · rw [List.mem_singleton.1 hp]; exact .int _ _
    · cases h
  calls := by
    intro args r h w c vs hc hl hr
    unfold gParseInt at h
    split at h
    · rename_i s
      obtain ⟨s', n, he, hs, hn, hk⟩ := atoi_arg h
      cases he
      obtain ⟨v, u, x, rfl, hv, hu, hx⟩ := rdl3 hr
      rw [rd_s hv, rd_i hu, rd_i hx]
      have ha := parseIntB_int hn
      rcases hk with ⟨hb, rfl⟩ | ⟨hb, rfl⟩
      · rw [if_pos hb] at ha
        refine (Tryz.strconv_ParseInt_10_at64_ok s (by omega) n ha w).mono ?_
        rintro e w' ⟨rfl, hw⟩
        exact ⟨_, rfl, rd_tup2 (.int _ _) .nilI, below_same hw⟩
      · rw [if_neg hb] at ha
        obtain ⟨tp, p, hv⟩ := hl.range
        refine (Tryz.strconv_ParseInt_10_at64_range_var s (by omega) ha tp p w hv).mono ?_
        rintro e w' ⟨N, rfl, _, _, hw⟩
        exact ⟨_, rfl, rd_tup2 (.un _) (.anyI _ _), hw⟩
    · cases h

theorem parseUint_contract : Contract Tryz.prog 240 gParseUint where
  enter := enter _ Tryz.func240 (by kernel_rfl) rfl
  pure := by
    intro args r h
    unfold gParseUint at h
    split at h
    · intro p hp
      rcases List.mem_cons.1 hp with rfl | hp
      · exact .str _
      · rcases List.mem_cons.1 hp with rfl | hp
        · exact .int _ _
        · rw [List.mem_singleton.1 hp]; exact .int _ _
    · cases h
  calls := by
    intro args r h w c vs hc hl hr
    unfold gParseUint at h
    split at h
    · rename_i s
      cases hs : Nat.ble s.size 20000 with
      | false => rw [hs] at h; cases h
      | true =>
        rw [hs, cond_true] at h
        have hsz := Nat.le_of_ble_eq_true hs
        split at h
        · rename_i n hn
          split at h
          · rename_i h0
            obtain ⟨v, u, x, rfl, hv, hu, hx⟩ := rdl3 hr
            rw [rd_s hv, rd_i hu, rd_i hx]
            obtain ⟨m, hm, hp⟩ : ∃ m : Nat, n = m ∧ Lib.parseUintB 64 s.data.toList = if m ≤ 18446744073709551615 then .ok m else .range := by
              rcases intV_kinds hn with ⟨c', r', hl', h1, h2, hcan, rfl⟩ | ⟨r', hl', hcan, h0', rfl⟩
              · exact ⟨_, rfl, by rw [hl', parseUintB_can hcan]⟩
              · omega
            subst hm
            split at h
            · rename_i hb
              cases h
              rw [if_pos (by omega)] at hp
              refine (Tryz.strconv_ParseUint_10_at64_ok s (by omega) m hp w).mono ?_
              rintro e w' ⟨rfl, hw⟩
              refine ⟨_, rfl, rd_tup2 (.int _ _) .nilI, ?_⟩
              rcases hw with rfl | rfl
              · exact Below.refl _ _
              · exact Lib.bytesWorld_below _ _ _
            · rename_i hb
              cases h
              rw [if_neg (by omega)] at hp
              obtain ⟨tp, p, hv⟩ := hl.range
              refine (Tryz.strconv_ParseUint_10_at64_range_var s (by omega) hp tp p w hv).mono ?_
              rintro e w' ⟨N, rfl, _, _, hw⟩
              exact ⟨_, rfl, rd_tup2 (.un _) (.anyI _ _), hw⟩
          · cases h
        · cases h
    · cases h

end Go.Proofs.YtkccoijckckhmaaGreatDoor.Ev

namespace Go.Proofs
open Go.Shelf Go.RowKit Go.Sort Go.Lib

/-- The new block's bytes from its first place on are a row of zeros. -/
theorem Tryz.holds_zero0 (w : World) (T : TypeId) (nd : Nat) (hs : nd ≤ 24) : Holds (fun (b : UInt8) => Value.int .u8 (b.toNat : Int)) (w.alloc (.cells Lib.zeros24 T)) w.heap.size 0 (Array.replicate nd (0 : UInt8)) := fun j hj => by
  have hj' : j < nd := by simpa using hj
  refine ⟨?_, World.frozen?_alloc_new _ _ _ _⟩
  rw [World.cell?_alloc_new, Lib.zeros24_at _ (by omega), getElem!_pos _ j hj]
  simp

theorem Tryz.fin0 (w : World) (o : Obj) (dk : Array UInt8) (k : Nat) : ∃ os, (putRow (fun (b : UInt8) => Value.int .u8 (b.toNat : Int)) (w.alloc o) w.heap.size 0 dk).drewN k = grow (w.drewN k) os := by
  rw [alloc_eq_grow]
  obtain ⟨os', _, e⟩ := putRow_grow_new (fun (b : UInt8) => Value.int .u8 (b.toNat : Int)) w #[o] w.heap.size 0 dk (Nat.le_refl _)
  exact ⟨os', by rw [e]; rfl⟩

set_option maxHeartbeats 6400000 in
set_option maxRecDepth 100000 in
theorem Tryz.internal_FormatUint_10 (u : Nat) (hu64 : u < 18446744073709551616) (w : World)
    (htab : Lib.TabIs Tryz.prog w "internal/strconv.uint64pow10" .u64 Lib.pow10Tab) :
    Calls Tryz.prog 241 #[.int .u64 u, .int .i64 10] w fun e w' => e = .returned (.string ⟨(Lib.decDigits u).toArray⟩) ∧ ∃ k os, w' = grow (w.drewN k) os := by
  by_cases hs : u < 100
  · have hu' : (u : Int) < 100 := by omega
    have hwr : IntKind.i64.wrap (u : Int) = (u : Int) := by rw [IntKind.wrap_i64]; omega
    go_enter Tryz.func241, Tryz.ntmps241
    go_wp2_with (go_at_call 248; refine (Tryz.internal_strconv_small u hs _).mono ?_; rintro e w' ⟨rfl, rfl⟩)
    go_ret
    exact ⟨rfl, 0, #[], by simp [World.drewN_zero]⟩
  · have hu1 : 1 ≤ u := by omega
    have hu' : ¬ (u : Int) < 100 := by omega
    have hnd20 : Lib.nDigits u ≤ 20 := by have := Lib.numDigits_eq u hu1 hu64; split at this <;> omega
    have hal : Tryz.prog.arrayLen 311 = 24 := by simp [Program.arrayLen, Tryz.underlying311]
    have hsl : ∀ W, (Instr.sliceAt 311 (.pointer (some ⟨w.heap.size, 0, none⟩)) none (some (.int .i64 (Lib.nDigits u : Int))) none).run Tryz.prog W = .ok (.slice (some ⟨w.heap.size, 0, none⟩) (Lib.nDigits u) 24) W := fun W => by
      rw [run_sliceAt_array_h W 311 ⟨w.heap.size, 0, none⟩ (by simp [Program.arrayLen, Program.elem, Tryz.underlying311]) .i64 (Lib.nDigits u : Int) (by omega) (by rw [hal]; omega)]
      go_simp
    clear hal
    have hH0 := Tryz.holds_zero0 w 311 (Lib.nDigits u) (by omega)
    have hfmt := Tryz.internal_strconv_formatBase10 w.heap.size 0 24 u (Array.replicate (Lib.nDigits u) 0) (w.alloc (.cells Lib.zeros24 311)) hH0 (by rw [Array.size_replicate]; exact Lib.lt_pow_nDigits u) hu64 (by rw [Array.size_replicate]; omega)
    rw [Array.size_replicate] at hfmt
    have HH0 := Lib.hid hH0
    clear hH0
    go_enter Tryz.func241, Tryz.ntmps241
    go_wp2_with (first
      | (go_at_call 249; refine (Any.internal_strconv_numDigits { Tryz.laysM171 with } u hu1 hu64 _ (Lib.tabIs_alloc htab _)).mono ?_; rintro e w' ⟨rfl, rfl⟩))
    refine hfmt.mono ?_
    rintro e w' ⟨rfl, k, v', dk, rfl, hF⟩
    have hcv : (convert 284 9 (.slice (some ⟨w.heap.size, 0, none⟩) (Lib.nDigits u) 24)).run Tryz.prog ((putRow (fun (b : UInt8) => Value.int .u8 (b.toNat : Int)) (w.alloc (.cells Lib.zeros24 311)) w.heap.size 0 dk).drewN k) = .ok (.string ⟨(Lib.decDigits u).toArray⟩) ((putRow (fun (b : UInt8) => Value.int .u8 (b.toNat : Int)) (w.alloc (.cells Lib.zeros24 311)) w.heap.size 0 dk).drewN k) := by
      have h := run_convert_bytes_back (P := Tryz.prog) ((putRow (fun (b : UInt8) => Value.int .u8 (b.toNat : Int)) (w.alloc (.cells Lib.zeros24 311)) w.heap.size 0 dk).drewN k) 284 9 5 ⟨w.heap.size, 0, none⟩ 24 (Lib.decDigits u) Tryz.underlying284 Tryz.underlying5 Tryz.underlying9 (fun j hj => by
        rw [Lib.row_is_numeral hF j hj, Lib.add_plain, World.cell?_drewN]
        exact cell?_putRow (fun (b : UInt8) => Value.int .u8 (b.toNat : Int)) _ w.heap.size 0 _ dk HH0.out (by rw [hF.size, Array.size_replicate]) j (by rw [hF.size]; rw [Lib.decDigits_length] at hj; exact hj))
      rw [Lib.decDigits_length] at h
      exact h
    go_wp2
    go_ret
    obtain ⟨os, eo⟩ := Tryz.fin0 w (.cells Lib.zeros24 311) dk k
    exact ⟨rfl, k, os, eo⟩

set_option maxRecDepth 100000 in
theorem Tryz.FormatUint_10 (u : Nat) (hu64 : u < 18446744073709551616) (w : World)
    (htab : Lib.TabIs Tryz.prog w "internal/strconv.uint64pow10" .u64 Lib.pow10Tab) :
    Calls Tryz.prog 217 #[.int .u64 u, .int .i64 10] w fun e w' => e = .returned (.string ⟨(Lib.decDigits u).toArray⟩) ∧ ∃ k os, w' = grow (w.drewN k) os := by
  go_enter Tryz.func217, Tryz.ntmps217
  go_wp2_with (go_at_call 241; refine (Tryz.internal_FormatUint_10 u hu64 _ htab).mono ?_; rintro e w' ⟨rfl, k, os, rfl⟩)
  go_ret
  exact ⟨rfl, k, os, rfl⟩

end Go.Proofs

namespace Go.Proofs.YtkccoijckckhmaaGreatDoor.Ev
open Go Go.RowKit Go.Sort

theorem formatUint_contract : Contract Tryz.prog 217 gFormatUint where
  enter := enter _ Tryz.func217 (by kernel_rfl) rfl
  pure := by
    intro args r h
    unfold gFormatUint at h
    split at h
    · intro p hp
      rcases List.mem_cons.1 hp with rfl | hp
      · exact .int _ _
      · rw [List.mem_singleton.1 hp]; exact .int _ _
    · cases h
  calls := by
    intro args r h w c vs hc hl hr
    unfold gFormatUint at h
    split at h
    · rename_i n
      cases hb : Nat.blt n 18446744073709551616 with
      | false => rw [hb] at h; cases h
      | true =>
        rw [hb] at h; cases h
        obtain ⟨v, u, rfl, hv, hu⟩ := rdl2 hr
        rw [rd_i hv, rd_i hu]
        rw [Nat.blt_eq] at hb
        refine (Tryz.FormatUint_10 n hb w hl.tab).mono ?_
        rintro e w' ⟨rfl, k, os, rfl⟩
        refine ⟨_, rfl, ?_, Lib.below_grow _ _ (Nat.le_refl _) _ _⟩
        rw [decDigits_natL]
        exact .str _
    · cases h

end Go.Proofs.YtkccoijckckhmaaGreatDoor.Ev
