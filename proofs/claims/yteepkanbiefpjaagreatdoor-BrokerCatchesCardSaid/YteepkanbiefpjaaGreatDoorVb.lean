/- What these laws lean on, part Vb: contracts of the given program's functions and plain lists. No condition. -/
import Derived.Ground.GgzProg
import Derived.Shelf.SlIterI.Nil
import Derived.Shelf.Small.Bits
import Derived.Shelf.Small.Wraps
import Derived.Shelf.Strconv.Itoa0
import Derived.Shelf.Strconv.Itoa1
import Derived.Shelf.LaysM
import Derived.Shelf.Strconv.Itoa2
import Derived.Shelf.Strconv.Itoa3
import Derived.Shelf.Strconv.Itoa4
import Derived.Shelf.Strconv.ParseIntEmpty
import Derived.Shelf.Strconv.Clone
import Derived.Shelf.Strconv.SyntaxError
import Derived.Shelf.LaysC
import Derived.Shelf.Strconv.ToError
import Derived.Shelf.Strconv.Lower
import Derived.Shelf.Strconv.ParseUint10
import Derived.Shelf.Strconv.ParseUint10Empty
import Derived.Shelf.Strconv.ParseUint10Any
import Derived.Shelf.Strconv.ParseInt10
import Derived.Shelf.Strconv.RangeError
import Derived.Shelf.Strconv.ToErrorRange
import Derived.Shelf.Strconv.ParseUintEmpty
import Derived.Shelf.Strconv.ParseUint10b64
import Derived.Shelf.Strconv.ParseUint10b32
import Derived.Shelf.Strconv.ParseUint10b16
import Derived.Shelf.Strconv.ParseUint10b8
import Derived.Shelf.Strconv.ParseUint10At
import Derived.Shelf.Strconv.ParseInt10At64
import Derived.Shelf.Strconv.ParseInt10At32
import Derived.Shelf.Strconv.ParseInt10At16
import Derived.Shelf.Strconv.ParseInt10At8
import Derived.Shelf.Strconv.ParseInt10All
import Derived.Shelf.Strconv.ParseIntPublic10
import Derived.Shelf.Strconv.ErrVarParseInt
import Derived.Shelf.Strings.Search1
import Derived.Shelf.Strings.Search2
import Derived.Shelf.Strings.Cut
import Derived.Shelf.Strings.Shaped
import Derived.Shelf.Sort.Plain
import Derived.Shelf.Slices.Turned
import Derived.Ground.Names2Prog
import Derived.Shelf.Slices.Clone
import Derived.Shelf.Slices.SearchI
import Derived.Shelf.Slices.In.SortNone
import Derived.Ground.SlgfProg
import Derived.Shelf.SlicesE.IndexFunc
import Derived.Shelf.SlicesE.DeleteFunc
import Derived.Test.YteepkanbiefpjaaGreatDoorProg
import Derived.Test.YteepkanbiefpjaaGreatDoorVa
namespace Go.Proofs
open Go.Shelf
open Go.RowKit in
open Go.Lib in
open Go.Lib in
open Go.Lib in
open Go.Lib in
open Go.RowKit Go.Sort Go.Lib in
def Tryz.laysM246_ren : Go.Shelf.Ren := ⟨fun | 246 => 87 | 283 => 110 | 284 => 111 | 285 => 112 | 286 => 113 | 129 => 140 | 317 => 139 | 318 => 141 | 319 => 142 | 320 => 143 | 337 => 167 | 338 => 168 | n => n, fun | 2 => 2 | 3 => 3 | 9 => 9 | 4 => 4 | 171 => 184 | 0 => 0 | 53 => 185 | 37 => 31 | 5 => 5 | 173 => 188 | 212 => 212 | 51 => 213 | 20 => 20 | 213 => 214 | 46 => 42 | 232 => 245 | 233 => 246 | n => n, fun | 17 => 0 | 18 => 1 | 19 => 2 | n => n⟩
open Go.RowKit Go.Sort Go.Lib in
open Go.RowKit Go.Sort Go.Lib in
def Tryz.laysM243_ren : Go.Shelf.Ren := ⟨fun | 243 => 73 | 246 => 87 | 283 => 110 | 284 => 111 | 285 => 112 | 286 => 113 | 129 => 140 | 317 => 139 | 318 => 141 | 319 => 142 | 320 => 143 | 337 => 167 | 338 => 168 | n => n, fun | 3 => 3 | 9 => 9 | 2 => 2 | 4 => 4 | 171 => 184 | 0 => 0 | 53 => 185 | 37 => 31 | 5 => 5 | 173 => 188 | 212 => 212 | 51 => 213 | 20 => 20 | 213 => 214 | 46 => 42 | 232 => 245 | 233 => 246 | n => n, fun | 17 => 0 | 18 => 1 | 19 => 2 | n => n⟩
open Go.RowKit Go.Sort Go.Lib in
open Go.RowKit Go.Sort Go.Lib in
def Tryz.laysM171_ren : Go.Shelf.Ren := ⟨fun | 171 => 35 | 243 => 73 | 246 => 87 | 283 => 110 | 284 => 111 | 285 => 112 | 286 => 113 | 129 => 140 | 317 => 139 | 318 => 141 | 319 => 142 | 320 => 143 | 337 => 167 | 338 => 168 | n => n, fun | 3 => 3 | 9 => 9 | 2 => 2 | 4 => 4 | 171 => 184 | 0 => 0 | 53 => 185 | 37 => 31 | 5 => 5 | 173 => 188 | 212 => 212 | 51 => 213 | 20 => 20 | 213 => 214 | 46 => 42 | 232 => 245 | 233 => 246 | n => n, fun | 17 => 0 | 18 => 1 | 19 => 2 | n => n⟩
theorem Tryz.laysM171 : Go.Proofs.LaysM.n171 Tryz.prog Tryz.laysM171_ren := {
  mixed := by kernel_rfl
  f129 := Tryz.func140.trans (congrArg some (by kernel_rfl))
  f171 := Tryz.func35.trans (congrArg some (by kernel_rfl))
  f243 := Tryz.func73.trans (congrArg some (by kernel_rfl))
  f246 := Tryz.func87.trans (congrArg some (by kernel_rfl))
  f283 := Tryz.func110.trans (congrArg some (by kernel_rfl))
  f284 := Tryz.func111.trans (congrArg some (by kernel_rfl))
  f285 := Tryz.func112.trans (congrArg some (by kernel_rfl))
  f286 := Tryz.func113.trans (congrArg some (by kernel_rfl))
  f317 := Tryz.func139.trans (congrArg some (by kernel_rfl))
  f318 := Tryz.func141.trans (congrArg some (by kernel_rfl))
  f319 := Tryz.func142.trans (congrArg some (by kernel_rfl))
  f320 := Tryz.func143.trans (congrArg some (by kernel_rfl))
  f337 := Tryz.func167.trans (congrArg some (by kernel_rfl))
  f338 := Tryz.func168.trans (congrArg some (by kernel_rfl))
  t0 := Tryz.underlying0
  a0 := Tryz.isAgg0
  z0 := Tryz.sizeOf0
  v0 := Tryz.zeroValue0
  t2 := Tryz.underlying2
  a2 := Tryz.isAgg2
  z2 := Tryz.sizeOf2
  v2 := Tryz.zeroValue2
  t3 := Tryz.underlying3
  a3 := Tryz.isAgg3
  z3 := Tryz.sizeOf3
  v3 := Tryz.zeroValue3
  t4 := Tryz.underlying4
  a4 := Tryz.isAgg4
  z4 := Tryz.sizeOf4
  v4 := Tryz.zeroValue4
  t5 := Tryz.underlying5
  a5 := Tryz.isAgg5
  z5 := Tryz.sizeOf5
  v5 := Tryz.zeroValue5
  t9 := Tryz.underlying9
  a9 := Tryz.isAgg9
  z9 := Tryz.sizeOf9
  v9 := Tryz.zeroValue9
  t20 := Tryz.underlying20
  a20 := Tryz.isAgg20
  z20 := Tryz.sizeOf20
  v20 := Tryz.zeroValue20
  t37 := Tryz.underlying31
  a37 := Tryz.isAgg31
  z37 := Tryz.sizeOf31
  v37 := Tryz.zeroValue31
  t46 := Tryz.underlying42
  a46 := Tryz.isAgg42
  z46 := Tryz.sizeOf42
  v46 := Tryz.zeroValue42
  t51 := Tryz.underlying213
  a51 := Tryz.isAgg213
  z51 := Tryz.sizeOf213
  v51 := Tryz.zeroValue213
  t53 := Tryz.underlying185
  a53 := Tryz.isAgg185
  z53 := Tryz.sizeOf185
  v53 := Tryz.zeroValue185
  t171 := Tryz.underlying184
  a171 := Tryz.isAgg184
  z171 := Tryz.sizeOf184
  v171 := Tryz.zeroValue184
  t173 := Tryz.underlying188
  a173 := Tryz.isAgg188
  z173 := Tryz.sizeOf188
  v173 := Tryz.zeroValue188
  t212 := Tryz.underlying212
  a212 := Tryz.isAgg212
  z212 := Tryz.sizeOf212
  v212 := Tryz.zeroValue212
  t213 := Tryz.underlying214
  a213 := Tryz.isAgg214
  z213 := Tryz.sizeOf214
  t232 := Tryz.underlying245
  a232 := Tryz.isAgg245
  z232 := Tryz.sizeOf245
  v232 := Tryz.zeroValue245
  t233 := Tryz.underlying246
  a233 := Tryz.isAgg246
  z233 := Tryz.sizeOf246
  v233 := Tryz.zeroValue246
  g17 := by kernel_rfl
  g18 := by kernel_rfl
  g19 := by kernel_rfl
  i0 := by kernel_rfl
  i2 := by kernel_rfl
  i3 := by kernel_rfl
  i4 := by kernel_rfl
  i5 := by kernel_rfl
  i9 := by kernel_rfl
  i20 := by kernel_rfl
  i37 := by kernel_rfl
  i46 := by kernel_rfl
  i51 := by kernel_rfl
  i53 := by kernel_rfl
  i171 := by kernel_rfl
  i173 := by kernel_rfl
  i212 := by kernel_rfl
  i232 := by kernel_rfl
  i233 := by kernel_rfl
  m17 := by kernel_rfl
  m18 := by kernel_rfl
  m19 := by kernel_rfl }
open Go.RowKit Go.Sort Go.Lib in
theorem Tryz.strconv_Itoa (n : Int) (h0 : -9223372036854775808 ≤ n) (h1 : n ≤ 9223372036854775807) (w : World) (htab : Lib.TabIs Tryz.prog w "internal/strconv.uint64pow10" .u64 Lib.pow10Tab) :
    Calls Tryz.prog 35 #[.int .i64 n] w fun e w' => e = .returned (.string ⟨(Lib.itoa n).toArray⟩) ∧ ∃ k os, w' = grow (w.drewN k) os := Any.strconv_Itoa Tryz.laysM171 n h0 h1 w htab
def Tryz.lays171_ren : Go.Shelf.Ren := ⟨fun | 171 => 35 | 243 => 73 | 246 => 87 | 283 => 110 | 284 => 111 | 285 => 112 | 286 => 113 | 129 => 140 | 317 => 139 | 318 => 141 | 319 => 142 | 320 => 143 | 337 => 167 | 338 => 168 | n => n, fun | 3 => 3 | 9 => 9 | 2 => 2 | 4 => 4 | 171 => 184 | 0 => 0 | 53 => 185 | 37 => 31 | 5 => 5 | 173 => 188 | 212 => 212 | 51 => 213 | 20 => 20 | 213 => 214 | 46 => 42 | 232 => 245 | 233 => 246 | n => n, fun | 17 => 0 | 18 => 1 | 19 => 2 | n => n⟩
theorem Tryz.lays171 : Go.Proofs.Lays.n171 Tryz.prog Tryz.lays171_ren := {
  mixed := by kernel_rfl
  f129 := Tryz.func140.trans (congrArg some (by kernel_rfl))
  f171 := Tryz.func35.trans (congrArg some (by kernel_rfl))
  f243 := Tryz.func73.trans (congrArg some (by kernel_rfl))
  f246 := Tryz.func87.trans (congrArg some (by kernel_rfl))
  f283 := Tryz.func110.trans (congrArg some (by kernel_rfl))
  f284 := Tryz.func111.trans (congrArg some (by kernel_rfl))
  f285 := Tryz.func112.trans (congrArg some (by kernel_rfl))
  f286 := Tryz.func113.trans (congrArg some (by kernel_rfl))
  f317 := Tryz.func139.trans (congrArg some (by kernel_rfl))
  f318 := Tryz.func141.trans (congrArg some (by kernel_rfl))
  f319 := Tryz.func142.trans (congrArg some (by kernel_rfl))
  f320 := Tryz.func143.trans (congrArg some (by kernel_rfl))
  f337 := Tryz.func167.trans (congrArg some (by kernel_rfl))
  f338 := Tryz.func168.trans (congrArg some (by kernel_rfl))
  t0 := Tryz.underlying0
  a0 := Tryz.isAgg0
  z0 := Tryz.sizeOf0
  v0 := Tryz.zeroValue0
  t2 := Tryz.underlying2
  a2 := Tryz.isAgg2
  z2 := Tryz.sizeOf2
  v2 := Tryz.zeroValue2
  t3 := Tryz.underlying3
  a3 := Tryz.isAgg3
  z3 := Tryz.sizeOf3
  v3 := Tryz.zeroValue3
  t4 := Tryz.underlying4
  a4 := Tryz.isAgg4
  z4 := Tryz.sizeOf4
  v4 := Tryz.zeroValue4
  t5 := Tryz.underlying5
  a5 := Tryz.isAgg5
  z5 := Tryz.sizeOf5
  v5 := Tryz.zeroValue5
  t9 := Tryz.underlying9
  a9 := Tryz.isAgg9
  z9 := Tryz.sizeOf9
  v9 := Tryz.zeroValue9
  t20 := Tryz.underlying20
  a20 := Tryz.isAgg20
  z20 := Tryz.sizeOf20
  v20 := Tryz.zeroValue20
  t37 := Tryz.underlying31
  a37 := Tryz.isAgg31
  z37 := Tryz.sizeOf31
  v37 := Tryz.zeroValue31
  t46 := Tryz.underlying42
  a46 := Tryz.isAgg42
  z46 := Tryz.sizeOf42
  v46 := Tryz.zeroValue42
  t51 := Tryz.underlying213
  a51 := Tryz.isAgg213
  z51 := Tryz.sizeOf213
  v51 := Tryz.zeroValue213
  t53 := Tryz.underlying185
  a53 := Tryz.isAgg185
  z53 := Tryz.sizeOf185
  v53 := Tryz.zeroValue185
  t171 := Tryz.underlying184
  a171 := Tryz.isAgg184
  z171 := Tryz.sizeOf184
  v171 := Tryz.zeroValue184
  t173 := Tryz.underlying188
  a173 := Tryz.isAgg188
  z173 := Tryz.sizeOf188
  v173 := Tryz.zeroValue188
  t212 := Tryz.underlying212
  a212 := Tryz.isAgg212
  z212 := Tryz.sizeOf212
  v212 := Tryz.zeroValue212
  t213 := Tryz.underlying214
  a213 := Tryz.isAgg214
  z213 := Tryz.sizeOf214
  t232 := Tryz.underlying245
  a232 := Tryz.isAgg245
  z232 := Tryz.sizeOf245
  v232 := Tryz.zeroValue245
  t233 := Tryz.underlying246
  a233 := Tryz.isAgg246
  z233 := Tryz.sizeOf246
  v233 := Tryz.zeroValue246
  g17 := by kernel_rfl
  g18 := by kernel_rfl
  g19 := by kernel_rfl }
open Go.RowKit Go.Sort Go.Lib in
theorem Tryz.strconv_Itoa_small (i : Nat) (hi : i < 100) (w : World) :
    Calls Tryz.prog 35 #[.int .i64 i] w fun e w' => e = .returned (.string ⟨(Lib.decDigits i).toArray⟩) ∧ w' = w := Any.strconv_Itoa_small Tryz.lays171 i hi w
def Tryz.laysM173_ren : Go.Shelf.Ren := ⟨fun | 173 => 61 | 246 => 87 | 283 => 110 | 284 => 111 | 285 => 112 | 286 => 113 | 129 => 140 | 317 => 139 | 318 => 141 | 319 => 142 | 320 => 143 | 337 => 167 | 338 => 168 | n => n, fun | 2 => 2 | 3 => 3 | 9 => 9 | 4 => 4 | 171 => 184 | 0 => 0 | 53 => 185 | 37 => 31 | 5 => 5 | 173 => 188 | 212 => 212 | 51 => 213 | 20 => 20 | 213 => 214 | 46 => 42 | 232 => 245 | 233 => 246 | n => n, fun | 17 => 0 | 18 => 1 | 19 => 2 | n => n⟩
theorem Tryz.laysM173 : Go.Proofs.LaysM.n173 Tryz.prog Tryz.laysM173_ren := {
  mixed := by kernel_rfl
  f129 := Tryz.func140.trans (congrArg some (by kernel_rfl))
  f173 := Tryz.func61.trans (congrArg some (by kernel_rfl))
  f246 := Tryz.func87.trans (congrArg some (by kernel_rfl))
  f283 := Tryz.func110.trans (congrArg some (by kernel_rfl))
  f284 := Tryz.func111.trans (congrArg some (by kernel_rfl))
  f285 := Tryz.func112.trans (congrArg some (by kernel_rfl))
  f286 := Tryz.func113.trans (congrArg some (by kernel_rfl))
  f317 := Tryz.func139.trans (congrArg some (by kernel_rfl))
  f318 := Tryz.func141.trans (congrArg some (by kernel_rfl))
  f319 := Tryz.func142.trans (congrArg some (by kernel_rfl))
  f320 := Tryz.func143.trans (congrArg some (by kernel_rfl))
  f337 := Tryz.func167.trans (congrArg some (by kernel_rfl))
  f338 := Tryz.func168.trans (congrArg some (by kernel_rfl))
  t0 := Tryz.underlying0
  a0 := Tryz.isAgg0
  z0 := Tryz.sizeOf0
  v0 := Tryz.zeroValue0
  t2 := Tryz.underlying2
  a2 := Tryz.isAgg2
  z2 := Tryz.sizeOf2
  v2 := Tryz.zeroValue2
  t3 := Tryz.underlying3
  a3 := Tryz.isAgg3
  z3 := Tryz.sizeOf3
  v3 := Tryz.zeroValue3
  t4 := Tryz.underlying4
  a4 := Tryz.isAgg4
  z4 := Tryz.sizeOf4
  v4 := Tryz.zeroValue4
  t5 := Tryz.underlying5
  a5 := Tryz.isAgg5
  z5 := Tryz.sizeOf5
  v5 := Tryz.zeroValue5
  t9 := Tryz.underlying9
  a9 := Tryz.isAgg9
  z9 := Tryz.sizeOf9
  v9 := Tryz.zeroValue9
  t20 := Tryz.underlying20
  a20 := Tryz.isAgg20
  z20 := Tryz.sizeOf20
  v20 := Tryz.zeroValue20
  t37 := Tryz.underlying31
  a37 := Tryz.isAgg31
  z37 := Tryz.sizeOf31
  v37 := Tryz.zeroValue31
  t46 := Tryz.underlying42
  a46 := Tryz.isAgg42
  z46 := Tryz.sizeOf42
  v46 := Tryz.zeroValue42
  t51 := Tryz.underlying213
  a51 := Tryz.isAgg213
  z51 := Tryz.sizeOf213
  v51 := Tryz.zeroValue213
  t53 := Tryz.underlying185
  a53 := Tryz.isAgg185
  z53 := Tryz.sizeOf185
  v53 := Tryz.zeroValue185
  t171 := Tryz.underlying184
  a171 := Tryz.isAgg184
  z171 := Tryz.sizeOf184
  v171 := Tryz.zeroValue184
  t173 := Tryz.underlying188
  a173 := Tryz.isAgg188
  z173 := Tryz.sizeOf188
  v173 := Tryz.zeroValue188
  t212 := Tryz.underlying212
  a212 := Tryz.isAgg212
  z212 := Tryz.sizeOf212
  v212 := Tryz.zeroValue212
  t213 := Tryz.underlying214
  a213 := Tryz.isAgg214
  z213 := Tryz.sizeOf214
  t232 := Tryz.underlying245
  a232 := Tryz.isAgg245
  z232 := Tryz.sizeOf245
  v232 := Tryz.zeroValue245
  t233 := Tryz.underlying246
  a233 := Tryz.isAgg246
  z233 := Tryz.sizeOf246
  v233 := Tryz.zeroValue246
  g17 := by kernel_rfl
  g18 := by kernel_rfl
  g19 := by kernel_rfl
  i0 := by kernel_rfl
  i2 := by kernel_rfl
  i3 := by kernel_rfl
  i4 := by kernel_rfl
  i5 := by kernel_rfl
  i9 := by kernel_rfl
  i20 := by kernel_rfl
  i37 := by kernel_rfl
  i46 := by kernel_rfl
  i51 := by kernel_rfl
  i53 := by kernel_rfl
  i171 := by kernel_rfl
  i173 := by kernel_rfl
  i212 := by kernel_rfl
  i232 := by kernel_rfl
  i233 := by kernel_rfl
  m17 := by kernel_rfl
  m18 := by kernel_rfl
  m19 := by kernel_rfl }
open Go.RowKit Go.Sort Go.Lib in
theorem Tryz.strconv_FormatInt_10 (n : Int) (h0 : -9223372036854775808 ≤ n) (h1 : n ≤ 9223372036854775807) (w : World) (htab : Lib.TabIs Tryz.prog w "internal/strconv.uint64pow10" .u64 Lib.pow10Tab) :
    Calls Tryz.prog 61 #[.int .i64 n, .int .i64 10] w fun e w' => e = .returned (.string ⟨(Lib.itoa n).toArray⟩) ∧ ∃ k os, w' = grow (w.drewN k) os := Any.strconv_FormatInt_10 Tryz.laysM173 n h0 h1 w htab
open Go.RowKit Go.Sort Go.Lib in
open Go.RowKit in
open Go.RowKit in
open Go.RowKit in
def Tryz.laysC245_ren : Go.Shelf.Ren := ⟨fun | 245 => 160 | 279 => 179 | 280 => 180 | 281 => 181 | 282 => 182 | 316 => 192 | 171 => 35 | 205 => 193 | 243 => 73 | 246 => 87 | 283 => 110 | 284 => 111 | 285 => 112 | 286 => 113 | 129 => 140 | 317 => 139 | 318 => 141 | 319 => 142 | 320 => 143 | 337 => 167 | 338 => 168 | n => n, fun | 9 => 9 | 3 => 3 | 75 => 203 | 167 => 238 | 4 => 4 | 168 => 241 | 210 => 255 | 37 => 31 | 0 => 0 | 127 => 259 | 145 => 262 | 143 => 260 | 2 => 2 | 171 => 184 | 53 => 185 | 5 => 5 | 173 => 188 | 212 => 212 | 51 => 213 | 20 => 20 | 213 => 214 | 46 => 42 | 232 => 245 | 233 => 246 | 80 => 45 | n => n, fun | 15 => 4 | 16 => 5 | 17 => 0 | 18 => 1 | 19 => 2 | n => n⟩
open Go.RowKit in
open Go.RowKit in
open Go.RowKit in
open Go.RowKit in
open Go.RowKit in
open Go.RowKit in
open Go.RowKit in
open Go.RowKit in
open Go.RowKit in
open Go.RowKit in
open Go.RowKit in
open Go.RowKit in
open Go.RowKit in
open Go.RowKit in
open Go.RowKit in
open Go.RowKit in
open Go.RowKit in
open Go.RowKit in
open Go.RowKit in
open Go.RowKit in
open Go.RowKit in
open Go.RowKit in
open Go.RowKit in
open Go.RowKit in
open Go.RowKit in
open Go.RowKit in
open Go.RowKit in
def Tryz.laysC174_ren : Go.Shelf.Ren := ⟨fun | 174 => 128 | 247 => 159 | 245 => 160 | 287 => 178 | 279 => 179 | 280 => 180 | 281 => 181 | 282 => 182 | 321 => 190 | 322 => 191 | 316 => 192 | 171 => 35 | 205 => 193 | 243 => 73 | 246 => 87 | 283 => 110 | 284 => 111 | 285 => 112 | 286 => 113 | 129 => 140 | 317 => 139 | 318 => 141 | 319 => 142 | 320 => 143 | 337 => 167 | 338 => 168 | n => n, fun | 9 => 9 | 3 => 3 | 2 => 2 | 75 => 203 | 85 => 204 | 4 => 4 | 167 => 238 | 5 => 5 | 53 => 185 | 175 => 239 | 46 => 42 | 168 => 241 | 37 => 31 | 0 => 0 | 210 => 255 | 21 => 21 | 127 => 259 | 145 => 262 | 143 => 260 | 171 => 184 | 173 => 188 | 212 => 212 | 51 => 213 | 20 => 20 | 213 => 214 | 232 => 245 | 233 => 246 | 80 => 45 | n => n, fun | 15 => 4 | 16 => 5 | 17 => 0 | 18 => 1 | 19 => 2 | n => n⟩
theorem Tryz.laysC174 : Go.Proofs.LaysC.n174 Tryz.prog Tryz.laysC174_ren := {
  mixed := by kernel_rfl
  f129 := Tryz.func140.trans (congrArg some (by kernel_rfl))
  f171 := Tryz.func35.trans (congrArg some (by kernel_rfl))
  f174 := Tryz.func128.trans (congrArg some (by kernel_rfl))
  f205 := Tryz.func193.trans (congrArg some (by kernel_rfl))
  f243 := Tryz.func73.trans (congrArg some (by kernel_rfl))
  f245 := Tryz.func160.trans (congrArg some (by kernel_rfl))
  f246 := Tryz.func87.trans (congrArg some (by kernel_rfl))
  f247 := Tryz.func159.trans (congrArg some (by kernel_rfl))
  f279 := Tryz.func179.trans (congrArg some (by kernel_rfl))
  f280 := Tryz.func180.trans (congrArg some (by kernel_rfl))
  f281 := Tryz.func181.trans (congrArg some (by kernel_rfl))
  f282 := Tryz.func182.trans (congrArg some (by kernel_rfl))
  f283 := Tryz.func110.trans (congrArg some (by kernel_rfl))
  f284 := Tryz.func111.trans (congrArg some (by kernel_rfl))
  f285 := Tryz.func112.trans (congrArg some (by kernel_rfl))
  f286 := Tryz.func113.trans (congrArg some (by kernel_rfl))
  f287 := Tryz.func178.trans (congrArg some (by kernel_rfl))
  f316 := Tryz.func192.trans (congrArg some (by kernel_rfl))
  f317 := Tryz.func139.trans (congrArg some (by kernel_rfl))
  f318 := Tryz.func141.trans (congrArg some (by kernel_rfl))
  f319 := Tryz.func142.trans (congrArg some (by kernel_rfl))
  f320 := Tryz.func143.trans (congrArg some (by kernel_rfl))
  f321 := Tryz.func190.trans (congrArg some (by kernel_rfl))
  f322 := Tryz.func191.trans (congrArg some (by kernel_rfl))
  f337 := Tryz.func167.trans (congrArg some (by kernel_rfl))
  f338 := Tryz.func168.trans (congrArg some (by kernel_rfl))
  t0 := Tryz.underlying0
  a0 := Tryz.isAgg0
  z0 := Tryz.sizeOf0
  v0 := Tryz.zeroValue0
  t2 := Tryz.underlying2
  a2 := Tryz.isAgg2
  z2 := Tryz.sizeOf2
  v2 := Tryz.zeroValue2
  t3 := Tryz.underlying3
  a3 := Tryz.isAgg3
  z3 := Tryz.sizeOf3
  v3 := Tryz.zeroValue3
  t4 := Tryz.underlying4
  a4 := Tryz.isAgg4
  z4 := Tryz.sizeOf4
  v4 := Tryz.zeroValue4
  t5 := Tryz.underlying5
  a5 := Tryz.isAgg5
  z5 := Tryz.sizeOf5
  v5 := Tryz.zeroValue5
  t9 := Tryz.underlying9
  a9 := Tryz.isAgg9
  z9 := Tryz.sizeOf9
  v9 := Tryz.zeroValue9
  t20 := Tryz.underlying20
  a20 := Tryz.isAgg20
  z20 := Tryz.sizeOf20
  v20 := Tryz.zeroValue20
  t21 := Tryz.underlying21
  a21 := Tryz.isAgg21
  z21 := Tryz.sizeOf21
  v21 := Tryz.zeroValue21
  t37 := Tryz.underlying31
  a37 := Tryz.isAgg31
  z37 := Tryz.sizeOf31
  v37 := Tryz.zeroValue31
  t46 := Tryz.underlying42
  a46 := Tryz.isAgg42
  z46 := Tryz.sizeOf42
  v46 := Tryz.zeroValue42
  t51 := Tryz.underlying213
  a51 := Tryz.isAgg213
  z51 := Tryz.sizeOf213
  v51 := Tryz.zeroValue213
  t53 := Tryz.underlying185
  a53 := Tryz.isAgg185
  z53 := Tryz.sizeOf185
  v53 := Tryz.zeroValue185
  t75 := Tryz.underlying203
  a75 := Tryz.isAgg203
  z75 := Tryz.sizeOf203
  v75 := Tryz.zeroValue203
  t85 := Tryz.underlying204
  a85 := Tryz.isAgg204
  z85 := Tryz.sizeOf204
  v85 := Tryz.zeroValue204
  t127 := Tryz.underlying259
  a127 := Tryz.isAgg259
  z127 := Tryz.sizeOf259
  v127 := Tryz.zeroValue259
  t143 := Tryz.underlying260
  a143 := Tryz.isAgg260
  z143 := Tryz.sizeOf260
  v143 := Tryz.zeroValue260
  t145 := Tryz.underlying262
  a145 := Tryz.isAgg262
  z145 := Tryz.sizeOf262
  v145 := Tryz.zeroValue262
  t167 := Tryz.underlying238
  a167 := Tryz.isAgg238
  z167 := Tryz.sizeOf238
  v167 := Tryz.zeroValue238
  t168 := Tryz.underlying241
  a168 := Tryz.isAgg241
  z168 := Tryz.sizeOf241
  v168 := Tryz.zeroValue241
  t171 := Tryz.underlying184
  a171 := Tryz.isAgg184
  z171 := Tryz.sizeOf184
  v171 := Tryz.zeroValue184
  t173 := Tryz.underlying188
  a173 := Tryz.isAgg188
  z173 := Tryz.sizeOf188
  v173 := Tryz.zeroValue188
  t175 := Tryz.underlying239
  a175 := Tryz.isAgg239
  z175 := Tryz.sizeOf239
  v175 := Tryz.zeroValue239
  t210 := Tryz.underlying255
  a210 := Tryz.isAgg255
  z210 := Tryz.sizeOf255
  v210 := Tryz.zeroValue255
  t212 := Tryz.underlying212
  a212 := Tryz.isAgg212
  z212 := Tryz.sizeOf212
  v212 := Tryz.zeroValue212
  t213 := Tryz.underlying214
  a213 := Tryz.isAgg214
  z213 := Tryz.sizeOf214
  t232 := Tryz.underlying245
  a232 := Tryz.isAgg245
  z232 := Tryz.sizeOf245
  v232 := Tryz.zeroValue245
  t233 := Tryz.underlying246
  a233 := Tryz.isAgg246
  z233 := Tryz.sizeOf246
  v233 := Tryz.zeroValue246
  g15 := by kernel_rfl
  g16 := by kernel_rfl
  g17 := by kernel_rfl
  g18 := by kernel_rfl
  g19 := by kernel_rfl
  t80 := Tryz.underlying45
  a80 := Tryz.isAgg45
  z80 := Tryz.sizeOf45
  v80 := Tryz.zeroValue45
  i0 := by kernel_rfl
  i2 := by kernel_rfl
  i3 := by kernel_rfl
  i4 := by kernel_rfl
  i5 := by kernel_rfl
  i9 := by kernel_rfl
  i20 := by kernel_rfl
  i21 := by kernel_rfl
  i37 := by kernel_rfl
  i46 := by kernel_rfl
  i51 := by kernel_rfl
  i53 := by kernel_rfl
  i75 := by kernel_rfl
  i80 := by kernel_rfl
  i85 := by kernel_rfl
  i127 := by kernel_rfl
  i143 := by kernel_rfl
  i145 := by kernel_rfl
  i167 := by kernel_rfl
  i168 := by kernel_rfl
  i171 := by kernel_rfl
  i173 := by kernel_rfl
  i175 := by kernel_rfl
  i210 := by kernel_rfl
  i212 := by kernel_rfl
  i232 := by kernel_rfl
  i233 := by kernel_rfl
  m15 := by kernel_rfl
  m16 := by kernel_rfl
  m17 := by kernel_rfl
  m18 := by kernel_rfl
  m19 := by kernel_rfl
  c0 := by kernel_rfl
  c2 := by kernel_rfl
  c3 := by kernel_rfl
  c4 := by kernel_rfl
  c5 := by kernel_rfl
  c9 := by kernel_rfl
  c20 := by kernel_rfl
  c21 := by kernel_rfl
  c37 := by kernel_rfl
  c46 := by kernel_rfl
  c51 := by kernel_rfl
  c53 := by kernel_rfl
  c75 := by kernel_rfl
  c80 := by kernel_rfl
  c85 := by kernel_rfl
  c127 := by kernel_rfl
  c143 := by kernel_rfl
  c145 := by kernel_rfl
  c167 := by kernel_rfl
  c168 := by kernel_rfl
  c171 := by kernel_rfl
  c173 := by kernel_rfl
  c175 := by kernel_rfl
  c210 := by kernel_rfl
  c212 := by kernel_rfl
  c213 := by kernel_rfl
  c232 := by kernel_rfl
  c233 := by kernel_rfl }
open Go.RowKit in
open Go.RowKit in
open Go.RowKit in
open Go.RowKit in
theorem Tryz.strconv_ParseInt_10_at64_ok (s : ByteArray) (hmax : s.size ≤ 9223372036854775806) (v : Int) (h : Lib.parseIntB 64 s.data.toList = .ok v) (w : World) :
    Calls Tryz.prog 128 #[.string s, .int .i64 10, .int .i64 64] w fun e w' => e = .returned (.tuple #[.int .i64 v, .nilIface]) ∧ (w' = w ∨ ∃ t, w' = Lib.bytesWorld w 5 t) := Any.strconv_ParseInt_10_at64_ok Tryz.laysC174 s hmax v h w
open Go.RowKit in
open Go.RowKit in
open Go.RowKit in
open Go.RowKit in
open Go.RowKit in
open Go.RowKit in
open Go.RowKit in
open Go.RowKit in
open Go.RowKit in
open Go.RowKit in
open Go.RowKit in
open Go.RowKit in
open Go.RowKit in
open Go.RowKit in
theorem Tryz.strconv_ParseInt_10_at64_syntax_var (s : ByteArray) (hlim : s.size ≤ 281474976710656) (h : Lib.parseIntB 64 s.data.toList = Lib.parseIntB 64 []) (tp : TypeId) (p : Value) (w : World) (hvar : w.var? Tryz.prog "strconv.ErrSyntax" = some #[.iface tp p]) :
    Calls Tryz.prog 128 #[.string s, .int .i64 10, .int .i64 64] w fun e w' => ∃ N, e = .returned (.tuple #[.int .i64 (0), .iface 241 (.pointer (some ⟨N, 0, none⟩))]) ∧ w.heap.size ≤ N ∧ w'.heap[N]? = some (.cells #[.string ⟨#[80, 97, 114, 115, 101, 73, 110, 116]⟩, .string s, .iface tp p] 255 (0, 0)) ∧ Below w.heap.size w w' := Any.strconv_ParseInt_10_at64_syntax_var Tryz.laysC174 s hlim h tp p w hvar
open Go.RowKit in
theorem Tryz.strconv_ParseInt_10_at64_range_var (s : ByteArray) (hlim : s.size ≤ 281474976710656) (h : Lib.parseIntB 64 s.data.toList = .range) (tp : TypeId) (p : Value) (w : World) (hvar : w.var? Tryz.prog "strconv.ErrRange" = some #[.iface tp p]) :
    Calls Tryz.prog 128 #[.string s, .int .i64 10, .int .i64 64] w fun e w' => ∃ N, e = .returned (.tuple #[.int .i64 (Lib.intSat 64 s.data.toList), .iface 241 (.pointer (some ⟨N, 0, none⟩))]) ∧ w.heap.size ≤ N ∧ w'.heap[N]? = some (.cells #[.string ⟨#[80, 97, 114, 115, 101, 73, 110, 116]⟩, .string s, .iface tp p] 255 (0, 0)) ∧ Below w.heap.size w w' := Any.strconv_ParseInt_10_at64_range_var Tryz.laysC174 s hlim h tp p w hvar
open Go.RowKit in
open Go.RowKit in
open Go.RowKit in
open Go.RowKit in
open Go.RowKit in
open Go.RowKit in
open Go.RowKit Go.Lib in
open Go.RowKit Go.Lib in
open Go.RowKit Go.Lib in
open Go.RowKit Go.Lib in
def Tryz.lays219_ren : Go.Shelf.Ren := ⟨fun | 219 => 177 | 217 => 186 | 225 => 187 | 224 => 188 | 267 => 189 | 266 => 194 | 314 => 195 | n => n, fun | 9 => 9 | 3 => 3 | 4 => 4 | 5 => 5 | 46 => 42 | 146 => 257 | 51 => 213 | n => n, fun | 1 => 3 | n => n⟩
open Go.RowKit Go.Lib in
open Go.RowKit Go.Lib in
open Go.RowKit Go.Lib in
def Tryz.lays145_ren : Go.Shelf.Ren := ⟨fun | 145 => 126 | 220 => 158 | 219 => 177 | 217 => 186 | 225 => 187 | 224 => 188 | 267 => 189 | 266 => 194 | 314 => 195 | n => n, fun | 9 => 9 | 4 => 4 | 59 => 199 | 3 => 3 | 5 => 5 | 46 => 42 | 146 => 257 | 51 => 213 | n => n, fun | 1 => 3 | n => n⟩
theorem Tryz.lays145 : Go.Proofs.Lays.n145 Tryz.prog Tryz.lays145_ren := {
  mixed := by kernel_rfl
  f145 := Tryz.func126.trans (congrArg some (by kernel_rfl))
  f217 := Tryz.func186.trans (congrArg some (by kernel_rfl))
  f219 := Tryz.func177.trans (congrArg some (by kernel_rfl))
  f220 := Tryz.func158.trans (congrArg some (by kernel_rfl))
  f224 := Tryz.func188.trans (congrArg some (by kernel_rfl))
  f225 := Tryz.func187.trans (congrArg some (by kernel_rfl))
  f266 := Tryz.func194.trans (congrArg some (by kernel_rfl))
  f267 := Tryz.func189.trans (congrArg some (by kernel_rfl))
  f314 := Tryz.func195.trans (congrArg some (by kernel_rfl))
  t3 := Tryz.underlying3
  a3 := Tryz.isAgg3
  z3 := Tryz.sizeOf3
  v3 := Tryz.zeroValue3
  t4 := Tryz.underlying4
  a4 := Tryz.isAgg4
  z4 := Tryz.sizeOf4
  v4 := Tryz.zeroValue4
  t5 := Tryz.underlying5
  a5 := Tryz.isAgg5
  z5 := Tryz.sizeOf5
  v5 := Tryz.zeroValue5
  t9 := Tryz.underlying9
  a9 := Tryz.isAgg9
  z9 := Tryz.sizeOf9
  v9 := Tryz.zeroValue9
  t46 := Tryz.underlying42
  a46 := Tryz.isAgg42
  z46 := Tryz.sizeOf42
  v46 := Tryz.zeroValue42
  t51 := Tryz.underlying213
  a51 := Tryz.isAgg213
  z51 := Tryz.sizeOf213
  v51 := Tryz.zeroValue213
  t59 := Tryz.underlying199
  a59 := Tryz.isAgg199
  z59 := Tryz.sizeOf199
  v59 := Tryz.zeroValue199
  t146 := Tryz.underlying257
  a146 := Tryz.isAgg257
  z146 := Tryz.sizeOf257
  v146 := Tryz.zeroValue257
  g1 := by kernel_rfl }
open Go.RowKit Go.Lib in
theorem Tryz.strings_Cut (s sep : ByteArray) (m : Int) (w : World) (hs : s.size < 4294967281) (hm : w.cell? ⟨3, 0, none⟩ = some (.int .i64 m)) :
    Calls Tryz.prog 126 #[.string s, .string sep] w fun e w' => e = .returned (.tuple #[.string ⟨(Lib.cut s.data.toList sep.data.toList).1.toArray⟩, .string ⟨(Lib.cut s.data.toList sep.data.toList).2.1.toArray⟩, .bool (Lib.cut s.data.toList sep.data.toList).2.2]) ∧ ∃ n, w' = w.drewN n := Any.strings_Cut Tryz.lays145 s sep m w hs hm
open Go.RowKit Go.Lib in
open Go.RowKit Go.Lib in
open Go.RowKit Go.Lib in
def Tryz.lays189_ren : Go.Shelf.Ren := ⟨fun | 189 => 88 | 125 => 115 | 257 => 114 | 128 => 153 | 129 => 140 | 294 => 144 | 295 => 145 | 296 => 146 | 297 => 147 | 298 => 148 | 299 => 149 | 216 => 150 | 300 => 151 | 301 => 152 | 328 => 169 | 329 => 170 | 330 => 171 | 331 => 172 | 332 => 173 | 215 => 174 | 343 => 184 | n => n, fun | 28 => 53 | 3 => 3 | 46 => 42 | 0 => 0 | 51 => 213 | 53 => 185 | 4 => 4 | 183 => 217 | 182 => 216 | 131 => 221 | 5 => 5 | 9 => 9 | 218 => 230 | 222 => 234 | 228 => 247 | 229 => 248 | n => n, fun | n => n⟩
theorem Tryz.lays189 : Go.Proofs.Lays.n189 Tryz.prog Tryz.lays189_ren := {
  mixed := by kernel_rfl
  f125 := Tryz.func115.trans (congrArg some (by kernel_rfl))
  f128 := Tryz.func153.trans (congrArg some (by kernel_rfl))
  f129 := Tryz.func140.trans (congrArg some (by kernel_rfl))
  f189 := Tryz.func88.trans (congrArg some (by kernel_rfl))
  f215 := Tryz.func174.trans (congrArg some (by kernel_rfl))
  f216 := Tryz.func150.trans (congrArg some (by kernel_rfl))
  f257 := Tryz.func114.trans (congrArg some (by kernel_rfl))
  f294 := Tryz.func144.trans (congrArg some (by kernel_rfl))
  f295 := Tryz.func145.trans (congrArg some (by kernel_rfl))
  f296 := Tryz.func146.trans (congrArg some (by kernel_rfl))
  f297 := Tryz.func147.trans (congrArg some (by kernel_rfl))
  f298 := Tryz.func148.trans (congrArg some (by kernel_rfl))
  f299 := Tryz.func149.trans (congrArg some (by kernel_rfl))
  f300 := Tryz.func151.trans (congrArg some (by kernel_rfl))
  f301 := Tryz.func152.trans (congrArg some (by kernel_rfl))
  f328 := Tryz.func169.trans (congrArg some (by kernel_rfl))
  f329 := Tryz.func170.trans (congrArg some (by kernel_rfl))
  f330 := Tryz.func171.trans (congrArg some (by kernel_rfl))
  f331 := Tryz.func172.trans (congrArg some (by kernel_rfl))
  f332 := Tryz.func173.trans (congrArg some (by kernel_rfl))
  f343 := Tryz.func184.trans (congrArg some (by kernel_rfl))
  t0 := Tryz.underlying0
  a0 := Tryz.isAgg0
  z0 := Tryz.sizeOf0
  v0 := Tryz.zeroValue0
  t3 := Tryz.underlying3
  a3 := Tryz.isAgg3
  z3 := Tryz.sizeOf3
  v3 := Tryz.zeroValue3
  t4 := Tryz.underlying4
  a4 := Tryz.isAgg4
  z4 := Tryz.sizeOf4
  v4 := Tryz.zeroValue4
  t5 := Tryz.underlying5
  a5 := Tryz.isAgg5
  z5 := Tryz.sizeOf5
  v5 := Tryz.zeroValue5
  t9 := Tryz.underlying9
  a9 := Tryz.isAgg9
  z9 := Tryz.sizeOf9
  v9 := Tryz.zeroValue9
  t28 := Tryz.underlying53
  a28 := Tryz.isAgg53
  z28 := Tryz.sizeOf53
  v28 := Tryz.zeroValue53
  t46 := Tryz.underlying42
  a46 := Tryz.isAgg42
  z46 := Tryz.sizeOf42
  v46 := Tryz.zeroValue42
  t51 := Tryz.underlying213
  a51 := Tryz.isAgg213
  z51 := Tryz.sizeOf213
  v51 := Tryz.zeroValue213
  t53 := Tryz.underlying185
  a53 := Tryz.isAgg185
  z53 := Tryz.sizeOf185
  v53 := Tryz.zeroValue185
  t131 := Tryz.underlying221
  a131 := Tryz.isAgg221
  z131 := Tryz.sizeOf221
  v131 := Tryz.zeroValue221
  t182 := Tryz.underlying216
  a182 := Tryz.isAgg216
  z182 := Tryz.sizeOf216
  v182 := Tryz.zeroValue216
  t183 := Tryz.underlying217
  a183 := Tryz.isAgg217
  z183 := Tryz.sizeOf217
  v183 := Tryz.zeroValue217
  t218 := Tryz.underlying230
  a218 := Tryz.isAgg230
  z218 := Tryz.sizeOf230
  v218 := Tryz.zeroValue230
  t222 := Tryz.underlying234
  a222 := Tryz.isAgg234
  z222 := Tryz.sizeOf234
  v222 := Tryz.zeroValue234
  t228 := Tryz.underlying247
  a228 := Tryz.isAgg247
  z228 := Tryz.sizeOf247
  v228 := Tryz.zeroValue247
  t229 := Tryz.underlying248
  a229 := Tryz.isAgg248
  z229 := Tryz.sizeOf248
  v229 := Tryz.zeroValue248 }
open Go.Sort Go.RowKit in
theorem Tryz.slices_Sort_int (blk off cap : Nat) (zs : List Int) (w : World) (hH : Holds (Value.int .i64) w blk off zs.toArray) (hblk : blk < w.heap.size) (hsz : zs.length < 4611686018427387904) :
    Calls Tryz.prog 88 #[.slice (some ⟨blk, off, none⟩) zs.length cap] w fun e w' =>
      e = .returned (.tuple #[]) ∧ ∃ n os, w' = grow (putRow (Value.int .i64) (Sort.ahead w n) blk off (zs.mergeSort fun x y => decide (x ≤ y)).toArray) os := Any.slices_Sort_int Tryz.lays189 blk off cap zs w hH hblk hsz
open Go.Lib in
open Go.Lib in
def Tryz.lays107_ren : Go.Shelf.Ren := ⟨fun | 107 => 162 | 108 => 183 | n => n, fun | 28 => 53 | 3 => 3 | 4 => 4 | 0 => 0 | n => n, fun | n => n⟩
theorem Tryz.lays107 : Go.Proofs.Lays.n107 Tryz.prog Tryz.lays107_ren := {
  mixed := by kernel_rfl
  f107 := Tryz.func162.trans (congrArg some (by kernel_rfl))
  f108 := Tryz.func183.trans (congrArg some (by kernel_rfl))
  t0 := Tryz.underlying0
  a0 := Tryz.isAgg0
  z0 := Tryz.sizeOf0
  v0 := Tryz.zeroValue0
  t3 := Tryz.underlying3
  a3 := Tryz.isAgg3
  z3 := Tryz.sizeOf3
  v3 := Tryz.zeroValue3
  t4 := Tryz.underlying4
  a4 := Tryz.isAgg4
  z4 := Tryz.sizeOf4
  v4 := Tryz.zeroValue4
  t28 := Tryz.underlying53
  a28 := Tryz.isAgg53
  z28 := Tryz.sizeOf53
  v28 := Tryz.zeroValue53 }
open Go.Lib in
theorem Tryz.slices_Contains_int (b off n c : Nat) (zs : List Int) (x : Int) (w : World) (hz : n ≤ zs.length) (hbig : n ≤ 9223372036854775807) (hc : ∀ j, j < zs.length → w.cell? ⟨b, off + j, none⟩ = some (.int .i64 (zs.getD j 0))) :
    Calls Tryz.prog 162 #[.slice (some ⟨b, off, none⟩) n c, .int .i64 x] w fun e w' => e = .returned (.bool ((zs.take n).contains x)) ∧ w' = w := Any.slices_Contains_int Tryz.lays107 b off n c zs x w hz hbig hc
open Go.Lib in
theorem Tryz.slices_Contains_int_empty (a : Option Addr) (c : Nat) (x : Int) (w : World) :
    Calls Tryz.prog 162 #[.slice a 0 c, .int .i64 x] w fun e w' => e = .returned (.bool false) ∧ w' = w := Any.slices_Contains_int_empty Tryz.lays107 a c x w
def Tryz.lays109_ren : Go.Shelf.Ren := ⟨fun | 109 => 127 | n => n, fun | 31 => 112 | 9 => 9 | 3 => 3 | 0 => 0 | 4 => 4 | n => n, fun | n => n⟩
theorem Tryz.lays109 : Go.Proofs.Lays.n109 Tryz.prog Tryz.lays109_ren := {
  mixed := by kernel_rfl
  f109 := Tryz.func127.trans (congrArg some (by kernel_rfl))
  t0 := Tryz.underlying0
  a0 := Tryz.isAgg0
  z0 := Tryz.sizeOf0
  v0 := Tryz.zeroValue0
  t3 := Tryz.underlying3
  a3 := Tryz.isAgg3
  z3 := Tryz.sizeOf3
  v3 := Tryz.zeroValue3
  t4 := Tryz.underlying4
  a4 := Tryz.isAgg4
  z4 := Tryz.sizeOf4
  v4 := Tryz.zeroValue4
  t9 := Tryz.underlying9
  a9 := Tryz.isAgg9
  z9 := Tryz.sizeOf9
  v9 := Tryz.zeroValue9
  t31 := Tryz.underlying112
  a31 := Tryz.isAgg112
  z31 := Tryz.sizeOf112
  v31 := Tryz.zeroValue112 }
open Go.Lib in
theorem Tryz.slices_Index_string (b off n c : Nat) (zs : List ByteArray) (x : ByteArray) (w : World) (hz : n ≤ zs.length) (hbig : n ≤ 9223372036854775807) (hc : ∀ j, j < zs.length → w.cell? ⟨b, off + j, none⟩ = some (.string (zs.getD j ByteArray.empty))) :
    Calls Tryz.prog 127 #[.slice (some ⟨b, off, none⟩) n c, .string x] w fun e w' => e = .returned (.int .i64 (Lib.idxOfS (zs.take n) x)) ∧ w' = w := Any.slices_Index_string Tryz.lays109 b off n c zs x w hz hbig hc
open Go.Lib in
def Tryz.laysNm215_ren : Go.Shelf.Ren := ⟨fun | 15 => 163 | n => n, fun | 22 => 53 | 3 => 3 | 4 => 4 | n => n, fun | n => n⟩
theorem Tryz.laysNm215 : Go.Proofs.Lays2.n15 Tryz.prog Tryz.laysNm215_ren := {
  mixed := by kernel_rfl
  f15 := Tryz.func163.trans (congrArg some (by kernel_rfl))
  t3 := Tryz.underlying3
  a3 := Tryz.isAgg3
  z3 := Tryz.sizeOf3
  v3 := Tryz.zeroValue3
  t4 := Tryz.underlying4
  a4 := Tryz.isAgg4
  z4 := Tryz.sizeOf4
  v4 := Tryz.zeroValue4
  t22 := Tryz.underlying53
  a22 := Tryz.isAgg53
  z22 := Tryz.sizeOf53
  v22 := Tryz.zeroValue53
  i3 := by kernel_rfl }
open Go.RowKit Go.Lib in
theorem Tryz.slices_Clone_int (b off n c : Nat) (zs : List Int) (w : World) (hz : n ≤ zs.length) (hbig : n * 8 ≤ 140737488355328) (hc : ∀ j, j < zs.length → w.cell? ⟨b, off + j, none⟩ = some (.int .i64 (zs.getD j 0))) :
    Calls Tryz.prog 163 #[.slice (some ⟨b, off, none⟩) n c] w fun e w' => ∃ v', e = .returned v' ∧ w'.ownsRow w.heap.size 3 1 v' n ((zs.take n).map (Value.int .i64)) ∧ v' ≠ .slice none 0 0 ∧ Below w.heap.size w w' := Any.slices_Clone_int Tryz.laysNm215 b off n c zs w hz hbig hc
open Go.RowKit Go.Lib in
theorem Tryz.slices_Clone_int_nil (n c : Nat) (w : World) :
    Calls Tryz.prog 163 #[.slice none n c] w fun e w' => e = .returned (.slice none 0 0) ∧ w' = w := Any.slices_Clone_int_nil Tryz.laysNm215 n c w
open Go.RowKit Go.Lib in
theorem Tryz.slices_Clone_int_zero (a : Addr) (c : Nat) (w : World) :
    Calls Tryz.prog 163 #[.slice (some a) 0 c] w fun e w' => ∃ v', e = .returned v' ∧ w'.ownsRow w.heap.size 3 1 v' 0 [] ∧ v' ≠ .slice none 0 0 ∧ Below w.heap.size w w' := Any.slices_Clone_int_zero Tryz.laysNm215 a c w
open Go.RowKit Go.Lib in
open Go.RowKit Go.Lib in
open Go.RowKit Go.Sort in
theorem Tryz.slices_Sort_int_none (p : Option Addr) (cap : Nat) (w : World) :
    Calls Tryz.prog 88 #[.slice p 0 cap] w fun e w' => e = .returned (.tuple #[]) ∧ w' = w := Any.slices_Sort_int_none Tryz.lays189 p cap w
def Tryz.laysSlH6_f185_ren : Go.Shelf.Ren := ⟨fun | 6 => 185 | n => n, fun | 22 => 53 | 23 => 3 | 25 => 160 | 3 => 3 | 0 => 0 | 4 => 4 | n => n, fun | n => n⟩
theorem Tryz.laysSlH6_f185 : Go.Proofs.SlLaysH.n6 Tryz.prog Tryz.laysSlH6_f185_ren := {
  mixed := by kernel_rfl
  f6 := ⟨Tryz.f185.name, by decide, Tryz.func185.trans (congrArg some (by kernel_rfl))⟩
  t0 := Tryz.underlying0
  a0 := Tryz.isAgg0
  z0 := Tryz.sizeOf0
  v0 := Tryz.zeroValue0
  t3 := Tryz.underlying3
  a3 := Tryz.isAgg3
  z3 := Tryz.sizeOf3
  v3 := Tryz.zeroValue3
  t4 := Tryz.underlying4
  a4 := Tryz.isAgg4
  z4 := Tryz.sizeOf4
  v4 := Tryz.zeroValue4
  t22 := Tryz.underlying53
  a22 := Tryz.isAgg53
  z22 := Tryz.sizeOf53
  v22 := Tryz.zeroValue53
  a23 := Tryz.isAgg3
  z23 := Tryz.sizeOf3
  t25 := Tryz.underlying160
  a25 := Tryz.isAgg160
  z25 := Tryz.sizeOf160
  v25 := Tryz.zeroValue160 }
open Go.RowKit Go.Lib in
open Go.RowKit Go.Lib in
theorem Tryz.slices_IndexFunc_empty {α : Type} [Inhabited α] (a : Option Addr) (c : Nat) (fv : Value) (w : World) :
    Calls Tryz.prog 185 #[.slice a 0 c, fv] w fun e w' => e = .returned (.int .i64 (-1)) ∧ w' = w := AnyE.slices_IndexFunc_empty Tryz.laysSlH6_f185 a c fv w
def Tryz.laysSlH10_f175_ren : Go.Shelf.Ren := ⟨fun | 10 => 175 | 6 => 185 | n => n, fun | 22 => 53 | 23 => 3 | 25 => 160 | 3 => 3 | 4 => 4 | 0 => 0 | n => n, fun | n => n⟩
theorem Tryz.laysSlH10_f175 : Go.Proofs.SlLaysH.n10 Tryz.prog Tryz.laysSlH10_f175_ren := {
  mixed := by kernel_rfl
  f6 := ⟨Tryz.f185.name, by decide, Tryz.func185.trans (congrArg some (by kernel_rfl))⟩
  f10 := ⟨Tryz.f175.name, by decide, Tryz.func175.trans (congrArg some (by kernel_rfl))⟩
  t0 := Tryz.underlying0
  a0 := Tryz.isAgg0
  z0 := Tryz.sizeOf0
  v0 := Tryz.zeroValue0
  t3 := Tryz.underlying3
  a3 := Tryz.isAgg3
  z3 := Tryz.sizeOf3
  v3 := Tryz.zeroValue3
  t4 := Tryz.underlying4
  a4 := Tryz.isAgg4
  z4 := Tryz.sizeOf4
  v4 := Tryz.zeroValue4
  t22 := Tryz.underlying53
  a22 := Tryz.isAgg53
  z22 := Tryz.sizeOf53
  v22 := Tryz.zeroValue53
  a23 := Tryz.isAgg3
  z23 := Tryz.sizeOf3
  t25 := Tryz.underlying160
  a25 := Tryz.isAgg160
  z25 := Tryz.sizeOf160
  v25 := Tryz.zeroValue160 }
open Go.RowKit Go.Lib Go.Sort in
theorem Tryz.slices_DeleteFunc {α : Type} [Inhabited α] (enc : α → Value) (hO : OneCell enc) (p : α → Bool) (g : Nat) (lb : Array Value) (eg : ∀ args w, (callFunc g args).run Tryz.prog w = .ok (.enter g args) w) (zr : α) (v23 : ∀ w, (zeroValue 3).run Tryz.prog w = .ok (enc zr) w) (blk off cap : Nat) (d : Array α) (w : World) (hp : PredAt Tryz.prog g lb enc p w) (hpo : PredOver Tryz.prog g lb enc p blk off d.size w) (hH : Holds enc w blk off d) (hsz : d.size ≤ 9223372036854775807) (hcap : d.size ≤ cap) :
    Calls Tryz.prog 175 #[.slice (some ⟨blk, off, none⟩) d.size cap, .func (.func g) #[] lb] w fun e w' => e = .returned (.slice (some ⟨blk, off, none⟩) (d.toList.filter fun x => !p x).length cap) ∧ ∃ q, w' = putRow enc (Sort.ahead w q) blk off ((d.toList.filter fun x => !p x) ++ List.replicate (d.size - (d.toList.filter fun x => !p x).length) zr).toArray := AnyE.slices_DeleteFunc Tryz.laysSlH10_f175 enc hO p g lb eg zr v23 blk off cap d w hp hpo hH hsz hcap
def Tryz.keysA_ren : Go.Shelf.Ren := ⟨fun | 7 => 90 | 10 => 117 | n => n, fun | 23 => 89 | 26 => 3 | 3 => 92 | 28 => 158 | 0 => 0 | 27 => 157 | 33 => 160 | 4 => 4 | n => n, fun | n => n⟩
theorem Tryz.keysA : Go.Proofs.SlLaysZI.n7 Tryz.prog Tryz.keysA_ren := {
  mixed := by kernel_rfl
  f7 := ⟨Tryz.f90.name, by decide, Tryz.func90.trans (congrArg some (by kernel_rfl))⟩
  f10 := ⟨Tryz.f117.name, by decide, Tryz.func117.trans (congrArg some (by kernel_rfl))⟩
  t0 := Tryz.underlying0
  a0 := Tryz.isAgg0
  z0 := Tryz.sizeOf0
  v0 := Tryz.zeroValue0
  t4 := Tryz.underlying4
  a4 := Tryz.isAgg4
  z4 := Tryz.sizeOf4
  v4 := Tryz.zeroValue4
  t23 := Tryz.underlying89
  a23 := Tryz.isAgg89
  z23 := Tryz.sizeOf89
  v23 := Tryz.zeroValue89
  t26 := Tryz.underlying3
  a26 := Tryz.isAgg3
  z26 := Tryz.sizeOf3
  v26 := Tryz.zeroValue3
  t27 := Tryz.underlying157
  a27 := Tryz.isAgg157
  z27 := Tryz.sizeOf157
  v27 := Tryz.zeroValue157
  t28 := Tryz.underlying158
  a28 := Tryz.isAgg158
  z28 := Tryz.sizeOf158
  v28 := Tryz.zeroValue158
  t33 := Tryz.underlying160
  a33 := Tryz.isAgg160
  z33 := Tryz.sizeOf160
  v33 := Tryz.zeroValue160 }
def Tryz.sortedA_ren : Go.Shelf.Ren := ⟨fun | 6 => 89 | 8 => 116 | 9 => 88 | 11 => 154 | 13 => 115 | 12 => 114 | 23 => 153 | 24 => 140 | 14 => 144 | 15 => 145 | 16 => 146 | 17 => 147 | 18 => 148 | 19 => 149 | 20 => 150 | 21 => 151 | 22 => 152 | 25 => 169 | 26 => 170 | 27 => 171 | 28 => 172 | 29 => 173 | 30 => 174 | 31 => 184 | n => n, fun | 26 => 3 | 28 => 158 | 24 => 53 | 0 => 0 | 3 => 3 | 37 => 42 | 48 => 213 | 50 => 185 | 4 => 4 | 40 => 217 | 39 => 216 | 45 => 221 | 5 => 5 | 9 => 9 | 51 => 230 | 55 => 234 | 57 => 247 | 58 => 248 | 33 => 160 | n => n, fun | n => n⟩
theorem Tryz.sortedA : Go.Proofs.SlLaysZI.n6 Tryz.prog Tryz.sortedA_ren := {
  mixed := by kernel_rfl
  f6 := ⟨Tryz.f89.name, by decide, Tryz.func89.trans (congrArg some (by kernel_rfl))⟩
  f8 := ⟨Tryz.f116.name, by decide, Tryz.func116.trans (congrArg some (by kernel_rfl))⟩
  f11 := ⟨Tryz.f154.name, by decide, Tryz.func154.trans (congrArg some (by kernel_rfl))⟩
  t0 := Tryz.underlying0
  a0 := Tryz.isAgg0
  z0 := Tryz.sizeOf0
  v0 := Tryz.zeroValue0
  t24 := Tryz.underlying53
  a24 := Tryz.isAgg53
  z24 := Tryz.sizeOf53
  v24 := Tryz.zeroValue53
  t26 := Tryz.underlying3
  a26 := Tryz.isAgg3
  z26 := Tryz.sizeOf3
  v26 := Tryz.zeroValue3
  t28 := Tryz.underlying158
  a28 := Tryz.isAgg158
  z28 := Tryz.sizeOf158
  v28 := Tryz.zeroValue158
  i26 := by kernel_rfl }
end Go.Proofs
set_option linter.unusedVariables false
set_option linter.unusedSimpArgs false
namespace Go.Proofs.YteepkanbiefpjaaGreatDoor.K
open Go.RowKit Go.Sort Go.Lib Go.Shelf
def I (l : List Int) : List Value := l.map (Value.int .i64)
theorem I_length (l : List Int) : (I l).length = l.length := by simp [I]
theorem I_append (l m : List Int) : I (l ++ m) = I l ++ I m := by simp [I]
theorem I_get (l : List Int) (j : Nat) (h : j < l.length) : (I l)[j]? = some (.int .i64 l[j]) := by simp [I, h]
theorem I_one (l : List Int) : ∀ u ∈ I l, u.oneCell' = true := by
  intro u hu; simp only [I, List.mem_map] at hu; obtain ⟨b, _, rfl⟩ := hu; rfl
theorem I_take (l : List Int) (k : Nat) : I (l.take k) = (I l).take k := by simp [I, List.map_take]
theorem infoI : (Tryz.prog.info? 3).map (fun i => (i.zero, i.size, i.bytes)) = some (some (.int .i64 0), 1, 8) := by kernel_rfl
def OI (w : World) (v : Value) (l : List Int) (G : Option Nat) : Prop := Own w 3 1 v l.length (I l) G
section
variable {w w1 : World} {v : Value} {l : List Int} {G : Option Nat} {S : Nat → Prop} {A : Option Addr} {c : Nat}
theorem OI.upd (h : OI w v l G) (k : Upd S w w1) (hn : ∀ g, G = some g → ¬ S g) : OI w1 v l G := Own.upd h k hn
theorem OI.up (h : OI w v l G) (k : Upd (fun _ => False) w w1) : OI w1 v l G := Own.upd h k (fun _ _ h => h)
theorem OI.lt (h : OI w v l G) : ∀ g, G = some g → g < w.heap.size := Own.lt h
theorem OI.nil (w : World) : OI w (.slice none 0 0) [] none := Own.nil w _ _
theorem OI.slice (h : OI w v l G) : ∃ A c, v = .slice A l.length c ∧ l.length ≤ c ∧ c ≤ maxLen := by
  obtain ⟨A, c, hv, h1, h2, _⟩ := Own.slice h
  exact ⟨A, c, hv, h1, h2⟩
theorem OI.at (h : OI w (.slice A l.length c) l G) (i : Nat) (hi : i < l.length) : ∃ ad, A = some ad ∧ w.cell? (ad.add i) = some (.int .i64 l[i]) := by
  obtain ⟨A', c', hv, _, _, hr, _⟩ := Own.slice h
  injection hv with e1 e2 e3
  subst e1; subst e3
  exact hr i _ (I_get l i hi)
theorem OI.row (h : OI w (.slice A l.length c) l G) : Row w A (I l) := by
  obtain ⟨A', c', hv, _, _, hr, _⟩ := Own.slice h
  injection hv with e1 e2 e3
  subst e1
  exact hr
theorem OI.cells (h : OI w (.slice A l.length c) l G) : (A = none ∧ l = []) ∨ ∃ g o, A = some ⟨g, o, none⟩ ∧ G = some g ∧ ∀ j, j < l.length → w.cell? ⟨g, o + j, none⟩ = some (.int .i64 (l.getD j 0)) ∧ w.frozen? ⟨g, o + j, none⟩ = false := by
  rcases h.form with ⟨hv, h0, hG⟩ | ⟨g, o, c', cur, hv, hG, hb, hc, hm, hs, hcell⟩
  · injection hv with e1 e2 e3
    exact .inl ⟨e1, List.eq_nil_of_length_eq_zero h0⟩
  · injection hv with e1 e2 e3
    refine .inr ⟨g, o, e1, hG, fun j hj => ?_⟩
    have := hcell j _ (I_get l j hj)
    have e4 : l.getD j 0 = l[j] := by simp [List.getD_eq_getElem?_getD, List.getElem?_eq_getElem hj]
    rw [e4]
    exact ⟨by simp [World.cell?, hb, this], by simp [World.frozen?, hb]⟩
end
def NewI (l : List Int) (w : World) (e : Ending) (w' : World) : Prop := ∃ A c G, e = .returned (.slice A l.length c) ∧ OI w' (.slice A l.length c) l G ∧ (∀ g, G = some g → w.heap.size ≤ g) ∧ Upd (fun _ => False) w w'
section
variable {w : World} {l : List Int} {G : Option Nat} {A : Option Addr} {c : Nat}
theorem clone_calls (h : OI w (.slice A l.length c) l G) (hl : l.length ≤ 1000000) : Calls Tryz.prog 163 #[.slice A l.length c] w (NewI l w) := by
  rcases h.cells with ⟨rfl, rfl⟩ | ⟨g, o, rfl, rfl, hc⟩
  · refine (Tryz.slices_Clone_int_nil _ _ w).mono fun e w' ⟨he, hw⟩ => ?_
    subst hw
    exact ⟨none, 0, none, he, OI.nil _, fun g h => (by cases h), Upd.refl _ _⟩
  · have fin : ∀ v' w', w'.ownsRow w.heap.size 3 1 v' l.length (I l) → Below w.heap.size w w' → NewI l w (.returned v') w' := by
      intro v' w' ho hb
      obtain ⟨G', hO, _, hG⟩ := Own.ofRow ho
      obtain ⟨A', c', rfl, _, _⟩ := OI.slice hO
      exact ⟨A', c', G', rfl, hO, hG, Upd.ofBelow hb _⟩
    rcases Nat.eq_zero_or_pos l.length with h0 | h0
    · have : l = [] := List.eq_nil_of_length_eq_zero h0
      subst this
      refine (Tryz.slices_Clone_int_zero _ _ w).mono fun e w' ⟨v', he, ho, _, hb⟩ => ?_
      rw [he]
      exact fin v' w' ho hb
    · refine (Tryz.slices_Clone_int g o l.length c l w (Nat.le_refl _) (by omega) (fun j hj => (hc j hj).1)).mono fun e w' ⟨v', he, ho, _, hb⟩ => ?_
      rw [he]
      rw [List.take_length] at ho
      exact fin v' w' ho hb
theorem contains_calls (h : OI w (.slice A l.length c) l G) (hl : l.length ≤ 1000000) (x : Int) : Calls Tryz.prog 162 #[.slice A l.length c, .int .i64 x] w fun e w' => e = .returned (.bool (l.contains x)) ∧ w = w' := by
  rcases h.cells with ⟨rfl, rfl⟩ | ⟨g, o, rfl, rfl, hc⟩
  · exact (Tryz.slices_Contains_int_empty _ _ x w).mono fun e w' ⟨he, hw⟩ => ⟨he, hw.symm⟩
  · refine (Tryz.slices_Contains_int g o l.length c l x w (Nat.le_refl _) (by omega) (fun j hj => (hc j hj).1)).mono fun e w' ⟨he, hw⟩ => ⟨?_, hw.symm⟩
    rw [List.take_length] at he
    exact he
theorem OI.put {g o : Nat} (h : OI w (.slice (some ⟨g, o, none⟩) l.length c) l (some g)) (q : Nat) (d : Array Int) (hd : d.size = l.length) :
    OI (putRow (Value.int .i64) (Sort.ahead w q) g o d) (.slice (some ⟨g, o, none⟩) d.toList.length c) d.toList (some g) ∧ Upd (fun i => i = g) w (putRow (Value.int .i64) (Sort.ahead w q) g o d) := by
  rcases h.form with ⟨hv, _⟩ | ⟨g', o', c', cur, hv, hG, hb, hc, hm, hs, hcell⟩
  · cases hv
  · injection hv with e1 e2 e3
    injection e1 with e1
    injection e1 with e4 e5
    subst e4; subst e5; subst e3
    have hdl : d.toList.length = l.length := by simp [hd]
    have hb' : (putRow (Value.int .i64) (Sort.ahead w q) g o d).heap[g]? = some (.cells (putCells (Value.int .i64) o d cur) 3 (0, 0)) := by
      unfold putRow mapBlock
      simp [Array.getElem?_modify, hb, onCells]
    refine ⟨⟨by rw [I_length, Nat.mul_one], .inr ⟨g, o, c, _, rfl, rfl, hb', by rw [hdl]; exact hc, hm, by simpa [putCells] using hs, fun j u hj => ?_⟩⟩, ⟨rfl, rfl, rfl, by simp, fun i hi hn => ?_⟩⟩
    · have hjl : j < d.toList.length := by
        rcases Nat.lt_or_ge j d.toList.length with h | h
        · exact h
        · rw [List.getElem?_eq_none (by rw [I_length]; exact h)] at hj; cases hj
      rw [I_get _ j hjl] at hj
      obtain rfl := Option.some.inj hj
      have hoc : o + j < cur.size := by rw [Nat.mul_one] at hs; omega
      simp only [putCells, Array.getElem?_mapIdx, Array.getElem?_eq_getElem hoc, Option.map_some]
      have hjd : j < d.size := by simpa using hjl
      rw [if_pos ⟨by omega, by omega⟩, show o + j - o = j by omega, getElem!_pos d j hjd]
      simp
    · unfold putRow mapBlock
      simp only [Sort.heap_ahead, Array.getElem?_modify]
      rw [if_neg (fun e => hn e.symm)]
theorem OI.holds {g o : Nat} (h : OI w (.slice (some ⟨g, o, none⟩) l.length c) l (some g)) : Holds (Value.int .i64) w g o l.toArray := by
  rcases h.cells with ⟨h1, _⟩ | ⟨g', o', h1, h2, hc⟩
  · cases h1
  · injection h1 with h1
    injection h1 with h3 h4
    subst h3; subst h4
    intro j hj
    have hj' : j < l.length := by simpa using hj
    obtain ⟨h5, h6⟩ := hc j hj'
    refine ⟨?_, h6⟩
    rw [h5, getElem!_pos l.toArray j hj]
    simp [List.getD_eq_getElem?_getD, List.getElem?_eq_getElem hj']
def SortPost (l : List Int) (A : Option Addr) (c : Nat) (G : Option Nat) (w : World) (e : Ending) (w' : World) : Prop :=
  e = .returned (.tuple #[]) ∧ OI w' (.slice A (l.mergeSort fun x y => decide (x ≤ y)).length c) (l.mergeSort fun x y => decide (x ≤ y)) G ∧ Upd (fun i => some i = G) w w'
theorem grow_upd {S : Nat → Prop} {w w1 : World} (h : Upd S w w1) (os : Array Obj) : Upd S w (grow w1 os) := by
  refine h.trans (T := fun _ => False) ⟨rfl, rfl, rfl, ?_, fun i hi _ => ?_⟩ (fun _ _ h => h.elim)
  · simp [grow]
  · simp only [grow]
    rw [Array.getElem?_append_left hi]
theorem sort_calls (h : OI w (.slice A l.length c) l G) (hl : l.length ≤ 1000000) : Calls Tryz.prog 88 #[.slice A l.length c] w (SortPost l A c G w) := by
  rcases h.cells with ⟨rfl, rfl⟩ | ⟨g, o, rfl, rfl, hc⟩
  · refine (Tryz.slices_Sort_int_none _ _ w).mono fun e w' ⟨he, hw⟩ => ?_
    subst hw
    exact ⟨he, by simpa using h, Upd.refl _ _⟩
  · have hb : g < w.heap.size := h.lt g rfl
    refine (Tryz.slices_Sort_int g o c l w h.holds hb (by omega)).mono fun e w' ⟨he, n, os, hw⟩ => ?_
    subst hw
    obtain ⟨h1, h2⟩ := h.put n (l.mergeSort fun x y => decide (x ≤ y)).toArray (by simp)
    refine ⟨he, ?_, (grow_upd h2 os).mono (fun i hi e => by rw [e])⟩
    have := h1.up (grow_upd (Upd.refl (fun _ => False) _) os)
    simpa using this
theorem Rd1 (w : World) (x : Int) : Row (w.alloc (.cells #[.int .i64 x] 3)) (some ⟨w.heap.size, 0, none⟩) (I [x]) := fun j u hj => by
  refine ⟨_, rfl, ?_⟩
  rw [add_lit]
  cases j with
  | zero =>
    obtain rfl := Option.some.inj hj
    have hb : (w.alloc (.cells #[.int .i64 x] 3)).heap[w.heap.size]? = some (.cells #[.int .i64 x] 3) := heap_alloc_new w _
    simp only [World.cell?, hb]
    rfl
  | succ j => simp [I] at hj
theorem wp_appendI {P : Program} {ops : Array Oper} {rest : List Oper} {o : Oper} {a : Act} {Q : Exit → Act → World → Prop} {W w0 : World} {S : Nat → Prop} {m c2 : Nat} {l2 : List Int} (HU : Upd S w0 W) (hgd : o.guard = none) (s x : Operand) (t e : TypeId)
    (ho : o.op = .call { callee := .builtin .append, args := #[s, x], argTypes := #[t, t] })
    (ht : P.underlying t = some (.slice e)) (he : e = 3) (hinfo : (P.info? e).map (fun i => (i.zero, i.size, i.bytes)) = some (some (.int .i64 0), 1, 8))
    (hs : a.eval s = .slice A l.length c) {A2 : Option Addr} (hx : a.eval x = .slice A2 m c2) (HO : OI W (.slice A l.length c) l G) (hG : ∀ g, G = some g → w0.heap.size ≤ g) (HR : Row W A2 (I l2)) (hm : l2.length = m) (hlim : l.length + m ≤ 10000000)
    (h : ∀ A1 c1 w1 G1, OI w1 (.slice A1 (l ++ l2).length c1) (l ++ l2) G1 → (l ++ l2).length ≤ c1 → (∀ g, G1 = some g → w0.heap.size ≤ g) → Upd S w0 w1 → Upd (fun k => some k = G) W w1 → wpList P ops Q rest (a.put o.dst (.slice A1 (l ++ l2).length c1)) w1) :
    Stop (wpList P ops Q (o :: rest) a W) := by
  subst he
  subst hm
  refine wp_append hgd s x t 3 (.int .i64 0) 1 8 ho ht hinfo rfl (by omega) _ l.length (I l) G A2 l2.length c2 (I l2) hs hx HO HR (by rw [I_length, Nat.mul_one]) (I_one l2) (by simp only [maxLen]; omega) (by omega) ?_
  intro v1 w1 G1 hO hU hg
  rw [← I_append] at hO
  have e : l.length + l2.length = (l ++ l2).length := by simp
  rw [e] at hO
  obtain ⟨A1, c1, rfl, h1, _⟩ := OI.slice hO
  refine h A1 c1 w1 G1 hO h1 ?_ (HU.trans hU fun i hi e => ?_) hU
  · intro g e
    rcases hg with rfl | ⟨g', rfl, h3, _⟩
    · exact hG g e
    · obtain rfl := Option.some.inj e
      exact Nat.le_trans HU.size h3
  · have := hG i e.symm
    omega
end
end Go.Proofs.YteepkanbiefpjaaGreatDoor.K
