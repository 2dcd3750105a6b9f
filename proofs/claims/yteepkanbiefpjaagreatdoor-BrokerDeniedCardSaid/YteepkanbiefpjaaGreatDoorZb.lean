/- What these laws lean on, part Zb: contracts of the given program's functions and plain lists. No condition. -/
import Derived.Ground.GgzProg
import Derived.Shelf.SlIterI.Nil
import Derived.Shelf.Small.Bits
import Derived.Shelf.Small.Wraps
import Derived.Shelf.Strconv.Itoa0
import Derived.Shelf.Strconv.Itoa1
import Derived.Shelf.LaysM
import Derived.Shelf.Strconv.Itoa2
import Derived.Shelf.Strconv.Itoa3
import Derived.Shelf.Strconv.Itoa4
import Derived.Shelf.Strconv.ParseIntEmpty
import Derived.Shelf.Strconv.Clone
import Derived.Shelf.Strconv.SyntaxError
import Derived.Shelf.LaysC
import Derived.Shelf.Strconv.ToError
import Derived.Shelf.Strconv.Lower
import Derived.Shelf.Strconv.ParseUint10
import Derived.Shelf.Strconv.ParseUint10Empty
import Derived.Shelf.Strconv.ParseUint10Any
import Derived.Shelf.Strconv.ParseInt10
import Derived.Shelf.Strconv.RangeError
import Derived.Shelf.Strconv.ToErrorRange
import Derived.Shelf.Strconv.ParseUintEmpty
import Derived.Shelf.Strconv.ParseUint10b64
import Derived.Shelf.Strconv.ParseUint10b32
import Derived.Shelf.Strconv.ParseUint10b16
import Derived.Shelf.Strconv.ParseUint10b8
import Derived.Shelf.Strconv.ParseUint10At
import Derived.Shelf.Strconv.ParseInt10At64
import Derived.Shelf.Strconv.ParseInt10At32
import Derived.Shelf.Strconv.ParseInt10At16
import Derived.Shelf.Strconv.ParseInt10At8
import Derived.Shelf.Strconv.ParseInt10All
import Derived.Shelf.Strconv.ParseIntPublic10
import Derived.Shelf.Strconv.ErrVarParseInt
import Derived.Shelf.Strings.Search1
import Derived.Shelf.Strings.Search2
import Derived.Shelf.Strings.Cut
import Derived.Shelf.Strings.Shaped
import Derived.Shelf.Sort.Plain
import Derived.Shelf.Slices.Turned
import Derived.Ground.Names2Prog
import Derived.Shelf.Slices.Clone
import Derived.Shelf.Slices.SearchI
import Derived.Shelf.Slices.In.SortNone
import Derived.Ground.SlgfProg
import Derived.Shelf.SlicesE.IndexFunc
import Derived.Shelf.SlicesE.DeleteFunc
import Derived.Test.YteepkanbiefpjaaGreatDoorProg
import Derived.Test.YteepkanbiefpjaaGreatDoorZa
namespace Go.Proofs
open Go.Shelf
open Go.RowKit in
open Go.Lib in
open Go.Lib in
open Go.Lib in
open Go.Lib in
open Go.RowKit Go.Sort Go.Lib in
def Tryz.laysM246_ren : Go.Shelf.Ren := ⟨fun | 246 => 87 | 283 => 110 | 284 => 111 | 285 => 112 | 286 => 113 | 129 => 140 | 317 => 139 | 318 => 141 | 319 => 142 | 320 => 143 | 337 => 167 | 338 => 168 | n => n, fun | 2 => 2 | 3 => 3 | 9 => 9 | 4 => 4 | 171 => 184 | 0 => 0 | 53 => 185 | 37 => 31 | 5 => 5 | 173 => 188 | 212 => 212 | 51 => 213 | 20 => 20 | 213 => 214 | 46 => 42 | 232 => 245 | 233 => 246 | n => n, fun | 17 => 0 | 18 => 1 | 19 => 2 | n => n⟩
open Go.RowKit Go.Sort Go.Lib in
open Go.RowKit Go.Sort Go.Lib in
def Tryz.laysM243_ren : Go.Shelf.Ren := ⟨fun | 243 => 73 | 246 => 87 | 283 => 110 | 284 => 111 | 285 => 112 | 286 => 113 | 129 => 140 | 317 => 139 | 318 => 141 | 319 => 142 | 320 => 143 | 337 => 167 | 338 => 168 | n => n, fun | 3 => 3 | 9 => 9 | 2 => 2 | 4 => 4 | 171 => 184 | 0 => 0 | 53 => 185 | 37 => 31 | 5 => 5 | 173 => 188 | 212 => 212 | 51 => 213 | 20 => 20 | 213 => 214 | 46 => 42 | 232 => 245 | 233 => 246 | n => n, fun | 17 => 0 | 18 => 1 | 19 => 2 | n => n⟩
open Go.RowKit Go.Sort Go.Lib in
open Go.RowKit Go.Sort Go.Lib in
def Tryz.laysM171_ren : Go.Shelf.Ren := ⟨fun | 171 => 35 | 243 => 73 | 246 => 87 | 283 => 110 | 284 => 111 | 285 => 112 | 286 => 113 | 129 => 140 | 317 => 139 | 318 => 141 | 319 => 142 | 320 => 143 | 337 => 167 | 338 => 168 | n => n, fun | 3 => 3 | 9 => 9 | 2 => 2 | 4 => 4 | 171 => 184 | 0 => 0 | 53 => 185 | 37 => 31 | 5 => 5 | 173 => 188 | 212 => 212 | 51 => 213 | 20 => 20 | 213 => 214 | 46 => 42 | 232 => 245 | 233 => 246 | n => n, fun | 17 => 0 | 18 => 1 | 19 => 2 | n => n⟩
open Go.RowKit Go.Sort Go.Lib in
def Tryz.lays171_ren : Go.Shelf.Ren := ⟨fun | 171 => 35 | 243 => 73 | 246 => 87 | 283 => 110 | 284 => 111 | 285 => 112 | 286 => 113 | 129 => 140 | 317 => 139 | 318 => 141 | 319 => 142 | 320 => 143 | 337 => 167 | 338 => 168 | n => n, fun | 3 => 3 | 9 => 9 | 2 => 2 | 4 => 4 | 171 => 184 | 0 => 0 | 53 => 185 | 37 => 31 | 5 => 5 | 173 => 188 | 212 => 212 | 51 => 213 | 20 => 20 | 213 => 214 | 46 => 42 | 232 => 245 | 233 => 246 | n => n, fun | 17 => 0 | 18 => 1 | 19 => 2 | n => n⟩
theorem Tryz.lays171 : Go.Proofs.Lays.n171 Tryz.prog Tryz.lays171_ren := {
  mixed := by kernel_rfl
  f129 := Tryz.func140.trans (congrArg some (by kernel_rfl))
  f171 := Tryz.func35.trans (congrArg some (by kernel_rfl))
  f243 := Tryz.func73.trans (congrArg some (by kernel_rfl))
  f246 := Tryz.func87.trans (congrArg some (by kernel_rfl))
  f283 := Tryz.func110.trans (congrArg some (by kernel_rfl))
  f284 := Tryz.func111.trans (congrArg some (by kernel_rfl))
  f285 := Tryz.func112.trans (congrArg some (by kernel_rfl))
  f286 := Tryz.func113.trans (congrArg some (by kernel_rfl))
  f317 := Tryz.func139.trans (congrArg some (by kernel_rfl))
  f318 := Tryz.func141.trans (congrArg some (by kernel_rfl))
  f319 := Tryz.func142.trans (congrArg some (by kernel_rfl))
  f320 := Tryz.func143.trans (congrArg some (by kernel_rfl))
  f337 := Tryz.func167.trans (congrArg some (by kernel_rfl))
  f338 := Tryz.func168.trans (congrArg some (by kernel_rfl))
  t0 := Tryz.underlying0
  a0 := Tryz.isAgg0
  z0 := Tryz.sizeOf0
  v0 := Tryz.zeroValue0
  t2 := Tryz.underlying2
  a2 := Tryz.isAgg2
  z2 := Tryz.sizeOf2
  v2 := Tryz.zeroValue2
  t3 := Tryz.underlying3
  a3 := Tryz.isAgg3
  z3 := Tryz.sizeOf3
  v3 := Tryz.zeroValue3
  t4 := Tryz.underlying4
  a4 := Tryz.isAgg4
  z4 := Tryz.sizeOf4
  v4 := Tryz.zeroValue4
  t5 := Tryz.underlying5
  a5 := Tryz.isAgg5
  z5 := Tryz.sizeOf5
  v5 := Tryz.zeroValue5
  t9 := Tryz.underlying9
  a9 := Tryz.isAgg9
  z9 := Tryz.sizeOf9
  v9 := Tryz.zeroValue9
  t20 := Tryz.underlying20
  a20 := Tryz.isAgg20
  z20 := Tryz.sizeOf20
  v20 := Tryz.zeroValue20
  t37 := Tryz.underlying31
  a37 := Tryz.isAgg31
  z37 := Tryz.sizeOf31
  v37 := Tryz.zeroValue31
  t46 := Tryz.underlying42
  a46 := Tryz.isAgg42
  z46 := Tryz.sizeOf42
  v46 := Tryz.zeroValue42
  t51 := Tryz.underlying213
  a51 := Tryz.isAgg213
  z51 := Tryz.sizeOf213
  v51 := Tryz.zeroValue213
  t53 := Tryz.underlying185
  a53 := Tryz.isAgg185
  z53 := Tryz.sizeOf185
  v53 := Tryz.zeroValue185
  t171 := Tryz.underlying184
  a171 := Tryz.isAgg184
  z171 := Tryz.sizeOf184
  v171 := Tryz.zeroValue184
  t173 := Tryz.underlying188
  a173 := Tryz.isAgg188
  z173 := Tryz.sizeOf188
  v173 := Tryz.zeroValue188
  t212 := Tryz.underlying212
  a212 := Tryz.isAgg212
  z212 := Tryz.sizeOf212
  v212 := Tryz.zeroValue212
  t213 := Tryz.underlying214
  a213 := Tryz.isAgg214
  z213 := Tryz.sizeOf214
  t232 := Tryz.underlying245
  a232 := Tryz.isAgg245
  z232 := Tryz.sizeOf245
  v232 := Tryz.zeroValue245
  t233 := Tryz.underlying246
  a233 := Tryz.isAgg246
  z233 := Tryz.sizeOf246
  v233 := Tryz.zeroValue246
  g17 := by kernel_rfl
  g18 := by kernel_rfl
  g19 := by kernel_rfl }
open Go.RowKit Go.Sort Go.Lib in
theorem Tryz.strconv_Itoa_small (i : Nat) (hi : i < 100) (w : World) :
    Calls Tryz.prog 35 #[.int .i64 i] w fun e w' => e = .returned (.string ⟨(Lib.decDigits i).toArray⟩) ∧ w' = w := Any.strconv_Itoa_small Tryz.lays171 i hi w
def Tryz.laysM173_ren : Go.Shelf.Ren := ⟨fun | 173 => 61 | 246 => 87 | 283 => 110 | 284 => 111 | 285 => 112 | 286 => 113 | 129 => 140 | 317 => 139 | 318 => 141 | 319 => 142 | 320 => 143 | 337 => 167 | 338 => 168 | n => n, fun | 2 => 2 | 3 => 3 | 9 => 9 | 4 => 4 | 171 => 184 | 0 => 0 | 53 => 185 | 37 => 31 | 5 => 5 | 173 => 188 | 212 => 212 | 51 => 213 | 20 => 20 | 213 => 214 | 46 => 42 | 232 => 245 | 233 => 246 | n => n, fun | 17 => 0 | 18 => 1 | 19 => 2 | n => n⟩
theorem Tryz.laysM173 : Go.Proofs.LaysM.n173 Tryz.prog Tryz.laysM173_ren := {
  mixed := by kernel_rfl
  f129 := Tryz.func140.trans (congrArg some (by kernel_rfl))
  f173 := Tryz.func61.trans (congrArg some (by kernel_rfl))
  f246 := Tryz.func87.trans (congrArg some (by kernel_rfl))
  f283 := Tryz.func110.trans (congrArg some (by kernel_rfl))
  f284 := Tryz.func111.trans (congrArg some (by kernel_rfl))
  f285 := Tryz.func112.trans (congrArg some (by kernel_rfl))
  f286 := Tryz.func113.trans (congrArg some (by kernel_rfl))
  f317 := Tryz.func139.trans (congrArg some (by kernel_rfl))
  f318 := Tryz.func141.trans (congrArg some (by kernel_rfl))
  f319 := Tryz.func142.trans (congrArg some (by kernel_rfl))
  f320 := Tryz.func143.trans (congrArg some (by kernel_rfl))
  f337 := Tryz.func167.trans (congrArg some (by kernel_rfl))
  f338 := Tryz.func168.trans (congrArg some (by kernel_rfl))
  t0 := Tryz.underlying0
  a0 := Tryz.isAgg0
  z0 := Tryz.sizeOf0
  v0 := Tryz.zeroValue0
  t2 := Tryz.underlying2
  a2 := Tryz.isAgg2
  z2 := Tryz.sizeOf2
  v2 := Tryz.zeroValue2
  t3 := Tryz.underlying3
  a3 := Tryz.isAgg3
  z3 := Tryz.sizeOf3
  v3 := Tryz.zeroValue3
  t4 := Tryz.underlying4
  a4 := Tryz.isAgg4
  z4 := Tryz.sizeOf4
  v4 := Tryz.zeroValue4
  t5 := Tryz.underlying5
  a5 := Tryz.isAgg5
  z5 := Tryz.sizeOf5
  v5 := Tryz.zeroValue5
  t9 := Tryz.underlying9
  a9 := Tryz.isAgg9
  z9 := Tryz.sizeOf9
  v9 := Tryz.zeroValue9
  t20 := Tryz.underlying20
  a20 := Tryz.isAgg20
  z20 := Tryz.sizeOf20
  v20 := Tryz.zeroValue20
  t37 := Tryz.underlying31
  a37 := Tryz.isAgg31
  z37 := Tryz.sizeOf31
  v37 := Tryz.zeroValue31
  t46 := Tryz.underlying42
  a46 := Tryz.isAgg42
  z46 := Tryz.sizeOf42
  v46 := Tryz.zeroValue42
  t51 := Tryz.underlying213
  a51 := Tryz.isAgg213
  z51 := Tryz.sizeOf213
  v51 := Tryz.zeroValue213
  t53 := Tryz.underlying185
  a53 := Tryz.isAgg185
  z53 := Tryz.sizeOf185
  v53 := Tryz.zeroValue185
  t171 := Tryz.underlying184
  a171 := Tryz.isAgg184
  z171 := Tryz.sizeOf184
  v171 := Tryz.zeroValue184
  t173 := Tryz.underlying188
  a173 := Tryz.isAgg188
  z173 := Tryz.sizeOf188
  v173 := Tryz.zeroValue188
  t212 := Tryz.underlying212
  a212 := Tryz.isAgg212
  z212 := Tryz.sizeOf212
  v212 := Tryz.zeroValue212
  t213 := Tryz.underlying214
  a213 := Tryz.isAgg214
  z213 := Tryz.sizeOf214
  t232 := Tryz.underlying245
  a232 := Tryz.isAgg245
  z232 := Tryz.sizeOf245
  v232 := Tryz.zeroValue245
  t233 := Tryz.underlying246
  a233 := Tryz.isAgg246
  z233 := Tryz.sizeOf246
  v233 := Tryz.zeroValue246
  g17 := by kernel_rfl
  g18 := by kernel_rfl
  g19 := by kernel_rfl
  i0 := by kernel_rfl
  i2 := by kernel_rfl
  i3 := by kernel_rfl
  i4 := by kernel_rfl
  i5 := by kernel_rfl
  i9 := by kernel_rfl
  i20 := by kernel_rfl
  i37 := by kernel_rfl
  i46 := by kernel_rfl
  i51 := by kernel_rfl
  i53 := by kernel_rfl
  i171 := by kernel_rfl
  i173 := by kernel_rfl
  i212 := by kernel_rfl
  i232 := by kernel_rfl
  i233 := by kernel_rfl
  m17 := by kernel_rfl
  m18 := by kernel_rfl
  m19 := by kernel_rfl }
open Go.RowKit Go.Sort Go.Lib in
theorem Tryz.strconv_FormatInt_10 (n : Int) (h0 : -9223372036854775808 ≤ n) (h1 : n ≤ 9223372036854775807) (w : World) (htab : Lib.TabIs Tryz.prog w "internal/strconv.uint64pow10" .u64 Lib.pow10Tab) :
    Calls Tryz.prog 61 #[.int .i64 n, .int .i64 10] w fun e w' => e = .returned (.string ⟨(Lib.itoa n).toArray⟩) ∧ ∃ k os, w' = grow (w.drewN k) os := Any.strconv_FormatInt_10 Tryz.laysM173 n h0 h1 w htab
open Go.RowKit Go.Sort Go.Lib in
open Go.RowKit in
open Go.RowKit in
open Go.RowKit in
def Tryz.laysC245_ren : Go.Shelf.Ren := ⟨fun | 245 => 160 | 279 => 179 | 280 => 180 | 281 => 181 | 282 => 182 | 316 => 192 | 171 => 35 | 205 => 193 | 243 => 73 | 246 => 87 | 283 => 110 | 284 => 111 | 285 => 112 | 286 => 113 | 129 => 140 | 317 => 139 | 318 => 141 | 319 => 142 | 320 => 143 | 337 => 167 | 338 => 168 | n => n, fun | 9 => 9 | 3 => 3 | 75 => 203 | 167 => 238 | 4 => 4 | 168 => 241 | 210 => 255 | 37 => 31 | 0 => 0 | 127 => 259 | 145 => 262 | 143 => 260 | 2 => 2 | 171 => 184 | 53 => 185 | 5 => 5 | 173 => 188 | 212 => 212 | 51 => 213 | 20 => 20 | 213 => 214 | 46 => 42 | 232 => 245 | 233 => 246 | 80 => 45 | n => n, fun | 15 => 4 | 16 => 5 | 17 => 0 | 18 => 1 | 19 => 2 | n => n⟩
open Go.RowKit in
open Go.RowKit in
open Go.RowKit in
open Go.RowKit in
open Go.RowKit in
open Go.RowKit in
open Go.RowKit in
open Go.RowKit in
open Go.RowKit in
open Go.RowKit in
open Go.RowKit in
open Go.RowKit in
open Go.RowKit in
open Go.RowKit in
open Go.RowKit in
open Go.RowKit in
open Go.RowKit in
open Go.RowKit in
open Go.RowKit in
open Go.RowKit in
open Go.RowKit in
open Go.RowKit in
open Go.RowKit in
open Go.RowKit in
open Go.RowKit in
open Go.RowKit in
open Go.RowKit in
def Tryz.laysC174_ren : Go.Shelf.Ren := ⟨fun | 174 => 128 | 247 => 159 | 245 => 160 | 287 => 178 | 279 => 179 | 280 => 180 | 281 => 181 | 282 => 182 | 321 => 190 | 322 => 191 | 316 => 192 | 171 => 35 | 205 => 193 | 243 => 73 | 246 => 87 | 283 => 110 | 284 => 111 | 285 => 112 | 286 => 113 | 129 => 140 | 317 => 139 | 318 => 141 | 319 => 142 | 320 => 143 | 337 => 167 | 338 => 168 | n => n, fun | 9 => 9 | 3 => 3 | 2 => 2 | 75 => 203 | 85 => 204 | 4 => 4 | 167 => 238 | 5 => 5 | 53 => 185 | 175 => 239 | 46 => 42 | 168 => 241 | 37 => 31 | 0 => 0 | 210 => 255 | 21 => 21 | 127 => 259 | 145 => 262 | 143 => 260 | 171 => 184 | 173 => 188 | 212 => 212 | 51 => 213 | 20 => 20 | 213 => 214 | 232 => 245 | 233 => 246 | 80 => 45 | n => n, fun | 15 => 4 | 16 => 5 | 17 => 0 | 18 => 1 | 19 => 2 | n => n⟩
theorem Tryz.laysC174 : Go.Proofs.LaysC.n174 Tryz.prog Tryz.laysC174_ren := {
  mixed := by kernel_rfl
  f129 := Tryz.func140.trans (congrArg some (by kernel_rfl))
  f171 := Tryz.func35.trans (congrArg some (by kernel_rfl))
  f174 := Tryz.func128.trans (congrArg some (by kernel_rfl))
  f205 := Tryz.func193.trans (congrArg some (by kernel_rfl))
  f243 := Tryz.func73.trans (congrArg some (by kernel_rfl))
  f245 := Tryz.func160.trans (congrArg some (by kernel_rfl))
  f246 := Tryz.func87.trans (congrArg some (by kernel_rfl))
  f247 := Tryz.func159.trans (congrArg some (by kernel_rfl))
  f279 := Tryz.func179.trans (congrArg some (by kernel_rfl))
  f280 := Tryz.func180.trans (congrArg some (by kernel_rfl))
  f281 := Tryz.func181.trans (congrArg some (by kernel_rfl))
  f282 := Tryz.func182.trans (congrArg some (by kernel_rfl))
  f283 := Tryz.func110.trans (congrArg some (by kernel_rfl))
  f284 := Tryz.func111.trans (congrArg some (by kernel_rfl))
  f285 := Tryz.func112.trans (congrArg some (by kernel_rfl))
  f286 := Tryz.func113.trans (congrArg some (by kernel_rfl))
  f287 := Tryz.func178.trans (congrArg some (by kernel_rfl))
  f316 := Tryz.func192.trans (congrArg some (by kernel_rfl))
  f317 := Tryz.func139.trans (congrArg some (by kernel_rfl))
  f318 := Tryz.func141.trans (congrArg some (by kernel_rfl))
  f319 := Tryz.func142.trans (congrArg some (by kernel_rfl))
  f320 := Tryz.func143.trans (congrArg some (by kernel_rfl))
  f321 := Tryz.func190.trans (congrArg some (by kernel_rfl))
  f322 := Tryz.func191.trans (congrArg some (by kernel_rfl))
  f337 := Tryz.func167.trans (congrArg some (by kernel_rfl))
  f338 := Tryz.func168.trans (congrArg some (by kernel_rfl))
  t0 := Tryz.underlying0
  a0 := Tryz.isAgg0
  z0 := Tryz.sizeOf0
  v0 := Tryz.zeroValue0
  t2 := Tryz.underlying2
  a2 := Tryz.isAgg2
  z2 := Tryz.sizeOf2
  v2 := Tryz.zeroValue2
  t3 := Tryz.underlying3
  a3 := Tryz.isAgg3
  z3 := Tryz.sizeOf3
  v3 := Tryz.zeroValue3
  t4 := Tryz.underlying4
  a4 := Tryz.isAgg4
  z4 := Tryz.sizeOf4
  v4 := Tryz.zeroValue4
  t5 := Tryz.underlying5
  a5 := Tryz.isAgg5
  z5 := Tryz.sizeOf5
  v5 := Tryz.zeroValue5
  t9 := Tryz.underlying9
  a9 := Tryz.isAgg9
  z9 := Tryz.sizeOf9
  v9 := Tryz.zeroValue9
  t20 := Tryz.underlying20
  a20 := Tryz.isAgg20
  z20 := Tryz.sizeOf20
  v20 := Tryz.zeroValue20
  t21 := Tryz.underlying21
  a21 := Tryz.isAgg21
  z21 := Tryz.sizeOf21
  v21 := Tryz.zeroValue21
  t37 := Tryz.underlying31
  a37 := Tryz.isAgg31
  z37 := Tryz.sizeOf31
  v37 := Tryz.zeroValue31
  t46 := Tryz.underlying42
  a46 := Tryz.isAgg42
  z46 := Tryz.sizeOf42
  v46 := Tryz.zeroValue42
  t51 := Tryz.underlying213
  a51 := Tryz.isAgg213
  z51 := Tryz.sizeOf213
  v51 := Tryz.zeroValue213
  t53 := Tryz.underlying185
  a53 := Tryz.isAgg185
  z53 := Tryz.sizeOf185
  v53 := Tryz.zeroValue185
  t75 := Tryz.underlying203
  a75 := Tryz.isAgg203
  z75 := Tryz.sizeOf203
  v75 := Tryz.zeroValue203
  t85 := Tryz.underlying204
  a85 := Tryz.isAgg204
  z85 := Tryz.sizeOf204
  v85 := Tryz.zeroValue204
  t127 := Tryz.underlying259
  a127 := Tryz.isAgg259
  z127 := Tryz.sizeOf259
  v127 := Tryz.zeroValue259
  t143 := Tryz.underlying260
  a143 := Tryz.isAgg260
  z143 := Tryz.sizeOf260
  v143 := Tryz.zeroValue260
  t145 := Tryz.underlying262
  a145 := Tryz.isAgg262
  z145 := Tryz.sizeOf262
  v145 := Tryz.zeroValue262
  t167 := Tryz.underlying238
  a167 := Tryz.isAgg238
  z167 := Tryz.sizeOf238
  v167 := Tryz.zeroValue238
  t168 := Tryz.underlying241
  a168 := Tryz.isAgg241
  z168 := Tryz.sizeOf241
  v168 := Tryz.zeroValue241
  t171 := Tryz.underlying184
  a171 := Tryz.isAgg184
  z171 := Tryz.sizeOf184
  v171 := Tryz.zeroValue184
  t173 := Tryz.underlying188
  a173 := Tryz.isAgg188
  z173 := Tryz.sizeOf188
  v173 := Tryz.zeroValue188
  t175 := Tryz.underlying239
  a175 := Tryz.isAgg239
  z175 := Tryz.sizeOf239
  v175 := Tryz.zeroValue239
  t210 := Tryz.underlying255
  a210 := Tryz.isAgg255
  z210 := Tryz.sizeOf255
  v210 := Tryz.zeroValue255
  t212 := Tryz.underlying212
  a212 := Tryz.isAgg212
  z212 := Tryz.sizeOf212
  v212 := Tryz.zeroValue212
  t213 := Tryz.underlying214
  a213 := Tryz.isAgg214
  z213 := Tryz.sizeOf214
  t232 := Tryz.underlying245
  a232 := Tryz.isAgg245
  z232 := Tryz.sizeOf245
  v232 := Tryz.zeroValue245
  t233 := Tryz.underlying246
  a233 := Tryz.isAgg246
  z233 := Tryz.sizeOf246
  v233 := Tryz.zeroValue246
  g15 := by kernel_rfl
  g16 := by kernel_rfl
  g17 := by kernel_rfl
  g18 := by kernel_rfl
  g19 := by kernel_rfl
  t80 := Tryz.underlying45
  a80 := Tryz.isAgg45
  z80 := Tryz.sizeOf45
  v80 := Tryz.zeroValue45
  i0 := by kernel_rfl
  i2 := by kernel_rfl
  i3 := by kernel_rfl
  i4 := by kernel_rfl
  i5 := by kernel_rfl
  i9 := by kernel_rfl
  i20 := by kernel_rfl
  i21 := by kernel_rfl
  i37 := by kernel_rfl
  i46 := by kernel_rfl
  i51 := by kernel_rfl
  i53 := by kernel_rfl
  i75 := by kernel_rfl
  i80 := by kernel_rfl
  i85 := by kernel_rfl
  i127 := by kernel_rfl
  i143 := by kernel_rfl
  i145 := by kernel_rfl
  i167 := by kernel_rfl
  i168 := by kernel_rfl
  i171 := by kernel_rfl
  i173 := by kernel_rfl
  i175 := by kernel_rfl
  i210 := by kernel_rfl
  i212 := by kernel_rfl
  i232 := by kernel_rfl
  i233 := by kernel_rfl
  m15 := by kernel_rfl
  m16 := by kernel_rfl
  m17 := by kernel_rfl
  m18 := by kernel_rfl
  m19 := by kernel_rfl
  c0 := by kernel_rfl
  c2 := by kernel_rfl
  c3 := by kernel_rfl
  c4 := by kernel_rfl
  c5 := by kernel_rfl
  c9 := by kernel_rfl
  c20 := by kernel_rfl
  c21 := by kernel_rfl
  c37 := by kernel_rfl
  c46 := by kernel_rfl
  c51 := by kernel_rfl
  c53 := by kernel_rfl
  c75 := by kernel_rfl
  c80 := by kernel_rfl
  c85 := by kernel_rfl
  c127 := by kernel_rfl
  c143 := by kernel_rfl
  c145 := by kernel_rfl
  c167 := by kernel_rfl
  c168 := by kernel_rfl
  c171 := by kernel_rfl
  c173 := by kernel_rfl
  c175 := by kernel_rfl
  c210 := by kernel_rfl
  c212 := by kernel_rfl
  c213 := by kernel_rfl
  c232 := by kernel_rfl
  c233 := by kernel_rfl }
open Go.RowKit in
open Go.RowKit in
open Go.RowKit in
open Go.RowKit in
theorem Tryz.strconv_ParseInt_10_at64_ok (s : ByteArray) (hmax : s.size ≤ 9223372036854775806) (v : Int) (h : Lib.parseIntB 64 s.data.toList = .ok v) (w : World) :
    Calls Tryz.prog 128 #[.string s, .int .i64 10, .int .i64 64] w fun e w' => e = .returned (.tuple #[.int .i64 v, .nilIface]) ∧ (w' = w ∨ ∃ t, w' = Lib.bytesWorld w 5 t) := Any.strconv_ParseInt_10_at64_ok Tryz.laysC174 s hmax v h w
open Go.RowKit in
open Go.RowKit in
open Go.RowKit in
open Go.RowKit in
open Go.RowKit in
open Go.RowKit in
open Go.RowKit in
open Go.RowKit in
open Go.RowKit in
open Go.RowKit in
open Go.RowKit in
open Go.RowKit in
open Go.RowKit in
open Go.RowKit in
theorem Tryz.strconv_ParseInt_10_at64_syntax_var (s : ByteArray) (hlim : s.size ≤ 281474976710656) (h : Lib.parseIntB 64 s.data.toList = Lib.parseIntB 64 []) (tp : TypeId) (p : Value) (w : World) (hvar : w.var? Tryz.prog "strconv.ErrSyntax" = some #[.iface tp p]) :
    Calls Tryz.prog 128 #[.string s, .int .i64 10, .int .i64 64] w fun e w' => ∃ N, e = .returned (.tuple #[.int .i64 (0), .iface 241 (.pointer (some ⟨N, 0, none⟩))]) ∧ w.heap.size ≤ N ∧ w'.heap[N]? = some (.cells #[.string ⟨#[80, 97, 114, 115, 101, 73, 110, 116]⟩, .string s, .iface tp p] 255 (0, 0)) ∧ Below w.heap.size w w' := Any.strconv_ParseInt_10_at64_syntax_var Tryz.laysC174 s hlim h tp p w hvar
open Go.RowKit in
theorem Tryz.strconv_ParseInt_10_at64_range_var (s : ByteArray) (hlim : s.size ≤ 281474976710656) (h : Lib.parseIntB 64 s.data.toList = .range) (tp : TypeId) (p : Value) (w : World) (hvar : w.var? Tryz.prog "strconv.ErrRange" = some #[.iface tp p]) :
    Calls Tryz.prog 128 #[.string s, .int .i64 10, .int .i64 64] w fun e w' => ∃ N, e = .returned (.tuple #[.int .i64 (Lib.intSat 64 s.data.toList), .iface 241 (.pointer (some ⟨N, 0, none⟩))]) ∧ w.heap.size ≤ N ∧ w'.heap[N]? = some (.cells #[.string ⟨#[80, 97, 114, 115, 101, 73, 110, 116]⟩, .string s, .iface tp p] 255 (0, 0)) ∧ Below w.heap.size w w' := Any.strconv_ParseInt_10_at64_range_var Tryz.laysC174 s hlim h tp p w hvar
open Go.RowKit in
open Go.RowKit in
open Go.RowKit in
open Go.RowKit in
open Go.RowKit in
open Go.RowKit in
open Go.RowKit Go.Lib in
open Go.RowKit Go.Lib in
open Go.RowKit Go.Lib in
open Go.RowKit Go.Lib in
def Tryz.lays219_ren : Go.Shelf.Ren := ⟨fun | 219 => 177 | 217 => 186 | 225 => 187 | 224 => 188 | 267 => 189 | 266 => 194 | 314 => 195 | n => n, fun | 9 => 9 | 3 => 3 | 4 => 4 | 5 => 5 | 46 => 42 | 146 => 257 | 51 => 213 | n => n, fun | 1 => 3 | n => n⟩
open Go.RowKit Go.Lib in
open Go.RowKit Go.Lib in
open Go.RowKit Go.Lib in
def Tryz.lays145_ren : Go.Shelf.Ren := ⟨fun | 145 => 126 | 220 => 158 | 219 => 177 | 217 => 186 | 225 => 187 | 224 => 188 | 267 => 189 | 266 => 194 | 314 => 195 | n => n, fun | 9 => 9 | 4 => 4 | 59 => 199 | 3 => 3 | 5 => 5 | 46 => 42 | 146 => 257 | 51 => 213 | n => n, fun | 1 => 3 | n => n⟩
theorem Tryz.lays145 : Go.Proofs.Lays.n145 Tryz.prog Tryz.lays145_ren := {
  mixed := by kernel_rfl
  f145 := Tryz.func126.trans (congrArg some (by kernel_rfl))
  f217 := Tryz.func186.trans (congrArg some (by kernel_rfl))
  f219 := Tryz.func177.trans (congrArg some (by kernel_rfl))
  f220 := Tryz.func158.trans (congrArg some (by kernel_rfl))
  f224 := Tryz.func188.trans (congrArg some (by kernel_rfl))
  f225 := Tryz.func187.trans (congrArg some (by kernel_rfl))
  f266 := Tryz.func194.trans (congrArg some (by kernel_rfl))
  f267 := Tryz.func189.trans (congrArg some (by kernel_rfl))
  f314 := Tryz.func195.trans (congrArg some (by kernel_rfl))
  t3 := Tryz.underlying3
  a3 := Tryz.isAgg3
  z3 := Tryz.sizeOf3
  v3 := Tryz.zeroValue3
  t4 := Tryz.underlying4
  a4 := Tryz.isAgg4
  z4 := Tryz.sizeOf4
  v4 := Tryz.zeroValue4
  t5 := Tryz.underlying5
  a5 := Tryz.isAgg5
  z5 := Tryz.sizeOf5
  v5 := Tryz.zeroValue5
  t9 := Tryz.underlying9
  a9 := Tryz.isAgg9
  z9 := Tryz.sizeOf9
  v9 := Tryz.zeroValue9
  t46 := Tryz.underlying42
  a46 := Tryz.isAgg42
  z46 := Tryz.sizeOf42
  v46 := Tryz.zeroValue42
  t51 := Tryz.underlying213
  a51 := Tryz.isAgg213
  z51 := Tryz.sizeOf213
  v51 := Tryz.zeroValue213
  t59 := Tryz.underlying199
  a59 := Tryz.isAgg199
  z59 := Tryz.sizeOf199
  v59 := Tryz.zeroValue199
  t146 := Tryz.underlying257
  a146 := Tryz.isAgg257
  z146 := Tryz.sizeOf257
  v146 := Tryz.zeroValue257
  g1 := by kernel_rfl }
open Go.RowKit Go.Lib in
theorem Tryz.strings_Cut (s sep : ByteArray) (m : Int) (w : World) (hs : s.size < 4294967281) (hm : w.cell? ⟨3, 0, none⟩ = some (.int .i64 m)) :
    Calls Tryz.prog 126 #[.string s, .string sep] w fun e w' => e = .returned (.tuple #[.string ⟨(Lib.cut s.data.toList sep.data.toList).1.toArray⟩, .string ⟨(Lib.cut s.data.toList sep.data.toList).2.1.toArray⟩, .bool (Lib.cut s.data.toList sep.data.toList).2.2]) ∧ ∃ n, w' = w.drewN n := Any.strings_Cut Tryz.lays145 s sep m w hs hm
open Go.RowKit Go.Lib in
open Go.RowKit Go.Lib in
open Go.RowKit Go.Lib in
def Tryz.lays189_ren : Go.Shelf.Ren := ⟨fun | 189 => 88 | 125 => 115 | 257 => 114 | 128 => 153 | 129 => 140 | 294 => 144 | 295 => 145 | 296 => 146 | 297 => 147 | 298 => 148 | 299 => 149 | 216 => 150 | 300 => 151 | 301 => 152 | 328 => 169 | 329 => 170 | 330 => 171 | 331 => 172 | 332 => 173 | 215 => 174 | 343 => 184 | n => n, fun | 28 => 53 | 3 => 3 | 46 => 42 | 0 => 0 | 51 => 213 | 53 => 185 | 4 => 4 | 183 => 217 | 182 => 216 | 131 => 221 | 5 => 5 | 9 => 9 | 218 => 230 | 222 => 234 | 228 => 247 | 229 => 248 | n => n, fun | n => n⟩
theorem Tryz.lays189 : Go.Proofs.Lays.n189 Tryz.prog Tryz.lays189_ren := {
  mixed := by kernel_rfl
  f125 := Tryz.func115.trans (congrArg some (by kernel_rfl))
  f128 := Tryz.func153.trans (congrArg some (by kernel_rfl))
  f129 := Tryz.func140.trans (congrArg some (by kernel_rfl))
  f189 := Tryz.func88.trans (congrArg some (by kernel_rfl))
  f215 := Tryz.func174.trans (congrArg some (by kernel_rfl))
  f216 := Tryz.func150.trans (congrArg some (by kernel_rfl))
  f257 := Tryz.func114.trans (congrArg some (by kernel_rfl))
  f294 := Tryz.func144.trans (congrArg some (by kernel_rfl))
  f295 := Tryz.func145.trans (congrArg some (by kernel_rfl))
  f296 := Tryz.func146.trans (congrArg some (by kernel_rfl))
  f297 := Tryz.func147.trans (congrArg some (by kernel_rfl))
  f298 := Tryz.func148.trans (congrArg some (by kernel_rfl))
  f299 := Tryz.func149.trans (congrArg some (by kernel_rfl))
  f300 := Tryz.func151.trans (congrArg some (by kernel_rfl))
  f301 := Tryz.func152.trans (congrArg some (by kernel_rfl))
  f328 := Tryz.func169.trans (congrArg some (by kernel_rfl))
  f329 := Tryz.func170.trans (congrArg some (by kernel_rfl))
  f330 := Tryz.func171.trans (congrArg some (by kernel_rfl))
  f331 := Tryz.func172.trans (congrArg some (by kernel_rfl))
  f332 := Tryz.func173.trans (congrArg some (by kernel_rfl))
  f343 := Tryz.func184.trans (congrArg some (by kernel_rfl))
  t0 := Tryz.underlying0
  a0 := Tryz.isAgg0
  z0 := Tryz.sizeOf0
  v0 := Tryz.zeroValue0
  t3 := Tryz.underlying3
  a3 := Tryz.isAgg3
  z3 := Tryz.sizeOf3
  v3 := Tryz.zeroValue3
  t4 := Tryz.underlying4
  a4 := Tryz.isAgg4
  z4 := Tryz.sizeOf4
  v4 := Tryz.zeroValue4
  t5 := Tryz.underlying5
  a5 := Tryz.isAgg5
  z5 := Tryz.sizeOf5
  v5 := Tryz.zeroValue5
  t9 := Tryz.underlying9
  a9 := Tryz.isAgg9
  z9 := Tryz.sizeOf9
  v9 := Tryz.zeroValue9
  t28 := Tryz.underlying53
  a28 := Tryz.isAgg53
  z28 := Tryz.sizeOf53
  v28 := Tryz.zeroValue53
  t46 := Tryz.underlying42
  a46 := Tryz.isAgg42
  z46 := Tryz.sizeOf42
  v46 := Tryz.zeroValue42
  t51 := Tryz.underlying213
  a51 := Tryz.isAgg213
  z51 := Tryz.sizeOf213
  v51 := Tryz.zeroValue213
  t53 := Tryz.underlying185
  a53 := Tryz.isAgg185
  z53 := Tryz.sizeOf185
  v53 := Tryz.zeroValue185
  t131 := Tryz.underlying221
  a131 := Tryz.isAgg221
  z131 := Tryz.sizeOf221
  v131 := Tryz.zeroValue221
  t182 := Tryz.underlying216
  a182 := Tryz.isAgg216
  z182 := Tryz.sizeOf216
  v182 := Tryz.zeroValue216
  t183 := Tryz.underlying217
  a183 := Tryz.isAgg217
  z183 := Tryz.sizeOf217
  v183 := Tryz.zeroValue217
  t218 := Tryz.underlying230
  a218 := Tryz.isAgg230
  z218 := Tryz.sizeOf230
  v218 := Tryz.zeroValue230
  t222 := Tryz.underlying234
  a222 := Tryz.isAgg234
  z222 := Tryz.sizeOf234
  v222 := Tryz.zeroValue234
  t228 := Tryz.underlying247
  a228 := Tryz.isAgg247
  z228 := Tryz.sizeOf247
  v228 := Tryz.zeroValue247
  t229 := Tryz.underlying248
  a229 := Tryz.isAgg248
  z229 := Tryz.sizeOf248
  v229 := Tryz.zeroValue248 }
open Go.Sort Go.RowKit in
theorem Tryz.slices_Sort_int (blk off cap : Nat) (zs : List Int) (w : World) (hH : Holds (Value.int .i64) w blk off zs.toArray) (hblk : blk < w.heap.size) (hsz : zs.length < 4611686018427387904) :
    Calls Tryz.prog 88 #[.slice (some ⟨blk, off, none⟩) zs.length cap] w fun e w' =>
      e = .returned (.tuple #[]) ∧ ∃ n os, w' = grow (putRow (Value.int .i64) (Sort.ahead w n) blk off (zs.mergeSort fun x y => decide (x ≤ y)).toArray) os := Any.slices_Sort_int Tryz.lays189 blk off cap zs w hH hblk hsz
open Go.Lib in
open Go.Lib in
def Tryz.lays107_ren : Go.Shelf.Ren := ⟨fun | 107 => 162 | 108 => 183 | n => n, fun | 28 => 53 | 3 => 3 | 4 => 4 | 0 => 0 | n => n, fun | n => n⟩
theorem Tryz.lays107 : Go.Proofs.Lays.n107 Tryz.prog Tryz.lays107_ren := {
  mixed := by kernel_rfl
  f107 := Tryz.func162.trans (congrArg some (by kernel_rfl))
  f108 := Tryz.func183.trans (congrArg some (by kernel_rfl))
  t0 := Tryz.underlying0
  a0 := Tryz.isAgg0
  z0 := Tryz.sizeOf0
  v0 := Tryz.zeroValue0
  t3 := Tryz.underlying3
  a3 := Tryz.isAgg3
  z3 := Tryz.sizeOf3
  v3 := Tryz.zeroValue3
  t4 := Tryz.underlying4
  a4 := Tryz.isAgg4
  z4 := Tryz.sizeOf4
  v4 := Tryz.zeroValue4
  t28 := Tryz.underlying53
  a28 := Tryz.isAgg53
  z28 := Tryz.sizeOf53
  v28 := Tryz.zeroValue53 }
open Go.Lib in
theorem Tryz.slices_Contains_int (b off n c : Nat) (zs : List Int) (x : Int) (w : World) (hz : n ≤ zs.length) (hbig : n ≤ 9223372036854775807) (hc : ∀ j, j < zs.length → w.cell? ⟨b, off + j, none⟩ = some (.int .i64 (zs.getD j 0))) :
    Calls Tryz.prog 162 #[.slice (some ⟨b, off, none⟩) n c, .int .i64 x] w fun e w' => e = .returned (.bool ((zs.take n).contains x)) ∧ w' = w := Any.slices_Contains_int Tryz.lays107 b off n c zs x w hz hbig hc
open Go.Lib in
theorem Tryz.slices_Contains_int_empty (a : Option Addr) (c : Nat) (x : Int) (w : World) :
    Calls Tryz.prog 162 #[.slice a 0 c, .int .i64 x] w fun e w' => e = .returned (.bool false) ∧ w' = w := Any.slices_Contains_int_empty Tryz.lays107 a c x w
def Tryz.lays109_ren : Go.Shelf.Ren := ⟨fun | 109 => 127 | n => n, fun | 31 => 112 | 9 => 9 | 3 => 3 | 0 => 0 | 4 => 4 | n => n, fun | n => n⟩
theorem Tryz.lays109 : Go.Proofs.Lays.n109 Tryz.prog Tryz.lays109_ren := {
  mixed := by kernel_rfl
  f109 := Tryz.func127.trans (congrArg some (by kernel_rfl))
  t0 := Tryz.underlying0
  a0 := Tryz.isAgg0
  z0 := Tryz.sizeOf0
  v0 := Tryz.zeroValue0
  t3 := Tryz.underlying3
  a3 := Tryz.isAgg3
  z3 := Tryz.sizeOf3
  v3 := Tryz.zeroValue3
  t4 := Tryz.underlying4
  a4 := Tryz.isAgg4
  z4 := Tryz.sizeOf4
  v4 := Tryz.zeroValue4
  t9 := Tryz.underlying9
  a9 := Tryz.isAgg9
  z9 := Tryz.sizeOf9
  v9 := Tryz.zeroValue9
  t31 := Tryz.underlying112
  a31 := Tryz.isAgg112
  z31 := Tryz.sizeOf112
  v31 := Tryz.zeroValue112 }
open Go.Lib in
theorem Tryz.slices_Index_string (b off n c : Nat) (zs : List ByteArray) (x : ByteArray) (w : World) (hz : n ≤ zs.length) (hbig : n ≤ 9223372036854775807) (hc : ∀ j, j < zs.length → w.cell? ⟨b, off + j, none⟩ = some (.string (zs.getD j ByteArray.empty))) :
    Calls Tryz.prog 127 #[.slice (some ⟨b, off, none⟩) n c, .string x] w fun e w' => e = .returned (.int .i64 (Lib.idxOfS (zs.take n) x)) ∧ w' = w := Any.slices_Index_string Tryz.lays109 b off n c zs x w hz hbig hc
open Go.Lib in
def Tryz.laysNm215_ren : Go.Shelf.Ren := ⟨fun | 15 => 163 | n => n, fun | 22 => 53 | 3 => 3 | 4 => 4 | n => n, fun | n => n⟩
theorem Tryz.laysNm215 : Go.Proofs.Lays2.n15 Tryz.prog Tryz.laysNm215_ren := {
  mixed := by kernel_rfl
  f15 := Tryz.func163.trans (congrArg some (by kernel_rfl))
  t3 := Tryz.underlying3
  a3 := Tryz.isAgg3
  z3 := Tryz.sizeOf3
  v3 := Tryz.zeroValue3
  t4 := Tryz.underlying4
  a4 := Tryz.isAgg4
  z4 := Tryz.sizeOf4
  v4 := Tryz.zeroValue4
  t22 := Tryz.underlying53
  a22 := Tryz.isAgg53
  z22 := Tryz.sizeOf53
  v22 := Tryz.zeroValue53
  i3 := by kernel_rfl }
open Go.RowKit Go.Lib in
theorem Tryz.slices_Clone_int (b off n c : Nat) (zs : List Int) (w : World) (hz : n ≤ zs.length) (hbig : n * 8 ≤ 140737488355328) (hc : ∀ j, j < zs.length → w.cell? ⟨b, off + j, none⟩ = some (.int .i64 (zs.getD j 0))) :
    Calls Tryz.prog 163 #[.slice (some ⟨b, off, none⟩) n c] w fun e w' => ∃ v', e = .returned v' ∧ w'.ownsRow w.heap.size 3 1 v' n ((zs.take n).map (Value.int .i64)) ∧ v' ≠ .slice none 0 0 ∧ Below w.heap.size w w' := Any.slices_Clone_int Tryz.laysNm215 b off n c zs w hz hbig hc
open Go.RowKit Go.Lib in
theorem Tryz.slices_Clone_int_nil (n c : Nat) (w : World) :
    Calls Tryz.prog 163 #[.slice none n c] w fun e w' => e = .returned (.slice none 0 0) ∧ w' = w := Any.slices_Clone_int_nil Tryz.laysNm215 n c w
open Go.RowKit Go.Lib in
theorem Tryz.slices_Clone_int_zero (a : Addr) (c : Nat) (w : World) :
    Calls Tryz.prog 163 #[.slice (some a) 0 c] w fun e w' => ∃ v', e = .returned v' ∧ w'.ownsRow w.heap.size 3 1 v' 0 [] ∧ v' ≠ .slice none 0 0 ∧ Below w.heap.size w w' := Any.slices_Clone_int_zero Tryz.laysNm215 a c w
open Go.RowKit Go.Lib in
open Go.RowKit Go.Lib in
open Go.RowKit Go.Sort in
theorem Tryz.slices_Sort_int_none (p : Option Addr) (cap : Nat) (w : World) :
    Calls Tryz.prog 88 #[.slice p 0 cap] w fun e w' => e = .returned (.tuple #[]) ∧ w' = w := Any.slices_Sort_int_none Tryz.lays189 p cap w
def Tryz.laysSlH6_f185_ren : Go.Shelf.Ren := ⟨fun | 6 => 185 | n => n, fun | 22 => 53 | 23 => 3 | 25 => 160 | 3 => 3 | 0 => 0 | 4 => 4 | n => n, fun | n => n⟩
theorem Tryz.laysSlH6_f185 : Go.Proofs.SlLaysH.n6 Tryz.prog Tryz.laysSlH6_f185_ren := {
  mixed := by kernel_rfl
  f6 := ⟨Tryz.f185.name, by decide, Tryz.func185.trans (congrArg some (by kernel_rfl))⟩
  t0 := Tryz.underlying0
  a0 := Tryz.isAgg0
  z0 := Tryz.sizeOf0
  v0 := Tryz.zeroValue0
  t3 := Tryz.underlying3
  a3 := Tryz.isAgg3
  z3 := Tryz.sizeOf3
  v3 := Tryz.zeroValue3
  t4 := Tryz.underlying4
  a4 := Tryz.isAgg4
  z4 := Tryz.sizeOf4
  v4 := Tryz.zeroValue4
  t22 := Tryz.underlying53
  a22 := Tryz.isAgg53
  z22 := Tryz.sizeOf53
  v22 := Tryz.zeroValue53
  a23 := Tryz.isAgg3
  z23 := Tryz.sizeOf3
  t25 := Tryz.underlying160
  a25 := Tryz.isAgg160
  z25 := Tryz.sizeOf160
  v25 := Tryz.zeroValue160 }
open Go.RowKit Go.Lib in
open Go.RowKit Go.Lib in
theorem Tryz.slices_IndexFunc_empty {α : Type} [Inhabited α] (a : Option Addr) (c : Nat) (fv : Value) (w : World) :
    Calls Tryz.prog 185 #[.slice a 0 c, fv] w fun e w' => e = .returned (.int .i64 (-1)) ∧ w' = w := AnyE.slices_IndexFunc_empty Tryz.laysSlH6_f185 a c fv w
def Tryz.laysSlH10_f175_ren : Go.Shelf.Ren := ⟨fun | 10 => 175 | 6 => 185 | n => n, fun | 22 => 53 | 23 => 3 | 25 => 160 | 3 => 3 | 4 => 4 | 0 => 0 | n => n, fun | n => n⟩
theorem Tryz.laysSlH10_f175 : Go.Proofs.SlLaysH.n10 Tryz.prog Tryz.laysSlH10_f175_ren := {
  mixed := by kernel_rfl
  f6 := ⟨Tryz.f185.name, by decide, Tryz.func185.trans (congrArg some (by kernel_rfl))⟩
  f10 := ⟨Tryz.f175.name, by decide, Tryz.func175.trans (congrArg some (by kernel_rfl))⟩
  t0 := Tryz.underlying0
  a0 := Tryz.isAgg0
  z0 := Tryz.sizeOf0
  v0 := Tryz.zeroValue0
  t3 := Tryz.underlying3
  a3 := Tryz.isAgg3
  z3 := Tryz.sizeOf3
  v3 := Tryz.zeroValue3
  t4 := Tryz.underlying4
  a4 := Tryz.isAgg4
  z4 := Tryz.sizeOf4
  v4 := Tryz.zeroValue4
  t22 := Tryz.underlying53
  a22 := Tryz.isAgg53
  z22 := Tryz.sizeOf53
  v22 := Tryz.zeroValue53
  a23 := Tryz.isAgg3
  z23 := Tryz.sizeOf3
  t25 := Tryz.underlying160
  a25 := Tryz.isAgg160
  z25 := Tryz.sizeOf160
  v25 := Tryz.zeroValue160 }
open Go.RowKit Go.Lib Go.Sort in
theorem Tryz.slices_DeleteFunc {α : Type} [Inhabited α] (enc : α → Value) (hO : OneCell enc) (p : α → Bool) (g : Nat) (lb : Array Value) (eg : ∀ args w, (callFunc g args).run Tryz.prog w = .ok (.enter g args) w) (zr : α) (v23 : ∀ w, (zeroValue 3).run Tryz.prog w = .ok (enc zr) w) (blk off cap : Nat) (d : Array α) (w : World) (hp : PredAt Tryz.prog g lb enc p w) (hpo : PredOver Tryz.prog g lb enc p blk off d.size w) (hH : Holds enc w blk off d) (hsz : d.size ≤ 9223372036854775807) (hcap : d.size ≤ cap) :
    Calls Tryz.prog 175 #[.slice (some ⟨blk, off, none⟩) d.size cap, .func (.func g) #[] lb] w fun e w' => e = .returned (.slice (some ⟨blk, off, none⟩) (d.toList.filter fun x => !p x).length cap) ∧ ∃ q, w' = putRow enc (Sort.ahead w q) blk off ((d.toList.filter fun x => !p x) ++ List.replicate (d.size - (d.toList.filter fun x => !p x).length) zr).toArray := AnyE.slices_DeleteFunc Tryz.laysSlH10_f175 enc hO p g lb eg zr v23 blk off cap d w hp hpo hH hsz hcap
def Tryz.keysA_ren : Go.Shelf.Ren := ⟨fun | 7 => 90 | 10 => 117 | n => n, fun | 23 => 89 | 26 => 3 | 3 => 92 | 28 => 158 | 0 => 0 | 27 => 157 | 33 => 160 | 4 => 4 | n => n, fun | n => n⟩
theorem Tryz.keysA : Go.Proofs.SlLaysZI.n7 Tryz.prog Tryz.keysA_ren := {
  mixed := by kernel_rfl
  f7 := ⟨Tryz.f90.name, by decide, Tryz.func90.trans (congrArg some (by kernel_rfl))⟩
  f10 := ⟨Tryz.f117.name, by decide, Tryz.func117.trans (congrArg some (by kernel_rfl))⟩
  t0 := Tryz.underlying0
  a0 := Tryz.isAgg0
  z0 := Tryz.sizeOf0
  v0 := Tryz.zeroValue0
  t4 := Tryz.underlying4
  a4 := Tryz.isAgg4
  z4 := Tryz.sizeOf4
  v4 := Tryz.zeroValue4
  t23 := Tryz.underlying89
  a23 := Tryz.isAgg89
  z23 := Tryz.sizeOf89
  v23 := Tryz.zeroValue89
  t26 := Tryz.underlying3
  a26 := Tryz.isAgg3
  z26 := Tryz.sizeOf3
  v26 := Tryz.zeroValue3
  t27 := Tryz.underlying157
  a27 := Tryz.isAgg157
  z27 := Tryz.sizeOf157
  v27 := Tryz.zeroValue157
  t28 := Tryz.underlying158
  a28 := Tryz.isAgg158
  z28 := Tryz.sizeOf158
  v28 := Tryz.zeroValue158
  t33 := Tryz.underlying160
  a33 := Tryz.isAgg160
  z33 := Tryz.sizeOf160
  v33 := Tryz.zeroValue160 }
def Tryz.sortedA_ren : Go.Shelf.Ren := ⟨fun | 6 => 89 | 8 => 116 | 9 => 88 | 11 => 154 | 13 => 115 | 12 => 114 | 23 => 153 | 24 => 140 | 14 => 144 | 15 => 145 | 16 => 146 | 17 => 147 | 18 => 148 | 19 => 149 | 20 => 150 | 21 => 151 | 22 => 152 | 25 => 169 | 26 => 170 | 27 => 171 | 28 => 172 | 29 => 173 | 30 => 174 | 31 => 184 | n => n, fun | 26 => 3 | 28 => 158 | 24 => 53 | 0 => 0 | 3 => 3 | 37 => 42 | 48 => 213 | 50 => 185 | 4 => 4 | 40 => 217 | 39 => 216 | 45 => 221 | 5 => 5 | 9 => 9 | 51 => 230 | 55 => 234 | 57 => 247 | 58 => 248 | 33 => 160 | n => n, fun | n => n⟩
theorem Tryz.sortedA : Go.Proofs.SlLaysZI.n6 Tryz.prog Tryz.sortedA_ren := {
  mixed := by kernel_rfl
  f6 := ⟨Tryz.f89.name, by decide, Tryz.func89.trans (congrArg some (by kernel_rfl))⟩
  f8 := ⟨Tryz.f116.name, by decide, Tryz.func116.trans (congrArg some (by kernel_rfl))⟩
  f11 := ⟨Tryz.f154.name, by decide, Tryz.func154.trans (congrArg some (by kernel_rfl))⟩
  t0 := Tryz.underlying0
  a0 := Tryz.isAgg0
  z0 := Tryz.sizeOf0
  v0 := Tryz.zeroValue0
  t24 := Tryz.underlying53
  a24 := Tryz.isAgg53
  z24 := Tryz.sizeOf53
  v24 := Tryz.zeroValue53
  t26 := Tryz.underlying3
  a26 := Tryz.isAgg3
  z26 := Tryz.sizeOf3
  v26 := Tryz.zeroValue3
  t28 := Tryz.underlying158
  a28 := Tryz.isAgg158
  z28 := Tryz.sizeOf158
  v28 := Tryz.zeroValue158
  i26 := by kernel_rfl }
end Go.Proofs
set_option linter.unusedVariables false
set_option linter.unusedSimpArgs false
namespace Go.Proofs.YteepkanbiefpjaaGreatDoor.K
open Go.RowKit Go.Sort Go.Lib Go.Shelf
def I (l : List Int) : List Value := l.map (Value.int .i64)
theorem I_length (l : List Int) : (I l).length = l.length := by simp [I]
theorem I_append (l m : List Int) : I (l ++ m) = I l ++ I m := by simp [I]
theorem I_get (l : List Int) (j : Nat) (h : j < l.length) : (I l)[j]? = some (.int .i64 l[j]) := by simp [I, h]
theorem I_one (l : List Int) : ∀ u ∈ I l, u.oneCell' = true := by
  intro u hu; simp only [I, List.mem_map] at hu; obtain ⟨b, _, rfl⟩ := hu; rfl
theorem I_take (l : List Int) (k : Nat) : I (l.take k) = (I l).take k := by simp [I, List.map_take]
theorem infoI : (Tryz.prog.info? 3).map (fun i => (i.zero, i.size, i.bytes)) = some (some (.int .i64 0), 1, 8) := by kernel_rfl
def OI (w : World) (v : Value) (l : List Int) (G : Option Nat) : Prop := Own w 3 1 v l.length (I l) G
section
variable {w w1 : World} {v : Value} {l : List Int} {G : Option Nat} {S : Nat → Prop} {A : Option Addr} {c : Nat}
theorem OI.upd (h : OI w v l G) (k : Upd S w w1) (hn : ∀ g, G = some g → ¬ S g) : OI w1 v l G := Own.upd h k hn
theorem OI.up (h : OI w v l G) (k : Upd (fun _ => False) w w1) : OI w1 v l G := Own.upd h k (fun _ _ h => h)
theorem OI.lt (h : OI w v l G) : ∀ g, G = some g → g < w.heap.size := Own.lt h
theorem OI.nil (w : World) : OI w (.slice none 0 0) [] none := Own.nil w _ _
theorem OI.slice (h : OI w v l G) : ∃ A c, v = .slice A l.length c ∧ l.length ≤ c ∧ c ≤ maxLen := by
  obtain ⟨A, c, hv, h1, h2, _⟩ := Own.slice h
  exact ⟨A, c, hv, h1, h2⟩
theorem OI.at (h : OI w (.slice A l.length c) l G) (i : Nat) (hi : i < l.length) : ∃ ad, A = some ad ∧ w.cell? (ad.add i) = some (.int .i64 l[i]) := by
  obtain ⟨A', c', hv, _, _, hr, _⟩ := Own.slice h
  injection hv with e1 e2 e3
  subst e1; subst e3
  exact hr i _ (I_get l i hi)
theorem OI.row (h : OI w (.slice A l.length c) l G) : Row w A (I l) := by
  obtain ⟨A', c', hv, _, _, hr, _⟩ := Own.slice h
  injection hv with e1 e2 e3
  subst e1
  exact hr
theorem OI.cells (h : OI w (.slice A l.length c) l G) : (A = none ∧ l = []) ∨ ∃ g o, A = some ⟨g, o, none⟩ ∧ G = some g ∧ ∀ j, j < l.length → w.cell? ⟨g, o + j, none⟩ = some (.int .i64 (l.getD j 0)) ∧ w.frozen? ⟨g, o + j, none⟩ = false := by
  rcases h.form with ⟨hv, h0, hG⟩ | ⟨g, o, c', cur, hv, hG, hb, hc, hm, hs, hcell⟩
  · injection hv with e1 e2 e3
    exact .inl ⟨e1, List.eq_nil_of_length_eq_zero h0⟩
  · injection hv with e1 e2 e3
    refine .inr ⟨g, o, e1, hG, fun j hj => ?_⟩
    have := hcell j _ (I_get l j hj)
    have e4 : l.getD j 0 = l[j] := by simp [List.getD_eq_getElem?_getD, List.getElem?_eq_getElem hj]
    rw [e4]
    exact ⟨by simp [World.cell?, hb, this], by simp [World.frozen?, hb]⟩
end
def NewI (l : List Int) (w : World) (e : Ending) (w' : World) : Prop := ∃ A c G, e = .returned (.slice A l.length c) ∧ OI w' (.slice A l.length c) l G ∧ (∀ g, G = some g → w.heap.size ≤ g) ∧ Upd (fun _ => False) w w'
section
variable {w : World} {l : List Int} {G : Option Nat} {A : Option Addr} {c : Nat}
theorem clone_calls (h : OI w (.slice A l.length c) l G) (hl : l.length ≤ 1000000) : Calls Tryz.prog 163 #[.slice A l.length c] w (NewI l w) := by
  rcases h.cells with ⟨rfl, rfl⟩ | ⟨g, o, rfl, rfl, hc⟩
  · refine (Tryz.slices_Clone_int_nil _ _ w).mono fun e w' ⟨he, hw⟩ => ?_
    subst hw
    exact ⟨none, 0, none, he, OI.nil _, fun g h => (by cases h), Upd.refl _ _⟩
  · have fin : ∀ v' w', w'.ownsRow w.heap.size 3 1 v' l.length (I l) → Below w.heap.size w w' → NewI l w (.returned v') w' := by
      intro v' w' ho hb
      obtain ⟨G', hO, _, hG⟩ := Own.ofRow ho
      obtain ⟨A', c', rfl, _, _⟩ := OI.slice hO
      exact ⟨A', c', G', rfl, hO, hG, Upd.ofBelow hb _⟩
    rcases Nat.eq_zero_or_pos l.length with h0 | h0
    · have : l = [] := List.eq_nil_of_length_eq_zero h0
      subst this
      refine (Tryz.slices_Clone_int_zero _ _ w).mono fun e w' ⟨v', he, ho, _, hb⟩ => ?_
      rw [he]
      exact fin v' w' ho hb
    · refine (Tryz.slices_Clone_int g o l.length c l w (Nat.le_refl _) (by omega) (fun j hj => (hc j hj).1)).mono fun e w' ⟨v', he, ho, _, hb⟩ => ?_
      rw [he]
      rw [List.take_length] at ho
      exact fin v' w' ho hb
theorem contains_calls (h : OI w (.slice A l.length c) l G) (hl : l.length ≤ 1000000) (x : Int) : Calls Tryz.prog 162 #[.slice A l.length c, .int .i64 x] w fun e w' => e = .returned (.bool (l.contains x)) ∧ w = w' := by
  rcases h.cells with ⟨rfl, rfl⟩ | ⟨g, o, rfl, rfl, hc⟩
  · exact (Tryz.slices_Contains_int_empty _ _ x w).mono fun e w' ⟨he, hw⟩ => ⟨he, hw.symm⟩
  · refine (Tryz.slices_Contains_int g o l.length c l x w (Nat.le_refl _) (by omega) (fun j hj => (hc j hj).1)).mono fun e w' ⟨he, hw⟩ => ⟨?_, hw.symm⟩
    rw [List.take_length] at he
    exact he
theorem OI.put {g o : Nat} (h : OI w (.slice (some ⟨g, o, none⟩) l.length c) l (some g)) (q : Nat) (d : Array Int) (hd : d.size = l.length) :
    OI (putRow (Value.int .i64) (Sort.ahead w q) g o d) (.slice (some ⟨g, o, none⟩) d.toList.length c) d.toList (some g) ∧ Upd (fun i => i = g) w (putRow (Value.int .i64) (Sort.ahead w q) g o d) := by
  rcases h.form with ⟨hv, _⟩ | ⟨g', o', c', cur, hv, hG, hb, hc, hm, hs, hcell⟩
  · cases hv
  · injection hv with e1 e2 e3
    injection e1 with e1
    injection e1 with e4 e5
    subst e4; subst e5; subst e3
    have hdl : d.toList.length = l.length := by simp [hd]
    have hb' : (putRow (Value.int .i64) (Sort.ahead w q) g o d).heap[g]? = some (.cells (putCells (Value.int .i64) o d cur) 3 (0, 0)) := by
      unfold putRow mapBlock
      simp [Array.getElem?_modify, hb, onCells]
    refine ⟨⟨by rw [I_length, Nat.mul_one], .inr ⟨g, o, c, _, rfl, rfl, hb', by rw [hdl]; exact hc, hm, by simpa [putCells] using hs, fun j u hj => ?_⟩⟩, ⟨rfl, rfl, rfl, by simp, fun i hi hn => ?_⟩⟩
    · have hjl : j < d.toList.length := by
        rcases Nat.lt_or_ge j d.toList.length with h | h
        · exact h
        · rw [List.getElem?_eq_none (by rw [I_length]; exact h)] at hj; cases hj
      rw [I_get _ j hjl] at hj
      obtain rfl := Option.some.inj hj
      have hoc : o + j < cur.size := by rw [Nat.mul_one] at hs; omega
      simp only [putCells, Array.getElem?_mapIdx, Array.getElem?_eq_getElem hoc, Option.map_some]
      have hjd : j < d.size := by simpa using hjl
      rw [if_pos ⟨by omega, by omega⟩, show o + j - o = j by omega, getElem!_pos d j hjd]
      simp
    · unfold putRow mapBlock
      simp only [Sort.heap_ahead, Array.getElem?_modify]
      rw [if_neg (fun e => hn e.symm)]
theorem OI.holds {g o : Nat} (h : OI w (.slice (some ⟨g, o, none⟩) l.length c) l (some g)) : Holds (Value.int .i64) w g o l.toArray := by
  rcases h.cells with ⟨h1, _⟩ | ⟨g', o', h1, h2, hc⟩
  · cases h1
  · injection h1 with h1
    injection h1 with h3 h4
    subst h3; subst h4
    intro j hj
    have hj' : j < l.length := by simpa using hj
    obtain ⟨h5, h6⟩ := hc j hj'
    refine ⟨?_, h6⟩
    rw [h5, getElem!_pos l.toArray j hj]
    simp [List.getD_eq_getElem?_getD, List.getElem?_eq_getElem hj']
def SortPost (l : List Int) (A : Option Addr) (c : Nat) (G : Option Nat) (w : World) (e : Ending) (w' : World) : Prop :=
  e = .returned (.tuple #[]) ∧ OI w' (.slice A (l.mergeSort fun x y => decide (x ≤ y)).length c) (l.mergeSort fun x y => decide (x ≤ y)) G ∧ Upd (fun i => some i = G) w w'
theorem grow_upd {S : Nat → Prop} {w w1 : World} (h : Upd S w w1) (os : Array Obj) : Upd S w (grow w1 os) := by
  refine h.trans (T := fun _ => False) ⟨rfl, rfl, rfl, ?_, fun i hi _ => ?_⟩ (fun _ _ h => h.elim)
  · simp [grow]
  · simp only [grow]
    rw [Array.getElem?_append_left hi]
theorem sort_calls (h : OI w (.slice A l.length c) l G) (hl : l.length ≤ 1000000) : Calls Tryz.prog 88 #[.slice A l.length c] w (SortPost l A c G w) := by
  rcases h.cells with ⟨rfl, rfl⟩ | ⟨g, o, rfl, rfl, hc⟩
  · refine (Tryz.slices_Sort_int_none _ _ w).mono fun e w' ⟨he, hw⟩ => ?_
    subst hw
    exact ⟨he, by simpa using h, Upd.refl _ _⟩
  · have hb : g < w.heap.size := h.lt g rfl
    refine (Tryz.slices_Sort_int g o c l w h.holds hb (by omega)).mono fun e w' ⟨he, n, os, hw⟩ => ?_
    subst hw
    obtain ⟨h1, h2⟩ := h.put n (l.mergeSort fun x y => decide (x ≤ y)).toArray (by simp)
    refine ⟨he, ?_, (grow_upd h2 os).mono (fun i hi e => by rw [e])⟩
    have := h1.up (grow_upd (Upd.refl (fun _ => False) _) os)
    simpa using this
theorem Rd1 (w : World) (x : Int) : Row (w.alloc (.cells #[.int .i64 x] 3)) (some ⟨w.heap.size, 0, none⟩) (I [x]) := fun j u hj => by
  refine ⟨_, rfl, ?_⟩
  rw [add_lit]
  cases j with
  | zero =>
    obtain rfl := Option.some.inj hj
    have hb : (w.alloc (.cells #[.int .i64 x] 3)).heap[w.heap.size]? = some (.cells #[.int .i64 x] 3) := heap_alloc_new w _
    simp only [World.cell?, hb]
    rfl
  | succ j => simp [I] at hj
theorem wp_appendI {P : Program} {ops : Array Oper} {rest : List Oper} {o : Oper} {a : Act} {Q : Exit → Act → World → Prop} {W w0 : World} {S : Nat → Prop} {m c2 : Nat} {l2 : List Int} (HU : Upd S w0 W) (hgd : o.guard = none) (s x : Operand) (t e : TypeId)
    (ho : o.op = .call { callee := .builtin .append, args := #[s, x], argTypes := #[t, t] })
    (ht : P.underlying t = some (.slice e)) (he : e = 3) (hinfo : (P.info? e).map (fun i => (i.zero, i.size, i.bytes)) = some (some (.int .i64 0), 1, 8))
    (hs : a.eval s = .slice A l.length c) {A2 : Option Addr} (hx : a.eval x = .slice A2 m c2) (HO : OI W (.slice A l.length c) l G) (hG : ∀ g, G = some g → w0.heap.size ≤ g) (HR : Row W A2 (I l2)) (hm : l2.length = m) (hlim : l.length + m ≤ 10000000)
    (h : ∀ A1 c1 w1 G1, OI w1 (.slice A1 (l ++ l2).length c1) (l ++ l2) G1 → (l ++ l2).length ≤ c1 → (∀ g, G1 = some g → w0.heap.size ≤ g) → Upd S w0 w1 → Upd (fun k => some k = G) W w1 → wpList P ops Q rest (a.put o.dst (.slice A1 (l ++ l2).length c1)) w1) :
    Stop (wpList P ops Q (o :: rest) a W) := by
  subst he
  subst hm
  refine wp_append hgd s x t 3 (.int .i64 0) 1 8 ho ht hinfo rfl (by omega) _ l.length (I l) G A2 l2.length c2 (I l2) hs hx HO HR (by rw [I_length, Nat.mul_one]) (I_one l2) (by simp only [maxLen]; omega) (by omega) ?_
  intro v1 w1 G1 hO hU hg
  rw [← I_append] at hO
  have e : l.length + l2.length = (l ++ l2).length := by simp
  rw [e] at hO
  obtain ⟨A1, c1, rfl, h1, _⟩ := OI.slice hO
  refine h A1 c1 w1 G1 hO h1 ?_ (HU.trans hU fun i hi e => ?_) hU
  · intro g e
    rcases hg with rfl | ⟨g', rfl, h3, _⟩
    · exact hG g e
    · obtain rfl := Option.some.inj e
      exact Nat.le_trans HU.size h3
  · have := hG i e.symm
    omega
end
end Go.Proofs.YteepkanbiefpjaaGreatDoor.K
set_option linter.unusedVariables false
set_option linter.unusedSimpArgs false
namespace Go.Proofs.YteepkanbiefpjaaGreatDoor.Fl
open Go.RowKit K Go.Sort Go.Lib Go.Shelf
structure T where
  lease : Int
  left : Int
  holder : Int
  queue : List Int
  roles : List (Int × Int)
def RI (R : List (Int × Int)) : List Ent := R.map fun p => (p.1, .int .i64 p.2)
def rget (R : List (Int × Int)) (x : Int) : Option Int := (R.find? fun p => decide (p.1 = x)).map (·.2)
def rins (p : Int × Int) : List (Int × Int) → List (Int × Int)
  | [] => [p]
  | y :: r => if p.1 < y.1 then p :: y :: r else y :: rins p r
def rdel (R : List (Int × Int)) (x : Int) : List (Int × Int) := R.filter fun p => !decide (p.1 = x)
def rput (R : List (Int × Int)) (x r : Int) : List (Int × Int) := rins (x, r) (rdel R x)
theorem RI_get (R : List (Int × Int)) (x : Int) : mget (RI R) x = (rget R x).map (Value.int .i64) := by
  unfold mget rget RI
  rw [List.find?_map, Option.map_map, Option.map_map]
  rfl
theorem RI_ins (p : Int × Int) : ∀ R, RI (rins p R) = ins (p.1, .int .i64 p.2) (RI R)
  | [] => rfl
  | y :: r => by
    simp only [RI, List.map_cons, rins, ins]
    split
    · rfl
    · rw [List.map_cons]
      exact congrArg _ (RI_ins p r)
theorem RI_del (R : List (Int × Int)) (x : Int) : RI (rdel R x) = mdel (RI R) x := by
  unfold RI rdel mdel
  rw [List.filter_map]
  rfl
theorem RI_put (R : List (Int × Int)) (x r : Int) : RI (rput R x r) = mput (RI R) x (.int .i64 r) := by
  unfold rput mput
  rw [RI_ins, RI_del]
theorem RI_length (R : List (Int × Int)) : (RI R).length = R.length := by simp [RI]
structure TB (w : World) (t : Nat) (F : Nat → Prop) (s : T) : Prop where
  mk ::
  has : ∃ A c G b, w.heap[t]? = some (.cells #[.int .i64 s.lease, .int .i64 s.left, .int .i64 s.holder, .slice A s.queue.length c, .map (some b)] 141 (0, 0)) ∧ OI w (.slice A s.queue.length c) s.queue G ∧ mapV w Tryz.prog 3 b (RI s.roles) ∧ t ≠ b ∧ some t ≠ G ∧ some b ≠ G ∧ ∀ k, F k ↔ k = t ∨ k = b ∨ some k = G
section
variable {w w1 : World} {t : Nat} {s : T} {F S : Nat → Prop}
theorem TB.upd (h : TB w t F s) (k : Upd S w w1) (hn : ∀ i, F i → ¬ S i) : TB w1 t F s := by
  obtain ⟨A, c, G, b, hb, ho, hm, h1, h2, h3, hF⟩ := h.has
  exact ⟨A, c, G, b, k.blk hb (hn t ((hF t).2 (.inl rfl))), ho.upd k (fun g e => hn g ((hF g).2 (.inr (.inr e.symm)))), hm.upd k (hn b ((hF b).2 (.inr (.inl rfl)))), h1, h2, h3, hF⟩
theorem TB.up (h : TB w t F s) (k : Upd (fun _ => False) w w1) : TB w1 t F s := h.upd k (fun _ _ h => h)
theorem TB.lt (h : TB w t F s) : ∀ k, F k → k < w.heap.size := by
  obtain ⟨A, c, G, b, hb, ho, hm, h1, h2, h3, hF⟩ := h.has
  intro k hk
  rcases (hF k).1 hk with rfl | rfl | e
  · exact blk_lt hb
  · exact hm.lt
  · exact ho.lt k e.symm
end
def Turns (v : Value) (s : T) (t : Nat) (F : Nat → Prop) (w : World) (e : Ending) (w' : World) : Prop :=
  e = .returned v ∧ ∃ F', TB w' t F' s ∧ Upd F w w' ∧ ∀ k, F' k → F k ∨ w.heap.size ≤ k
def NewPost (s : T) (w : World) (e : Ending) (w' : World) : Prop := ∃ t F, e = .returned (.pointer (some ⟨t, 0, none⟩)) ∧ TB w' t F s ∧ Upd (fun _ => False) w w' ∧ ∀ k, F k → w.heap.size ≤ k
def clampLease (n : Int) : Int := mx 1 (mn n 1000)
def new (lease : Int) : T := ⟨clampLease lease, 0, 0, [], []⟩
set_option maxHeartbeats 400000 in
theorem new_calls (n : Int) (w : World) : Calls Tryz.prog 45 #[.int .i64 n] w (NewPost (new n) w) := by
  have hmm := @run_makeMap Tryz.prog
  obtain ⟨L, hL⟩ : ∃ L, L = clampLease n := ⟨_, rfl⟩
  have hL2 : mx 1 (mn n 1000) = L := by rw [hL]; rfl
  have HL := Asd.mk hL
  clear hL
  go_enter Tryz.func45, Tryz.ntmps45
  go_wp2
  go_ret
  have h1 := heap_alloc_new (w.alloc (.map #[] 0)) (.cells #[.int .i64 L, .int .i64 0, .int .i64 0, .slice none 0 0, .map (some w.heap.size)] 141)
  rw [show (w.alloc (.map #[] 0)).heap.size = w.heap.size + 1 by simp] at h1
  refine ⟨w.heap.size + 1, fun k => k = w.heap.size + 1 ∨ k = w.heap.size ∨ some k = none, rfl, ⟨none, 0, none, w.heap.size, ?_, OI.nil _, (mapV.made w _ _).upd ((Upd.refl (fun _ => False) _).alloc _) (fun h => h), by omega, by simp, by simp, fun k => Iff.rfl⟩, ((Upd.refl _ _).alloc _).alloc _, fun k hk => ?_⟩
  · rw [h1]
    simp only [new, ← HL.out, List.length_nil]
  · rcases hk with rfl | rfl | h
    · omega
    · omega
    · cases h
set_option maxHeartbeats 400000 in
theorem is_calls (id x : Int) (B : Nat) (W : World) (hc : W.cell? ⟨B, 0, none⟩ = some (.int .i64 id)) : FnGives Tryz.prog 176 #[.pointer (some ⟨B, 0, none⟩)] #[.int .i64 x] (.bool (x == id)) W := by
  show Calls Tryz.prog 176 #[.int .i64 x, .pointer (some ⟨B, 0, none⟩)] W _
  go_enter Tryz.func176, Tryz.ntmps176
  go_wp2
  go_ret
  exact ⟨rfl, 0, rfl⟩
def DelPost (l : List Int) (G : Option Nat) (w : World) (e : Ending) (w' : World) : Prop := ∃ A c, e = .returned (.slice A l.length c) ∧ OI w' (.slice A l.length c) l G ∧ Upd (fun i => some i = G) w w'
theorem del_calls {w : World} {A : Option Addr} {c : Nat} {l : List Int} {G : Option Nat} (h : OI w (.slice A l.length c) l G) (hl : l.length ≤ 1000000) (id : Int) (B : Nat) (hB : w.cell? ⟨B, 0, none⟩ = some (.int .i64 id)) (hne : some B ≠ G) :
    Calls Tryz.prog 175 #[.slice A l.length c, .func (.func 176) #[] #[.pointer (some ⟨B, 0, none⟩)]] w (DelPost (l.filter fun x => !(x == id)) G w) := by
  have eg : ∀ args w, (callFunc 176 args).run Tryz.prog w = .ok (.enter 176 args) w := enters_of Tryz.func176 (by kernel_rfl) rfl
  have zi : ∀ w, (zeroValue 3).run Tryz.prog w = .ok (.int .i64 0) w := fun w => by kernel_rfl
  have hBs : B < w.heap.size := World.block_lt_of_cell? w _ hB
  have hp : PredAt Tryz.prog 176 #[.pointer (some ⟨B, 0, none⟩)] (Value.int .i64) (fun x => x == id) w := fun W x hb => is_calls id x B W ((hb.cell (p := ⟨B, 0, none⟩) hBs).trans hB)
  rcases h.cells with ⟨rfl, rfl⟩ | ⟨g, o, rfl, rfl, hc⟩
  · clear hp eg zi
    go_enter Tryz.func175, Tryz.ntmps175
    go_wp2_with fail
    refine (Tryz.slices_IndexFunc_empty (α := Int) none c _ w).mono ?_
    rintro e w2 ⟨rfl, rfl⟩
    have H := Asd.mk h
    clear h
    go_wp2
    go_ret
    exact ⟨none, c, rfl, by simpa using H.out, Upd.refl _ _⟩
  · have hlen : l.toArray.size = l.length := by simp
    have hcap : l.length ≤ c := by
      obtain ⟨A', c', hv, h1, _⟩ := OI.slice h
      injection hv with e1 e2 e3
      rw [e3]; exact h1
    have hover : PredOver Tryz.prog 176 #[.pointer (some ⟨B, 0, none⟩)] (Value.int .i64) (fun x => x == id) g o l.toArray.size w := fun n os dk x _ => is_calls id x B _ (by
      unfold sortWorld
      rw [cell?_grow _ _ _ (by show B < (putRow _ _ _ _ _).heap.size; rw [size_putRow]; exact hBs), cell?_putRow_other _ _ g o _ _ (Or.inl (fun e => hne (by rw [← e])))]
      exact hB)
    have := Tryz.slices_DeleteFunc (Value.int .i64) (fun _ => rfl) (fun x => x == id) 176 #[.pointer (some ⟨B, 0, none⟩)] eg 0 zi g o c l.toArray w hp hover h.holds (by rw [hlen]; omega) (by rw [hlen]; exact hcap)
    rw [hlen] at this
    refine this.mono fun e w' ⟨he, q, hw⟩ => ?_
    subst hw
    have hfl : (l.filter fun x => !(x == id)).length ≤ l.length := List.length_filter_le _ _
    obtain ⟨h1, h2⟩ := h.put q ((l.filter fun x => !(x == id)) ++ List.replicate (l.length - (l.filter fun x => !(x == id)).length) 0).toArray (by simp; omega)
    refine ⟨some ⟨g, o, none⟩, c, by simpa using he, ?_, h2.mono (fun i hi e => by rw [e])⟩
    have h3 := Own.take h1 (l.filter fun x => !(x == id)).length (by simp)
    unfold OI
    have e4 : (I ((l.filter fun x => !(x == id)) ++ List.replicate (l.length - (l.filter fun x => !(x == id)).length) 0).toArray.toList).take ((l.filter fun x => !(x == id)).length * 1) = I (l.filter fun x => !(x == id)) := by
      rw [← I_take, Nat.mul_one]
      simp
    rw [e4] at h3
    exact h3
section
variable {w : World} {t : Nat} {F : Nat → Prop} {s : T}
theorem TB.cells (h : TB w t F s) : ∃ A c G b, Asd (w.heap[t]? = some (.cells #[.int .i64 s.lease, .int .i64 s.left, .int .i64 s.holder, .slice A s.queue.length c, .map (some b)] 141 (0, 0))) ∧ Asd (OI w (.slice A s.queue.length c) s.queue G) ∧ Asd (mapV w Tryz.prog 3 b (RI s.roles)) ∧ Asd (t ≠ b ∧ some t ≠ G ∧ some b ≠ G) ∧ Asd (∀ k, F k ↔ k = t ∨ k = b ∨ some k = G) ∧ t < w.heap.size := by
  obtain ⟨A, c, G, b, hb, ho, hm, h1, h2, h3, hF⟩ := h.has
  exact ⟨A, c, G, b, ⟨hb⟩, ⟨ho⟩, ⟨hm⟩, ⟨h1, h2, h3⟩, ⟨hF⟩, blk_lt hb⟩
set_option maxHeartbeats 400000 in
theorem holder_calls (h : TB w t F s) : Calls Tryz.prog 65 #[.pointer (some ⟨t, 0, none⟩)] w fun e w' => e = .returned (.int .i64 s.holder) ∧ w = w' := by
  obtain ⟨A, c, G, b, HB, _⟩ := h.cells
  have c2 := keepsC (o := 2) HB.out rfl
  clear h HB
  go_enter Tryz.func65, Tryz.ntmps65
  go_wp2
  go_ret
  exact ⟨rfl, rfl⟩
def idOk (x : Int) : Prop := -9223372036854775808 ≤ x ∧ x ≤ 9223372036854775807
theorem zrole : ∀ w, (zeroValue 49).run Tryz.prog w = .ok (.int .i64 0) w := fun w => by kernel_rfl
theorem TB.looks (h : TB w t F s) (x : Int) (hx : idOk x) (b : Nat) (hm : mapV w Tryz.prog 3 b (RI s.roles)) : ∀ W, Upd (fun _ => False) w W → (Instr.lookup 139 (.map (some b)) (.int .i64 x) true).run Tryz.prog W = .ok (.tuple #[.int .i64 ((rget s.roles x).getD 0), .bool (rget s.roles x).isSome]) W := fun W k => by
  rw [(hm.upd k (fun h => h)).look Tryz.underlying3 Tryz.underlying139 zrole x hx, RI_get]
  cases rget s.roles x <;> rfl
set_option maxHeartbeats 400000 in
theorem role_calls (h : TB w t F s) (x : Int) (hx : idOk x) : Calls Tryz.prog 64 #[.pointer (some ⟨t, 0, none⟩), .int .i64 x] w fun e w' => e = .returned (.tuple #[.int .i64 ((rget s.roles x).getD 0), .bool (rget s.roles x).isSome]) ∧ w = w' := by
  obtain ⟨A, c, G, b, HB, HO, HM, _⟩ := h.cells
  have c4 := keepsC (o := 4) HB.out rfl
  have hl := h.looks x hx b HM.out
  clear h HB HO HM hx
  go_enter Tryz.func64, Tryz.ntmps64
  go_wp2
  go_ret2
  exact ⟨rfl, rfl⟩
def forget (s : T) (id : Int) : T := { s with queue := s.queue.filter fun x => !(x == id) }
set_option maxHeartbeats 1000000 in
theorem forget_calls (h : TB w t F s) (id : Int) (hq : s.queue.length ≤ 1000000) : Calls Tryz.prog 155 #[.pointer (some ⟨t, 0, none⟩), .int .i64 id] w (Turns (.tuple #[]) (forget s id) t F w) := by
  obtain ⟨A, c, G, b, HB, HO, HM, HN, HF, hts⟩ := h.cells
  have hbl := HM.out.lt
  have c3 := keepsC (o := 3) HB.out rfl
  have hbox := heap_alloc_new w (.cells #[.int .i64 id] 3)
  have HK := (Upd.refl (fun _ => False) w).alloc (.cells #[.int .i64 id] 3)
  obtain ⟨w1, hw1⟩ : ∃ w1, w1 = w.alloc (.cells #[.int .i64 id] 3) := ⟨_, rfl⟩
  rw [← hw1] at hbox HK
  clear h
  go_enter Tryz.func155, Tryz.ntmps155
  go_wp2_with fail
  rw [← hw1]
  clear hw1
  refine (clone_calls (HO.out.up HK) hq).mono ?_
  rintro e w2 ⟨A2, c2, G2, rfl, h1, h2, h3⟩
  have HO2 := Asd.mk h1
  have HG2 := Asd.mk h2
  have HK2 := Asd.mk (HK.trans h3 (fun _ _ h => h))
  have hbox2 := h3.blk hbox (fun h => h)
  have hlt : w.heap.size < w1.heap.size := blk_lt hbox
  clear h1 h2 h3 hbox HO c3
  have hw2 := HK
  go_wp2_with fail
  refine (del_calls HO2.out hq id w.heap.size (by simp [World.cell?, hbox2]) (fun e => by have := HG2.out _ e.symm; omega)).mono ?_
  rintro e w3 ⟨A3, c3, rfl, h1, h2⟩
  have HO3 := Asd.mk h1
  have HU3 : Asd (Upd (fun _ => False) w w3) := ⟨HK2.out.trans h2 (fun i hi e => by have := HG2.out _ e.symm; omega)⟩
  have hb3 := HU3.out.blk HB.out (fun h => h)
  have HM3 := Asd.mk (HM.out.upd HU3.out (fun h => h))
  have HB3 := Asd.mk hb3
  have d3 := keepsC (o := 3) hb3 rfl
  have f3 := keepsF (o := 3) hb3
  clear h1 h2 hb3 HB HM hbox2 HK2 hw2 HK HO2
  go_wp2
  go_end0
  have hb4 := blk_setCell (o := 3) HB3.out (.slice A3 (s.queue.filter fun x => !(x == id)).length c3)
  have hk4 : Upd (fun i => i = t) w3 (w3.setCell ⟨t, 3, none⟩ (.slice A3 (s.queue.filter fun x => !(x == id)).length c3)) := Upd.setAt (Upd.refl _ _) (.inl rfl)
  obtain ⟨n1, n2, n3⟩ := HN.out
  have hg : ∀ g, G2 = some g → w.heap.size < g := fun g e => by have := HG2.out g e; omega
  refine ⟨rfl, fun k => k = t ∨ k = b ∨ some k = G2, ⟨⟨A3, c3, G2, b, hb4, HO3.out.upd hk4 (fun g e e2 => by have := hg g e; omega), HM3.out.upd hk4 (fun e => n1 e.symm), n1, fun e => by have := hg _ e.symm; omega, fun e => by have := hg _ e.symm; omega, fun k => Iff.rfl⟩⟩, (HU3.out.mono (fun _ _ h => h.elim)).trans hk4 (fun i hi e => (HF.out i).2 (.inl e)), fun k hk => ?_⟩
  rcases hk with e | e | e
  · exact .inl ((HF.out k).2 (.inl e))
  · exact .inl ((HF.out k).2 (.inr (.inl e)))
  · exact .inr (by have := hg k e.symm; omega)
def tc (s : T) (A : Option Addr) (c b : Nat) : Obj := .cells #[.int .i64 s.lease, .int .i64 s.left, .int .i64 s.holder, .slice A s.queue.length c, .map (some b)] 141 (0, 0)
theorem TB.with {w2 : World} {s' : T} (h : TB w t F s) (hu : Upd (fun i => i = t) w w2) (hb : ∀ A c b, w.heap[t]? = some (tc s A c b) → w2.heap[t]? = some (tc s' A c b)) (hq : s'.queue = s.queue) (hr : s'.roles = s.roles) : TB w2 t F s' := by
  obtain ⟨A, c, G, b, h0, ho, hm, h1, h2, h3, hF⟩ := h.has
  have := hb A c b h0
  refine ⟨A, c, G, b, this, ?_, ?_, h1, h2, h3, hF⟩
  · rw [hq]
    exact ho.upd hu (fun g e e2 => h2 (by rw [e, e2]))
  · rw [hr]
    exact hm.upd hu (fun e => h1 e.symm)
theorem Turns.then {w1 w2 : World} {F1 F2 : Nat → Prop} {s' : T} (hu : Upd F w w1) (hf : ∀ k, F1 k → F k ∨ w.heap.size ≤ k) (h2 : TB w2 t F2 s') (hu2 : Upd F1 w1 w2) (hf2 : ∀ k, F2 k → F1 k ∨ w1.heap.size ≤ k) : ∃ F', TB w2 t F' s' ∧ Upd F w w2 ∧ ∀ k, F' k → F k ∨ w.heap.size ≤ k :=
  ⟨F2, h2, hu.trans hu2 (fun i hi h => (hf i h).elim (fun h => h) (fun h => absurd hi (by omega))), fun k hk => (hf2 k hk).elim (fun h => hf k h) (fun h => .inr (Nat.le_trans hu.size h))⟩
theorem Turns.at {w1 w2 : World} {F1 : Nat → Prop} {s' : T} (hu : Upd F w w1) (hf : ∀ k, F1 k → F k ∨ w.heap.size ≤ k) (h2 : TB w2 t F1 s') (hu2 : Upd (fun i => i = t) w1 w2) : ∃ F', TB w2 t F' s' ∧ Upd F w w2 ∧ ∀ k, F' k → F k ∨ w.heap.size ≤ k :=
  Turns.then hu hf h2 (hu2.mono (fun i hi e => by obtain ⟨A, c, G, b, _, _, _, _, _, _, hF⟩ := h2.has; exact (hF i).2 (.inl e))) (fun k h => .inl h)
theorem TB.own (h : TB w t F s) : F t := by obtain ⟨A, c, G, b, _, _, _, _, _, _, hF⟩ := h.has; exact (hF t).2 (.inl rfl)
def grant (s : T) (id : Int) : T := { forget s id with holder := id, left := s.lease }
set_option maxHeartbeats 1000000 in
theorem grant_calls (h : TB w t F s) (id : Int) (hq : s.queue.length ≤ 1000000) : Calls Tryz.prog 119 #[.pointer (some ⟨t, 0, none⟩), .int .i64 id] w (Turns (.tuple #[]) (grant s id) t F w) := by
  go_enter Tryz.func119, Tryz.ntmps119
  go_wp2_with fail
  refine (forget_calls h id hq).mono ?_
  rintro e w1 ⟨rfl, F1, ht, hu, hf⟩
  have HT := Asd.mk ht
  have HU := Asd.mk (And.intro hu hf)
  obtain ⟨A, c, G, b, HB, HO, HM, HN, HF, hts⟩ := ht.cells
  have c0 := keepsC (o := 0) HB.out rfl
  have c1 := keepsC (o := 1) HB.out rfl
  have c2 := keepsC (o := 2) HB.out rfl
  have f0 := fun o => keepsF (o := o) HB.out
  have hle : (forget s id).lease = s.lease := rfl
  rw [hle] at c0
  clear h hu hf ht HB HO HM HN HF hle
  go_wp2
  go_end0
  refine ⟨rfl, Turns.at HU.out.1 HU.out.2 (s' := grant s id) (HT.out.with (s' := grant s id) (by repeat (first | assumption | with_reducible exact Upd.refl _ _ | with_reducible refine Upd.drewN ?_ _ | with_reducible refine Upd.drew ?_ | with_reducible refine Upd.alloc ?_ _ | with_reducible refine Upd.setAt ?_ ?_ | exact Or.inl rfl | exact Or.inr (by simp) | exact Or.inr (by omega))) (fun A c b hb => ?_) rfl rfl) (by repeat (first | assumption | with_reducible exact Upd.refl _ _ | with_reducible refine Upd.drewN ?_ _ | with_reducible refine Upd.drew ?_ | with_reducible refine Upd.alloc ?_ _ | with_reducible refine Upd.setAt ?_ ?_ | exact Or.inl rfl | exact Or.inr (by simp) | exact Or.inr (by omega)))⟩
  have h1 := blk_setCell (o := 1) (blk_setCell (o := 2) hb (.int .i64 id)) (.int .i64 s.lease)
  exact h1
def zero (s : T) : T := { s with holder := 0, left := 0 }
def pass (s : T) : T := match s.queue with
  | [] => zero s
  | q :: _ => grant (zero s) q
set_option maxHeartbeats 1000000 in
theorem pass_calls (h : TB w t F s) (hq : s.queue.length ≤ 1000000) : Calls Tryz.prog 92 #[.pointer (some ⟨t, 0, none⟩)] w (Turns (.tuple #[]) (pass s) t F w) := by
  obtain ⟨A, c, G, b, HB, HO, HM, HN, HF, hts⟩ := h.cells
  have c0 := keepsC (o := 0) HB.out rfl
  have c1 := keepsC (o := 1) HB.out rfl
  have c2 := keepsC (o := 2) HB.out rfl
  have c3 := keepsC (o := 3) HB.out rfl
  have f0 := fun o => keepsF (o := o) HB.out
  have h1 : TB ((w.setCell ⟨t, 2, none⟩ (.int .i64 0)).setCell ⟨t, 1, none⟩ (.int .i64 0)) t F (zero s) := h.with (s' := zero s) (by repeat (first | assumption | with_reducible exact Upd.refl _ _ | with_reducible refine Upd.drewN ?_ _ | with_reducible refine Upd.drew ?_ | with_reducible refine Upd.alloc ?_ _ | with_reducible refine Upd.setAt ?_ ?_ | exact Or.inl rfl | exact Or.inr (by simp) | exact Or.inr (by omega))) (fun A c b hb => blk_setCell (o := 1) (blk_setCell (o := 2) hb (.int .i64 0)) (.int .i64 0)) rfl rfl
  have H1 := Asd.mk h1
  have HT := Asd.mk h.own
  have hqz : (zero s).queue = s.queue := rfl
  have hz : (zero s).queue.length ≤ 1000000 := hq
  have HZ := Asd.mk hz
  clear h h1 hqz hz
  cases hqs : s.queue with
  | nil =>
    have hp : pass s = zero s := by unfold pass; rw [hqs]
    rw [hp]
    rw [hqs] at c3
    simp only [List.length_nil] at c3
    clear hp hqs hq
    go_enter Tryz.func92, Tryz.ntmps92
    go_wp2
    go_end0
    exact ⟨rfl, F, H1.out, (show Upd (fun i => i = t) _ _ from (by repeat (first | assumption | with_reducible exact Upd.refl _ _ | with_reducible refine Upd.drewN ?_ _ | with_reducible refine Upd.drew ?_ | with_reducible refine Upd.alloc ?_ _ | with_reducible refine Upd.setAt ?_ ?_ | exact Or.inl rfl | exact Or.inr (by simp) | exact Or.inr (by omega)))).mono (fun i hi e => by rw [e]; exact HT.out), fun k hk => .inl hk⟩
  | cons q r =>
    have hp : pass s = grant (zero s) q := by unfold pass; rw [hqs]
    rw [hp]
    obtain ⟨ad, rfl, hcell⟩ := HO.out.at 0 (by rw [hqs]; simp)
    have hq0 : s.queue[0]'(by rw [hqs]; simp) = q := by simp [hqs]
    rw [hq0] at hcell
    rw [hqs] at c3
    have hlen : 0 < (q :: r).length := by simp
    have hne : ad.block ≠ t := fun e => HN.out.2.1 (by
      have := Own.slice HO.out
      obtain ⟨A', c', hv, _, _, _, hG⟩ := this
      injection hv with e1
      rw [← e]
      exact (hG ad e1.symm).symm)
    have hcw := fun W (k : Upd (fun i => i = t) w W) => k.cell hcell (by simp only [add_block]; exact hne)
    have hcw2 := hcw ((w.setCell ⟨t, 2, none⟩ (.int .i64 0)).setCell ⟨t, 1, none⟩ (.int .i64 0)) (by repeat (first | assumption | with_reducible exact Upd.refl _ _ | with_reducible refine Upd.drewN ?_ _ | with_reducible refine Upd.drew ?_ | with_reducible refine Upd.alloc ?_ _ | with_reducible refine Upd.setAt ?_ ?_ | exact Or.inl rfl | exact Or.inr (by simp) | exact Or.inr (by omega)))
    obtain ⟨n, hn⟩ : ∃ n, n = (q :: r).length := ⟨_, rfl⟩
    rw [← hn] at c3 hlen
    rw [hqs, ← hn] at hq
    clear hp hqs hq0 hn hcw hne hcell
    rw [show ad.add 0 = ad from rfl] at hcw2
    have hni : (0 : Int) < (n : Int) := by omega
    have HU := Asd.mk ((show Upd (fun i => i = t) w ((w.setCell ⟨t, 2, none⟩ (.int .i64 0)).setCell ⟨t, 1, none⟩ (.int .i64 0)) from (by repeat (first | assumption | with_reducible exact Upd.refl _ _ | with_reducible refine Upd.drewN ?_ _ | with_reducible refine Upd.drew ?_ | with_reducible refine Upd.alloc ?_ _ | with_reducible refine Upd.setAt ?_ ?_ | exact Or.inl rfl | exact Or.inr (by simp) | exact Or.inr (by omega)))).mono (T := F) (fun i hi e => by rw [e]; exact HT.out))
    go_enter Tryz.func92, Tryz.ntmps92
    go_wp2_with fail
    refine (grant_calls H1.out q HZ.out).mono ?_
    rintro e w2 ⟨rfl, F2, ht, hu, hf⟩
    have HE := Asd.mk (Turns.then HU.out (fun k h => .inl h) ht hu hf)
    clear ht hu hf
    go_wp2
    go_end0
    exact ⟨rfl, HE.out⟩
theorem forget_len (s : T) (id : Int) (hq : s.queue.length ≤ 1000000) : (forget s id).queue.length ≤ 1000000 := Nat.le_trans (List.length_filter_le _ _) hq
def lose (s : T) (id : Int) : T := if s.holder = id then pass (forget s id) else forget s id
set_option maxHeartbeats 1000000 in
theorem lose_calls (h : TB w t F s) (id : Int) (hq : s.queue.length ≤ 1000000) : Calls Tryz.prog 118 #[.pointer (some ⟨t, 0, none⟩), .int .i64 id] w (Turns (.tuple #[]) (lose s id) t F w) := by
  go_enter Tryz.func118, Tryz.ntmps118
  go_wp2_with fail
  refine (forget_calls h id hq).mono ?_
  rintro e w1 ⟨rfl, F1, ht, hu, hf⟩
  have HT := Asd.mk ht
  have HU := Asd.mk (And.intro hu hf)
  obtain ⟨A, c, G, b, HB, _⟩ := ht.cells
  have c2 := keepsC (o := 2) HB.out rfl
  have hle : (forget s id).holder = s.holder := rfl
  have HL := Asd.mk (forget_len s id hq)
  rw [hle] at c2
  clear h hu hf ht HB hle hq
  by_cases hid : s.holder = id
  · have hp : lose s id = pass (forget s id) := if_pos hid
    have HP := Asd.mk hp
    rw [hid] at c2
    have hb : (id == id) = true := by simp
    clear hp hid
    go_wp2_with fail
    refine (pass_calls HT.out HL.out).mono ?_
    rintro e w2 ⟨rfl, F2, ht, hu, hf⟩
    have HE := Asd.mk (Turns.then HU.out.1 HU.out.2 ht hu hf)
    clear ht hu hf
    go_wp2
    go_end0
    exact ⟨rfl, by rw [HP.out]; exact HE.out⟩
  · have hp : lose s id = forget s id := if_neg hid
    have HP := Asd.mk hp
    have hb : (s.holder == id) = false := beq_eq_false_iff_ne.2 hid
    clear hp hid
    go_wp2
    go_end0
    exact ⟨rfl, by rw [HP.out]; exact ⟨F1, HT.out, HU.out.1, HU.out.2⟩⟩
def joins (s : T) (id r : Int) : Bool := !(rget s.roles id).isSome && (decide (1 ≤ id) && (decide (0 ≤ r) && decide (r ≤ 2)))
def join (s : T) (id r : Int) : T := if joins s id r then { s with roles := rput s.roles id r } else s
theorem TB.roled {w2 : World} {A : Option Addr} {c b : Nat} {G : Option Nat} {R : List (Int × Int)} (HB : Asd (w.heap[t]? = some (.cells #[.int .i64 s.lease, .int .i64 s.left, .int .i64 s.holder, .slice A s.queue.length c, .map (some b)] 141 (0, 0)))) (HO : Asd (OI w (.slice A s.queue.length c) s.queue G)) (HN : Asd (t ≠ b ∧ some t ≠ G ∧ some b ≠ G)) (HF : Asd (∀ k, F k ↔ k = t ∨ k = b ∨ some k = G)) (hu : Upd (fun i => i = b) w w2) (hm : mapV w2 Tryz.prog 3 b (RI R)) : TB w2 t F { s with roles := R } :=
  ⟨A, c, G, b, hu.blk HB.out HN.out.1, HO.out.upd hu (fun g e e2 => HN.out.2.2 (by rw [e, e2])), hm, HN.out.1, HN.out.2.1, HN.out.2.2, HF.out⟩
set_option maxHeartbeats 1000000 in
theorem join_calls (h : TB w t F s) (id r : Int) (hid : idOk id) (hr : s.roles.length ≤ 1000000) : Calls Tryz.prog 100 #[.pointer (some ⟨t, 0, none⟩), .int .i64 id, .int .i64 r] w (Turns (.bool (joins s id r)) (join s id r) t F w) := by
  have HT := Asd.mk h
  obtain ⟨A, c, G, b, HB, HO, HM, HN, HF, hts⟩ := h.cells
  have c4 := keepsC (o := 4) HB.out rfl
  have hl := h.looks id hid b HM.out
  clear h
  have stay : joins s id r = false → Turns (.bool false) (join s id r) t F w (.returned (.bool false)) w := fun e => ⟨rfl, F, by unfold join; rw [e]; exact HT.out, Upd.refl _ _, fun k h => .inl h⟩
  have HS := Asd.mk stay
  clear stay
  obtain ⟨g, hg⟩ : ∃ g, g = rget s.roles id := ⟨_, rfl⟩
  rw [← hg] at hl
  cases hgs : g with
  | some x =>
    have hj : joins s id r = false := by unfold joins; rw [← hg, hgs]; rfl
    have HE := Asd.mk (HS.out hj)
    rw [hj]
    rw [hgs] at hl
    simp only [Option.getD_some, Option.isSome_some] at hl
    clear HS hg hgs hj
    go_enter Tryz.func100, Tryz.ntmps100
    go_wp2
    go_ret
    exact HE.out
  | none =>
    have hj : joins s id r = (decide (1 ≤ id) && (decide (0 ≤ r) && decide (r ≤ 2))) := by unfold joins; rw [← hg, hgs]; rfl
    rw [hgs] at hl
    simp only [Option.getD_none, Option.isSome_none] at hl
    clear hg hgs
    by_cases hok : 1 ≤ id ∧ 0 ≤ r ∧ r ≤ 2
    · obtain ⟨h1, h2, h3⟩ := hok
      have hj2 : joins s id r = true := by rw [hj]; simp [h1, h2, h3]
      have hjn : join s id r = { s with roles := rput s.roles id r } := if_pos hj2
      rw [hj2, hjn]
      have n1 : ¬ id < 1 := by omega
      have n2 : ¬ r < 0 := by omega
      have n3 : ¬ 2 < r := by omega
      clear HS hj hj2 hjn h1 h2 h3
      go_enter Tryz.func100, Tryz.ntmps100
      go_wp2_with (with_reducible refine stop_mapUpdate 139 _ _ _ rfl ?_)
      refine wp_mapUpdate rfl 139 _ _ _ rfl HM.out Tryz.underlying3 Tryz.underlying139 (by rw [RI_length]; simp only [maxLen]; omega) id (.int .i64 r) rfl rfl rfl hid ?_
      intro w1 hm hu
      rw [← RI_put] at hm
      have HE := Asd.mk (And.intro (TB.roled HB HO HN HF hu hm) (hu.mono (T := F) (fun i hi e => by rw [e]; exact (HF.out b).2 (.inr (.inl rfl)))))
      clear hm hu
      go_wp2
      go_ret
      exact ⟨rfl, F, HE.out.1, HE.out.2, fun k h => .inl h⟩
    · have hj2 : joins s id r = false := by
        rw [hj]
        by_cases h1 : 1 ≤ id
        · by_cases h2 : 0 ≤ r
          · have h3 : ¬ r ≤ 2 := fun h3 => hok ⟨h1, h2, h3⟩
            simp [h3]
          · simp [h2]
        · simp [h1]
      have HE := Asd.mk (HS.out hj2)
      rw [hj2]
      clear HS hj hj2
      rcases (by omega : id < 1 ∨ (1 ≤ id ∧ r < 0) ∨ (1 ≤ id ∧ 0 ≤ r ∧ 2 < r)) with h1 | ⟨h1, h2⟩ | ⟨h1, h2, h3⟩
      all_goals
        clear hok
        go_enter Tryz.func100, Tryz.ntmps100
        go_wp2
        go_ret
        exact HE.out
theorem pass_roles (s : T) : (pass s).roles = s.roles := by unfold pass; split <;> rfl
theorem lose_roles (s : T) (id : Int) : (lose s id).roles = s.roles := by unfold lose; split; rw [pass_roles]; rfl; rfl
def leaves (s : T) (id : Int) : Bool := (rget s.roles id).isSome
def leave (s : T) (id : Int) : T := if leaves s id then { lose s id with roles := rdel s.roles id } else s
set_option maxHeartbeats 1000000 in
theorem leave_calls (h : TB w t F s) (id : Int) (hid : idOk id) (hq : s.queue.length ≤ 1000000) : Calls Tryz.prog 91 #[.pointer (some ⟨t, 0, none⟩), .int .i64 id] w (Turns (.bool (leaves s id)) (leave s id) t F w) := by
  have HT := Asd.mk h
  obtain ⟨A, c, G, b, HB, HO, HM, HN, HF, hts⟩ := h.cells
  have c4 := keepsC (o := 4) HB.out rfl
  have hl := h.looks id hid b HM.out
  clear h
  cases hgs : rget s.roles id with
  | none =>
    have hv : leaves s id = false := by unfold leaves; rw [hgs]; rfl
    have hl2 : leave s id = s := by unfold leave; rw [hv]; rfl
    rw [hv, hl2]
    rw [hgs] at hl
    simp only [Option.getD_none, Option.isSome_none] at hl
    clear hgs hv hl2 HB HO HM HN HF
    go_enter Tryz.func91, Tryz.ntmps91
    go_wp2
    go_ret
    exact ⟨rfl, F, HT.out, Upd.refl _ _, fun k h => .inl h⟩
  | some r =>
    have hv : leaves s id = true := by unfold leaves; rw [hgs]; rfl
    have hl2 : leave s id = { lose s id with roles := rdel s.roles id } := by unfold leave; rw [hv]; rfl
    rw [hv, hl2]
    rw [hgs] at hl
    simp only [Option.getD_some, Option.isSome_some] at hl
    clear hgs hv hl2 HB HO HM HN HF
    go_enter Tryz.func91, Tryz.ntmps91
    go_wp2_with fail
    refine (lose_calls HT.out id hq).mono ?_
    rintro e w1 ⟨rfl, F1, ht, hu, hf⟩
    have HU := Asd.mk (And.intro hu hf)
    obtain ⟨A, c, G, b, HB, HO, HM, HN, HF, hts⟩ := ht.cells
    have c4 := keepsC (o := 4) HB.out rfl
    clear hu hf ht hl HT
    go_wp2_with (with_reducible refine stop_delete _ _ 139 3 rfl ?_)
    refine wp_delete rfl 139 _ _ rfl HM.out Tryz.underlying3 Tryz.underlying139 id rfl rfl hid ?_
    intro w2 hm hu
    rw [← RI_del, lose_roles] at hm
    have HE := Asd.mk (Turns.then HU.out.1 HU.out.2 (TB.roled HB HO HN HF hu hm) (hu.mono (T := F1) (fun i hi e => by rw [e]; exact (HF.out b).2 (.inr (.inl rfl)))) (fun k h => .inl h))
    clear hm hu
    go_wp2
    go_ret
    exact ⟨rfl, HE.out⟩
def sets (s : T) (id r : Int) : Bool := (rget s.roles id).isSome && (decide (0 ≤ r) && decide (r ≤ 2))
def setRole (s : T) (id r : Int) : T := if sets s id r then (if r = 0 then lose { s with roles := rput s.roles id r } id else { s with roles := rput s.roles id r }) else s
set_option maxHeartbeats 1000000 in
theorem set_calls (h : TB w t F s) (id r : Int) (hid : idOk id) (hq : s.queue.length ≤ 1000000) (hr : s.roles.length ≤ 1000000) : Calls Tryz.prog 165 #[.pointer (some ⟨t, 0, none⟩), .int .i64 id, .int .i64 r] w (Turns (.bool (sets s id r)) (setRole s id r) t F w) := by
  have HT := Asd.mk h
  obtain ⟨A, c, G, b, HB, HO, HM, HN, HF, hts⟩ := h.cells
  have c4 := keepsC (o := 4) HB.out rfl
  have hl := h.looks id hid b HM.out
  clear h
  have stay : sets s id r = false → Turns (.bool false) (setRole s id r) t F w (.returned (.bool false)) w := fun e => ⟨rfl, F, by unfold setRole; rw [e]; exact HT.out, Upd.refl _ _, fun k h => .inl h⟩
  have HS := Asd.mk stay
  clear stay
  cases hgs : rget s.roles id with
  | none =>
    have hv : sets s id r = false := by unfold sets; rw [hgs]; rfl
    have HE := Asd.mk (HS.out hv)
    rw [hv]
    rw [hgs] at hl
    simp only [Option.getD_none, Option.isSome_none] at hl
    clear hgs hv HB HO HM HN HF HS
    go_enter Tryz.func165, Tryz.ntmps165
    go_wp2
    go_ret
    exact HE.out
  | some x =>
    have hj : sets s id r = (decide (0 ≤ r) && decide (r ≤ 2)) := by unfold sets; rw [hgs]; rfl
    rw [hgs] at hl
    simp only [Option.getD_some, Option.isSome_some] at hl
    clear hgs
    by_cases hok : 0 ≤ r ∧ r ≤ 2
    · obtain ⟨h2, h3⟩ := hok
      have hj2 : sets s id r = true := by rw [hj]; simp [h2, h3]
      rw [hj2]
      have n2 : ¬ r < 0 := by omega
      have n3 : ¬ 2 < r := by omega
      have HJ := Asd.mk (show setRole s id r = if r = 0 then lose { s with roles := rput s.roles id r } id else { s with roles := rput s.roles id r } from if_pos hj2)
      clear HS hj hj2 h2 h3
      go_enter Tryz.func165, Tryz.ntmps165
      go_wp2_with (with_reducible refine stop_mapUpdate 139 _ _ _ rfl ?_)
      refine wp_mapUpdate rfl 139 _ _ _ rfl HM.out Tryz.underlying3 Tryz.underlying139 (by rw [RI_length]; simp only [maxLen]; omega) id (.int .i64 r) rfl rfl rfl hid ?_
      intro w1 hm hu
      rw [← RI_put] at hm
      have H1 := Asd.mk (TB.roled HB HO HN HF hu hm)
      have H2 := Asd.mk (hu.mono (T := F) (fun i hi e => by rw [e]; exact (HF.out b).2 (.inr (.inl rfl))))
      clear hm hu
      by_cases h0 : r = 0
      · subst h0
        go_wp2_with fail
        refine (lose_calls H1.out id hq).mono ?_
        rintro e w2 ⟨rfl, F2, ht, hu, hf⟩
        have HE := Asd.mk (Turns.then H2.out (fun k h => .inl h) ht hu hf)
        clear ht hu hf
        go_wp2
        go_ret
        exact ⟨rfl, by rw [HJ.out]; simpa using HE.out⟩
      · have hb0 : (r == 0) = false := beq_eq_false_iff_ne.2 h0
        have HJ2 := Asd.mk (HJ.out.trans (if_neg h0))
        clear h0
        go_wp2
        go_ret
        exact ⟨rfl, by rw [HJ2.out]; exact ⟨F, H1.out, H2.out, fun k h => .inl h⟩⟩
    · have hj2 : sets s id r = false := by
        rw [hj]
        by_cases h2 : 0 ≤ r
        · have h3 : ¬ r ≤ 2 := fun h3 => hok ⟨h2, h3⟩
          simp [h3]
        · simp [h2]
      have HE := Asd.mk (HS.out hj2)
      rw [hj2]
      clear HS hj hj2
      rcases (by omega : r < 0 ∨ (0 ≤ r ∧ 2 < r)) with h1 | ⟨h1, h2⟩
      all_goals
        clear hok
        go_enter Tryz.func165, Tryz.ntmps165
        go_wp2
        go_ret
        exact HE.out
def may (s : T) (id : Int) : Int := match rget s.roles id with
  | none => 2
  | some r => if r = 0 then 4 else if s.holder = id then 3 else 0
set_option maxHeartbeats 1000000 in
theorem may_calls (h : TB w t F s) (id : Int) (hid : idOk id) : Calls Tryz.prog 161 #[.pointer (some ⟨t, 0, none⟩), .int .i64 id] w fun e w' => e = .returned (.int .i64 (may s id)) ∧ w = w' := by
  obtain ⟨A, c, G, b, HB, HO, HM, HN, HF, hts⟩ := h.cells
  have c4 := keepsC (o := 4) HB.out rfl
  have c2 := keepsC (o := 2) HB.out rfl
  have hl := h.looks id hid b HM.out
  clear h HB HO HM HN HF
  cases hgs : rget s.roles id with
  | none =>
    have hv : may s id = 2 := by unfold may; rw [hgs]
    rw [hv]
    rw [hgs] at hl
    simp only [Option.getD_none, Option.isSome_none] at hl
    clear hgs hv
    go_enter Tryz.func161, Tryz.ntmps161
    go_wp2
    go_ret
    exact ⟨rfl, rfl⟩
  | some r =>
    have hv : may s id = if r = 0 then 4 else if s.holder = id then 3 else 0 := by unfold may; rw [hgs]
    rw [hv]
    rw [hgs] at hl
    simp only [Option.getD_some, Option.isSome_some] at hl
    clear hgs hv
    by_cases h0 : r = 0
    · subst h0
      rw [if_pos rfl]
      go_enter Tryz.func161, Tryz.ntmps161
      go_wp2
      go_ret
      exact ⟨rfl, rfl⟩
    · rw [if_neg h0]
      have hb0 : (r == 0) = false := beq_eq_false_iff_ne.2 h0
      by_cases h1 : s.holder = id
      · rw [if_pos h1]
        have hb1 : (s.holder == id) = true := beq_iff_eq.2 h1
        clear h0 h1
        go_enter Tryz.func161, Tryz.ntmps161
        go_wp2
        go_ret
        exact ⟨rfl, rfl⟩
      · rw [if_neg h1]
        have hb1 : (s.holder == id) = false := beq_eq_false_iff_ne.2 h1
        clear h0 h1
        go_enter Tryz.func161, Tryz.ntmps161
        go_wp2
        go_ret
        exact ⟨rfl, rfl⟩
def asks (s : T) (id : Int) : Int := if may s id ≠ 0 then may s id else if s.queue.contains id then 3 else 0
def ask (s : T) (id : Int) : T := if asks s id ≠ 0 then s else if s.holder = 0 then grant s id else { s with queue := s.queue ++ [id] }
set_option maxHeartbeats 1000000 in
theorem ask_calls (h : TB w t F s) (id : Int) (hid : idOk id) (hq : s.queue.length ≤ 1000000) : Calls Tryz.prog 130 #[.pointer (some ⟨t, 0, none⟩), .int .i64 id] w (Turns (.int .i64 (asks s id)) (ask s id) t F w) := by
  have HT := Asd.mk h
  obtain ⟨A, c, G, b, HB, HO, HM, HN, HF, hts⟩ := h.cells
  have c2 := keepsC (o := 2) HB.out rfl
  have c3 := keepsC (o := 3) HB.out rfl
  have f3 := fun o => keepsF (o := o) HB.out
  have hbl := HM.out.lt
  clear h
  obtain ⟨e0, he0⟩ : ∃ e0, e0 = may s id := ⟨_, rfl⟩
  have HM0 := Asd.mk he0
  have hA : asks s id = if e0 ≠ 0 then e0 else if s.queue.contains id then 3 else 0 := by unfold asks; rw [← he0]
  clear he0
  by_cases hne : e0 = 0
  · subst hne
    rw [if_neg (by simp)] at hA
    cases hct : s.queue.contains id with
    | true =>
      rw [hct, if_pos rfl] at hA
      have hk : ask s id = s := by unfold ask; rw [hA]; rfl
      have HCT := Asd.mk hct
      rw [hA, hk]
      clear hA hk hct
      go_enter Tryz.func130, Tryz.ntmps130
      go_wp2_with fail
      refine (may_calls HT.out id hid).mono ?_
      rw [← HM0.out]
      rintro e w1 ⟨rfl, rfl⟩
      go_wp2_with fail
      refine (contains_calls HO.out hq id).mono ?_
      rw [HCT.out]
      rintro e w1 ⟨rfl, rfl⟩
      go_wp2
      go_ret
      exact ⟨rfl, F, HT.out, Upd.refl _ _, fun k h => .inl h⟩
    | false =>
      rw [hct, if_neg (by simp)] at hA
      have hk : ask s id = if s.holder = 0 then grant s id else { s with queue := s.queue ++ [id] } := by unfold ask; rw [hA]; rfl
      have HCT := Asd.mk hct
      rw [hA, hk]
      clear hA hk hct
      by_cases hh : s.holder = 0
      · rw [if_pos hh]
        rw [hh] at c2
        have hhb : ((0 : Int) == 0) = true := rfl
        clear hh
        go_enter Tryz.func130, Tryz.ntmps130
        go_wp2_with fail
        refine (may_calls HT.out id hid).mono ?_
        rw [← HM0.out]
        rintro e w1 ⟨rfl, rfl⟩
        go_wp2_with fail
        refine (contains_calls HO.out hq id).mono ?_
        rw [HCT.out]
        rintro e w1 ⟨rfl, rfl⟩
        go_wp2_with fail
        refine (grant_calls HT.out id hq).mono ?_
        rintro e w2 ⟨rfl, hE⟩
        have HE := Asd.mk hE
        clear hE
        go_wp2
        go_ret
        exact ⟨rfl, HE.out⟩
      · rw [if_neg hh]
        have hhb : (s.holder == 0) = false := beq_eq_false_iff_ne.2 hh
        clear hh
        go_enter Tryz.func130, Tryz.ntmps130
        go_wp2_with fail
        refine (may_calls HT.out id hid).mono ?_
        rw [← HM0.out]
        rintro e w1 ⟨rfl, rfl⟩
        go_wp2_with fail
        refine (contains_calls HO.out hq id).mono ?_
        rw [HCT.out]
        rintro e w1 ⟨rfl, rfl⟩
        go_wp2_with fail
        refine (clone_calls HO.out hq).mono ?_
        rintro e w2 ⟨A2, cc2, G2, rfl, h1, h2, h3⟩
        have HO2 := Asd.mk (h1.up ((Upd.refl (fun _ => False) _).alloc (.cells #[.int .i64 id] 3)))
        have HG2 := Asd.mk h2
        have HK2 := Asd.mk (h3.alloc (.cells #[.int .i64 id] 3))
        have hq2 := Asd.mk hq
        clear h1 h2 h3 hq
        go_wp2_with (with_reducible refine stop_append _ _ _ _ rfl ?_)
        refine wp_appendI (S := fun _ => False) (w0 := w) HK2.out rfl _ _ 53 3 rfl Tryz.underlying53 rfl infoI rfl rfl HO2.out HG2.out (l2 := [id]) (m := 1) (c2 := 1) (Rd1 _ _) rfl (by have := hq2.out; omega) ?_
        intro A5 c5 w5 G5 hO5 hc5 hG5 hU5 _
        obtain ⟨q2, hq2e⟩ : ∃ q2, q2 = s.queue ++ [id] := ⟨_, rfl⟩
        rw [← hq2e] at hO5 hc5
        rw [← hq2e]
        have HQE := Asd.mk hq2e
        clear hq2e
        have hb5 := hU5.blk HB.out (fun h => h)
        have HO5 := Asd.mk hO5
        have HG5 := Asd.mk hG5
        have HU5 := Asd.mk hU5
        have HB5 := Asd.mk hb5
        have HM5 := Asd.mk (HM.out.upd hU5 (fun h => h))
        have f5 := fun o => keepsF (o := o) hb5
        have d3 := keepsC (o := 3) hb5 rfl
        clear hO5 hG5 hU5 hb5 HO2 HK2 HG2 c2 c3 f3
        go_wp2
        go_ret
        have hb6 := blk_setCell (o := 3) HB5.out (.slice A5 q2.length c5)
        have hk6 : Upd (fun i => i = t) w5 (w5.setCell ⟨t, 3, none⟩ (.slice A5 q2.length c5)) := (by repeat (first | assumption | with_reducible exact Upd.refl _ _ | with_reducible refine Upd.drewN ?_ _ | with_reducible refine Upd.drew ?_ | with_reducible refine Upd.alloc ?_ _ | with_reducible refine Upd.setAt ?_ ?_ | exact Or.inl rfl | exact Or.inr (by simp) | exact Or.inr (by omega)))
        have hqe := HQE.out
        rw [← hqe]
        obtain ⟨n1, n2, n3⟩ := HN.out
        refine ⟨rfl, fun k => k = t ∨ k = b ∨ some k = G5, ⟨⟨A5, c5, G5, b, hb6, HO5.out.upd hk6 (fun g e e2 => by have := HG5.out g e; omega), HM5.out.upd hk6 (fun e => n1 e.symm), n1, fun e => by have := HG5.out _ e.symm; omega, fun e => by have := HG5.out _ e.symm; omega, fun k => Iff.rfl⟩⟩, (HU5.out.mono (fun _ _ h => h.elim)).trans hk6 (fun i hi e => (HF.out i).2 (.inl e)), fun k hk => ?_⟩
        rcases hk with e | e | e
        · exact .inl ((HF.out k).2 (.inl e))
        · exact .inl ((HF.out k).2 (.inr (.inl e)))
        · exact .inr (HG5.out k e.symm)
  · rw [if_pos hne] at hA
    have hk : ask s id = s := by unfold ask; rw [hA, if_pos hne]
    rw [hA, hk]
    have hnb : (e0 != 0) = true := bne_iff_ne.2 hne
    clear hA hk hne
    go_enter Tryz.func130, Tryz.ntmps130
    go_wp2_with fail
    refine (may_calls HT.out id hid).mono ?_
    rw [← HM0.out]
    rintro e w1 ⟨rfl, rfl⟩
    go_wp2
    go_ret
    exact ⟨rfl, F, HT.out, Upd.refl _ _, fun k h => .inl h⟩
def drops (s : T) (id : Int) : Int := if (rget s.roles id).isSome = false then 2 else if s.holder ≠ id ∧ s.queue.contains id = false then 3 else 0
def drop (s : T) (id : Int) : T := if drops s id = 0 then lose s id else s
set_option maxHeartbeats 1000000 in
theorem drop_calls (h : TB w t F s) (id : Int) (hid : idOk id) (hq : s.queue.length ≤ 1000000) : Calls Tryz.prog 131 #[.pointer (some ⟨t, 0, none⟩), .int .i64 id] w (Turns (.int .i64 (drops s id)) (drop s id) t F w) := by
  have HT := Asd.mk h
  obtain ⟨A, c, G, b, HB, HO, HM, HN, HF, hts⟩ := h.cells
  have c4 := keepsC (o := 4) HB.out rfl
  have c2 := keepsC (o := 2) HB.out rfl
  have c3 := keepsC (o := 3) HB.out rfl
  have hl := h.looks id hid b HM.out
  clear h HB HM HN HF
  cases hgs : rget s.roles id with
  | none =>
    have hv : drops s id = 2 := by unfold drops; rw [hgs]; rfl
    have hl2 : drop s id = s := by unfold drop; rw [hv]; rfl
    rw [hv, hl2]
    rw [hgs] at hl
    simp only [Option.getD_none, Option.isSome_none] at hl
    clear hgs hv hl2
    go_enter Tryz.func131, Tryz.ntmps131
    go_wp2
    go_ret
    exact ⟨rfl, F, HT.out, Upd.refl _ _, fun k h => .inl h⟩
  | some r =>
    have hv : drops s id = if s.holder ≠ id ∧ s.queue.contains id = false then 3 else 0 := by unfold drops; rw [hgs]; rfl
    rw [hgs] at hl
    simp only [Option.getD_some, Option.isSome_some] at hl
    clear hgs
    by_cases hh : s.holder = id
    · rw [if_neg (fun h => h.1 hh)] at hv
      have hl2 : drop s id = lose s id := by unfold drop; rw [hv]; rfl
      rw [hv, hl2]
      have hhb : (s.holder != id) = false := by rw [hh]; simp
      clear hv hl2 hh
      go_enter Tryz.func131, Tryz.ntmps131
      go_wp2_with fail
      refine (lose_calls HT.out id hq).mono ?_
      rintro e w2 ⟨rfl, hE⟩
      have HE := Asd.mk hE
      clear hE
      go_wp2
      go_ret
      exact ⟨rfl, HE.out⟩
    · have hhb : (s.holder != id) = true := bne_iff_ne.2 hh
      cases hct : s.queue.contains id with
      | false =>
        rw [if_pos ⟨hh, hct⟩] at hv
        have hl2 : drop s id = s := by unfold drop; rw [hv]; rfl
        rw [hv, hl2]
        have HCT := Asd.mk hct
        clear hv hl2 hh hct
        go_enter Tryz.func131, Tryz.ntmps131
        go_wp2_with fail
        refine (contains_calls HO.out hq id).mono ?_
        rw [HCT.out]
        rintro e w1 ⟨rfl, rfl⟩
        go_wp2
        go_ret
        exact ⟨rfl, F, HT.out, Upd.refl _ _, fun k h => .inl h⟩
      | true =>
        rw [if_neg (fun h => by rw [hct] at h; cases h.2)] at hv
        have hl2 : drop s id = lose s id := by unfold drop; rw [hv]; rfl
        rw [hv, hl2]
        have HCT := Asd.mk hct
        clear hv hl2 hh hct
        go_enter Tryz.func131, Tryz.ntmps131
        go_wp2_with fail
        refine (contains_calls HO.out hq id).mono ?_
        rw [HCT.out]
        rintro e w1 ⟨rfl, rfl⟩
        go_wp2_with fail
        refine (lose_calls HT.out id hq).mono ?_
        rintro e w2 ⟨rfl, hE⟩
        have HE := Asd.mk hE
        clear hE
        go_wp2
        go_ret
        exact ⟨rfl, HE.out⟩
def give (s : T) (id : Int) : T := if may s id = 0 then grant s id else s
set_option maxHeartbeats 1000000 in
theorem give_calls (h : TB w t F s) (id : Int) (hid : idOk id) (hq : s.queue.length ≤ 1000000) : Calls Tryz.prog 164 #[.pointer (some ⟨t, 0, none⟩), .int .i64 id] w (Turns (.int .i64 (may s id)) (give s id) t F w) := by
  obtain ⟨e0, he0⟩ : ∃ e0, e0 = may s id := ⟨_, rfl⟩
  have HM0 := Asd.mk he0
  have hg : give s id = if e0 = 0 then grant s id else s := by unfold give; rw [← he0]
  rw [← he0]
  clear he0
  have HT := Asd.mk h
  clear h
  by_cases hne : e0 = 0
  · subst hne
    rw [hg, if_pos rfl]
    go_enter Tryz.func164, Tryz.ntmps164
    clear hg
    go_wp2_with fail
    refine (may_calls HT.out id hid).mono ?_
    rw [← HM0.out]
    rintro e w1 ⟨rfl, rfl⟩
    go_wp2_with fail
    refine (grant_calls HT.out id hq).mono ?_
    rintro e w2 ⟨rfl, hE⟩
    have HE := Asd.mk hE
    clear hE
    go_wp2
    go_ret
    exact ⟨rfl, HE.out⟩
  · rw [hg, if_neg hne]
    have hnb : (e0 != 0) = true := bne_iff_ne.2 hne
    clear hg hne
    go_enter Tryz.func164, Tryz.ntmps164
    go_wp2_with fail
    refine (may_calls HT.out id hid).mono ?_
    rw [← HM0.out]
    rintro e w1 ⟨rfl, rfl⟩
    go_wp2
    go_ret
    exact ⟨rfl, F, HT.out, Upd.refl _ _, fun k h => .inl h⟩
def revokes (s : T) : Int := if s.holder = 0 then 3 else 0
def revoke (s : T) : T := if s.holder = 0 then s else pass s
set_option maxHeartbeats 1000000 in
theorem revoke_calls (h : TB w t F s) (hq : s.queue.length ≤ 1000000) : Calls Tryz.prog 133 #[.pointer (some ⟨t, 0, none⟩)] w (Turns (.int .i64 (revokes s)) (revoke s) t F w) := by
  have HT := Asd.mk h
  obtain ⟨A, c, G, b, HB, _⟩ := h.cells
  have c2 := keepsC (o := 2) HB.out rfl
  clear h HB
  unfold revokes revoke
  by_cases hh : s.holder = 0
  · rw [if_pos hh, if_pos hh]
    rw [hh] at c2
    clear hh
    go_enter Tryz.func133, Tryz.ntmps133
    go_wp2
    go_ret
    exact ⟨rfl, F, HT.out, Upd.refl _ _, fun k h => .inl h⟩
  · rw [if_neg hh, if_neg hh]
    have hhb : (s.holder == 0) = false := beq_eq_false_iff_ne.2 hh
    clear hh
    go_enter Tryz.func133, Tryz.ntmps133
    go_wp2_with fail
    refine (pass_calls HT.out hq).mono ?_
    rintro e w2 ⟨rfl, hE⟩
    have HE := Asd.mk hE
    clear hE
    go_wp2
    go_ret
    exact ⟨rfl, HE.out⟩
def lessen (s : T) (n : Int) : T := { s with left := n }
def tick (s : T) : T := if s.holder = 0 then s else if 1 < s.left then lessen s (s.left - 1) else if s.queue = [] then lessen s s.lease else pass (lessen s s.lease)
set_option maxHeartbeats 2000000 in
theorem tick_calls (h : TB w t F s) (hq : s.queue.length ≤ 1000000) (hl : -1000 ≤ s.left ∧ s.left ≤ 1000000) : Calls Tryz.prog 70 #[.pointer (some ⟨t, 0, none⟩)] w (Turns (.tuple #[]) (tick s) t F w) := by
  have HT := Asd.mk h
  obtain ⟨A, c, G, b, HB, _⟩ := h.cells
  have c0 := keepsC (o := 0) HB.out rfl
  have c1 := keepsC (o := 1) HB.out rfl
  have c2 := keepsC (o := 2) HB.out rfl
  have c3 := keepsC (o := 3) HB.out rfl
  have ff := fun o => keepsF (o := o) HB.out
  have HFT := Asd.mk h.own
  clear h
  have hK : ∀ n : Int, TB (w.setCell ⟨t, 1, none⟩ (.int .i64 n)) t F (lessen s n) := fun n => HT.out.with (s' := lessen s n) (by repeat (first | assumption | with_reducible exact Upd.refl _ _ | with_reducible refine Upd.drewN ?_ _ | with_reducible refine Upd.drew ?_ | with_reducible refine Upd.alloc ?_ _ | with_reducible refine Upd.setAt ?_ ?_ | exact Or.inl rfl | exact Or.inr (by simp) | exact Or.inr (by omega))) (fun A c b hb => blk_setCell (o := 1) hb (.int .i64 n)) rfl rfl
  have hK2 : ∀ n m : Int, TB ((w.setCell ⟨t, 1, none⟩ (.int .i64 n)).setCell ⟨t, 1, none⟩ (.int .i64 m)) t F (lessen s m) := fun n m => (hK n).with (s' := lessen s m) (by repeat (first | assumption | with_reducible exact Upd.refl _ _ | with_reducible refine Upd.drewN ?_ _ | with_reducible refine Upd.drew ?_ | with_reducible refine Upd.alloc ?_ _ | with_reducible refine Upd.setAt ?_ ?_ | exact Or.inl rfl | exact Or.inr (by simp) | exact Or.inr (by omega))) (fun A c b hb => blk_setCell (o := 1) hb (.int .i64 m)) rfl rfl
  have hU : ∀ n m : Int, Upd F w ((w.setCell ⟨t, 1, none⟩ (.int .i64 n)).setCell ⟨t, 1, none⟩ (.int .i64 m)) := fun n m => (show Upd (fun i => i = t) _ _ from (by repeat (first | assumption | with_reducible exact Upd.refl _ _ | with_reducible refine Upd.drewN ?_ _ | with_reducible refine Upd.drew ?_ | with_reducible refine Upd.alloc ?_ _ | with_reducible refine Upd.setAt ?_ ?_ | exact Or.inl rfl | exact Or.inr (by simp) | exact Or.inr (by omega)))).mono (fun i hi e => by rw [e]; exact HFT.out)
  have hU1 : ∀ n : Int, Upd F w (w.setCell ⟨t, 1, none⟩ (.int .i64 n)) := fun n => (show Upd (fun i => i = t) _ _ from (by repeat (first | assumption | with_reducible exact Upd.refl _ _ | with_reducible refine Upd.drewN ?_ _ | with_reducible refine Upd.drew ?_ | with_reducible refine Upd.alloc ?_ _ | with_reducible refine Upd.setAt ?_ ?_ | exact Or.inl rfl | exact Or.inr (by simp) | exact Or.inr (by omega)))).mono (fun i hi e => by rw [e]; exact HFT.out)
  have HK := Asd.mk hK
  have HK2 := Asd.mk hK2
  have HU := Asd.mk hU
  have HU1 := Asd.mk hU1
  clear hK hK2 hU hU1 HB
  by_cases hh : s.holder = 0
  · have hp : tick s = s := if_pos hh
    rw [hp]
    rw [hh] at c2
    clear hp hh
    go_enter Tryz.func70, Tryz.ntmps70
    go_wp2
    go_end0
    exact ⟨rfl, F, HT.out, Upd.refl _ _, fun k h => .inl h⟩
  · have hp : tick s = if 1 < s.left then lessen s (s.left - 1) else if s.queue = [] then lessen s s.lease else pass (lessen s s.lease) := if_neg hh
    have hhb : (s.holder == 0) = false := beq_eq_false_iff_ne.2 hh
    rw [hp]
    clear hp hh
    by_cases h1 : 1 < s.left
    · rw [if_pos h1]
      have h1b : (0 : Int) < s.left - 1 := by omega
      go_enter Tryz.func70, Tryz.ntmps70
      go_wp2
      go_end0
      exact ⟨rfl, F, HK.out _, HU1.out _, fun k h => .inl h⟩
    · rw [if_neg h1]
      have h1b : ¬ ((0 : Int) < s.left - 1) := by omega
      by_cases hqe : s.queue = []
      · rw [if_pos hqe]
        rw [hqe] at c3
        simp only [List.length_nil] at c3
        clear hqe hq
        go_enter Tryz.func70, Tryz.ntmps70
        go_wp2
        go_end0
        exact ⟨rfl, F, HK2.out _ _, HU.out _ _, fun k h => .inl h⟩
      · rw [if_neg hqe]
        have hql : 0 < s.queue.length := Nat.pos_of_ne_zero (fun e => hqe (List.eq_nil_of_length_eq_zero e))
        have hqi : (0 : Int) < (s.queue.length : Int) := by omega
        clear hqe
        go_enter Tryz.func70, Tryz.ntmps70
        go_wp2_with fail
        refine (pass_calls (HK2.out (s.left - 1) s.lease) hq).mono ?_
        rintro e w2 ⟨rfl, F2, ht, hu, hf⟩
        have HE := Asd.mk (Turns.then (HU.out (s.left - 1) s.lease) (fun k h => .inl h) ht hu hf)
        clear ht hu hf
        go_wp2
        go_end0
        exact ⟨rfl, HE.out⟩
end
end Go.Proofs.YteepkanbiefpjaaGreatDoor.Fl
