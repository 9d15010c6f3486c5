/- The library's sort over this program: laid by the kit's tool in its plain mode. Conditions: none. -/
import Derived.Ground.SlsfProg
import Derived.Shelf.SlSortCmp.WholeK
import Derived.Shelf.SlSortCmp.NoneTotal
import Derived.Shelf.SlSortCmp.QuietGrown
import Derived.WalkKit
import Derived.Test.YthfnbjoecocfaaaTok
import Derived.Test.YthfnbjoecocfaaaSo
import Derived.Test.YthfnbjoecocfaaaQu
import Derived.Test.YthfnbjoecocfaaaM
set_option linter.unusedVariables false
namespace Go.Proofs
open Go.Shelf
def Try.sortCl_ren : Go.Shelf.Ren := ⟨fun | 6 => 106 | 15 => 145 | 14 => 144 | 28 => 172 | 29 => 173 | 20 => 164 | 21 => 165 | 22 => 166 | 23 => 167 | 24 => 168 | 25 => 169 | 26 => 170 | 27 => 171 | 46 => 179 | 47 => 180 | 48 => 181 | 49 => 182 | 50 => 183 | 57 => 186 | n => n, fun | 22 => 70 | 24 => 151 | 25 => 161 | 3 => 3 | 39 => 202 | 0 => 0 | 53 => 231 | 55 => 233 | 4 => 4 | 46 => 225 | 45 => 224 | 50 => 208 | 5 => 5 | 9 => 9 | 66 => 239 | 70 => 243 | 76 => 245 | 77 => 184 | n => n, fun | n => n⟩
theorem Try.sortCl : Go.Proofs.SlLaysF0.n6 Try.prog Try.sortCl_ren := {
  mixed := by kernel_rfl
  f6 := ⟨Try.f106.name, by decide, Try.func106.trans (congrArg some (by kernel_rfl))⟩
  f14 := ⟨Try.f144.name, by decide, Try.func144.trans (congrArg some (by kernel_rfl))⟩
  f15 := Try.func145.trans (congrArg some (by kernel_rfl))
  f20 := ⟨Try.f164.name, by decide, Try.func164.trans (congrArg some (by kernel_rfl))⟩
  f21 := ⟨Try.f165.name, by decide, Try.func165.trans (congrArg some (by kernel_rfl))⟩
  f22 := ⟨Try.f166.name, by decide, Try.func166.trans (congrArg some (by kernel_rfl))⟩
  f23 := ⟨Try.f167.name, by decide, Try.func167.trans (congrArg some (by kernel_rfl))⟩
  f24 := ⟨Try.f168.name, by decide, Try.func168.trans (congrArg some (by kernel_rfl))⟩
  f25 := ⟨Try.f169.name, by decide, Try.func169.trans (congrArg some (by kernel_rfl))⟩
  f26 := ⟨Try.f170.name, by decide, Try.func170.trans (congrArg some (by kernel_rfl))⟩
  f27 := ⟨Try.f171.name, by decide, Try.func171.trans (congrArg some (by kernel_rfl))⟩
  f28 := Try.func172.trans (congrArg some (by kernel_rfl))
  f29 := Try.func173.trans (congrArg some (by kernel_rfl))
  f46 := ⟨Try.f179.name, by decide, Try.func179.trans (congrArg some (by kernel_rfl))⟩
  f47 := Try.func180.trans (congrArg some (by kernel_rfl))
  f48 := Try.func181.trans (congrArg some (by kernel_rfl))
  f49 := ⟨Try.f182.name, by decide, Try.func182.trans (congrArg some (by kernel_rfl))⟩
  f50 := ⟨Try.f183.name, by decide, Try.func183.trans (congrArg some (by kernel_rfl))⟩
  f57 := ⟨Try.f186.name, by decide, Try.func186.trans (congrArg some (by kernel_rfl))⟩
  t0 := Try.underlying0
  a0 := Try.isAgg0
  z0 := Try.sizeOf0
  v0 := Try.zeroValue0
  t3 := Try.underlying3
  a3 := Try.isAgg3
  z3 := Try.sizeOf3
  v3 := Try.zeroValue3
  t4 := Try.underlying4
  a4 := Try.isAgg4
  z4 := Try.sizeOf4
  v4 := Try.zeroValue4
  t5 := Try.underlying5
  a5 := Try.isAgg5
  z5 := Try.sizeOf5
  v5 := Try.zeroValue5
  t9 := Try.underlying9
  a9 := Try.isAgg9
  z9 := Try.sizeOf9
  v9 := Try.zeroValue9
  t22 := Try.underlying70
  a22 := Try.isAgg70
  z22 := Try.sizeOf70
  v22 := Try.zeroValue70
  t25 := Try.underlying161
  a25 := Try.isAgg161
  z25 := Try.sizeOf161
  v25 := Try.zeroValue161
  t39 := Try.underlying202
  a39 := Try.isAgg202
  z39 := Try.sizeOf202
  v39 := Try.zeroValue202
  t45 := Try.underlying224
  a45 := Try.isAgg224
  z45 := Try.sizeOf224
  v45 := Try.zeroValue224
  t46 := Try.underlying225
  a46 := Try.isAgg225
  z46 := Try.sizeOf225
  v46 := Try.zeroValue225
  t50 := Try.underlying208
  a50 := Try.isAgg208
  z50 := Try.sizeOf208
  v50 := Try.zeroValue208
  t53 := Try.underlying231
  a53 := Try.isAgg231
  z53 := Try.sizeOf231
  v53 := Try.zeroValue231
  t55 := Try.underlying233
  a55 := Try.isAgg233
  z55 := Try.sizeOf233
  v55 := Try.zeroValue233
  t66 := Try.underlying239
  a66 := Try.isAgg239
  z66 := Try.sizeOf239
  v66 := Try.zeroValue239
  t70 := Try.underlying243
  a70 := Try.isAgg243
  z70 := Try.sizeOf243
  v70 := Try.zeroValue243
  t76 := Try.underlying245
  a76 := Try.isAgg245
  z76 := Try.sizeOf245
  v76 := Try.zeroValue245
  t77 := Try.underlying184
  a77 := Try.isAgg184
  z77 := Try.sizeOf184
  v77 := Try.zeroValue184 }
end Go.Proofs
