/- The library's sort over this program: laid by the kit's tool in its plain mode. Conditions: none. -/
import Derived.Ground.SlsfProg
import Derived.Shelf.SlSortCmp.WholeK
import Derived.Shelf.SlSortCmp.NoneTotal
import Derived.Test.YtkomoedegnckhaaTok
import Derived.Test.YtkomoedegnckhaaSo
import Derived.Test.YtkomoedegnckhaaFa
import Derived.Test.YtkomoedegnckhaaM
set_option linter.unusedVariables false
namespace Go.Proofs
open Go.Shelf
def Try.sortCl_ren : Go.Shelf.Ren := ⟨fun | 6 => 104 | 15 => 125 | 14 => 124 | 28 => 143 | 29 => 144 | 20 => 135 | 21 => 136 | 22 => 137 | 23 => 138 | 24 => 139 | 25 => 140 | 26 => 141 | 27 => 142 | 46 => 148 | 47 => 149 | 48 => 150 | 49 => 151 | 50 => 152 | 57 => 162 | n => n, fun | 22 => 31 | 24 => 35 | 25 => 126 | 3 => 3 | 39 => 148 | 0 => 0 | 53 => 162 | 55 => 164 | 4 => 4 | 46 => 156 | 45 => 155 | 50 => 74 | 5 => 5 | 9 => 9 | 66 => 167 | 70 => 171 | 76 => 179 | 77 => 104 | n => n, fun | n => n⟩
theorem Try.sortCl : Go.Proofs.SlLaysF0.n6 Try.prog Try.sortCl_ren := {
  mixed := by kernel_rfl
  f6 := ⟨Try.f104.name, by decide, Try.func104.trans (congrArg some (by kernel_rfl))⟩
  f14 := ⟨Try.f124.name, by decide, Try.func124.trans (congrArg some (by kernel_rfl))⟩
  f15 := Try.func125.trans (congrArg some (by kernel_rfl))
  f20 := ⟨Try.f135.name, by decide, Try.func135.trans (congrArg some (by kernel_rfl))⟩
  f21 := ⟨Try.f136.name, by decide, Try.func136.trans (congrArg some (by kernel_rfl))⟩
  f22 := ⟨Try.f137.name, by decide, Try.func137.trans (congrArg some (by kernel_rfl))⟩
  f23 := ⟨Try.f138.name, by decide, Try.func138.trans (congrArg some (by kernel_rfl))⟩
  f24 := ⟨Try.f139.name, by decide, Try.func139.trans (congrArg some (by kernel_rfl))⟩
  f25 := ⟨Try.f140.name, by decide, Try.func140.trans (congrArg some (by kernel_rfl))⟩
  f26 := ⟨Try.f141.name, by decide, Try.func141.trans (congrArg some (by kernel_rfl))⟩
  f27 := ⟨Try.f142.name, by decide, Try.func142.trans (congrArg some (by kernel_rfl))⟩
  f28 := Try.func143.trans (congrArg some (by kernel_rfl))
  f29 := Try.func144.trans (congrArg some (by kernel_rfl))
  f46 := ⟨Try.f148.name, by decide, Try.func148.trans (congrArg some (by kernel_rfl))⟩
  f47 := Try.func149.trans (congrArg some (by kernel_rfl))
  f48 := Try.func150.trans (congrArg some (by kernel_rfl))
  f49 := ⟨Try.f151.name, by decide, Try.func151.trans (congrArg some (by kernel_rfl))⟩
  f50 := ⟨Try.f152.name, by decide, Try.func152.trans (congrArg some (by kernel_rfl))⟩
  f57 := ⟨Try.f162.name, by decide, Try.func162.trans (congrArg some (by kernel_rfl))⟩
  t0 := Try.underlying0
  a0 := Try.isAgg0
  z0 := Try.sizeOf0
  v0 := Try.zeroValue0
  t3 := Try.underlying3
  a3 := Try.isAgg3
  z3 := Try.sizeOf3
  v3 := Try.zeroValue3
  t4 := Try.underlying4
  a4 := Try.isAgg4
  z4 := Try.sizeOf4
  v4 := Try.zeroValue4
  t5 := Try.underlying5
  a5 := Try.isAgg5
  z5 := Try.sizeOf5
  v5 := Try.zeroValue5
  t9 := Try.underlying9
  a9 := Try.isAgg9
  z9 := Try.sizeOf9
  v9 := Try.zeroValue9
  t22 := Try.underlying31
  a22 := Try.isAgg31
  z22 := Try.sizeOf31
  v22 := Try.zeroValue31
  t25 := Try.underlying126
  a25 := Try.isAgg126
  z25 := Try.sizeOf126
  v25 := Try.zeroValue126
  t39 := Try.underlying148
  a39 := Try.isAgg148
  z39 := Try.sizeOf148
  v39 := Try.zeroValue148
  t45 := Try.underlying155
  a45 := Try.isAgg155
  z45 := Try.sizeOf155
  v45 := Try.zeroValue155
  t46 := Try.underlying156
  a46 := Try.isAgg156
  z46 := Try.sizeOf156
  v46 := Try.zeroValue156
  t50 := Try.underlying74
  a50 := Try.isAgg74
  z50 := Try.sizeOf74
  v50 := Try.zeroValue74
  t53 := Try.underlying162
  a53 := Try.isAgg162
  z53 := Try.sizeOf162
  v53 := Try.zeroValue162
  t55 := Try.underlying164
  a55 := Try.isAgg164
  z55 := Try.sizeOf164
  v55 := Try.zeroValue164
  t66 := Try.underlying167
  a66 := Try.isAgg167
  z66 := Try.sizeOf167
  v66 := Try.zeroValue167
  t70 := Try.underlying171
  a70 := Try.isAgg171
  z70 := Try.sizeOf171
  v70 := Try.zeroValue171
  t76 := Try.underlying179
  a76 := Try.isAgg179
  z76 := Try.sizeOf179
  v76 := Try.zeroValue179
  t77 := Try.underlying104
  a77 := Try.isAgg104
  z77 := Try.sizeOf104
  v77 := Try.zeroValue104 }
end Go.Proofs
