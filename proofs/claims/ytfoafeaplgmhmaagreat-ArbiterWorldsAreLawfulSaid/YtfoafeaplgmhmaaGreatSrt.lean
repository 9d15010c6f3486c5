/- The library's sort over this program: laid by the kit's tool in its plain mode. Conditions: none. -/
import Derived.Shelf.Sort.Plain
import Derived.Ground.Names2Prog
import Derived.Shelf.Slices.In.SortNone
import Derived.Ground.SlsfProg
import Derived.Shelf.SlSortCmp.WholeK
import Derived.Shelf.SlSortCmp.NoneTotal
import Derived.Test.YtfoafeaplgmhmaaGreatTok
import Derived.Test.YtfoafeaplgmhmaaGreatSo
import Derived.Test.YtfoafeaplgmhmaaGreatFa
import Derived.Test.YtfoafeaplgmhmaaGreatM
set_option linter.unusedVariables false
namespace Go.Proofs
open Go.Shelf
def Tryz.zJu : Go.Shelf.Ren:=⟨fun | 189=>93 | 125=>107 | 257=>111 | 128=>122 | 129=>123 | 294=>125 | 295=>126 | 296=>127 | 297=>128 | 298=>129 | 299=>130 | 216=>131 | 300=>132 | 301=>133 | 328=>139 | 329=>135 | 330=>136 | 331=>140 | 332=>141 | 215=>124 | 343=>143 | n=>n,fun | 28=>30 | 3=>3 | 46=>140 | 0=>0 | 51=>154 | 53=>156 | 4=>4 | 183=>148 | 182=>147 | 131=>58 | 5=>5 | 9=>9 | 218=>163 | 222=>167 | 228=>171 | 229=>172 | n=>n,fun | n=>n⟩
theorem Tryz.lays189 : Go.Proofs.Lays.n189 Tryz.prog Tryz.zJu:={
  mixed:=by kernel_rfl
  f125:=Tryz.func107.trans (congrArg some (by kernel_rfl))
  f128:=Tryz.func122.trans (congrArg some (by kernel_rfl))
  f129:=Tryz.func123.trans (congrArg some (by kernel_rfl))
  f189:=Tryz.func93.trans (congrArg some (by kernel_rfl))
  f215:=Tryz.func124.trans (congrArg some (by kernel_rfl))
  f216:=Tryz.func131.trans (congrArg some (by kernel_rfl))
  f257:=Tryz.func111.trans (congrArg some (by kernel_rfl))
  f294:=Tryz.func125.trans (congrArg some (by kernel_rfl))
  f295:=Tryz.func126.trans (congrArg some (by kernel_rfl))
  f296:=Tryz.func127.trans (congrArg some (by kernel_rfl))
  f297:=Tryz.func128.trans (congrArg some (by kernel_rfl))
  f298:=Tryz.func129.trans (congrArg some (by kernel_rfl))
  f299:=Tryz.func130.trans (congrArg some (by kernel_rfl))
  f300:=Tryz.func132.trans (congrArg some (by kernel_rfl))
  f301:=Tryz.func133.trans (congrArg some (by kernel_rfl))
  f328:=Tryz.func139.trans (congrArg some (by kernel_rfl))
  f329:=Tryz.func135.trans (congrArg some (by kernel_rfl))
  f330:=Tryz.func136.trans (congrArg some (by kernel_rfl))
  f331:=Tryz.func140.trans (congrArg some (by kernel_rfl))
  f332:=Tryz.func141.trans (congrArg some (by kernel_rfl))
  f343:=Tryz.func143.trans (congrArg some (by kernel_rfl))
  t0:=Tryz.underlying0
  a0:=Tryz.isAgg0
  z0:=Tryz.sizeOf0
  v0:=Tryz.zeroValue0
  t3:=Tryz.underlying3
  a3:=Tryz.isAgg3
  z3:=Tryz.sizeOf3
  v3:=Tryz.zeroValue3
  t4:=Tryz.underlying4
  a4:=Tryz.isAgg4
  z4:=Tryz.sizeOf4
  v4:=Tryz.zeroValue4
  t5:=Tryz.underlying5
  a5:=Tryz.isAgg5
  z5:=Tryz.sizeOf5
  v5:=Tryz.zeroValue5
  t9:=Tryz.underlying9
  a9:=Tryz.isAgg9
  z9:=Tryz.sizeOf9
  v9:=Tryz.zeroValue9
  t28:=Tryz.underlying30
  a28:=Tryz.isAgg30
  z28:=Tryz.sizeOf30
  v28:=Tryz.zeroValue30
  t46:=Tryz.underlying140
  a46:=Tryz.isAgg140
  z46:=Tryz.sizeOf140
  v46:=Tryz.zeroValue140
  t51:=Tryz.underlying154
  a51:=Tryz.isAgg154
  z51:=Tryz.sizeOf154
  v51:=Tryz.zeroValue154
  t53:=Tryz.underlying156
  a53:=Tryz.isAgg156
  z53:=Tryz.sizeOf156
  v53:=Tryz.zeroValue156
  t131:=Tryz.underlying58
  a131:=Tryz.isAgg58
  z131:=Tryz.sizeOf58
  v131:=Tryz.zeroValue58
  t182:=Tryz.underlying147
  a182:=Tryz.isAgg147
  z182:=Tryz.sizeOf147
  v182:=Tryz.zeroValue147
  t183:=Tryz.underlying148
  a183:=Tryz.isAgg148
  z183:=Tryz.sizeOf148
  v183:=Tryz.zeroValue148
  t218:=Tryz.underlying163
  a218:=Tryz.isAgg163
  z218:=Tryz.sizeOf163
  v218:=Tryz.zeroValue163
  t222:=Tryz.underlying167
  a222:=Tryz.isAgg167
  z222:=Tryz.sizeOf167
  v222:=Tryz.zeroValue167
  t228:=Tryz.underlying171
  a228:=Tryz.isAgg171
  z228:=Tryz.sizeOf171
  v228:=Tryz.zeroValue171
  t229:=Tryz.underlying172
  a229:=Tryz.isAgg172
  z229:=Tryz.sizeOf172
  v229:=Tryz.zeroValue172 }
def Tryz.zKn : Go.Shelf.Ren:=⟨fun | 6=>89 | 15=>107 | 14=>106 | 28=>122 | 29=>123 | 20=>114 | 21=>115 | 22=>116 | 23=>117 | 24=>118 | 25=>119 | 26=>120 | 27=>121 | 46=>134 | 47=>135 | 48=>136 | 49=>137 | 50=>138 | 57=>142 | n=>n,fun | 22=>51 | 24=>57 | 25=>126 | 3=>3 | 39=>140 | 0=>0 | 53=>154 | 55=>156 | 4=>4 | 46=>148 | 45=>147 | 50=>58 | 5=>5 | 9=>9 | 66=>163 | 70=>167 | 76=>171 | 77=>172 | n=>n,fun | n=>n⟩
theorem Tryz.sortCl : Go.Proofs.SlLaysF0.n6 Tryz.prog Tryz.zKn:={
  mixed:=by kernel_rfl
  f6:=⟨Tryz.f89.name,by decide,Tryz.func89.trans (congrArg some (by kernel_rfl))⟩
  f14:=⟨Tryz.f106.name,by decide,Tryz.func106.trans (congrArg some (by kernel_rfl))⟩
  f15:=Tryz.func107.trans (congrArg some (by kernel_rfl))
  f20:=⟨Tryz.f114.name,by decide,Tryz.func114.trans (congrArg some (by kernel_rfl))⟩
  f21:=⟨Tryz.f115.name,by decide,Tryz.func115.trans (congrArg some (by kernel_rfl))⟩
  f22:=⟨Tryz.f116.name,by decide,Tryz.func116.trans (congrArg some (by kernel_rfl))⟩
  f23:=⟨Tryz.f117.name,by decide,Tryz.func117.trans (congrArg some (by kernel_rfl))⟩
  f24:=⟨Tryz.f118.name,by decide,Tryz.func118.trans (congrArg some (by kernel_rfl))⟩
  f25:=⟨Tryz.f119.name,by decide,Tryz.func119.trans (congrArg some (by kernel_rfl))⟩
  f26:=⟨Tryz.f120.name,by decide,Tryz.func120.trans (congrArg some (by kernel_rfl))⟩
  f27:=⟨Tryz.f121.name,by decide,Tryz.func121.trans (congrArg some (by kernel_rfl))⟩
  f28:=Tryz.func122.trans (congrArg some (by kernel_rfl))
  f29:=Tryz.func123.trans (congrArg some (by kernel_rfl))
  f46:=⟨Tryz.f134.name,by decide,Tryz.func134.trans (congrArg some (by kernel_rfl))⟩
  f47:=Tryz.func135.trans (congrArg some (by kernel_rfl))
  f48:=Tryz.func136.trans (congrArg some (by kernel_rfl))
  f49:=⟨Tryz.f137.name,by decide,Tryz.func137.trans (congrArg some (by kernel_rfl))⟩
  f50:=⟨Tryz.f138.name,by decide,Tryz.func138.trans (congrArg some (by kernel_rfl))⟩
  f57:=⟨Tryz.f142.name,by decide,Tryz.func142.trans (congrArg some (by kernel_rfl))⟩
  t0:=Tryz.underlying0
  a0:=Tryz.isAgg0
  z0:=Tryz.sizeOf0
  v0:=Tryz.zeroValue0
  t3:=Tryz.underlying3
  a3:=Tryz.isAgg3
  z3:=Tryz.sizeOf3
  v3:=Tryz.zeroValue3
  t4:=Tryz.underlying4
  a4:=Tryz.isAgg4
  z4:=Tryz.sizeOf4
  v4:=Tryz.zeroValue4
  t5:=Tryz.underlying5
  a5:=Tryz.isAgg5
  z5:=Tryz.sizeOf5
  v5:=Tryz.zeroValue5
  t9:=Tryz.underlying9
  a9:=Tryz.isAgg9
  z9:=Tryz.sizeOf9
  v9:=Tryz.zeroValue9
  t22:=Tryz.underlying51
  a22:=Tryz.isAgg51
  z22:=Tryz.sizeOf51
  v22:=Tryz.zeroValue51
  t25:=Tryz.underlying126
  a25:=Tryz.isAgg126
  z25:=Tryz.sizeOf126
  v25:=Tryz.zeroValue126
  t39:=Tryz.underlying140
  a39:=Tryz.isAgg140
  z39:=Tryz.sizeOf140
  v39:=Tryz.zeroValue140
  t45:=Tryz.underlying147
  a45:=Tryz.isAgg147
  z45:=Tryz.sizeOf147
  v45:=Tryz.zeroValue147
  t46:=Tryz.underlying148
  a46:=Tryz.isAgg148
  z46:=Tryz.sizeOf148
  v46:=Tryz.zeroValue148
  t50:=Tryz.underlying58
  a50:=Tryz.isAgg58
  z50:=Tryz.sizeOf58
  v50:=Tryz.zeroValue58
  t53:=Tryz.underlying154
  a53:=Tryz.isAgg154
  z53:=Tryz.sizeOf154
  v53:=Tryz.zeroValue154
  t55:=Tryz.underlying156
  a55:=Tryz.isAgg156
  z55:=Tryz.sizeOf156
  v55:=Tryz.zeroValue156
  t66:=Tryz.underlying163
  a66:=Tryz.isAgg163
  z66:=Tryz.sizeOf163
  v66:=Tryz.zeroValue163
  t70:=Tryz.underlying167
  a70:=Tryz.isAgg167
  z70:=Tryz.sizeOf167
  v70:=Tryz.zeroValue167
  t76:=Tryz.underlying171
  a76:=Tryz.isAgg171
  z76:=Tryz.sizeOf171
  v76:=Tryz.zeroValue171
  t77:=Tryz.underlying172
  a77:=Tryz.isAgg172
  z77:=Tryz.sizeOf172
  v77:=Tryz.zeroValue172 }
end Go.Proofs
namespace Go.Proofs.YtfoafeaplgmhmaaGreat
open Go Go.Am Go.Proofs Go.Mx Go.Shelf Go.RowKit Go.Sort
theorem sort_C : zOp Tryz.prog 93:=fun blk off cap zs w hH hblk hlen=>Any.slices_Sort_int Tryz.lays189 blk off cap zs w hH hblk hlen
theorem zND : X.zF8 Tryz.prog 93 []:=by
  refine X.zGI (fun p cap us m w hr=>?_) (enters_of Tryz.func93 (by kernel_rfl) rfl)
  unfold RepL at hr
  subst hr
  exact Any.slices_Sort_int_none Tryz.lays189 p cap w
end Go.Proofs.YtfoafeaplgmhmaaGreat
