/- The library's sort over this program: laid by the kit's tool in its plain mode. Conditions: none. -/
import Derived.Shelf.Sort.Plain
import Derived.Ground.Names2Prog
import Derived.Shelf.Slices.In.SortNone
import Derived.Test.YtdpifjmggnjagaaGreatTok
import Derived.Test.YtdpifjmggnjagaaGreatFa
import Derived.Test.YtdpifjmggnjagaaGreatM
set_option linter.unusedVariables false
namespace Go.Proofs
open Go.Shelf
def Tryz.zNL : Go.Shelf.Ren:=⟨fun | 189=>52 | 125=>94 | 257=>93 | 128=>130 | 129=>131 | 294=>121 | 295=>122 | 296=>123 | 297=>124 | 298=>125 | 299=>126 | 216=>127 | 300=>128 | 301=>129 | 328=>140 | 329=>141 | 330=>142 | 331=>143 | 332=>144 | 215=>106 | 343=>149 | n=>n,fun | 28=>57 | 3=>3 | 46=>191 | 0=>0 | 51=>223 | 53=>225 | 4=>4 | 183=>217 | 182=>216 | 131=>97 | 5=>5 | 9=>9 | 218=>238 | 222=>242 | 228=>251 | 229=>171 | n=>n,fun | n=>n⟩
theorem Tryz.lays189 : Go.Proofs.Lays.n189 Tryz.prog Tryz.zNL:={
  mixed:=by kernel_rfl
  f125:=Tryz.func94.trans (congrArg some (by kernel_rfl))
  f128:=Tryz.func130.trans (congrArg some (by kernel_rfl))
  f129:=Tryz.func131.trans (congrArg some (by kernel_rfl))
  f189:=Tryz.func52.trans (congrArg some (by kernel_rfl))
  f215:=Tryz.func106.trans (congrArg some (by kernel_rfl))
  f216:=Tryz.func127.trans (congrArg some (by kernel_rfl))
  f257:=Tryz.func93.trans (congrArg some (by kernel_rfl))
  f294:=Tryz.func121.trans (congrArg some (by kernel_rfl))
  f295:=Tryz.func122.trans (congrArg some (by kernel_rfl))
  f296:=Tryz.func123.trans (congrArg some (by kernel_rfl))
  f297:=Tryz.func124.trans (congrArg some (by kernel_rfl))
  f298:=Tryz.func125.trans (congrArg some (by kernel_rfl))
  f299:=Tryz.func126.trans (congrArg some (by kernel_rfl))
  f300:=Tryz.func128.trans (congrArg some (by kernel_rfl))
  f301:=Tryz.func129.trans (congrArg some (by kernel_rfl))
  f328:=Tryz.func140.trans (congrArg some (by kernel_rfl))
  f329:=Tryz.func141.trans (congrArg some (by kernel_rfl))
  f330:=Tryz.func142.trans (congrArg some (by kernel_rfl))
  f331:=Tryz.func143.trans (congrArg some (by kernel_rfl))
  f332:=Tryz.func144.trans (congrArg some (by kernel_rfl))
  f343:=Tryz.func149.trans (congrArg some (by kernel_rfl))
  t0:=Tryz.underlying0
  a0:=Tryz.isAgg0
  z0:=Tryz.sizeOf0
  v0:=Tryz.zeroValue0
  t3:=Tryz.underlying3
  a3:=Tryz.isAgg3
  z3:=Tryz.sizeOf3
  v3:=Tryz.zeroValue3
  t4:=Tryz.underlying4
  a4:=Tryz.isAgg4
  z4:=Tryz.sizeOf4
  v4:=Tryz.zeroValue4
  t5:=Tryz.underlying5
  a5:=Tryz.isAgg5
  z5:=Tryz.sizeOf5
  v5:=Tryz.zeroValue5
  t9:=Tryz.underlying9
  a9:=Tryz.isAgg9
  z9:=Tryz.sizeOf9
  v9:=Tryz.zeroValue9
  t28:=Tryz.underlying57
  a28:=Tryz.isAgg57
  z28:=Tryz.sizeOf57
  v28:=Tryz.zeroValue57
  t46:=Tryz.underlying191
  a46:=Tryz.isAgg191
  z46:=Tryz.sizeOf191
  v46:=Tryz.zeroValue191
  t51:=Tryz.underlying223
  a51:=Tryz.isAgg223
  z51:=Tryz.sizeOf223
  v51:=Tryz.zeroValue223
  t53:=Tryz.underlying225
  a53:=Tryz.isAgg225
  z53:=Tryz.sizeOf225
  v53:=Tryz.zeroValue225
  t131:=Tryz.underlying97
  a131:=Tryz.isAgg97
  z131:=Tryz.sizeOf97
  v131:=Tryz.zeroValue97
  t182:=Tryz.underlying216
  a182:=Tryz.isAgg216
  z182:=Tryz.sizeOf216
  v182:=Tryz.zeroValue216
  t183:=Tryz.underlying217
  a183:=Tryz.isAgg217
  z183:=Tryz.sizeOf217
  v183:=Tryz.zeroValue217
  t218:=Tryz.underlying238
  a218:=Tryz.isAgg238
  z218:=Tryz.sizeOf238
  v218:=Tryz.zeroValue238
  t222:=Tryz.underlying242
  a222:=Tryz.isAgg242
  z222:=Tryz.sizeOf242
  v222:=Tryz.zeroValue242
  t228:=Tryz.underlying251
  a228:=Tryz.isAgg251
  z228:=Tryz.sizeOf251
  v228:=Tryz.zeroValue251
  t229:=Tryz.underlying171
  a229:=Tryz.isAgg171
  z229:=Tryz.sizeOf171
  v229:=Tryz.zeroValue171 }
end Go.Proofs
namespace Go.Proofs.YtdpifjmggnjagaaGreat
open Go Go.Am Go.Proofs Go.Mx Go.Shelf Go.RowKit Go.Sort
theorem sort_C : zRl Tryz.prog 52:=fun blk off cap zs w hH hblk hlen=>Any.slices_Sort_int Tryz.lays189 blk off cap zs w hH hblk hlen
theorem zQV : X.zMl Tryz.prog 52 []:=by
  refine X.zOC (fun p cap us m w hr=>?_) (enters_of Tryz.func52 (by kernel_rfl) rfl)
  unfold RepL at hr
  subst hr
  exact Any.slices_Sort_int_none Tryz.lays189 p cap w
end Go.Proofs.YtdpifjmggnjagaaGreat
