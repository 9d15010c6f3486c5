/- The library's sort over this program: laid by the kit's tool in its plain mode. Conditions: none. -/
import Derived.Shelf.Sort.Plain
import Derived.Ground.Names2Prog
import Derived.Shelf.Slices.In.SortNone
import Derived.Test.YtmebbbblomlgdaaGreatTok
import Derived.Test.YtmebbbblomlgdaaGreatFa
import Derived.Test.YtmebbbblomlgdaaGreatM
set_option linter.unusedVariables false
namespace Go.Proofs
open Go.Shelf
def Tryz.zKt : Go.Shelf.Ren:=⟨fun | 189=>36 | 125=>66 | 257=>65 | 128=>91 | 129=>92 | 294=>82 | 295=>83 | 296=>84 | 297=>85 | 298=>86 | 299=>87 | 216=>88 | 300=>89 | 301=>90 | 328=>107 | 329=>108 | 330=>109 | 331=>110 | 332=>111 | 215=>112 | 343=>121 | n=>n,fun | 28=>31 | 3=>3 | 46=>138 | 0=>0 | 51=>166 | 53=>168 | 4=>4 | 183=>159 | 182=>158 | 131=>82 | 5=>5 | 9=>9 | 218=>180 | 222=>184 | 228=>190 | 229=>191 | n=>n,fun | n=>n⟩
theorem Tryz.lays189 : Go.Proofs.Lays.n189 Tryz.prog Tryz.zKt:={
  mixed:=by kernel_rfl
  f125:=Tryz.func66.trans (congrArg some (by kernel_rfl))
  f128:=Tryz.func91.trans (congrArg some (by kernel_rfl))
  f129:=Tryz.func92.trans (congrArg some (by kernel_rfl))
  f189:=Tryz.func36.trans (congrArg some (by kernel_rfl))
  f215:=Tryz.func112.trans (congrArg some (by kernel_rfl))
  f216:=Tryz.func88.trans (congrArg some (by kernel_rfl))
  f257:=Tryz.func65.trans (congrArg some (by kernel_rfl))
  f294:=Tryz.func82.trans (congrArg some (by kernel_rfl))
  f295:=Tryz.func83.trans (congrArg some (by kernel_rfl))
  f296:=Tryz.func84.trans (congrArg some (by kernel_rfl))
  f297:=Tryz.func85.trans (congrArg some (by kernel_rfl))
  f298:=Tryz.func86.trans (congrArg some (by kernel_rfl))
  f299:=Tryz.func87.trans (congrArg some (by kernel_rfl))
  f300:=Tryz.func89.trans (congrArg some (by kernel_rfl))
  f301:=Tryz.func90.trans (congrArg some (by kernel_rfl))
  f328:=Tryz.func107.trans (congrArg some (by kernel_rfl))
  f329:=Tryz.func108.trans (congrArg some (by kernel_rfl))
  f330:=Tryz.func109.trans (congrArg some (by kernel_rfl))
  f331:=Tryz.func110.trans (congrArg some (by kernel_rfl))
  f332:=Tryz.func111.trans (congrArg some (by kernel_rfl))
  f343:=Tryz.func121.trans (congrArg some (by kernel_rfl))
  t0:=Tryz.underlying0
  a0:=Tryz.isAgg0
  z0:=Tryz.sizeOf0
  v0:=Tryz.zeroValue0
  t3:=Tryz.underlying3
  a3:=Tryz.isAgg3
  z3:=Tryz.sizeOf3
  v3:=Tryz.zeroValue3
  t4:=Tryz.underlying4
  a4:=Tryz.isAgg4
  z4:=Tryz.sizeOf4
  v4:=Tryz.zeroValue4
  t5:=Tryz.underlying5
  a5:=Tryz.isAgg5
  z5:=Tryz.sizeOf5
  v5:=Tryz.zeroValue5
  t9:=Tryz.underlying9
  a9:=Tryz.isAgg9
  z9:=Tryz.sizeOf9
  v9:=Tryz.zeroValue9
  t28:=Tryz.underlying31
  a28:=Tryz.isAgg31
  z28:=Tryz.sizeOf31
  v28:=Tryz.zeroValue31
  t46:=Tryz.underlying138
  a46:=Tryz.isAgg138
  z46:=Tryz.sizeOf138
  v46:=Tryz.zeroValue138
  t51:=Tryz.underlying166
  a51:=Tryz.isAgg166
  z51:=Tryz.sizeOf166
  v51:=Tryz.zeroValue166
  t53:=Tryz.underlying168
  a53:=Tryz.isAgg168
  z53:=Tryz.sizeOf168
  v53:=Tryz.zeroValue168
  t131:=Tryz.underlying82
  a131:=Tryz.isAgg82
  z131:=Tryz.sizeOf82
  v131:=Tryz.zeroValue82
  t182:=Tryz.underlying158
  a182:=Tryz.isAgg158
  z182:=Tryz.sizeOf158
  v182:=Tryz.zeroValue158
  t183:=Tryz.underlying159
  a183:=Tryz.isAgg159
  z183:=Tryz.sizeOf159
  v183:=Tryz.zeroValue159
  t218:=Tryz.underlying180
  a218:=Tryz.isAgg180
  z218:=Tryz.sizeOf180
  v218:=Tryz.zeroValue180
  t222:=Tryz.underlying184
  a222:=Tryz.isAgg184
  z222:=Tryz.sizeOf184
  v222:=Tryz.zeroValue184
  t228:=Tryz.underlying190
  a228:=Tryz.isAgg190
  z228:=Tryz.sizeOf190
  v228:=Tryz.zeroValue190
  t229:=Tryz.underlying191
  a229:=Tryz.isAgg191
  z229:=Tryz.sizeOf191
  v229:=Tryz.zeroValue191 }
end Go.Proofs
namespace Go.Proofs.YtmebbbblomlgdaaGreat
open Go Go.Am Go.Proofs Go.Mx Go.Shelf Go.RowKit Go.Sort
theorem zNm : zOu Tryz.prog 36:=fun blk off cap zs w hH hblk hlen=>Any.slices_Sort_int Tryz.lays189 blk off cap zs w hH hblk hlen
theorem zKV : X.zHE Tryz.prog 36 []:=by
  refine X.zLe (fun p cap us m w hr=>?_) (enters_of Tryz.func36 (by kernel_rfl) rfl)
  unfold RepL at hr
  subst hr
  exact Any.slices_Sort_int_none Tryz.lays189 p cap w
end Go.Proofs.YtmebbbblomlgdaaGreat
