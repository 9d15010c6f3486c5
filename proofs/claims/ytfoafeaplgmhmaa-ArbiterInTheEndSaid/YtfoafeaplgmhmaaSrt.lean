/- The library's sort over this program: laid by the kit's tool in its plain mode. Conditions: none. -/
import Derived.Shelf.Sort.Plain
import Derived.Ground.Names2Prog
import Derived.Shelf.Slices.In.SortNone
import Derived.Ground.SlsfProg
import Derived.Shelf.SlSortCmp.WholeK
import Derived.Shelf.SlSortCmp.NoneTotal
import Derived.Test.YtfoafeaplgmhmaaTok
import Derived.Test.YtfoafeaplgmhmaaSo
import Derived.Test.YtfoafeaplgmhmaaFa
import Derived.Test.YtfoafeaplgmhmaaM
set_option linter.unusedVariables false
namespace Go.Proofs
open Go.Shelf
def Try.lays189_ren : Go.Shelf.Ren:=⟨fun | 189=>44 | 125=>53 | 257=>57 | 128=>66 | 129=>67 | 294=>69 | 295=>70 | 296=>71 | 297=>72 | 298=>73 | 299=>74 | 216=>75 | 300=>76 | 301=>77 | 328=>83 | 329=>79 | 330=>80 | 331=>84 | 332=>85 | 215=>68 | 343=>87 | n=>n,fun | 28=>47 | 3=>3 | 46=>91 | 0=>0 | 51=>104 | 53=>106 | 4=>4 | 183=>98 | 182=>97 | 131=>33 | 5=>5 | 9=>9 | 218=>113 | 222=>117 | 228=>121 | 229=>122 | n=>n,fun | n=>n⟩
theorem Try.lays189 : Go.Proofs.Lays.n189 Try.prog Try.lays189_ren:={
  mixed:=by kernel_rfl
  f125:=Try.func53.trans (congrArg some (by kernel_rfl))
  f128:=Try.func66.trans (congrArg some (by kernel_rfl))
  f129:=Try.func67.trans (congrArg some (by kernel_rfl))
  f189:=Try.func44.trans (congrArg some (by kernel_rfl))
  f215:=Try.func68.trans (congrArg some (by kernel_rfl))
  f216:=Try.func75.trans (congrArg some (by kernel_rfl))
  f257:=Try.func57.trans (congrArg some (by kernel_rfl))
  f294:=Try.func69.trans (congrArg some (by kernel_rfl))
  f295:=Try.func70.trans (congrArg some (by kernel_rfl))
  f296:=Try.func71.trans (congrArg some (by kernel_rfl))
  f297:=Try.func72.trans (congrArg some (by kernel_rfl))
  f298:=Try.func73.trans (congrArg some (by kernel_rfl))
  f299:=Try.func74.trans (congrArg some (by kernel_rfl))
  f300:=Try.func76.trans (congrArg some (by kernel_rfl))
  f301:=Try.func77.trans (congrArg some (by kernel_rfl))
  f328:=Try.func83.trans (congrArg some (by kernel_rfl))
  f329:=Try.func79.trans (congrArg some (by kernel_rfl))
  f330:=Try.func80.trans (congrArg some (by kernel_rfl))
  f331:=Try.func84.trans (congrArg some (by kernel_rfl))
  f332:=Try.func85.trans (congrArg some (by kernel_rfl))
  f343:=Try.func87.trans (congrArg some (by kernel_rfl))
  t0:=Try.underlying0
  a0:=Try.isAgg0
  z0:=Try.sizeOf0
  v0:=Try.zeroValue0
  t3:=Try.underlying3
  a3:=Try.isAgg3
  z3:=Try.sizeOf3
  v3:=Try.zeroValue3
  t4:=Try.underlying4
  a4:=Try.isAgg4
  z4:=Try.sizeOf4
  v4:=Try.zeroValue4
  t5:=Try.underlying5
  a5:=Try.isAgg5
  z5:=Try.sizeOf5
  v5:=Try.zeroValue5
  t9:=Try.underlying9
  a9:=Try.isAgg9
  z9:=Try.sizeOf9
  v9:=Try.zeroValue9
  t28:=Try.underlying47
  a28:=Try.isAgg47
  z28:=Try.sizeOf47
  v28:=Try.zeroValue47
  t46:=Try.underlying91
  a46:=Try.isAgg91
  z46:=Try.sizeOf91
  v46:=Try.zeroValue91
  t51:=Try.underlying104
  a51:=Try.isAgg104
  z51:=Try.sizeOf104
  v51:=Try.zeroValue104
  t53:=Try.underlying106
  a53:=Try.isAgg106
  z53:=Try.sizeOf106
  v53:=Try.zeroValue106
  t131:=Try.underlying33
  a131:=Try.isAgg33
  z131:=Try.sizeOf33
  v131:=Try.zeroValue33
  t182:=Try.underlying97
  a182:=Try.isAgg97
  z182:=Try.sizeOf97
  v182:=Try.zeroValue97
  t183:=Try.underlying98
  a183:=Try.isAgg98
  z183:=Try.sizeOf98
  v183:=Try.zeroValue98
  t218:=Try.underlying113
  a218:=Try.isAgg113
  z218:=Try.sizeOf113
  v218:=Try.zeroValue113
  t222:=Try.underlying117
  a222:=Try.isAgg117
  z222:=Try.sizeOf117
  v222:=Try.zeroValue117
  t228:=Try.underlying121
  a228:=Try.isAgg121
  z228:=Try.sizeOf121
  v228:=Try.zeroValue121
  t229:=Try.underlying122
  a229:=Try.isAgg122
  z229:=Try.sizeOf122
  v229:=Try.zeroValue122 }
def Try.sortCl_ren : Go.Shelf.Ren:=⟨fun | 6=>41 | 15=>53 | 14=>52 | 28=>66 | 29=>67 | 20=>58 | 21=>59 | 22=>60 | 23=>61 | 24=>62 | 25=>63 | 26=>64 | 27=>65 | 46=>78 | 47=>79 | 48=>80 | 49=>81 | 50=>82 | 57=>86 | n=>n,fun | 22=>42 | 24=>45 | 25=>81 | 3=>3 | 39=>91 | 0=>0 | 53=>104 | 55=>106 | 4=>4 | 46=>98 | 45=>97 | 50=>33 | 5=>5 | 9=>9 | 66=>113 | 70=>117 | 76=>121 | 77=>122 | n=>n,fun | n=>n⟩
theorem Try.sortCl : Go.Proofs.SlLaysF0.n6 Try.prog Try.sortCl_ren:={
  mixed:=by kernel_rfl
  f6:=⟨Try.f41.name,by decide,Try.func41.trans (congrArg some (by kernel_rfl))⟩
  f14:=⟨Try.f52.name,by decide,Try.func52.trans (congrArg some (by kernel_rfl))⟩
  f15:=Try.func53.trans (congrArg some (by kernel_rfl))
  f20:=⟨Try.f58.name,by decide,Try.func58.trans (congrArg some (by kernel_rfl))⟩
  f21:=⟨Try.f59.name,by decide,Try.func59.trans (congrArg some (by kernel_rfl))⟩
  f22:=⟨Try.f60.name,by decide,Try.func60.trans (congrArg some (by kernel_rfl))⟩
  f23:=⟨Try.f61.name,by decide,Try.func61.trans (congrArg some (by kernel_rfl))⟩
  f24:=⟨Try.f62.name,by decide,Try.func62.trans (congrArg some (by kernel_rfl))⟩
  f25:=⟨Try.f63.name,by decide,Try.func63.trans (congrArg some (by kernel_rfl))⟩
  f26:=⟨Try.f64.name,by decide,Try.func64.trans (congrArg some (by kernel_rfl))⟩
  f27:=⟨Try.f65.name,by decide,Try.func65.trans (congrArg some (by kernel_rfl))⟩
  f28:=Try.func66.trans (congrArg some (by kernel_rfl))
  f29:=Try.func67.trans (congrArg some (by kernel_rfl))
  f46:=⟨Try.f78.name,by decide,Try.func78.trans (congrArg some (by kernel_rfl))⟩
  f47:=Try.func79.trans (congrArg some (by kernel_rfl))
  f48:=Try.func80.trans (congrArg some (by kernel_rfl))
  f49:=⟨Try.f81.name,by decide,Try.func81.trans (congrArg some (by kernel_rfl))⟩
  f50:=⟨Try.f82.name,by decide,Try.func82.trans (congrArg some (by kernel_rfl))⟩
  f57:=⟨Try.f86.name,by decide,Try.func86.trans (congrArg some (by kernel_rfl))⟩
  t0:=Try.underlying0
  a0:=Try.isAgg0
  z0:=Try.sizeOf0
  v0:=Try.zeroValue0
  t3:=Try.underlying3
  a3:=Try.isAgg3
  z3:=Try.sizeOf3
  v3:=Try.zeroValue3
  t4:=Try.underlying4
  a4:=Try.isAgg4
  z4:=Try.sizeOf4
  v4:=Try.zeroValue4
  t5:=Try.underlying5
  a5:=Try.isAgg5
  z5:=Try.sizeOf5
  v5:=Try.zeroValue5
  t9:=Try.underlying9
  a9:=Try.isAgg9
  z9:=Try.sizeOf9
  v9:=Try.zeroValue9
  t22:=Try.underlying42
  a22:=Try.isAgg42
  z22:=Try.sizeOf42
  v22:=Try.zeroValue42
  t25:=Try.underlying81
  a25:=Try.isAgg81
  z25:=Try.sizeOf81
  v25:=Try.zeroValue81
  t39:=Try.underlying91
  a39:=Try.isAgg91
  z39:=Try.sizeOf91
  v39:=Try.zeroValue91
  t45:=Try.underlying97
  a45:=Try.isAgg97
  z45:=Try.sizeOf97
  v45:=Try.zeroValue97
  t46:=Try.underlying98
  a46:=Try.isAgg98
  z46:=Try.sizeOf98
  v46:=Try.zeroValue98
  t50:=Try.underlying33
  a50:=Try.isAgg33
  z50:=Try.sizeOf33
  v50:=Try.zeroValue33
  t53:=Try.underlying104
  a53:=Try.isAgg104
  z53:=Try.sizeOf104
  v53:=Try.zeroValue104
  t55:=Try.underlying106
  a55:=Try.isAgg106
  z55:=Try.sizeOf106
  v55:=Try.zeroValue106
  t66:=Try.underlying113
  a66:=Try.isAgg113
  z66:=Try.sizeOf113
  v66:=Try.zeroValue113
  t70:=Try.underlying117
  a70:=Try.isAgg117
  z70:=Try.sizeOf117
  v70:=Try.zeroValue117
  t76:=Try.underlying121
  a76:=Try.isAgg121
  z76:=Try.sizeOf121
  v76:=Try.zeroValue121
  t77:=Try.underlying122
  a77:=Try.isAgg122
  z77:=Try.sizeOf122
  v77:=Try.zeroValue122 }
end Go.Proofs
namespace Go.Proofs.Ytfoafeaplgmhmaa
open Go Go.Am Go.Proofs Go.Mx Go.Shelf Go.RowKit Go.Sort
theorem sort_C : SortC Try.prog 44:=fun blk off cap zs w hH hblk hlen=>Any.slices_Sort_int Try.lays189 blk off cap zs w hH hblk hlen
theorem sort_nil : X.SortNil Try.prog 44 []:=by
  refine X.sortNil_of (fun p cap us m w hr=>?_) (enters_of Try.func44 (by kernel_rfl) rfl)
  unfold RepL at hr
  subst hr
  exact Any.slices_Sort_int_none Try.lays189 p cap w
end Go.Proofs.Ytfoafeaplgmhmaa
