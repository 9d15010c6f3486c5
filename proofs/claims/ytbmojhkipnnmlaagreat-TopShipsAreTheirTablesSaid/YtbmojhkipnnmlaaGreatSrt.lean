/- The library's sort over this program: laid by the kit's tool in its plain mode. Conditions: none. -/
import Derived.Shelf.Sort.Plain
import Derived.Ground.Names2Prog
import Derived.Shelf.Slices.In.SortNone
import Derived.Test.YtbmojhkipnnmlaaGreatTok
import Derived.Test.YtbmojhkipnnmlaaGreatFa
import Derived.Test.YtbmojhkipnnmlaaGreatM
set_option linter.unusedVariables false
namespace Go.Proofs
open Go.Shelf
def Tryz.lays189_ren : Go.Shelf.Ren := ⟨fun | 189 => 119 | 125 => 202 | 257 => 201 | 128 => 254 | 129 => 255 | 294 => 245 | 295 => 246 | 296 => 247 | 297 => 248 | 298 => 249 | 299 => 250 | 216 => 251 | 300 => 252 | 301 => 253 | 328 => 278 | 329 => 279 | 330 => 280 | 331 => 281 | 332 => 282 | 215 => 222 | 343 => 298 | n => n, fun | 28 => 38 | 3 => 3 | 46 => 333 | 0 => 0 | 51 => 379 | 53 => 381 | 4 => 4 | 183 => 373 | 182 => 372 | 131 => 211 | 5 => 5 | 9 => 9 | 218 => 401 | 222 => 405 | 228 => 419 | 229 => 135 | n => n, fun | n => n⟩
theorem Tryz.lays189 : Go.Proofs.Lays.n189 Tryz.prog Tryz.lays189_ren := {
  mixed := by kernel_rfl
  f125 := Tryz.func202.trans (congrArg some (by kernel_rfl))
  f128 := Tryz.func254.trans (congrArg some (by kernel_rfl))
  f129 := Tryz.func255.trans (congrArg some (by kernel_rfl))
  f189 := Tryz.func119.trans (congrArg some (by kernel_rfl))
  f215 := Tryz.func222.trans (congrArg some (by kernel_rfl))
  f216 := Tryz.func251.trans (congrArg some (by kernel_rfl))
  f257 := Tryz.func201.trans (congrArg some (by kernel_rfl))
  f294 := Tryz.func245.trans (congrArg some (by kernel_rfl))
  f295 := Tryz.func246.trans (congrArg some (by kernel_rfl))
  f296 := Tryz.func247.trans (congrArg some (by kernel_rfl))
  f297 := Tryz.func248.trans (congrArg some (by kernel_rfl))
  f298 := Tryz.func249.trans (congrArg some (by kernel_rfl))
  f299 := Tryz.func250.trans (congrArg some (by kernel_rfl))
  f300 := Tryz.func252.trans (congrArg some (by kernel_rfl))
  f301 := Tryz.func253.trans (congrArg some (by kernel_rfl))
  f328 := Tryz.func278.trans (congrArg some (by kernel_rfl))
  f329 := Tryz.func279.trans (congrArg some (by kernel_rfl))
  f330 := Tryz.func280.trans (congrArg some (by kernel_rfl))
  f331 := Tryz.func281.trans (congrArg some (by kernel_rfl))
  f332 := Tryz.func282.trans (congrArg some (by kernel_rfl))
  f343 := Tryz.func298.trans (congrArg some (by kernel_rfl))
  t0 := Tryz.underlying0
  a0 := Tryz.isAgg0
  z0 := Tryz.sizeOf0
  v0 := Tryz.zeroValue0
  t3 := Tryz.underlying3
  a3 := Tryz.isAgg3
  z3 := Tryz.sizeOf3
  v3 := Tryz.zeroValue3
  t4 := Tryz.underlying4
  a4 := Tryz.isAgg4
  z4 := Tryz.sizeOf4
  v4 := Tryz.zeroValue4
  t5 := Tryz.underlying5
  a5 := Tryz.isAgg5
  z5 := Tryz.sizeOf5
  v5 := Tryz.zeroValue5
  t9 := Tryz.underlying9
  a9 := Tryz.isAgg9
  z9 := Tryz.sizeOf9
  v9 := Tryz.zeroValue9
  t28 := Tryz.underlying38
  a28 := Tryz.isAgg38
  z28 := Tryz.sizeOf38
  v28 := Tryz.zeroValue38
  t46 := Tryz.underlying333
  a46 := Tryz.isAgg333
  z46 := Tryz.sizeOf333
  v46 := Tryz.zeroValue333
  t51 := Tryz.underlying379
  a51 := Tryz.isAgg379
  z51 := Tryz.sizeOf379
  v51 := Tryz.zeroValue379
  t53 := Tryz.underlying381
  a53 := Tryz.isAgg381
  z53 := Tryz.sizeOf381
  v53 := Tryz.zeroValue381
  t131 := Tryz.underlying211
  a131 := Tryz.isAgg211
  z131 := Tryz.sizeOf211
  v131 := Tryz.zeroValue211
  t182 := Tryz.underlying372
  a182 := Tryz.isAgg372
  z182 := Tryz.sizeOf372
  v182 := Tryz.zeroValue372
  t183 := Tryz.underlying373
  a183 := Tryz.isAgg373
  z183 := Tryz.sizeOf373
  v183 := Tryz.zeroValue373
  t218 := Tryz.underlying401
  a218 := Tryz.isAgg401
  z218 := Tryz.sizeOf401
  v218 := Tryz.zeroValue401
  t222 := Tryz.underlying405
  a222 := Tryz.isAgg405
  z222 := Tryz.sizeOf405
  v222 := Tryz.zeroValue405
  t228 := Tryz.underlying419
  a228 := Tryz.isAgg419
  z228 := Tryz.sizeOf419
  v228 := Tryz.zeroValue419
  t229 := Tryz.underlying135
  a229 := Tryz.isAgg135
  z229 := Tryz.sizeOf135
  v229 := Tryz.zeroValue135 }
end Go.Proofs
namespace Go.Proofs.YtbmojhkipnnmlaaGreat
open Go Go.Am Go.Proofs Go.Mx Go.Shelf Go.RowKit Go.Sort
theorem sort_C : SortC Tryz.prog 119 := fun blk off cap zs w hH hblk hlen => Any.slices_Sort_int Tryz.lays189 blk off cap zs w hH hblk hlen
theorem sort_nil : X.SortNil Tryz.prog 119 [] := by
  refine X.sortNil_of (fun p cap us m w hr => ?_) (enters_of Tryz.func119 (by kernel_rfl) rfl)
  unfold RepL at hr
  subst hr
  exact Any.slices_Sort_int_none Tryz.lays189 p cap w
end Go.Proofs.YtbmojhkipnnmlaaGreat
