/- The library's sort over this program: laid by the kit's tool in its plain mode; and the comparison of the gauges. Conditions: none. -/
import Derived.Shelf.SlSortCmp.WholeK
import Derived.Shelf.SlSortCmp.NoneTotal
import Derived.Shelf.SlicesG.Cmp
import Derived.Shelf.Sort.Plain
import Derived.Shelf.Slices.In.SortNone
import Derived.Test.YtphmekpaalfliaaTok
import Derived.Test.YtphmekpaalfliaaOwn
import Derived.Test.YtphmekpaalfliaaM
set_option linter.unusedVariables false
set_option linter.unusedSimpArgs false
namespace Go.Proofs
open Go.Shelf
def Try.sortKn_ren : Go.Shelf.Ren := ⟨fun | 6 => 99 | 15 => 121 | 14 => 120 | 28 => 134 | 29 => 135 | 20 => 126 | 21 => 127 | 22 => 128 | 23 => 129 | 24 => 130 | 25 => 131 | 26 => 132 | 27 => 133 | 46 => 145 | 47 => 146 | 48 => 147 | 49 => 148 | 50 => 149 | 57 => 153 | n => n, fun | 22 => 113 | 24 => 123 | 25 => 153 | 3 => 3 | 39 => 168 | 0 => 0 | 53 => 180 | 55 => 182 | 4 => 4 | 46 => 174 | 45 => 173 | 50 => 165 | 5 => 5 | 9 => 9 | 66 => 189 | 70 => 193 | 76 => 197 | 77 => 157 | n => n, fun | n => n⟩
theorem Try.sortKn : Go.Proofs.SlLaysF0.n6 Try.prog Try.sortKn_ren := {
  mixed := by kernel_rfl
  f6 := ⟨Try.f99.name, by decide, Try.func99.trans (congrArg some (by kernel_rfl))⟩
  f14 := ⟨Try.f120.name, by decide, Try.func120.trans (congrArg some (by kernel_rfl))⟩
  f15 := Try.func121.trans (congrArg some (by kernel_rfl))
  f20 := ⟨Try.f126.name, by decide, Try.func126.trans (congrArg some (by kernel_rfl))⟩
  f21 := ⟨Try.f127.name, by decide, Try.func127.trans (congrArg some (by kernel_rfl))⟩
  f22 := ⟨Try.f128.name, by decide, Try.func128.trans (congrArg some (by kernel_rfl))⟩
  f23 := ⟨Try.f129.name, by decide, Try.func129.trans (congrArg some (by kernel_rfl))⟩
  f24 := ⟨Try.f130.name, by decide, Try.func130.trans (congrArg some (by kernel_rfl))⟩
  f25 := ⟨Try.f131.name, by decide, Try.func131.trans (congrArg some (by kernel_rfl))⟩
  f26 := ⟨Try.f132.name, by decide, Try.func132.trans (congrArg some (by kernel_rfl))⟩
  f27 := ⟨Try.f133.name, by decide, Try.func133.trans (congrArg some (by kernel_rfl))⟩
  f28 := Try.func134.trans (congrArg some (by kernel_rfl))
  f29 := Try.func135.trans (congrArg some (by kernel_rfl))
  f46 := ⟨Try.f145.name, by decide, Try.func145.trans (congrArg some (by kernel_rfl))⟩
  f47 := Try.func146.trans (congrArg some (by kernel_rfl))
  f48 := Try.func147.trans (congrArg some (by kernel_rfl))
  f49 := ⟨Try.f148.name, by decide, Try.func148.trans (congrArg some (by kernel_rfl))⟩
  f50 := ⟨Try.f149.name, by decide, Try.func149.trans (congrArg some (by kernel_rfl))⟩
  f57 := ⟨Try.f153.name, by decide, Try.func153.trans (congrArg some (by kernel_rfl))⟩
  t0 := Try.underlying0
  a0 := Try.isAgg0
  z0 := Try.sizeOf0
  v0 := Try.zeroValue0
  t3 := Try.underlying3
  a3 := Try.isAgg3
  z3 := Try.sizeOf3
  v3 := Try.zeroValue3
  t4 := Try.underlying4
  a4 := Try.isAgg4
  z4 := Try.sizeOf4
  v4 := Try.zeroValue4
  t5 := Try.underlying5
  a5 := Try.isAgg5
  z5 := Try.sizeOf5
  v5 := Try.zeroValue5
  t9 := Try.underlying9
  a9 := Try.isAgg9
  z9 := Try.sizeOf9
  v9 := Try.zeroValue9
  t22 := Try.underlying113
  a22 := Try.isAgg113
  z22 := Try.sizeOf113
  v22 := Try.zeroValue113
  t25 := Try.underlying153
  a25 := Try.isAgg153
  z25 := Try.sizeOf153
  v25 := Try.zeroValue153
  t39 := Try.underlying168
  a39 := Try.isAgg168
  z39 := Try.sizeOf168
  v39 := Try.zeroValue168
  t45 := Try.underlying173
  a45 := Try.isAgg173
  z45 := Try.sizeOf173
  v45 := Try.zeroValue173
  t46 := Try.underlying174
  a46 := Try.isAgg174
  z46 := Try.sizeOf174
  v46 := Try.zeroValue174
  t50 := Try.underlying165
  a50 := Try.isAgg165
  z50 := Try.sizeOf165
  v50 := Try.zeroValue165
  t53 := Try.underlying180
  a53 := Try.isAgg180
  z53 := Try.sizeOf180
  v53 := Try.zeroValue180
  t55 := Try.underlying182
  a55 := Try.isAgg182
  z55 := Try.sizeOf182
  v55 := Try.zeroValue182
  t66 := Try.underlying189
  a66 := Try.isAgg189
  z66 := Try.sizeOf189
  v66 := Try.zeroValue189
  t70 := Try.underlying193
  a70 := Try.isAgg193
  z70 := Try.sizeOf193
  v70 := Try.zeroValue193
  t76 := Try.underlying197
  a76 := Try.isAgg197
  z76 := Try.sizeOf197
  v76 := Try.zeroValue197
  t77 := Try.underlying157
  a77 := Try.isAgg157
  z77 := Try.sizeOf157
  v77 := Try.zeroValue157 }
def Try.cmpInt_ren : Go.Shelf.Ren := ⟨fun | 5 => 101 | 7 => 122 | n => n, fun | 22 => 3 | 3 => 3 | 4 => 4 | n => n, fun | n => n⟩
theorem Try.cmpInt : Go.Proofs.SlLaysC2.n5 Try.prog Try.cmpInt_ren := {
  mixed := by kernel_rfl
  f5 := ⟨Try.f101.name, by decide, Try.func101.trans (congrArg some (by kernel_rfl))⟩
  f7 := ⟨Try.f122.name, by decide, Try.func122.trans (congrArg some (by kernel_rfl))⟩
  t3 := Try.underlying3
  a3 := Try.isAgg3
  z3 := Try.sizeOf3
  v3 := Try.zeroValue3
  t4 := Try.underlying4
  a4 := Try.isAgg4
  z4 := Try.sizeOf4
  v4 := Try.zeroValue4
  t22 := Try.underlying3
  a22 := Try.isAgg3
  z22 := Try.sizeOf3
  v22 := Try.zeroValue3 }
def Try.lays189_ren : Go.Shelf.Ren := ⟨fun | 189 => 103 | 125 => 121 | 257 => 123 | 128 => 134 | 129 => 135 | 294 => 136 | 295 => 137 | 296 => 138 | 297 => 139 | 298 => 140 | 299 => 141 | 216 => 142 | 300 => 143 | 301 => 144 | 328 => 150 | 329 => 146 | 330 => 147 | 331 => 151 | 332 => 152 | 215 => 122 | 343 => 154 | n => n, fun | 28 => 26 | 3 => 3 | 46 => 168 | 0 => 0 | 51 => 180 | 53 => 182 | 4 => 4 | 183 => 174 | 182 => 173 | 131 => 165 | 5 => 5 | 9 => 9 | 218 => 189 | 222 => 193 | 228 => 197 | 229 => 157 | n => n, fun | n => n⟩
theorem Try.lays189 : Go.Proofs.Lays.n189 Try.prog Try.lays189_ren := {
  mixed := by kernel_rfl
  f125 := Try.func121.trans (congrArg some (by kernel_rfl))
  f128 := Try.func134.trans (congrArg some (by kernel_rfl))
  f129 := Try.func135.trans (congrArg some (by kernel_rfl))
  f189 := Try.func103.trans (congrArg some (by kernel_rfl))
  f215 := Try.func122.trans (congrArg some (by kernel_rfl))
  f216 := Try.func142.trans (congrArg some (by kernel_rfl))
  f257 := Try.func123.trans (congrArg some (by kernel_rfl))
  f294 := Try.func136.trans (congrArg some (by kernel_rfl))
  f295 := Try.func137.trans (congrArg some (by kernel_rfl))
  f296 := Try.func138.trans (congrArg some (by kernel_rfl))
  f297 := Try.func139.trans (congrArg some (by kernel_rfl))
  f298 := Try.func140.trans (congrArg some (by kernel_rfl))
  f299 := Try.func141.trans (congrArg some (by kernel_rfl))
  f300 := Try.func143.trans (congrArg some (by kernel_rfl))
  f301 := Try.func144.trans (congrArg some (by kernel_rfl))
  f328 := Try.func150.trans (congrArg some (by kernel_rfl))
  f329 := Try.func146.trans (congrArg some (by kernel_rfl))
  f330 := Try.func147.trans (congrArg some (by kernel_rfl))
  f331 := Try.func151.trans (congrArg some (by kernel_rfl))
  f332 := Try.func152.trans (congrArg some (by kernel_rfl))
  f343 := Try.func154.trans (congrArg some (by kernel_rfl))
  t0 := Try.underlying0
  a0 := Try.isAgg0
  z0 := Try.sizeOf0
  v0 := Try.zeroValue0
  t3 := Try.underlying3
  a3 := Try.isAgg3
  z3 := Try.sizeOf3
  v3 := Try.zeroValue3
  t4 := Try.underlying4
  a4 := Try.isAgg4
  z4 := Try.sizeOf4
  v4 := Try.zeroValue4
  t5 := Try.underlying5
  a5 := Try.isAgg5
  z5 := Try.sizeOf5
  v5 := Try.zeroValue5
  t9 := Try.underlying9
  a9 := Try.isAgg9
  z9 := Try.sizeOf9
  v9 := Try.zeroValue9
  t28 := Try.underlying26
  a28 := Try.isAgg26
  z28 := Try.sizeOf26
  v28 := Try.zeroValue26
  t46 := Try.underlying168
  a46 := Try.isAgg168
  z46 := Try.sizeOf168
  v46 := Try.zeroValue168
  t51 := Try.underlying180
  a51 := Try.isAgg180
  z51 := Try.sizeOf180
  v51 := Try.zeroValue180
  t53 := Try.underlying182
  a53 := Try.isAgg182
  z53 := Try.sizeOf182
  v53 := Try.zeroValue182
  t131 := Try.underlying165
  a131 := Try.isAgg165
  z131 := Try.sizeOf165
  v131 := Try.zeroValue165
  t182 := Try.underlying173
  a182 := Try.isAgg173
  z182 := Try.sizeOf173
  v182 := Try.zeroValue173
  t183 := Try.underlying174
  a183 := Try.isAgg174
  z183 := Try.sizeOf174
  v183 := Try.zeroValue174
  t218 := Try.underlying189
  a218 := Try.isAgg189
  z218 := Try.sizeOf189
  v218 := Try.zeroValue189
  t222 := Try.underlying193
  a222 := Try.isAgg193
  z222 := Try.sizeOf193
  v222 := Try.zeroValue193
  t228 := Try.underlying197
  a228 := Try.isAgg197
  z228 := Try.sizeOf197
  v228 := Try.zeroValue197
  t229 := Try.underlying157
  a229 := Try.isAgg157
  z229 := Try.sizeOf157
  v229 := Try.zeroValue157 }
end Go.Proofs
namespace Go.Proofs.Ytphmekpaalfliaa
open Go Go.Am Go.Proofs Go.Mx Go.Shelf Go.RowKit Go.Sort

/-- A known gauge's cells. -/
def encKn (x : tide_known) : List Value := [.int .i64 x.Gauge.ID, .int .i64 x.Gauge.Tick, .int .i64 x.Gauge.Read.Lo, .int .i64 x.Gauge.Read.Hi, .int .i64 x.levels.Lo, .int .i64 x.levels.Hi]
theorem encKn_one (x : tide_known) : ∀ v ∈ encKn x, v.oneCell' = true := by
  intro v hv
  simp only [encKn, List.mem_cons, List.not_mem_nil, or_false] at hv
  rcases hv with rfl | rfl | rfl | rfl | rfl | rfl <;> rfl
theorem encKn_flat (x : tide_known) : ∀ v ∈ encKn x, ∀ c, v ≠ .agg c := by
  intro v hv c
  simp only [encKn, List.mem_cons, List.not_mem_nil, or_false] at hv
  rcases hv with rfl | rfl | rfl | rfl | rfl | rfl <;> intro h <;> cases h
def cfKn (x y : tide_known) : Int := Lib.compareInt x.Gauge.ID y.Gauge.ID
theorem ltKn (x y : tide_known) : ltOf cfKn x y = lt_known x y := by
  unfold ltOf cfKn Lib.compareInt lt_known
  by_cases h1 : x.Gauge.ID < y.Gauge.ID
  · simp [h1]
  · by_cases h2 : y.Gauge.ID < x.Gauge.ID <;> simp [h1, h2]
theorem ltKn_swo : SWO lt_known := ⟨fun x => by unfold lt_known; simp, fun x y z h1 h2 => by unfold lt_known at *; simp at *; omega, fun x y z h1 h2 => by unfold lt_known at *; simp at *; omega⟩

set_option maxHeartbeats 1000000 in
theorem closureKn (x y : tide_known) (W : World) : Calls Try.prog 100 #[.agg (encKn x).toArray, .agg (encKn y).toArray] W fun e w' => e = .returned (.int .i64 (cfKn x y)) ∧ ∃ q os', w' = Go.Sort.grow (W.drewN q) os' := by
  have hcon := fun W' => AnyG.cmp_Compare_int Try.cmpInt x.Gauge.ID y.Gauge.ID W'
  change ∀ W', Calls Try.prog 101 _ _ _ at hcon
  show Calls Try.prog 100 #[.agg #[.int .i64 x.Gauge.ID, .int .i64 x.Gauge.Tick, .int .i64 x.Gauge.Read.Lo, .int .i64 x.Gauge.Read.Hi, .int .i64 x.levels.Lo, .int .i64 x.levels.Hi], .agg #[.int .i64 y.Gauge.ID, .int .i64 y.Gauge.Tick, .int .i64 y.Gauge.Read.Lo, .int .i64 y.Gauge.Read.Hi, .int .i64 y.levels.Lo, .int .i64 y.levels.Hi]] W _
  unfold cfKn
  generalize Lib.compareInt x.Gauge.ID y.Gauge.ID = r at hcon ⊢
  go_enter Try.func100, Try.ntmps100
  go_wp2_with (go_at_call 101; refine (hcon _).mono ?_; rintro e w' ⟨rfl, rfl⟩)
  go_ret
  exact ⟨rfl, 0, _, by rw [alloc_eq_grow, alloc_eq_grow, grow_grow]; rfl⟩

theorem sortKn : SortK Try.prog 99 100 6 encKn (srtF lt_known) := by
  intro blk off cap d w hH hblk hlen
  have eg : ∀ args w, (callFunc 100 args).run Try.prog w = .ok (.enter 100 args) w := enters_of Try.func100 (by kernel_rfl) rfl
  have hcmp : CmpLays Try.prog 100 #[] encKn 6 cfKn blk off d.toArray.size w := fun _ _ _ _ x y => closureKn x y _
  have hlt : ltOf cfKn = lt_known := funext fun x => funext fun y => ltKn x y
  have hcon := AnyQ.slices_SortFunc_eq Try.sortKn 6 Try.isAgg123 Try.sizeOf123 encKn (fun _ => rfl) encKn_one cfKn (by rw [hlt]; exact ltKn_swo) 100 #[] blk off cap d.toArray w eg hcmp hH hblk (by simpa using hlen)
  rw [hlt] at hcon
  change Calls Try.prog 99 _ _ _ at hcon
  have e : d.toArray.size = d.length := List.size_toArray
  rw [e] at hcon
  refine hcon.mono ?_
  rintro e w' ⟨rfl, n, os, rfl⟩
  exact ⟨rfl, n, os, by unfold srtF; rw [Array.toArray_toList]⟩
theorem nilKn : X.SortNil Try.prog 99 [.fn 100 []] := by
  refine X.sortNil_of (fun p cap us m w hr => ?_) (enters_of Try.func99 (by kernel_rfl) rfl)
  unfold RepL at hr
  obtain ⟨u, us', rfl, hu, hus⟩ := hr
  unfold RepL at hus
  subst hus
  exact AnyF.slices_SortFunc_none Try.sortKn p cap u w
theorem sort_C : SortC Try.prog 103 := fun blk off cap zs w hH hblk hlen => Any.slices_Sort_int Try.lays189 blk off cap zs w hH hblk hlen
theorem sort_nil : X.SortNil Try.prog 103 [] := by
  refine X.sortNil_of (fun p cap us m w hr => ?_) (enters_of Try.func103 (by kernel_rfl) rfl)
  unfold RepL at hr
  subst hr
  exact Any.slices_Sort_int_none Try.lays189 p cap w
end Go.Proofs.Ytphmekpaalfliaa
