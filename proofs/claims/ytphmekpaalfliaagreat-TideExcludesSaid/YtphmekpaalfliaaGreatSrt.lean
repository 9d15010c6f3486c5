/- The library's sort over this program: laid by the kit's tool in its plain mode; and the comparison of the gauges. Conditions: none. -/
import Derived.Shelf.SlSortCmp.WholeK
import Derived.Shelf.SlSortCmp.NoneTotal
import Derived.Shelf.SlicesG.Cmp
import Derived.Shelf.Sort.Plain
import Derived.Shelf.Slices.In.SortNone
import Derived.Test.YtphmekpaalfliaaGreatTok
import Derived.Test.YtphmekpaalfliaaGreatOwn
import Derived.Test.YtphmekpaalfliaaGreatM
set_option linter.unusedVariables false
set_option linter.unusedSimpArgs false
namespace Go.Proofs
open Go.Shelf
def Tryz.sortKn_ren : Go.Shelf.Ren := ⟨fun | 6 => 47 | 15 => 76 | 14 => 75 | 28 => 104 | 29 => 105 | 20 => 96 | 21 => 97 | 22 => 98 | 23 => 99 | 24 => 100 | 25 => 101 | 26 => 102 | 27 => 103 | 46 => 119 | 47 => 120 | 48 => 121 | 49 => 122 | 50 => 123 | 57 => 128 | n => n, fun | 22 => 80 | 24 => 89 | 25 => 96 | 3 => 3 | 39 => 130 | 0 => 0 | 53 => 152 | 55 => 154 | 4 => 4 | 46 => 146 | 45 => 145 | 50 => 140 | 5 => 5 | 9 => 9 | 66 => 163 | 70 => 167 | 76 => 171 | 77 => 134 | n => n, fun | n => n⟩
theorem Tryz.sortKn : Go.Proofs.SlLaysF0.n6 Tryz.prog Tryz.sortKn_ren := {
  mixed := by kernel_rfl
  f6 := ⟨Tryz.f47.name, by decide, Tryz.func47.trans (congrArg some (by kernel_rfl))⟩
  f14 := ⟨Tryz.f75.name, by decide, Tryz.func75.trans (congrArg some (by kernel_rfl))⟩
  f15 := Tryz.func76.trans (congrArg some (by kernel_rfl))
  f20 := ⟨Tryz.f96.name, by decide, Tryz.func96.trans (congrArg some (by kernel_rfl))⟩
  f21 := ⟨Tryz.f97.name, by decide, Tryz.func97.trans (congrArg some (by kernel_rfl))⟩
  f22 := ⟨Tryz.f98.name, by decide, Tryz.func98.trans (congrArg some (by kernel_rfl))⟩
  f23 := ⟨Tryz.f99.name, by decide, Tryz.func99.trans (congrArg some (by kernel_rfl))⟩
  f24 := ⟨Tryz.f100.name, by decide, Tryz.func100.trans (congrArg some (by kernel_rfl))⟩
  f25 := ⟨Tryz.f101.name, by decide, Tryz.func101.trans (congrArg some (by kernel_rfl))⟩
  f26 := ⟨Tryz.f102.name, by decide, Tryz.func102.trans (congrArg some (by kernel_rfl))⟩
  f27 := ⟨Tryz.f103.name, by decide, Tryz.func103.trans (congrArg some (by kernel_rfl))⟩
  f28 := Tryz.func104.trans (congrArg some (by kernel_rfl))
  f29 := Tryz.func105.trans (congrArg some (by kernel_rfl))
  f46 := ⟨Tryz.f119.name, by decide, Tryz.func119.trans (congrArg some (by kernel_rfl))⟩
  f47 := Tryz.func120.trans (congrArg some (by kernel_rfl))
  f48 := Tryz.func121.trans (congrArg some (by kernel_rfl))
  f49 := ⟨Tryz.f122.name, by decide, Tryz.func122.trans (congrArg some (by kernel_rfl))⟩
  f50 := ⟨Tryz.f123.name, by decide, Tryz.func123.trans (congrArg some (by kernel_rfl))⟩
  f57 := ⟨Tryz.f128.name, by decide, Tryz.func128.trans (congrArg some (by kernel_rfl))⟩
  t0 := Tryz.underlying0
  a0 := Tryz.isAgg0
  z0 := Tryz.sizeOf0
  v0 := Tryz.zeroValue0
  t3 := Tryz.underlying3
  a3 := Tryz.isAgg3
  z3 := Tryz.sizeOf3
  v3 := Tryz.zeroValue3
  t4 := Tryz.underlying4
  a4 := Tryz.isAgg4
  z4 := Tryz.sizeOf4
  v4 := Tryz.zeroValue4
  t5 := Tryz.underlying5
  a5 := Tryz.isAgg5
  z5 := Tryz.sizeOf5
  v5 := Tryz.zeroValue5
  t9 := Tryz.underlying9
  a9 := Tryz.isAgg9
  z9 := Tryz.sizeOf9
  v9 := Tryz.zeroValue9
  t22 := Tryz.underlying80
  a22 := Tryz.isAgg80
  z22 := Tryz.sizeOf80
  v22 := Tryz.zeroValue80
  t25 := Tryz.underlying96
  a25 := Tryz.isAgg96
  z25 := Tryz.sizeOf96
  v25 := Tryz.zeroValue96
  t39 := Tryz.underlying130
  a39 := Tryz.isAgg130
  z39 := Tryz.sizeOf130
  v39 := Tryz.zeroValue130
  t45 := Tryz.underlying145
  a45 := Tryz.isAgg145
  z45 := Tryz.sizeOf145
  v45 := Tryz.zeroValue145
  t46 := Tryz.underlying146
  a46 := Tryz.isAgg146
  z46 := Tryz.sizeOf146
  v46 := Tryz.zeroValue146
  t50 := Tryz.underlying140
  a50 := Tryz.isAgg140
  z50 := Tryz.sizeOf140
  v50 := Tryz.zeroValue140
  t53 := Tryz.underlying152
  a53 := Tryz.isAgg152
  z53 := Tryz.sizeOf152
  v53 := Tryz.zeroValue152
  t55 := Tryz.underlying154
  a55 := Tryz.isAgg154
  z55 := Tryz.sizeOf154
  v55 := Tryz.zeroValue154
  t66 := Tryz.underlying163
  a66 := Tryz.isAgg163
  z66 := Tryz.sizeOf163
  v66 := Tryz.zeroValue163
  t70 := Tryz.underlying167
  a70 := Tryz.isAgg167
  z70 := Tryz.sizeOf167
  v70 := Tryz.zeroValue167
  t76 := Tryz.underlying171
  a76 := Tryz.isAgg171
  z76 := Tryz.sizeOf171
  v76 := Tryz.zeroValue171
  t77 := Tryz.underlying134
  a77 := Tryz.isAgg134
  z77 := Tryz.sizeOf134
  v77 := Tryz.zeroValue134 }
def Tryz.cmpInt_ren : Go.Shelf.Ren := ⟨fun | 5 => 49 | 7 => 77 | n => n, fun | 22 => 3 | 3 => 3 | 4 => 4 | n => n, fun | n => n⟩
theorem Tryz.cmpInt : Go.Proofs.SlLaysC2.n5 Tryz.prog Tryz.cmpInt_ren := {
  mixed := by kernel_rfl
  f5 := ⟨Tryz.f49.name, by decide, Tryz.func49.trans (congrArg some (by kernel_rfl))⟩
  f7 := ⟨Tryz.f77.name, by decide, Tryz.func77.trans (congrArg some (by kernel_rfl))⟩
  t3 := Tryz.underlying3
  a3 := Tryz.isAgg3
  z3 := Tryz.sizeOf3
  v3 := Tryz.zeroValue3
  t4 := Tryz.underlying4
  a4 := Tryz.isAgg4
  z4 := Tryz.sizeOf4
  v4 := Tryz.zeroValue4
  t22 := Tryz.underlying3
  a22 := Tryz.isAgg3
  z22 := Tryz.sizeOf3
  v22 := Tryz.zeroValue3 }
def Tryz.lays189_ren : Go.Shelf.Ren := ⟨fun | 189 => 53 | 125 => 76 | 257 => 79 | 128 => 104 | 129 => 105 | 294 => 108 | 295 => 109 | 296 => 110 | 297 => 111 | 298 => 112 | 299 => 113 | 216 => 114 | 300 => 115 | 301 => 116 | 328 => 125 | 329 => 120 | 330 => 121 | 331 => 126 | 332 => 127 | 215 => 77 | 343 => 129 | n => n, fun | 28 => 29 | 3 => 3 | 46 => 130 | 0 => 0 | 51 => 152 | 53 => 154 | 4 => 4 | 183 => 146 | 182 => 145 | 131 => 140 | 5 => 5 | 9 => 9 | 218 => 163 | 222 => 167 | 228 => 171 | 229 => 134 | n => n, fun | n => n⟩
theorem Tryz.lays189 : Go.Proofs.Lays.n189 Tryz.prog Tryz.lays189_ren := {
  mixed := by kernel_rfl
  f125 := Tryz.func76.trans (congrArg some (by kernel_rfl))
  f128 := Tryz.func104.trans (congrArg some (by kernel_rfl))
  f129 := Tryz.func105.trans (congrArg some (by kernel_rfl))
  f189 := Tryz.func53.trans (congrArg some (by kernel_rfl))
  f215 := Tryz.func77.trans (congrArg some (by kernel_rfl))
  f216 := Tryz.func114.trans (congrArg some (by kernel_rfl))
  f257 := Tryz.func79.trans (congrArg some (by kernel_rfl))
  f294 := Tryz.func108.trans (congrArg some (by kernel_rfl))
  f295 := Tryz.func109.trans (congrArg some (by kernel_rfl))
  f296 := Tryz.func110.trans (congrArg some (by kernel_rfl))
  f297 := Tryz.func111.trans (congrArg some (by kernel_rfl))
  f298 := Tryz.func112.trans (congrArg some (by kernel_rfl))
  f299 := Tryz.func113.trans (congrArg some (by kernel_rfl))
  f300 := Tryz.func115.trans (congrArg some (by kernel_rfl))
  f301 := Tryz.func116.trans (congrArg some (by kernel_rfl))
  f328 := Tryz.func125.trans (congrArg some (by kernel_rfl))
  f329 := Tryz.func120.trans (congrArg some (by kernel_rfl))
  f330 := Tryz.func121.trans (congrArg some (by kernel_rfl))
  f331 := Tryz.func126.trans (congrArg some (by kernel_rfl))
  f332 := Tryz.func127.trans (congrArg some (by kernel_rfl))
  f343 := Tryz.func129.trans (congrArg some (by kernel_rfl))
  t0 := Tryz.underlying0
  a0 := Tryz.isAgg0
  z0 := Tryz.sizeOf0
  v0 := Tryz.zeroValue0
  t3 := Tryz.underlying3
  a3 := Tryz.isAgg3
  z3 := Tryz.sizeOf3
  v3 := Tryz.zeroValue3
  t4 := Tryz.underlying4
  a4 := Tryz.isAgg4
  z4 := Tryz.sizeOf4
  v4 := Tryz.zeroValue4
  t5 := Tryz.underlying5
  a5 := Tryz.isAgg5
  z5 := Tryz.sizeOf5
  v5 := Tryz.zeroValue5
  t9 := Tryz.underlying9
  a9 := Tryz.isAgg9
  z9 := Tryz.sizeOf9
  v9 := Tryz.zeroValue9
  t28 := Tryz.underlying29
  a28 := Tryz.isAgg29
  z28 := Tryz.sizeOf29
  v28 := Tryz.zeroValue29
  t46 := Tryz.underlying130
  a46 := Tryz.isAgg130
  z46 := Tryz.sizeOf130
  v46 := Tryz.zeroValue130
  t51 := Tryz.underlying152
  a51 := Tryz.isAgg152
  z51 := Tryz.sizeOf152
  v51 := Tryz.zeroValue152
  t53 := Tryz.underlying154
  a53 := Tryz.isAgg154
  z53 := Tryz.sizeOf154
  v53 := Tryz.zeroValue154
  t131 := Tryz.underlying140
  a131 := Tryz.isAgg140
  z131 := Tryz.sizeOf140
  v131 := Tryz.zeroValue140
  t182 := Tryz.underlying145
  a182 := Tryz.isAgg145
  z182 := Tryz.sizeOf145
  v182 := Tryz.zeroValue145
  t183 := Tryz.underlying146
  a183 := Tryz.isAgg146
  z183 := Tryz.sizeOf146
  v183 := Tryz.zeroValue146
  t218 := Tryz.underlying163
  a218 := Tryz.isAgg163
  z218 := Tryz.sizeOf163
  v218 := Tryz.zeroValue163
  t222 := Tryz.underlying167
  a222 := Tryz.isAgg167
  z222 := Tryz.sizeOf167
  v222 := Tryz.zeroValue167
  t228 := Tryz.underlying171
  a228 := Tryz.isAgg171
  z228 := Tryz.sizeOf171
  v228 := Tryz.zeroValue171
  t229 := Tryz.underlying134
  a229 := Tryz.isAgg134
  z229 := Tryz.sizeOf134
  v229 := Tryz.zeroValue134 }
end Go.Proofs
namespace Go.Proofs.YtphmekpaalfliaaGreat
open Go Go.Am Go.Proofs Go.Mx Go.Shelf Go.RowKit Go.Sort

/-- A known gauge's cells. -/
def encKn (x : tide_known) : List Value := [.int .i64 x.Gauge.ID, .int .i64 x.Gauge.Tick, .int .i64 x.Gauge.Read.Lo, .int .i64 x.Gauge.Read.Hi, .int .i64 x.levels.Lo, .int .i64 x.levels.Hi]
theorem encKn_one (x : tide_known) : ∀ v ∈ encKn x, v.oneCell' = true := by
  intro v hv
  simp only [encKn, List.mem_cons, List.not_mem_nil, or_false] at hv
  rcases hv with rfl | rfl | rfl | rfl | rfl | rfl <;> rfl
theorem encKn_flat (x : tide_known) : ∀ v ∈ encKn x, ∀ c, v ≠ .agg c := by
  intro v hv c
  simp only [encKn, List.mem_cons, List.not_mem_nil, or_false] at hv
  rcases hv with rfl | rfl | rfl | rfl | rfl | rfl <;> intro h <;> cases h
def cfKn (x y : tide_known) : Int := Lib.compareInt x.Gauge.ID y.Gauge.ID
theorem ltKn (x y : tide_known) : ltOf cfKn x y = lt_known x y := by
  unfold ltOf cfKn Lib.compareInt lt_known
  by_cases h1 : x.Gauge.ID < y.Gauge.ID
  · simp [h1]
  · by_cases h2 : y.Gauge.ID < x.Gauge.ID <;> simp [h1, h2]
theorem ltKn_swo : SWO lt_known := ⟨fun x => by unfold lt_known; simp, fun x y z h1 h2 => by unfold lt_known at *; simp at *; omega, fun x y z h1 h2 => by unfold lt_known at *; simp at *; omega⟩

set_option maxHeartbeats 1000000 in
theorem closureKn (x y : tide_known) (W : World) : Calls Tryz.prog 48 #[.agg (encKn x).toArray, .agg (encKn y).toArray] W fun e w' => e = .returned (.int .i64 (cfKn x y)) ∧ ∃ q os', w' = Go.Sort.grow (W.drewN q) os' := by
  have hcon := fun W' => AnyG.cmp_Compare_int Tryz.cmpInt x.Gauge.ID y.Gauge.ID W'
  change ∀ W', Calls Tryz.prog 49 _ _ _ at hcon
  show Calls Tryz.prog 48 #[.agg #[.int .i64 x.Gauge.ID, .int .i64 x.Gauge.Tick, .int .i64 x.Gauge.Read.Lo, .int .i64 x.Gauge.Read.Hi, .int .i64 x.levels.Lo, .int .i64 x.levels.Hi], .agg #[.int .i64 y.Gauge.ID, .int .i64 y.Gauge.Tick, .int .i64 y.Gauge.Read.Lo, .int .i64 y.Gauge.Read.Hi, .int .i64 y.levels.Lo, .int .i64 y.levels.Hi]] W _
  unfold cfKn
  generalize Lib.compareInt x.Gauge.ID y.Gauge.ID = r at hcon ⊢
  go_enter Tryz.func48, Tryz.ntmps48
  go_wp2_with (go_at_call 49; refine (hcon _).mono ?_; rintro e w' ⟨rfl, rfl⟩)
  go_ret
  exact ⟨rfl, 0, _, by rw [alloc_eq_grow, alloc_eq_grow, grow_grow]; rfl⟩

theorem sortKn : SortK Tryz.prog 47 48 6 encKn (srtF lt_known) := by
  intro blk off cap d w hH hblk hlen
  have eg : ∀ args w, (callFunc 48 args).run Tryz.prog w = .ok (.enter 48 args) w := enters_of Tryz.func48 (by kernel_rfl) rfl
  have hcmp : CmpLays Tryz.prog 48 #[] encKn 6 cfKn blk off d.toArray.size w := fun _ _ _ _ x y => closureKn x y _
  have hlt : ltOf cfKn = lt_known := funext fun x => funext fun y => ltKn x y
  have hcon := AnyQ.slices_SortFunc_eq Tryz.sortKn 6 Tryz.isAgg89 Tryz.sizeOf89 encKn (fun _ => rfl) encKn_one cfKn (by rw [hlt]; exact ltKn_swo) 48 #[] blk off cap d.toArray w eg hcmp hH hblk (by simpa using hlen)
  rw [hlt] at hcon
  change Calls Tryz.prog 47 _ _ _ at hcon
  have e : d.toArray.size = d.length := List.size_toArray
  rw [e] at hcon
  refine hcon.mono ?_
  rintro e w' ⟨rfl, n, os, rfl⟩
  exact ⟨rfl, n, os, by unfold srtF; rw [Array.toArray_toList]⟩
theorem nilKn : X.SortNil Tryz.prog 47 [.fn 48 []] := by
  refine X.sortNil_of (fun p cap us m w hr => ?_) (enters_of Tryz.func47 (by kernel_rfl) rfl)
  unfold RepL at hr
  obtain ⟨u, us', rfl, hu, hus⟩ := hr
  unfold RepL at hus
  subst hus
  exact AnyF.slices_SortFunc_none Tryz.sortKn p cap u w
theorem sort_C : SortC Tryz.prog 53 := fun blk off cap zs w hH hblk hlen => Any.slices_Sort_int Tryz.lays189 blk off cap zs w hH hblk hlen
theorem sort_nil : X.SortNil Tryz.prog 53 [] := by
  refine X.sortNil_of (fun p cap us m w hr => ?_) (enters_of Tryz.func53 (by kernel_rfl) rfl)
  unfold RepL at hr
  subst hr
  exact Any.slices_Sort_int_none Tryz.lays189 p cap w
end Go.Proofs.YtphmekpaalfliaaGreat
