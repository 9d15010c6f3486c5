/- HullDeep: the plain law. Conditions: none. -/
import Derived.Test.YthfnbjoecocfaaaGreatLawHs
set_option linter.unusedVariables false
namespace Go.Mx
theorem rdeep_eq {s : api_Ship} (hs : GoodS s) {x : List Int} (h : Rms s x) : ref03_deep s x = some (deepV s x) := by
 unfold ref03_deep
 rw [rafloat_eq hs h]; rfl
theorem rDeepest_err {s : api_Ship} {l : api_Load} (hl : Len s.Holds) (hW : LoadW l) (hk : chkL s l ≠ 0) : ref03_Deepest s l = some ⟨0, chkL s l⟩ := by
 unfold ref03_Deepest
 rw [rcload_eq s l hl hW, Option.bind_some, if_pos (by simp [hk])]
theorem rDeepest_ok {s : api_Ship} {l : api_Load} (hl : Len s.Holds) (hW : LoadW l) (hk : chkL s l = 0) {n : Int} {x : List Int} (hx : Fit l x) (hn : deepV s x = n) (hmax : ∀ t y, totLo l ≤ t → t ≤ totHi l → (Greedy l.Holds (lvs s) t y ∨ Greedy l.Holds (nlvs s) t y) → deepV s y ≤ n) : ref03_Deepest s l = some ⟨n, 0⟩ := by
 have hg := GoodL.of hk
 have ht := hg.tot
 have hal := hg.all
 have hf := hg.few
 have hs := hg.ship
 have F : ∀ u, totLo l ≤ u → u ≤ totHi l → (∃ y, ref03_Fill l.Holds (lvs s) u = some y ∧ Greedy l.Holds (lvs s) u y ∧ ref03_deep s y = some (deepV s y)) ∧ ∃ y, ref03_Fill l.Holds (nlvs s) u = some y ∧ Greedy l.Holds (nlvs s) u y ∧ ref03_deep s y = some (deepV s y) := fun u u1 u2 => by
  obtain ⟨y, b, g⟩ := fill_tot hg (w := lvs s) (by rw [lvs_len, hg.len]) u1 u2
  obtain ⟨z, b2, g2⟩ := fill_tot hg (w := nlvs s) (by rw [nlvs_len, hg.len]) u1 u2
  exact ⟨⟨y, b, g, rdeep_eq hs ((Fit.of_greedy hg g u1 u2).rms hg)⟩, z, b2, g2, rdeep_eq hs ((Fit.of_greedy hg g2 u1 u2).rms hg)⟩
 have hl1 : ref03_levers s 1 = some (lvs s) := by rw [rlevers_eq s hs 1 (.inl rfl), if_pos rfl]
 have hl2 : ref03_levers s (-1) = some (nlvs s) := by rw [rlevers_eq s hs (-1) (.inr rfl), if_neg (by omega)]
 unfold ref03_Deepest
 rw [rcload_eq s l hl hW, Option.bind_some, if_neg (by simp [hk]), rtotals hg, Option.bind_some, hl1, Option.bind_some]
 simp only
 obtain ⟨⟨y0, c1, c2, c3⟩, _⟩ := F (totLo l) (Int.le_refl _) ht.2.2.1
 rw [c1, Option.bind_some, c3, Option.bind_some]
 suffices h : ∃ r, Lp (ref03_Deepest_b2 s l ⟨totLo l, totHi l⟩) fuel (deepV s y0, totLo l) = some r ∧ r = ⟨n, 0⟩ by obtain ⟨r, h, rfl⟩ := h; exact h
 refine lp_inv' (fun i (st : Int × Int) => st.2 = totLo l + (i : Int) ∧ st.1 ≤ n ∧ ∀ u y, totLo l ≤ u → u < st.2 → (Greedy l.Holds (lvs s) u y ∨ Greedy l.Holds (nlvs s) u y) → deepV s y ≤ st.1) _ (totHi l - totLo l + 1).toNat (by omega) ⟨by simp, hmax _ _ (Int.le_refl _) ht.2.2.1 (.inl c2), fun u y h1 h2 => by simp only at h2; omega⟩ fun i st hi hI => ?_
 obtain ⟨best, u⟩ := st
 obtain ⟨e1, e2, e3⟩ := hI
 simp only at e1 e2 e3
 unfold ref03_Deepest_b2
 simp only
 by_cases hc : u ≤ totHi l
 ·left
  obtain ⟨⟨y, f1, f2, f3⟩, z, g1, g2, g3⟩ := F u (by omega) hc
  rw [if_pos (by simpa using hc), hl1, Option.bind_some, f1, Option.bind_some, f3, Option.bind_some, hl2, Option.bind_some, g1, Option.bind_some, g3, Option.bind_some, w64_u (by omega)]
  have m1 := hmax u y (by omega) hc (.inl f2)
  have m2 := hmax u z (by omega) hc (.inr g2)
  refine ⟨by omega, _, rfl, by simp only; omega, by simp only; omega, fun v a v1 v2 hv => ?_⟩
  simp only at v2 ⊢
  by_cases e : v = u
  ·subst e
   rcases hv with hv | hv
   ·rw [hv.uniq f2]; omega
   ·rw [hv.uniq g2]; omega
  ·have := e3 v a v1 (by omega) hv; omega
 ·right
  rw [if_neg (by simpa using hc)]
  refine ⟨_, rfl, ?_⟩
  have hxs := hx.sum hg
  obtain ⟨⟨y, _, f2, _⟩, z, _, g2, _⟩ := F x.sum hxs.1 hxs.2
  have h1 := deep_le hg hx f2 g2
  have h2 := e3 _ y hxs.1 (by omega) (.inl f2)
  have h3 := e3 _ z hxs.1 (by omega) (.inr g2)
  rw [show best = n by omega]
theorem holds_HullDeep {s : api_Ship} {l : api_Load} {depth keel : Int} (h0 : ok_api_Ship s) (h1 : ok_api_Load l) (h2 : OkI .i64 depth) (h3 : OkI .i64 keel) : law03_HullDeep s l depth keel = some true := by
 have hl : Len s.Holds := h0.2.2.2.2.1.1
 have hL : Len l.Holds := h1.1.1
 have hw := LoadW.ok h1
 unfold law03_HullDeep
 split
 ·rw [sanity3_true]; rfl
 ·by_cases hk : chkL s l = 0
  ·have hg := GoodL.of hk
   obtain ⟨n, x, d1, d2, d3, _, d5⟩ := Deepest_ok hl hw hk
   have r1 := rDeepest_ok hl hw hk d2 d3 d5
   have hC : hull_Clear s l depth keel = ref03_Clear s l depth keel := by
    unfold hull_Clear ref03_Clear
    rw [d1, r1]; rfl
   have hcs : ∃ c, ref03_Clear s l depth keel = some c := by
    unfold ref03_Clear
    rw [r1, Option.bind_some]
    repeat' split
    all_goals exact ⟨_, rfl⟩
   obtain ⟨c, hc⟩ := hcs
   have hlies : ref03_Lies s l x n = some true := by
    have hxl := d2.len
    have hn := hg.lenL
    unfold ref03_Lies
    rw [rfits_eq l x hL (by unfold Len; omega), (fitB_iff hg _).2 d2, Option.bind_some, rdeep_eq hg.ship (d2.rms hg), d3]
    simp [gb]
   rw [hC, hc, d1, r1, sanity3_true]
   simp only [Option.bind_some]
   rw [hlies]
   simp [gb]
  ·have d1 := Deepest_err hl hw hk
   have r1 := rDeepest_err hl hw hk
   have hC1 : hull_Clear s l depth keel = some (false, chkL s l) := by
    unfold hull_Clear
    rw [d1, Option.bind_some, if_pos (by simp [hk])]
   have hC2 : ref03_Clear s l depth keel = some (false, chkL s l) := by
    unfold ref03_Clear
    rw [r1, Option.bind_some, if_pos (by simp [hk])]
   rw [d1, r1, hC1, hC2, sanity3_true]
   simp [gb, hk]
end Go.Mx
