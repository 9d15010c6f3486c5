/- BerthMost: the plain law. Conditions: none. -/
import Derived.Test.YtnkngglimidldaaLawYn
import Derived.Test.YtnkngglimidldaaLawBerthSan
set_option linter.unusedVariables false
set_option linter.unusedSimpArgs false
namespace Go.Mx
theorem nodup_ix {α : Type} {l : List α} (h : l.Nodup) {i j : Nat} (hi : i < l.length) (hj : j < l.length) (e : l[i] = l[j]) : i = j := by
 have g := List.pairwise_iff_getElem.1 (List.nodup_iff_pairwise_ne.1 h)
 rcases Nat.lt_trichotomy i j with c | c | c
 ·exact absurd e (g i j hi hj c)
 ·exact c
 ·exact absurd e.symm (g j i hj hi c)
def stB (b : berth_board) (f : List Int) (i r : Nat) : api_Stay := ⟨(b.calls.getD (i + r) default).ID, b.slots.getD ((muF f r).getD 0) default, (lookM (b.slots.getD ((muF f r).getD 0) default) (b.can.getD (i + r) [])).getD ⟨0, 0⟩⟩
theorem muF_succ (a : Int) (f : List Int) (r : Nat) : muF (a :: f) (r + 1) = muF f r := by
 have eg : gI (a :: f) (r + 1) = gI f r := rfl
 unfold muF
 rw [eg, List.length_cons]
 by_cases h : r < f.length ∧ 0 ≤ gI f r
 ·rw [if_pos (show r + 1 < f.length + 1 ∧ _ from ⟨by omega, h.2⟩), if_pos h]
 ·rw [if_neg (fun z : r + 1 < f.length + 1 ∧ _ => h ⟨by omega, z.2⟩), if_neg h]
theorem planR_map (b : berth_board) : ∀ (f : List Int) (i : Nat), planR b i f = ((List.range f.length).filter fun r => (muF f r).isSome).map (stB b f i)
 | [], i => rfl
 | a :: f, i => by
  rw [planR, planR_map b f (i + 1), List.length_cons, List.range_succ_eq_map, List.filter_cons, List.filter_map]
  have eg : gI (a :: f) 0 = a := rfl
  have e1 : ((fun r => (muF (a :: f) r).isSome) ∘ Nat.succ) = fun r => (muF f r).isSome := funext fun r => by simp only [Function.comp, Nat.succ_eq_add_one, muF_succ]
  have e2 : ∀ r, stB b (a :: f) i (r + 1) = stB b f (i + 1) r := fun r => by
   unfold stB
   rw [muF_succ, show i + (r + 1) = i + 1 + r by omega]
  have e3 : (((List.range f.length).filter fun r => (muF f r).isSome).map Nat.succ).map (stB b (a :: f) i) = ((List.range f.length).filter fun r => (muF f r).isSome).map (stB b f (i + 1)) := by
   rw [List.map_map]
   exact List.map_congr_left fun r _ => e2 r
  rw [e1]
  unfold stayB
  by_cases h : a < 0
  ·have e0 : muF (a :: f) 0 = none := by unfold muF; rw [eg, if_neg (by omega)]
   rw [if_pos h, e0, if_neg (by simp), e3]; rfl
  ·have e0 : muF (a :: f) 0 = some a.toNat := by unfold muF; rw [eg, if_pos ⟨by simp, by omega⟩]
   rw [if_neg h, e0, show (some a.toNat).isSome = true from rfl, if_pos rfl, List.map_cons, e3]
   unfold stB
   rw [e0]; rfl
theorem slot_any {h : api_Harbour} (hg : GoodH h) (s : api_Slot) : ∃ b is, berth_slot h s = some (b, is) ∧ (is = true → b ∈ h.Berths ∧ ∃ (j : Nat) (hj : j < h.Tides.length), s = ⟨(j : Int), b.ID⟩) := by
 have hnb := hg.nb; have hnt := hg.nt
 unfold berth_slot
 rw [firstB_eq _ (by unfold Len; omega), Option.bind_some, w64_id (by omega) (by omega)]
 rcases firstI_spec (fun x : api_Berth => decide (x.ID = s.Berth)) h.Berths 0 with ⟨h1, h2⟩ | ⟨i, h1, h2, h3, h4⟩
 ·rw [show (0 : Int) = ((0 : Nat) : Int) from rfl, h1, if_pos (by simp)]
  exact ⟨_, _, rfl, fun q => by cases q⟩
 ·rw [show firstI (fun x : api_Berth => decide (x.ID = s.Berth)) h.Berths 0 = (i : Int) by rw [show (0 : Int) = ((0 : Nat) : Int) from rfl, h1, Nat.zero_add]]
  by_cases c : 0 ≤ s.Tide ∧ s.Tide < h.Tides.length
  ·rw [if_neg (by simp [berth_within]; omega), ix_lt h2, Option.bind_some]
   refine ⟨_, _, rfl, fun _ => ⟨List.getElem_mem h2, s.Tide.toNat, by omega, ?_⟩⟩
   have e : h.Berths[i].ID = s.Berth := by simpa using h3
   rw [e, show ((s.Tide.toNat : Nat) : Int) = s.Tide by omega]
  ·rw [if_pos (by simp [berth_within]; omega)]
   exact ⟨_, _, rfl, fun q => by cases q⟩
theorem slot_ix {h : api_Harbour} {l : List api_Call} {j : Nat} (hj : j < h.Tides.length) {b : api_Berth} (hb : b ∈ h.Berths) : ∃ k, k < (laidS h l).slots.length ∧ (laidS h l).slots.getD k default = ⟨(j : Int), b.ID⟩ := by
 have : (⟨(j : Int), b.ID⟩ : api_Slot) ∈ (laidS h l).slots := mem_slotsS.2 ⟨j, hj, b, hb, by rw [Nat.zero_add]⟩
 obtain ⟨k, hk, e⟩ := List.getElem_of_mem this
 exact ⟨k, hk, by rw [getD_lt hk]; exact e⟩
theorem CheckPlan_bound {h : api_Harbour} {l : List api_Call} (hh : LenH h) (hl : Len l) (ec : checkCS h l = 0) {m0 : Nat} (hX : MaxM (laidS h l) m0) (p : List api_Stay) (hp : p.length ≤ 1000) : ∃ e, berth_CheckPlan h l p = some e ∧ (e = 0 → p.length ≤ m0) := by
 have hg := GoodL.of hh ec
 have hn := hg.n
 unfold berth_CheckPlan
 rw [CheckCalls_eq h hh l hl, Option.bind_some, if_neg (by simp [ec])]
 refine lp_inv' (fun i s => s.2.1 = (i : Int) ∧ -1 ≤ s.1 ∧ ∃ μ, Mat (laidS h l) μ ∧ i ≤ (dom (laidS h l) μ).length ∧ ∀ r k, μ r = some k → (r : Int) ≤ s.1 ∧ (lookM ((laidS h l).slots.getD k default) s.2.2).getD false = true) _ p.length (by omega)
  ⟨rfl, by decide, fun _ => none, ⟨fun r k e => (by cases e), fun r q k e => (by cases e)⟩, Nat.zero_le _, fun r k e => (by cases e)⟩ fun i s hi hI => ?_
 obtain ⟨last, x, m⟩ := s
 simp only at hI
 obtain ⟨rfl, h1, μ, h2, h3, h4⟩ := hI
 unfold berth_CheckPlan_b2
 simp only
 by_cases hip : i < p.length
 ·rw [if_pos (by simpa using hip), ix_lt hip, Option.bind_some, firstC_eq l hl, Option.bind_some]
  obtain ⟨b, is, b1, b2⟩ := slot_any hg.h p[i].Slot
  rw [b1, Option.bind_some]
  by_cases hc : ((decide (firstI (fun b : api_Call => decide (b.ID = p[i].Call)) l 0 ≤ last) || !is) || (lookM p[i].Slot m).getD false) = true
  ·rw [if_pos hc]
   exact .inr ⟨8, rfl, fun q => by cases q⟩
  ·rw [if_neg hc]
   simp only [Bool.or_eq_true, not_or, decide_eq_true_eq, Bool.not_eq_true', Bool.not_eq_false] at hc
   obtain ⟨⟨c1, c2⟩, c3⟩ := hc
   obtain ⟨d1, j, d2, d3⟩ := b2 c2
   rcases firstI_spec (fun b : api_Call => decide (b.ID = p[i].Call)) l 0 with ⟨f1, _⟩ | ⟨r, f1, f2, f3, f4⟩
   ·rw [show ((0 : Nat) : Int) = 0 from rfl] at f1; rw [f1] at c1; omega
   ·have f5 : firstI (fun b : api_Call => decide (b.ID = p[i].Call)) l 0 = (r : Int) := by rw [show (0 : Int) = ((0 : Nat) : Int) from rfl, f1, Nat.zero_add]
    rw [f5] at c1 ⊢
    have gc := GoodC.of (hg.r _ (List.getElem_mem f2))
    rw [ix_lt f2, Option.bind_some, d3, when_eq (t := h.Tides[j]) hg.h (by rw [ix_lt d2]) d1 gc.d0 gc.d1 gc.f0 gc.l0 gc.l1, Option.bind_some]
    by_cases hw : (!(whenS h l[r] h.Tides[j] b).2 || !decide ((whenS h l[r] h.Tides[j] b).1 = p[i].Span)) = true
    ·rw [if_pos hw]
     exact .inr ⟨8, rfl, fun q => by cases q⟩
    ·rw [if_neg hw]
     simp only [Bool.or_eq_true, not_or, Bool.not_eq_true', Bool.not_eq_false] at hw
     obtain ⟨k, k1, k2⟩ := slot_ix (l := l) d2 d1
     have hcan : canB (laidS h l) r k = true := by
      unfold canB
      rw [k2, laid_can f2, lookM_taken hg.h d2 d1, if_pos hw.1]; rfl
     have hfree : ∀ q, μ q = some k → q = r := fun q e => by
      have := (h4 q k e).2
      rw [k2, ← d3] at this
      exact absurd this (by simpa using c3)
     have hnone : μ r = none := by
      cases e : μ r with
      | none => rfl
      | some k' => have := (h4 r k' e).1; omega
     refine .inl ⟨hip, _, rfl, by simp only; rw [w64_id (by omega) (by omega)]; rfl, by simp only; omega, _, mat_put h2 f2 k1 hcan hfree, ?_, fun q k' e => ?_⟩
     ·have := dom_put (b := laidS h l) (μ := μ) (k := k) f2 hnone; omega
     ·simp only
      rw [lookM_put]
      by_cases w : q = r
      ·rw [if_pos w] at e
       cases e
       rw [k2, if_pos rfl]
       exact ⟨by omega, rfl⟩
      ·rw [if_neg w] at e
       obtain ⟨e1, e2⟩ := h4 q k' e
       refine ⟨by omega, ?_⟩
       split
       ·rfl
       ·exact e2
 ·rw [if_neg (by simpa using hip)]
  refine .inr ⟨0, rfl, fun _ => ?_⟩
  have := hX.m μ h2
  omega
theorem CheckPlan_own {h : api_Harbour} {l : List api_Call} (hh : LenH h) (hl : Len l) (ec : checkCS h l = 0) {m0 : Nat} {f : List Int} (hP : PlanI (laidS h l) (-1000 * (m0 : Int)) l.length f) : berth_CheckPlan h l (planR (laidS h l) 0 f) = some 0 := by
 have hg := GoodL.of hh ec
 have hn := hg.n
 obtain ⟨_, _, _, _, _, _, hM⟩ := plan_mat (b := laidS h l) hP
 have hfl : f.length = l.length := hP.l
 have hR : ∀ r, r ∈ ((List.range f.length).filter fun r => (muF f r).isSome) ↔ r < l.length ∧ ∃ k, muF f r = some k := fun r => by
  rw [List.mem_filter, List.mem_range, hfl]
  exact ⟨fun q => ⟨q.1, Option.isSome_iff_exists.1 q.2⟩, fun q => ⟨q.1, Option.isSome_iff_exists.2 q.2⟩⟩
 have hS : ((List.range f.length).filter fun r => (muF f r).isSome).Pairwise (· < ·) := List.Pairwise.sublist List.filter_sublist List.pairwise_lt_range
 unfold berth_CheckPlan
 rw [CheckCalls_eq h hh l hl, Option.bind_some, if_neg (by simp [ec]), planR_map]
 generalize ((List.range f.length).filter fun r => (muF f r).isSome) = R at hR hS
 have hRl : R.length ≤ l.length := by
  have := sub_len (l := R) (r := List.range l.length) (hS.imp fun h => by omega) fun r hr => List.mem_range.2 ((hR r).1 hr).1
  simpa using this
 have hsl := slotsS_nodup hg.h h.Tides 0
 obtain ⟨⟨last, x, m⟩, ⟨rfl, _⟩, h3⟩ := lp_exit (body := berth_CheckPlan_b2 h l (R.map (stB (laidS h l) f 0))) (X := fun s => berth_CheckPlan_j1) (s0 := (-1, 0, []))
  (fun t s => s.2.1 = (t : Int) ∧ (∀ q (hq : q < R.length), t ≤ q → s.1 < (R[q] : Int)) ∧ ∀ y, (lookM y s.2.2).getD false = true → ∃ (q : Nat) (hq : q < R.length), q < t ∧ (stB (laidS h l) f 0 R[q]).Slot = y) R.length (by omega)
  ⟨rfl, fun q hq _ => by simp only; omega, fun y hy => by simp [lookM] at hy⟩
  (fun t s ht hI => by
   obtain ⟨last, x, m⟩ := s
   simp only at hI
   obtain ⟨rfl, h1, h2⟩ := hI
   obtain ⟨r1, k, r2⟩ := (hR R[t]).1 (List.getElem_mem ht)
   obtain ⟨-, k1, k2⟩ := hM.c _ k r2
   have hsm : (laidS h l).slots.getD k default ∈ slotsS h 0 h.Tides := by rw [getD_lt k1]; exact List.getElem_mem k1
   obtain ⟨j, hj, b, hb, q4⟩ := mem_slotsS.1 hsm
   rw [Nat.zero_add] at q4
   have hcan := k2
   unfold canB at hcan
   rw [q4, laid_can r1, lookM_taken hg.h hj hb] at hcan
   have hw : (whenS h l[R[t]] h.Tides[j] b).2 = true := by
    by_cases c : (whenS h l[R[t]] h.Tides[j] b).2 = true
    ·exact c
    ·rw [if_neg c] at hcan; cases hcan
   have est : stB (laidS h l) f 0 R[t] = ⟨l[R[t]].ID, ⟨(j : Int), b.ID⟩, (whenS h l[R[t]] h.Tides[j] b).1⟩ := by
    unfold stB
    rw [r2, Option.getD_some, q4, Nat.zero_add, laid_can r1, lookM_taken hg.h hj hb, if_pos hw, show (laidS h l).calls = l from rfl, getD_lt r1]; rfl
   have gc := GoodC.of (hg.r _ (List.getElem_mem r1))
   unfold berth_CheckPlan_b2
   simp only
   rw [if_pos (by simpa using ht), ix_lt (by simpa using ht), Option.bind_some]
   simp only [List.getElem_map]
   rw [est]
   simp only
   rw [firstC_eq l hl, first_at hg.d r1, Option.bind_some, slot_eq hg.h hb hj, Option.bind_some]
   have hlast := h1 t ht (Nat.le_refl _)
   have hseen : (lookM (⟨(j : Int), b.ID⟩ : api_Slot) m).getD false = false := by
    cases e : (lookM (⟨(j : Int), b.ID⟩ : api_Slot) m).getD false with
    | false => rfl
    | true =>
     exfalso
     obtain ⟨q, hq, hqt, e2⟩ := h2 _ e
     obtain ⟨s1, k', s2⟩ := (hR R[q]).1 (List.getElem_mem hq)
     obtain ⟨-, k3, -⟩ := hM.c _ k' s2
     have e3 : (laidS h l).slots.getD k' default = (laidS h l).slots.getD k default := by
      rw [q4, ← e2]
      unfold stB
      rw [s2]; rfl
     rw [getD_lt k3, getD_lt k1] at e3
     have e4 : k' = k := nodup_ix hsl k3 k1 e3
     have e5 := hM.i _ _ k (by rw [← e4]; exact s2) r2
     have := List.pairwise_iff_getElem.1 hS q t hq ht hqt
     omega
   rw [hseen, if_neg (by simp; omega), ix_lt r1, Option.bind_some, when_eq (t := h.Tides[j]) hg.h (by rw [ix_lt hj]) hb gc.d0 gc.d1 gc.f0 gc.l0 gc.l1, Option.bind_some, if_neg (by simp [hw])]
   refine ⟨_, rfl, by simp only; rw [w64_id (by omega) (by omega)]; rfl, fun q hq hqt => ?_, fun y hy => ?_⟩
   ·have := List.pairwise_iff_getElem.1 hS t q ht hq (by omega)
    simp only; omega
   ·simp only at hy
    rw [lookM_put] at hy
    by_cases c : y = ⟨(j : Int), b.ID⟩
    ·exact ⟨t, ht, by omega, by rw [est]; exact c.symm⟩
    ·rw [if_neg c] at hy
     obtain ⟨q, hq, hqt, e⟩ := h2 y hy
     exact ⟨q, hq, by omega, e⟩)
  (fun s hI => by
   obtain ⟨last, x, m⟩ := s
   simp only at hI
   obtain ⟨rfl, _⟩ := hI
   unfold berth_CheckPlan_b2
   simp only
   rw [if_neg (by simp)])
 rw [h3]; rfl
theorem holds_BerthMost {h : api_Harbour} {l : List api_Call} {p : List api_Stay} {x : api_Crowd} (h0 : ok_api_Harbour h) (h1 : ok_30 l) (h2 : p.length ≤ 9223372036854775807 ∧ ∀ a ∈ p, (ok_api_Stay a)) (h3 : ok_api_Crowd x) : law06_BerthMost h l p x = some true := by
 have hh := LenH.of h0
 have hl : Len l := h1.1
 obtain ⟨y, hy⟩ := small_some h hh
 unfold law06_BerthMost
 rw [hy, Option.bind_some, sanity06]
 split
 ·rfl
 ·rename_i hsm
  simp only [Bool.or_eq_true, decide_eq_true_eq, not_or] at hsm
  obtain ⟨⟨⟨⟨_, z1⟩, z2⟩, z3⟩, z4⟩ := hsm
  by_cases ec : checkCS h l = 0
  ·have hg := GoodL.of hh ec
   have hn := hg.n
   obtain ⟨m, a1, a2, a3, a4⟩ := Most_eq hh hl ec
   obtain ⟨m2, f, p1, p2, p3⟩ := Plan_eq hh hl ec
   have em := a2.uniq p2
   subst em
   obtain ⟨hlen, _⟩ := plan_len (laid_old h l) (b := laidS h l) p3
   obtain ⟨e, c1, c2⟩ := CheckPlan_bound hh hl ec a2 p (by omega)
   rw [a1, Option.bind_some, p1, Option.bind_some, if_neg (by simp), if_neg (by simp)]
   simp only
   rw [CheckPlan_own hh hl ec p3, Option.bind_some, hlen]
   simp only [decide_true, Bool.not_true, Bool.or_false, Bool.not_false, gb, if_true, Bool.false_or]
   rw [c1, Option.bind_some, if_neg (by
    simp only [Bool.and_eq_true, decide_eq_true_eq, not_and]
    intro q; have := c2 q; omega), CheckFull_eq hh hl ec (by omega) (by omega), Option.bind_some, if_neg (by
    simp only [Bool.and_eq_true, decide_eq_true_eq, not_and]
    intro q
    have := full_bound (l := l) a2 x q
    rw [w64_id (by omega) (by omega)]; omega)]
   rcases Full_spec hh hl ec a2 with ⟨e1, e2⟩ | ⟨e1, q, e2, e3⟩
   ·rw [e2, Option.bind_some, if_neg (by simp [e1])]; simp
   ·obtain ⟨l1, l2⟩ := crowd_lens (laidS h l) q
    have ln := nbL_len (laidS h l) q
    have ns := (laid_ok hg).ns
    have lf := List.length_filter_le q (List.range (laidS h l).calls.length)
    rw [List.length_range] at lf
    have ecl : (laidS h l).calls = l := rfl
    rw [ecl] at lf l1
    have hcf := CheckFull_eq hh hl ec (x := crowdS (laidS h l) q) (by omega) (by omega)
    rw [e2, Option.bind_some, if_neg (by simp; omega), if_neg (by simp)]
    simp only
    rw [hcf, Option.bind_some, full_own hg e1 e3, Option.bind_some, w64_id (by omega) (by omega)]
    simp
  ·have e2 : berth_Most h l = some (0, checkCS h l) := by
    unfold berth_Most
    rw [CheckCalls_eq h hh l hl, Option.bind_some, if_pos (by simp [ec])]
   have e3 : berth_Plan h l = some ([], checkCS h l) := by
    unfold berth_Plan
    rw [CheckCalls_eq h hh l hl, Option.bind_some, if_pos (by simp [ec])]
   rw [e2, Option.bind_some, e3, Option.bind_some, if_neg (by simp), if_pos (by simp [ec])]
   rfl
end Go.Mx
