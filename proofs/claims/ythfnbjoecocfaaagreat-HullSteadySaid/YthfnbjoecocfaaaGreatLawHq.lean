/- Plain laws of ships, fourteenth part: parts that show that a ship is steady. Conditions: none. -/
import Derived.Test.YthfnbjoecocfaaaGreatLawHp
set_option linter.unusedVariables false
set_option linter.unusedSimpArgs false
namespace Go.Mx
def PartsOK (s : api_Ship) (l : api_Load) : Int → List api_Part → Prop
 | _, [] => True
 | next, p :: r => p.Totals = ⟨next, next⟩ ∧ (-1048576 ≤ p.Price ∧ p.Price ≤ 1048576) ∧ showsB s l p.Price next = true ∧ PartsOK s l (next + 1) r
theorem PartsOK.snoc {s : api_Ship} {l : api_Load} {p : api_Part} : ∀ (ps : List api_Part) (next : Int), PartsOK s l next ps → PartsOK s l (next + (ps.length : Int)) [p] → PartsOK s l next (ps ++ [p])
 | [], next, _, h => by simpa using h
 | q :: r, next, h, h2 => by
  simp only [PartsOK, List.cons_append] at h ⊢
  refine ⟨h.1, h.2.1, h.2.2.1, PartsOK.snoc r _ h.2.2.2 ?_⟩
  rw [show next + 1 + (r.length : Int) = next + ((q :: r).length : Int) by simp only [List.length_cons]; omega]
  exact h2
theorem PartsOK.cs {s : api_Ship} {l : api_Load} : ∀ (ps : List api_Part) (next : Int), PartsOK s l next ps → next + (ps.length : Int) = totHi l + 1 → csR s l next ps = 0
 | [], next, _, h => by simp only [csR]; rw [if_pos (by simpa using h)]
 | p :: r, next, h, h2 => by
  simp only [PartsOK] at h
  obtain ⟨h3, h4, h5, h6⟩ := h
  simp only [List.length_cons] at h2
  simp only [csR]
  have hb : partB s l next p = true := by
   unfold partB
   rw [h3]
   simp only [decide_true, Bool.true_and, Bool.and_eq_true, decide_eq_true_eq]
   omega
  rw [if_pos hb, h3]
  simp only
  rw [show (next - next + 1).toNat = 1 by omega, if_pos (by simp [allT, List.range_succ, h5])]
  exact PartsOK.cs r (next + 1) h6 (by omega)
theorem prove_spec {s : api_Ship} {l : api_Load} (hl : Len s.Holds) (hW : LoadW l) (hk : chkL s l = 0) (hs : hull_shaky s l = some ([], false)) (ha : AllSteady s l) : ∃ ps, hull_Prove s l = some (ps, 0) ∧ csE s l ps = 0 ∧ ps.length ≤ 4000 := by
 have hg := GoodL.of hk
 have ht := hg.tot
 have hal := hg.all
 have hf := hg.few
 have hwl : (hts s).length = l.Holds.length := by rw [hts_len, hg.len]
 have hw := hts_wts hg.ship
 have hloop : ∃ r, Lp (hull_Prove_b1 s l ⟨totLo l, totHi l⟩) fuel (totLo l, []) = some r ∧ (r.2 = 0 ∧ PartsOK s l (totLo l) r.1 ∧ totLo l + (r.1.length : Int) = totHi l + 1) := by
  refine lp_inv' (fun i (st : Int × List api_Part) => st.1 = totLo l + (i : Int) ∧ st.2.length = i ∧ PartsOK s l (totLo l) st.2) _ (totHi l - totLo l + 1).toNat (by omega) ⟨by simp, rfl, trivial⟩ fun i st hi hI => ?_
  obtain ⟨t, ps⟩ := st
  obtain ⟨e1, e2, e3⟩ := hI
  simp only at e1 e2 e3
  unfold hull_Prove_b1
  simp only
  by_cases hc : t ≤ totHi l
  ·left
   have h1 : totLo l ≤ t := by omega
   obtain ⟨p, p1, p2, p3, p4⟩ := priced_spec hg.spn hwl hw (tot_tots hg h1 hc)
   obtain ⟨x, b, g⟩ := best_tot hg hwl h1 hc
   have hst := ha t x h1 hc g
   have hxf := Fit.of_greedy hg g h1 hc
   obtain ⟨b0, _⟩ := spare_bd hg.ship (hg.Mass h1 hc)
   have hpb : -1048576 ≤ p ∧ p ≤ 1048576 := by
    rcases p2 with rfl | ⟨k, k1, rfl⟩
    ·omega
    ·exact hw k k1
   have hle : totB p (hts s) l.Holds ⟨t, t⟩ ≤ dot (hts s) x := by
    by_cases hn : 0 < l.Holds.length
    ·obtain ⟨k, k1, k2, _⟩ := g.kkt hn
     have q1 := p4 k (by omega)
     have q2 := tight (gI (hts s) k) (hts s) l.Holds x hwl g.ins.1 g.ins.g k2
     rw [g.sum] at q2
     have q3 : totB (gI (hts s) k) (hts s) l.Holds ⟨t, t⟩ = gI (hts s) k * t + bnd (gI (hts s) k) (hts s) l.Holds := by unfold totB; simp only; omega
     omega
    ·have z1 : l.Holds = [] := List.length_eq_zero_iff.1 (by omega)
     have z2 : hts s = [] := List.length_eq_zero_iff.1 (by omega)
     rw [z1, z2] at p3
     rw [z1, z2]
     have q : totB 0 [] [] ⟨t, t⟩ = 0 := by simp [totB, bnd]
     rw [q] at p3
     simpa [dot] using p3
   have hsh : showsB s l p t = true := by
    unfold showsB
    unfold steadyB at hst
    rw [decide_eq_true_eq] at *
    rw [g.sum] at hst
    have : (s.Light * s.Height + totB p (hts s) l.Holds ⟨t, t⟩) * spareD s t ≤ riseV s x * spareD s t := Int.mul_le_mul_of_nonneg_right (by unfold riseV; omega) (by omega)
    omega
   rw [if_pos (by simpa using hc), heights_eq s hg.ship.nh, Option.bind_some, p1, Option.bind_some, app_ok (by simp; omega), Option.bind_some, w64_u (by omega)]
   refine ⟨by omega, _, rfl, by simp only; omega, by simp [e2], PartsOK.snoc ps _ e3 ?_⟩
   rw [e2, ← e1]
   exact ⟨rfl, hpb, hsh, trivial⟩
  ·right
   rw [if_neg (by simpa using hc)]
   exact ⟨_, rfl, rfl, e3, by simp only; omega⟩
 obtain ⟨⟨ps, e⟩, q1, q2, q3, q4⟩ := hloop
 simp only at q2 q3 q4
 subst q2
 refine ⟨ps, ?_, ?_, by omega⟩
 ·unfold hull_Prove
  rw [hload_eq s l hl hW, Option.bind_some, if_neg (by simp [hk]), hs, Option.bind_some, if_neg (by simp), show hull_totals (hull_each l) = hull_totals l from rfl, htotals hg, Option.bind_some]
  exact q1
 ·unfold csE
  rw [if_pos hk, if_neg (by omega)]
  exact q3.cs ps _ q4
theorem prove_shaky {s : api_Ship} {l : api_Load} (hl : Len s.Holds) (hW : LoadW l) (hk : chkL s l = 0) {r : List Int × Bool} (hs : hull_shaky s l = some r) (h : r.2 = true) : hull_Prove s l = some ([], 4) := by
 unfold hull_Prove
 rw [hload_eq s l hl hW, Option.bind_some, if_neg (by simp [hk]), hs, Option.bind_some, if_pos (by simp [h])]
theorem prove_err {s : api_Ship} {l : api_Load} (hl : Len s.Holds) (hW : LoadW l) (hk : chkL s l ≠ 0) : hull_Prove s l = some ([], chkL s l) := by
 unfold hull_Prove
 rw [hload_eq s l hl hW, Option.bind_some, if_pos (by simp [hk])]
end Go.Mx
