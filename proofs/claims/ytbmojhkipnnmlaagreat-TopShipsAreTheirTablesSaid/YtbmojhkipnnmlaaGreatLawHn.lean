/- Plain laws of ships, eleventh part: Most and its proof. Conditions: none. -/
import Derived.Test.YtbmojhkipnnmlaaGreatLawHm
set_option linter.unusedVariables false
set_option linter.unusedSimpArgs false
namespace Go.Mx
theorem GoodL.tots {s : api_Ship} {l : api_Load} (h : GoodL s l) : TotS l.All := by have := h.all; exact ⟨by omega, by omega, by omega⟩
theorem Fit.ins {l : api_Load} {x : List Int} (h : Fit l x) : InS l.Holds x := ⟨h.len, h.span⟩
theorem Fit.of_greedy {s : api_Ship} {l : api_Load} (hg : GoodL s l) {w x : List Int} {t : Int} (h : Greedy l.Holds w t x) (h1 : totLo l ≤ t) (h2 : t ≤ totHi l) : Fit l x := by
 have ht := hg.tot
 exact ⟨h.ins.1, h.ins.2, by rw [h.sum]; omega⟩
theorem best_tot {s : api_Ship} {l : api_Load} (hg : GoodL s l) {w : List Int} {t : Int} (hw : w.length = l.Holds.length) (h1 : totLo l ≤ t) (h2 : t ≤ totHi l) : ∃ x, hull_best l w t = some x ∧ Greedy l.Holds w t x := by
 have ht := hg.tot
 exact best_spec hg.spn hw (by omega) (by omega)
structure MostOK (s : api_Ship) (l : api_Load) (w : List Int) (q : api_Price) : Prop where
 fit : Fit l q.Loading
 val : q.Value = dot w q.Loading
 price : -1048576 ≤ q.Price ∧ q.Price ≤ 1048576
 bound : totB q.Price w l.Holds l.All = q.Value
theorem MostOK.max {s : api_Ship} {l : api_Load} {w : List Int} {q : api_Price} (h : MostOK s l w q) (hw : w.length = l.Holds.length) {y : List Int} (hy : Fit l y) : dot w y ≤ q.Value := by
 rw [← h.bound]; exact weakT hw hy.ins hy.all.1 hy.all.2
theorem Most_ok (s : api_Ship) (l : api_Load) (w : List Int) (hl : Len s.Holds) (hW : LoadW l) (hwl : Len w) (ha : askE s l w = 0) : ∃ q, hull_Most s l w = some (q, 0) ∧ MostOK s l w q ∧ ∃ t, totLo l ≤ t ∧ t ≤ totHi l ∧ Greedy l.Holds w t q.Loading := by
 have hk : chkL s l = 0 := by unfold askE at ha; split at ha <;> first | assumption | (rename_i h; exact absurd ha h)
 have hf : formB s w = true := by unfold askE at ha; rw [if_pos hk] at ha; split at ha <;> first | assumption | omega
 obtain ⟨f1, hb⟩ := formB_of hf
 have hg := GoodL.of hk
 have hw : w.length = l.Holds.length := by rw [f1, hg.len]
 have ht := hg.tot
 have hn := hg.lenL
 have hsp := hg.spn
 obtain ⟨x0, b0, g0⟩ := best_tot hg hw (Int.le_refl _) ht.2.2.1
 have hpr := posRoom_nonneg w l.Holds x0 hw g0.ins.1 g0.ins.g
 obtain ⟨x, b1, g1⟩ := best_tot hg (t := min (totLo l + posRoom w l.Holds x0) (totHi l)) hw (by omega) (by omega)
 obtain ⟨p, p1, p2, p3, p4⟩ := priced_spec hsp hw hb hg.tots
 obtain ⟨q, q1, q2⟩ := strong hg hw g0 g1
 have hxf := Fit.of_greedy hg g1 (by omega) (by omega)
 have hwk := weakT (p := p) hw hxf.ins hxf.all.1 hxf.all.2
 have hpq : totB p w l.Holds l.All = dot w x := by
  rcases q1 with rfl | ⟨k, k1, rfl⟩
  ·omega
  ·have := p4 k k1; omega
 have hd := dot_fit hsp hw hb hxf.ins
 refine ⟨⟨dot w x, x, p⟩, ?_, ⟨hxf, rfl, ?_, hpq⟩, _, by omega, by omega, g1⟩
 ·have j1 : hull_Most_j1 l w (totLo l + posRoom w l.Holds x0) = some ((⟨dot w x, x, p⟩ : api_Price), 0) := by
   unfold hull_Most_j1
   rw [htotals hg, Option.bind_some, b1, Option.bind_some, hvalue_eq w x (by rw [hw, g1.ins.1]) hwl, Option.bind_some, p1, Option.bind_some, w64_u (by omega)]
  unfold hull_Most
  rw [asked_eq s l w hl hW hwl, Option.bind_some, if_neg (by simp [ha]), htotals hg, Option.bind_some]
  have hsm := g0.ins.sum
  have hfs := filled_spec w l.Holds x0 hw g0.ins.1
  refine (lp_list (body := hull_Most_b2 l w) w hwl (fun (a : Int × List api_Span × List Int) i => (a.1, i)) (fun a ws => ((⟨dot w x, x, p⟩ : api_Price), (0 : Int))) (fun i a => a.2.1 = l.Holds.drop i ∧ a.2.2 = x0.drop i ∧ totLo l ≤ a.1 ∧ a.1 ≤ totLo l + 65536 * (i : Int) ∧ a.1 + posRoom (w.drop i) a.2.1 a.2.2 = totLo l + posRoom w l.Holds x0) (a := (totLo l, l.Holds, x0)) rfl ⟨rfl, rfl, Int.le_refl _, by simp only; omega, by simp⟩ (fun a i hi hJ => ?_) (fun a hJ => ?_)).trans rfl
  ·obtain ⟨a1, a2, a3⟩ := a
   obtain ⟨e1, e2, e3, e4, e5⟩ := hJ
   simp only at e1 e2 e3 e4 e5
   subst e1 e2
   have hil : i < l.Holds.length := by omega
   have hix : i < x0.length := by rw [g0.ins.1]; exact hil
   rw [List.drop_eq_getElem_cons hi, List.drop_eq_getElem_cons hil, List.drop_eq_getElem_cons hix] at e5
   simp only [posRoom] at e5
   have hgi := g0.ins.2 i hix hil
   have hbi := hg.mem _ (List.getElem_mem hil)
   left
   unfold hull_Most_b2
   simp only
   rw [if_pos (by simpa using hi), ix_lt hi, Option.bind_some]
   unfold hull_Most_j3
   by_cases hwi : 0 < w[i]
   ·rw [if_pos hwi] at e5
    rw [if_pos (by simpa using hwi), ix_lt hil, Option.bind_some, htotals hg, Option.bind_some, b0, Option.bind_some, ix_lt hix, Option.bind_some, w64s' hi hwl, w64_u (a := l.Holds[i].Hi - x0[i]) (by omega), w64_u (a := a1 + (l.Holds[i].Hi - x0[i])) (by omega)]
    exact ⟨(_, l.Holds.drop (i + 1), x0.drop (i + 1)), rfl, trivial, rfl, rfl, by simp only; omega, by simp only; omega, by simp only; omega⟩
   ·rw [if_neg hwi] at e5
    rw [if_neg (by simpa using hwi), w64s' hi hwl]
    exact ⟨(_, l.Holds.drop (i + 1), x0.drop (i + 1)), rfl, trivial, rfl, rfl, by simp only; omega, by simp only; omega, by simp only; omega⟩
  ·obtain ⟨a1, a2, a3⟩ := a
   obtain ⟨e1, e2, e3, e4, e5⟩ := hJ
   simp only at e1 e2 e3 e4 e5
   rw [List.drop_length] at e5
   simp only [posRoom] at e5
   unfold hull_Most_b2
   simp only
   rw [if_neg (by simp), show a1 = totLo l + posRoom w l.Holds x0 by omega, j1]; rfl
 ·rcases p2 with rfl | ⟨k, k1, rfl⟩
  ·simp
  ·exact hb k k1
end Go.Mx
