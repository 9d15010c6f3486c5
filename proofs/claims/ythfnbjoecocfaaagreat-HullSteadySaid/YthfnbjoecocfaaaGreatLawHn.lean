/- Plain laws of ships, eleventh part: Most and its proof. Conditions: none. -/
import Derived.Test.YthfnbjoecocfaaaGreatLawHm
set_option linter.unusedVariables false
set_option linter.unusedSimpArgs false
namespace Go.Mx
theorem Fit.ins {l : api_Load} {x : List Int} (h : Fit l x) : InS l.Holds x := ⟨h.len, h.span⟩
theorem Fit.of_greedy {s : api_Ship} {l : api_Load} (hg : GoodL s l) {w x : List Int} {t : Int} (h : Greedy l.Holds w t x) (h1 : totLo l ≤ t) (h2 : t ≤ totHi l) : Fit l x := by
 have ht := hg.tot
 exact ⟨h.ins.1, h.ins.2, by rw [h.sum]; omega⟩
theorem best_tot {s : api_Ship} {l : api_Load} (hg : GoodL s l) {w : List Int} {t : Int} (hw : w.length = l.Holds.length) (h1 : totLo l ≤ t) (h2 : t ≤ totHi l) : ∃ x, hull_best l w t = some x ∧ Greedy l.Holds w t x := by
 have ht := hg.tot
 exact best_spec hg.spn hw (by omega) (by omega)
theorem fill_tot {s : api_Ship} {l : api_Load} (hg : GoodL s l) {w : List Int} {t : Int} (hw : w.length = l.Holds.length) (h1 : totLo l ≤ t) (h2 : t ≤ totHi l) : ∃ x, ref03_Fill l.Holds w t = some x ∧ Greedy l.Holds w t x := by
 have ht := hg.tot
 exact fill_spec hg.spn hw (by omega) (by omega)
/-- What Most finds. -/
structure MostOK (s : api_Ship) (l : api_Load) (w : List Int) (q : api_Price) : Prop where
 fit : Fit l q.Loading
 val : q.Value = dot w q.Loading
 price : -1048576 ≤ q.Price ∧ q.Price ≤ 1048576
 bound : totB q.Price w l.Holds l.All = q.Value
theorem MostOK.max {s : api_Ship} {l : api_Load} {w : List Int} {q : api_Price} (h : MostOK s l w q) (hw : w.length = l.Holds.length) {y : List Int} (hy : Fit l y) : dot w y ≤ q.Value := by
 rw [← h.bound]; exact weakT hw hy.ins hy.all.1 hy.all.2
/-! A proof is checked. -/
end Go.Mx
