/- Plain laws of ships, fourteenth part: parts that show that a ship is steady. Conditions: none. -/
import Derived.Test.YthfnbjoecocfaaaGreatLawHp
set_option linter.unusedVariables false
set_option linter.unusedSimpArgs false
namespace Go.Mx
def PartsOK (s : api_Ship) (l : api_Load) : Int → List api_Part → Prop
 | _, [] => True
 | next, p :: r => p.Totals = ⟨next, next⟩ ∧ (-1048576 ≤ p.Price ∧ p.Price ≤ 1048576) ∧ showsB s l p.Price next = true ∧ PartsOK s l (next + 1) r
theorem PartsOK.cs {s : api_Ship} {l : api_Load} : ∀ (ps : List api_Part) (next : Int), PartsOK s l next ps → next + (ps.length : Int) = totHi l + 1 → csR s l next ps = 0
 | [], next, _, h => by simp only [csR]; rw [if_pos (by simpa using h)]
 | p :: r, next, h, h2 => by
  simp only [PartsOK] at h
  obtain ⟨h3, h4, h5, h6⟩ := h
  simp only [List.length_cons] at h2
  simp only [csR]
  have hb : partB s l next p = true := by
   unfold partB
   rw [h3]
   simp only [decide_true, Bool.true_and, Bool.and_eq_true, decide_eq_true_eq]
   omega
  rw [if_pos hb, h3]
  simp only
  rw [show (next - next + 1).toNat = 1 by omega, if_pos (by simp [allT, List.range_succ, h5])]
  exact PartsOK.cs r (next + 1) h6 (by omega)
end Go.Mx
