/- Plain laws of water: the gauges at both ends. Conditions: none. -/
import Derived.Test.YtphmekpaalfliaaGreatLawH
set_option linter.unusedVariables false
namespace Go.Mx
/-- Whether a gauge does not agree with a level. -/
def against (w : api_Water) (n : Int) (g : api_Gauge) : Bool := tide_level n && !(tide_within n (lev w g).Lo (lev w g).Hi)
/-- The least of the numbers of the gauges that do not agree. -/
def leastID (w : api_Water) (n : Int) : Int → List api_Gauge → Int
  | id, [] => id
  | id, g :: r => leastID w n (if against w n g = true ∧ (id = 0 ∨ g.ID < id) then g.ID else id) r
theorem rests_eq (w : api_Water) (n : Int) (l : List api_Gauge) (hl : l.length ≤ 1000) : tide_Rests_1 n (l.map fun g => ⟨g, lev w g⟩) = some (leastID w n 0 l) := by
  unfold tide_Rests_1
  suffices h : ∃ r, Lp (tide_Rests_1_b2 n (l.map fun g => ⟨g, lev w g⟩)) fuel (0, 0) = some r ∧ r = leastID w n 0 l by obtain ⟨r, h, rfl⟩ := h; exact h
  refine lp_inv' (fun (i : Nat) (st : Int × Int) => st.2 = (i : Int) ∧ leastID w n 0 l = leastID w n st.1 (l.drop i)) _ l.length (by omega) ⟨rfl, by simp⟩ fun i st hi hI => ?_
  obtain ⟨id, i'⟩ := st
  simp only at hI
  obtain ⟨rfl, hI⟩ := hI
  unfold tide_Rests_1_b2
  simp only
  by_cases h : i < l.length
  · left
    have e : ix (l.map fun g => (⟨g, lev w g⟩ : tide_known)) (i : Int) = some ⟨l[i], lev w l[i]⟩ := by
      rw [ix_lt (by simpa using h)]; simp
    rw [if_pos (by simpa using h), e, Option.bind_some]
    refine ⟨h, ?_⟩
    rw [List.drop_eq_getElem_cons h] at hI
    simp only [leastID] at hI
    by_cases hc : against w n l[i] = true ∧ (id = 0 ∨ l[i].ID < id)
    · rw [if_pos (show ((tide_level n && !(tide_within n (lev w l[i]).Lo (lev w l[i]).Hi)) && ((decide (id = 0)) || (decide (l[i].ID < id)))) = true by
        rw [Bool.and_eq_true]; exact ⟨hc.1, by simpa using hc.2⟩)]
      rw [if_pos hc] at hI
      unfold tide_Rests_1_j3
      rw [w64s' h (by omega)]
      exact ⟨_, rfl, rfl, hI⟩
    · rw [if_neg (show ¬ ((tide_level n && !(tide_within n (lev w l[i]).Lo (lev w l[i]).Hi)) && ((decide (id = 0)) || (decide (l[i].ID < id)))) = true by
        rw [Bool.and_eq_true]; exact fun q => hc ⟨q.1, by simpa using q.2⟩)]
      rw [if_neg hc] at hI
      unfold tide_Rests_1_j3
      rw [w64s' h (by omega)]
      exact ⟨_, rfl, rfl, hI⟩
  · right
    rw [if_neg (by simpa using h)]
    refine ⟨_, rfl, ?_⟩
    rw [hI, List.drop_eq_nil_of_le (by omega)]
    rfl
theorem Rests_eq (w : api_Water) (hw : LenW w) (l : List api_Gauge) (h : (levelsS w l).2 = 0) : tide_Rests w l = some (leastID w ((levelsS w l).1.Lo - 1) 0 l, leastID w ((levelsS w l).1.Hi + 1) 0 l, 0) ∧ gaugedS w l = 0 ∧ (levelsS w l).1 = allLev w tide_every l ∧ (allLev w tide_every l).Lo ≤ (allLev w tide_every l).Hi := by
  have hs := h
  unfold levelsS at hs
  by_cases hg : gaugedS w l = 0
  · rw [if_pos hg] at hs
    have hn : ¬ (allLev w tide_every l).Hi < (allLev w tide_every l).Lo := by
      intro hn
      rw [if_pos hn] at hs
      cases hs
    have e : levelsS w l = (allLev w tide_every l, 0) := by unfold levelsS; rw [if_pos hg, if_neg hn]
    refine ⟨?_, hg, by rw [e], by omega⟩
    obtain ⟨h40, hc, hgs⟩ := gaugedS_len hg
    unfold tide_Rests
    rw [Levels_eq w hw, Option.bind_some, if_neg (by simp [h]), knowns_eq (checkS_good hw hc) l (by omega) ((gaugeS_zero l []).1 hgs).1, Option.bind_some, e]
    have a1 := ((allLev_lo w (allLev w tide_every l).Lo l tide_every).1 (Int.le_refl _)).1
    have a2 := ((allLev_hi w (allLev w tide_every l).Hi l tide_every).1 (Int.le_refl _)).1
    have a1' : (-4000 : Int) ≤ (allLev w tide_every l).Lo := a1
    have a2' : (allLev w tide_every l).Hi ≤ 4000 := a2
    simp only
    rw [w64_id (n := (allLev w tide_every l).Lo - 1) (by omega) (by omega), w64_id (n := (allLev w tide_every l).Hi + 1) (by omega) (by omega), rests_eq w _ l (by omega), rests_eq w _ l (by omega)]
    rfl
  · rw [if_neg hg] at hs
    exact absurd hs hg
end Go.Mx
