/- Plain laws of water, eighth part: gauges. Conditions: none. -/
import Derived.Test.YtphmekpaalfliaaGreatLawS
set_option linter.unusedVariables false
namespace Go.Mx
/-- Whether a gauge is right. -/
def gok (g : api_Gauge) : Bool := decide (1 ≤ g.ID ∧ g.ID ≤ 1099511627776 ∧ 0 ≤ g.Tick ∧ g.Tick ≤ 1048576 ∧ g.Read.Lo ≤ g.Read.Hi ∧ -40000 ≤ g.Read.Lo ∧ g.Read.Hi ≤ 40000)
/-- What is said of gauges behind others. -/
def gaugeS : List api_Gauge → List api_Gauge → Int
  | _, [] => 0
  | pre, g :: r => if gok g = true then (if (pre.any fun x => decide (x.ID = g.ID)) = true then 6 else gaugeS (pre ++ [g]) r) else 1
def gaugedS (w : api_Water) (l : List api_Gauge) : Int := if checkS w = 0 then (if 40 < l.length then 2 else gaugeS [] l) else checkS w
theorem gaugeS_zero : ∀ (l pre : List api_Gauge), gaugeS pre l = 0 ↔ ((∀ g ∈ l, gok g = true) ∧ l.Pairwise (fun a b => a.ID ≠ b.ID) ∧ ∀ g ∈ l, ∀ p ∈ pre, p.ID ≠ g.ID)
  | [], pre => by simp [gaugeS]
  | g :: r, pre => by
    unfold gaugeS
    by_cases h : gok g = true
    · rw [if_pos h]
      by_cases h2 : (pre.any fun x => decide (x.ID = g.ID)) = true
      · rw [if_pos h2]
        refine ⟨fun h => (by cases h), fun ⟨_, _, h3⟩ => ?_⟩
        obtain ⟨x, hx, e⟩ := List.any_eq_true.1 h2
        exact absurd (of_decide_eq_true e) (h3 g List.mem_cons_self x hx)
      · rw [if_neg h2, gaugeS_zero r (pre ++ [g])]
        have h2' : ∀ p ∈ pre, p.ID ≠ g.ID := fun p hp e => h2 (List.any_eq_true.2 ⟨p, hp, decide_eq_true e⟩)
        constructor
        · rintro ⟨q1, q2, q3⟩
          refine ⟨fun x hx => ?_, List.pairwise_cons.2 ⟨fun x hx => q3 x hx g (by simp), q2⟩, fun x hx p hp => ?_⟩
          · rcases List.mem_cons.1 hx with rfl | hx
            · exact h
            · exact q1 x hx
          · rcases List.mem_cons.1 hx with rfl | hx
            · exact h2' p hp
            · exact q3 x hx p (by simp [hp])
        · rintro ⟨q1, q2, q3⟩
          obtain ⟨q4, q5⟩ := List.pairwise_cons.1 q2
          refine ⟨fun x hx => q1 x (List.mem_cons_of_mem _ hx), q5, fun x hx p hp => ?_⟩
          rw [List.mem_append, List.mem_singleton] at hp
          rcases hp with hp | rfl
          · exact q3 x (List.mem_cons_of_mem _ hx) p hp
          · exact q4 x hx
    · rw [if_neg h]
      exact ⟨fun h => (by cases h), fun ⟨q, _⟩ => absurd (q g List.mem_cons_self) h⟩
theorem contains_GID (l : List api_Gauge) (c : api_Gauge) (hl : Len l) : slices_ContainsFunc_api_Gauge__tide_read_1 l c = some (l.any fun x => decide (x.ID = c.ID)) := by
  unfold slices_ContainsFunc_api_Gauge__tide_read_1
  have h : ∃ r, slices_IndexFunc_api_Gauge__tide_read_1 l c = some r ∧ decide (0 ≤ r) = l.any fun x => decide (x.ID = c.ID) := by
    unfold slices_IndexFunc_api_Gauge__tide_read_1
    refine lp_inv' (fun i s => s = (i : Int) ∧ ∀ j (hj : j < l.length), j < i → ¬ l[j].ID = c.ID) _ l.length (by unfold Len at hl; omega) ⟨rfl, fun j _ h => by omega⟩ fun i s hi hI => ?_
    obtain ⟨rfl, hI⟩ := hI
    unfold slices_IndexFunc_api_Gauge__tide_read_1_b2
    by_cases h : i < l.length
    · rw [if_pos (by simpa using h), ix_lt h]
      simp only [Option.bind_some]
      by_cases hr : l[i].ID = c.ID
      · rw [if_pos (by simpa [tide_read_1] using hr)]
        refine .inr ⟨_, rfl, ?_⟩
        rw [show decide ((0 : Int) ≤ (i : Int)) = true by simp]
        symm
        rw [List.any_eq_true]
        exact ⟨_, List.getElem_mem h, by simpa using hr⟩
      · rw [if_neg (by simpa [tide_read_1] using hr)]
        refine .inl ⟨h, _, rfl, w64s' h hl, fun j hj hji => ?_⟩
        by_cases hj' : j = i
        · subst hj'; exact hr
        · exact hI j hj (by omega)
    · rw [if_neg (by simpa using h)]
      refine .inr ⟨-1, rfl, ?_⟩
      symm
      rw [show decide ((0 : Int) ≤ -1) = false by decide, List.any_eq_false]
      intro x hx
      obtain ⟨j, hj, rfl⟩ := List.getElem_of_mem hx
      simpa using hI j hj (by omega)
  obtain ⟨r, h1, h2⟩ := h
  rw [h1, Option.bind_some, h2]

/-- The height without the level. -/
def rst (w : api_Water) (t : Int) : Int := corr w.Shifts t + (w.Cycles.map fun c => val c t).sum
theorem rst_bound {w : api_Water} (hw : GoodW w) (t : Int) : -28000 ≤ rst w t ∧ rst w t ≤ 28000 := by
  unfold rst
  have h1 := corr_bound w.Shifts t hw.ss
  have h2 := sum_bound w.Cycles t hw.cs
  have h3 := hw.nc
  omega
/-- The levels with which a gauge agrees. -/
def lev (w : api_Water) (g : api_Gauge) : api_Span := ⟨max (-4000) (g.Read.Lo - rst w g.Tick), min 4000 (g.Read.Hi - rst w g.Tick)⟩
theorem tide_heights_zero {w : api_Water} (hw : GoodW w) : GoodW ⟨0, w.Cycles, w.Shifts⟩ := ⟨by simp only; omega, by simp only; omega, hw.nc, hw.ns, hw.cs, hw.ss⟩
theorem gok_spec {g : api_Gauge} (h : gok g = true) : 1 ≤ g.ID ∧ g.ID ≤ 1099511627776 ∧ 0 ≤ g.Tick ∧ g.Tick ≤ 1048576 ∧ g.Read.Lo ≤ g.Read.Hi ∧ -40000 ≤ g.Read.Lo ∧ g.Read.Hi ≤ 40000 := of_decide_eq_true h
theorem knowns_eq {w : api_Water} (hw : GoodW w) (l : List api_Gauge) (hl : l.length ≤ 1000) (hg : ∀ g ∈ l, gok g = true) : tide_knowns w l = some (l.map fun g => ⟨g, lev w g⟩) := by
  unfold tide_knowns
  have h0 := tide_heights_zero hw
  rw [heights_self h0, Option.bind_some]
  rw [show (l.map fun g => (⟨g, lev w g⟩ : tide_known)) = [] ++ l.map fun g => ⟨g, lev w g⟩ from rfl]
  refine lp_list l (by omega) (fun (a : List tide_known) i => (i, a)) (fun a l => a ++ l.map fun g => ⟨g, lev w g⟩) (fun i a => a.length = i) (a := []) rfl rfl (fun a i hi hJ => ?_) (fun a _ => ?_)
  · left
    unfold tide_knowns_b2
    simp only
    have g := gok_spec (hg _ (List.getElem_mem hi))
    rw [if_pos (by simpa using hi), ix_lt hi, Option.bind_some, heights_eq h0 (by omega) (by omega), Option.bind_some]
    have e : hgt ⟨0, w.Cycles, w.Shifts⟩ l[i].Tick = rst w l[i].Tick := by unfold hgt rst; simp
    have b := rst_bound hw l[i].Tick
    rw [e, app_one (by omega), Option.bind_some, w64s' hi (by omega), w64_id (n := l[i].Read.Lo - rst w l[i].Tick) (by omega) (by omega), w64_id (n := l[i].Read.Hi - rst w l[i].Tick) (by omega) (by omega)]
    exact ⟨_, rfl, by rw [List.append_assoc]; rfl, by simp [hJ]⟩
  · unfold tide_knowns_b2
    simp only
    rw [if_neg (by simp)]
    simp [tide_knowns_j1]
def outF (w : api_Water) (l : List api_Gauge) (e : Int) : List tide_known × Int := (if e = 0 then l.map (fun g => ⟨g, lev w g⟩) else [], e)
theorem read_eq (w : api_Water) (hw : LenW w) (l : List api_Gauge) : tide_read w l = some (if gaugedS w l = 0 then l.map (fun g => ⟨g, lev w g⟩) else [], gaugedS w l) := by
  unfold tide_read
  rw [Check_eq w hw, Option.bind_some]
  by_cases hc : checkS w = 0
  · rw [if_neg (by simp [hc])]
    have g := checkS_good hw hc
    by_cases hn : 40 < l.length
    · have e : gaugedS w l = 2 := by unfold gaugedS; rw [if_pos hc, if_pos hn]
      rw [if_pos (by simp; omega), e]
      rfl
    · have e : gaugedS w l = gaugeS [] l := by unfold gaugedS; rw [if_pos hc, if_neg hn]
      rw [if_neg (by simp; omega), e]
      have hfin : gaugeS [] l = 0 → tide_knowns w l = some (l.map fun g => ⟨g, lev w g⟩) := fun h => knowns_eq g l (by omega) ((gaugeS_zero l []).1 h).1
      have key : Lp (tide_read_b2 w l) fuel 0 = some (outF w l (gaugeS [] l)) := by
        refine lp_list l (by omega) (fun (_ : List api_Gauge) i => i) (fun a r => outF w l (gaugeS a r)) (fun i a => a = l.take i ∧ (gaugeS [] l = gaugeS a (l.drop i))) (a := []) rfl ⟨by simp, by simp⟩ (fun a i hi hJ => ?_) (fun a hJ => ?_)
        · obtain ⟨rfl, hJ⟩ := hJ
          unfold tide_read_b2
          rw [if_pos (by simpa using hi), ix_lt hi]
          simp only [Option.bind_some]
          have hd := List.drop_eq_getElem_cons hi
          rw [hd] at hJ
          simp only [gaugeS] at hJ ⊢
          by_cases hg : gok l[i] = true
          · have gg := gok_spec hg
            rw [if_neg (by simp [tide_within, tide_minute]; omega), sub_pre (by omega), if_pos hg]
            rw [if_pos hg] at hJ
            simp only [Option.bind_some]
            rw [contains_GID _ _ (by unfold Len; simp; omega)]
            simp only [Option.bind_some]
            by_cases ha : ((l.take i).any fun x => decide (x.ID = l[i].ID)) = true
            · right; rw [if_pos ha, if_pos ha]; rfl
            · left
              rw [if_neg ha, if_neg ha, w64s' hi (by omega)]
              rw [if_neg ha] at hJ
              exact ⟨l.take i ++ [l[i]], rfl, rfl, by rw [List.take_add_one, List.getElem?_eq_getElem hi]; rfl, hJ⟩
          · right
            rw [if_pos (by unfold gok at hg; simp only [decide_eq_true_eq] at hg; simp [tide_within, tide_minute]; omega), if_neg hg]
            rfl
        · obtain ⟨rfl, hJ⟩ := hJ
          rw [List.drop_length] at hJ
          unfold tide_read_b2
          rw [if_neg (by simp)]
          unfold tide_read_j1
          rw [hfin (by rw [hJ]; rfl)]
          rfl
      rw [key]
      rfl
  · have e : gaugedS w l = checkS w := by unfold gaugedS; rw [if_neg hc]
    rw [if_pos (by simp [hc]), e, if_neg hc]

/-- The levels with which all of some gauges agree. -/
def allLev (w : api_Water) : api_Span → List api_Gauge → api_Span
  | a, [] => a
  | a, g :: r => allLev w (tide_both a (lev w g)) r
theorem levels_eq (w : api_Water) (l : List api_Gauge) (hl : l.length ≤ 1000) : tide_levels (l.map fun g => ⟨g, lev w g⟩) (-1) = some (allLev w tide_every l) := by
  unfold tide_levels
  suffices h : ∃ r, Lp (tide_levels_b2 (l.map fun g => ⟨g, lev w g⟩) (-1)) fuel (0, tide_every.Lo, tide_every.Hi) = some r ∧ r = allLev w tide_every l by obtain ⟨r, h, rfl⟩ := h; exact h
  refine lp_inv' (fun (i : Nat) (st : Int × Int × Int) => st.1 = (i : Int) ∧ allLev w tide_every l = allLev w ⟨st.2.1, st.2.2⟩ (l.drop i)) _ l.length (by omega) ⟨rfl, by simp⟩ fun i st hi hI => ?_
  obtain ⟨i', a, b⟩ := st
  simp only at hI
  obtain ⟨rfl, hI⟩ := hI
  unfold tide_levels_b2
  simp only
  by_cases h : i < l.length
  · left
    have e : ix (l.map fun g => (⟨g, lev w g⟩ : tide_known)) (i : Int) = some ⟨l[i], lev w l[i]⟩ := by
      rw [ix_lt (by simpa using h)]; simp
    rw [if_pos (by simpa using h), e, Option.bind_some, if_pos (by simp)]
    unfold tide_levels_j3
    rw [w64s' h (by omega)]
    refine ⟨h, _, rfl, rfl, ?_⟩
    rw [hI, List.drop_eq_getElem_cons h]
    rfl
  · right
    rw [if_neg (by simpa using h)]
    refine ⟨_, rfl, ?_⟩
    rw [hI, List.drop_eq_nil_of_le (by omega)]
    rfl
/-- What is said of levels. -/
def levelsS (w : api_Water) (l : List api_Gauge) : api_Span × Int :=
  if gaugedS w l = 0 then (if (allLev w tide_every l).Hi < (allLev w tide_every l).Lo then (⟨0, 0⟩, 9) else (allLev w tide_every l, 0)) else (⟨0, 0⟩, gaugedS w l)
theorem gaugedS_len {w : api_Water} {l : List api_Gauge} (h : gaugedS w l = 0) : l.length ≤ 40 ∧ checkS w = 0 ∧ gaugeS [] l = 0 := by
  unfold gaugedS at h
  split at h
  · split at h
    · cases h
    · exact ⟨by omega, by assumption, h⟩
  · contradiction
theorem Levels_eq (w : api_Water) (hw : LenW w) (l : List api_Gauge) : tide_Levels w l = some (levelsS w l) := by
  unfold tide_Levels levelsS
  rw [read_eq w hw l, Option.bind_some]
  by_cases h : gaugedS w l = 0
  · rw [if_neg (by simp [h]), if_pos h]
    have hl := (gaugedS_len h).1
    simp only [if_pos h]
    rw [levels_eq w l (by omega), Option.bind_some]
    unfold tide_none
    by_cases hn : (allLev w tide_every l).Hi < (allLev w tide_every l).Lo
    · rw [if_pos (by simpa using hn), if_pos hn]
    · rw [if_neg (by simpa using hn), if_neg hn]
  · rw [if_pos (by simp [h]), if_neg h, if_neg h]
end Go.Mx
