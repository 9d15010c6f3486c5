/- TideMoreGauges: the plain law. Conditions: none. -/
import Derived.Test.YtphmekpaalfliaaLawG
set_option linter.unusedVariables false
namespace Go.Mx
/-- Whether a gauge does not agree with a level. -/
def against (w : api_Water) (n : Int) (g : api_Gauge) : Bool := tide_level n && !(tide_within n (lev w g).Lo (lev w g).Hi)
/-- The least of the numbers of the gauges that do not agree. -/
def leastID (w : api_Water) (n : Int) : Int → List api_Gauge → Int
  | id, [] => id
  | id, g :: r => leastID w n (if against w n g = true ∧ (id = 0 ∨ g.ID < id) then g.ID else id) r
theorem rests_eq (w : api_Water) (n : Int) (l : List api_Gauge) (hl : l.length ≤ 1000) : tide_Rests_1 n (l.map fun g => ⟨g, lev w g⟩) = some (leastID w n 0 l) := by
  unfold tide_Rests_1
  suffices h : ∃ r, Lp (tide_Rests_1_b2 n (l.map fun g => ⟨g, lev w g⟩)) fuel (0, 0) = some r ∧ r = leastID w n 0 l by obtain ⟨r, h, rfl⟩ := h; exact h
  refine lp_inv' (fun (i : Nat) (st : Int × Int) => st.2 = (i : Int) ∧ leastID w n 0 l = leastID w n st.1 (l.drop i)) _ l.length (by omega) ⟨rfl, by simp⟩ fun i st hi hI => ?_
  obtain ⟨id, i'⟩ := st
  simp only at hI
  obtain ⟨rfl, hI⟩ := hI
  unfold tide_Rests_1_b2
  simp only
  by_cases h : i < l.length
  · left
    have e : ix (l.map fun g => (⟨g, lev w g⟩ : tide_known)) (i : Int) = some ⟨l[i], lev w l[i]⟩ := by
      rw [ix_lt (by simpa using h)]; simp
    rw [if_pos (by simpa using h), e, Option.bind_some]
    refine ⟨h, ?_⟩
    rw [List.drop_eq_getElem_cons h] at hI
    simp only [leastID] at hI
    by_cases hc : against w n l[i] = true ∧ (id = 0 ∨ l[i].ID < id)
    · rw [if_pos (show ((tide_level n && !(tide_within n (lev w l[i]).Lo (lev w l[i]).Hi)) && ((decide (id = 0)) || (decide (l[i].ID < id)))) = true by
        rw [Bool.and_eq_true]; exact ⟨hc.1, by simpa using hc.2⟩)]
      rw [if_pos hc] at hI
      unfold tide_Rests_1_j3
      rw [w64s' h (by omega)]
      exact ⟨_, rfl, rfl, hI⟩
    · rw [if_neg (show ¬ ((tide_level n && !(tide_within n (lev w l[i]).Lo (lev w l[i]).Hi)) && ((decide (id = 0)) || (decide (l[i].ID < id)))) = true by
        rw [Bool.and_eq_true]; exact fun q => hc ⟨q.1, by simpa using q.2⟩)]
      rw [if_neg hc] at hI
      unfold tide_Rests_1_j3
      rw [w64s' h (by omega)]
      exact ⟨_, rfl, rfl, hI⟩
  · right
    rw [if_neg (by simpa using h)]
    refine ⟨_, rfl, ?_⟩
    rw [hI, List.drop_eq_nil_of_le (by omega)]
    rfl
/-- What the least number is: that of such a gauge, or nothing. -/
theorem leastID_spec (w : api_Water) (n : Int) : ∀ (l : List api_Gauge) (id : Int), (∀ g ∈ l, g.ID ≠ 0) → ((leastID w n id l = id ∧ (id = 0 → ∀ g ∈ l, against w n g = false)) ∨ ∃ g ∈ l, against w n g = true ∧ leastID w n id l = g.ID)
  | [], id, _ => .inl ⟨rfl, fun _ g hg => by cases hg⟩
  | g :: r, id, h => by
    unfold leastID
    have hr := fun x hx => h x (List.mem_cons_of_mem _ hx)
    by_cases hc : against w n g = true ∧ (id = 0 ∨ g.ID < id)
    · rw [if_pos hc]
      rcases leastID_spec w n r g.ID hr with ⟨h1, h2⟩ | ⟨x, hx, h1, h2⟩
      · exact .inr ⟨g, List.mem_cons_self, hc.1, h1⟩
      · exact .inr ⟨x, List.mem_cons_of_mem _ hx, h1, h2⟩
    · rw [if_neg hc]
      rcases leastID_spec w n r id hr with ⟨h1, h2⟩ | ⟨x, hx, h1, h2⟩
      · refine .inl ⟨h1, fun hz x hx => ?_⟩
        rcases List.mem_cons.1 hx with rfl | hx
        · cases ha : against w n x with
          | false => rfl
          | true => exact absurd ⟨ha, .inl hz⟩ hc
        · exact h2 hz x hx
      · exact .inr ⟨x, List.mem_cons_of_mem _ hx, h1, h2⟩
theorem Rests_eq (w : api_Water) (hw : LenW w) (l : List api_Gauge) (h : (levelsS w l).2 = 0) : tide_Rests w l = some (leastID w ((levelsS w l).1.Lo - 1) 0 l, leastID w ((levelsS w l).1.Hi + 1) 0 l, 0) ∧ gaugedS w l = 0 ∧ (levelsS w l).1 = allLev w tide_every l ∧ (allLev w tide_every l).Lo ≤ (allLev w tide_every l).Hi := by
  have hs := h
  unfold levelsS at hs
  by_cases hg : gaugedS w l = 0
  · rw [if_pos hg] at hs
    have hn : ¬ (allLev w tide_every l).Hi < (allLev w tide_every l).Lo := by
      intro hn
      rw [if_pos hn] at hs
      cases hs
    have e : levelsS w l = (allLev w tide_every l, 0) := by unfold levelsS; rw [if_pos hg, if_neg hn]
    refine ⟨?_, hg, by rw [e], by omega⟩
    obtain ⟨h40, hc, hgs⟩ := gaugedS_len hg
    unfold tide_Rests
    rw [Levels_eq w hw, Option.bind_some, if_neg (by simp [h]), knowns_eq (checkS_good hw hc) l (by omega) ((gaugeS_zero l []).1 hgs).1, Option.bind_some, e]
    have a1 := ((allLev_lo w (allLev w tide_every l).Lo l tide_every).1 (Int.le_refl _)).1
    have a2 := ((allLev_hi w (allLev w tide_every l).Hi l tide_every).1 (Int.le_refl _)).1
    have a1' : (-4000 : Int) ≤ (allLev w tide_every l).Lo := a1
    have a2' : (allLev w tide_every l).Hi ≤ 4000 := a2
    simp only
    rw [w64_id (n := (allLev w tide_every l).Lo - 1) (by omega) (by omega), w64_id (n := (allLev w tide_every l).Hi + 1) (by omega) (by omega), rests_eq w _ l (by omega), rests_eq w _ l (by omega)]
    rfl
  · rw [if_neg hg] at hs
    exact absurd hs hg
theorem levelsS_of {w : api_Water} {l : List api_Gauge} (h : gaugedS w l = 0) (h2 : (allLev w tide_every l).Lo ≤ (allLev w tide_every l).Hi) : levelsS w l = (allLev w tide_every l, 0) := by
  unfold levelsS; rw [if_pos h, if_neg (by omega)]
theorem allLev_sub {w : api_Water} {l r : List api_Gauge} (h : ∀ g ∈ r, g ∈ l) : (allLev w tide_every r).Lo ≤ (allLev w tide_every l).Lo ∧ (allLev w tide_every l).Hi ≤ (allLev w tide_every r).Hi := by
  have a1 := (allLev_lo w (allLev w tide_every l).Lo l tide_every).1 (Int.le_refl _)
  have a2 := (allLev_hi w (allLev w tide_every l).Hi l tide_every).1 (Int.le_refl _)
  exact ⟨(allLev_lo w _ r tide_every).2 ⟨a1.1, fun g hg => a1.2 g (h g hg)⟩, (allLev_hi w _ r tide_every).2 ⟨a2.1, fun g hg => a2.2 g (h g hg)⟩⟩
theorem holds_TideMoreGauges {w : api_Water} {l : List api_Gauge} {at_ : Int} (h0 : ok_api_Water w) (h1 : ok_36 l) (h2 : OkI .u8 at_) : law02_TideMoreGauges w l at_ = some true := by
  have hw := LenW.of h0
  have ha := h2.u8
  unfold law02_TideMoreGauges
  obtain ⟨b, hb, _⟩ := few_spec w hw.c
  rw [hb, Option.bind_some]
  split
  · rw [sanity_true]; rfl
  · rename_i hc
    simp only [Bool.or_eq_true, decide_eq_true_eq, not_or] at hc
    have hl : l.length ≤ 60 := by omega
    have hp : 0 < l.length := by omega
    rw [Levels_eq w hw, Option.bind_some]
    by_cases he : (levelsS w l).2 = 0
    · obtain ⟨r1, hg, r2, r3⟩ := Rests_eq w hw l he
      rw [if_neg (by simp [he])]
      have hr : rem (w64 at_) (l.length : Int) = some (at_ % l.length) := by
        rw [w64_id (n := at_) (by omega) (by omega)]
        unfold rem
        rw [if_neg (by omega), Int.tmod_eq_emod_of_nonneg ha.1]
      rw [hr, Option.bind_some]
      have m0 := Int.emod_nonneg at_ (show (l.length : Int) ≠ 0 by omega)
      have m1 := Int.emod_lt_of_pos at_ (show 0 < (l.length : Int) by omega)
      generalize at_ % (l.length : Int) = q at *
      obtain ⟨k, rfl⟩ : ∃ k : Nat, q = k := ⟨q.toNat, by omega⟩
      have hk : k < l.length := by omega
      rw [sub_pre (by omega), Option.bind_some, w64s' hk (by omega)]
      have s2 : sub l ((k + 1 : Nat) : Int) (l.length : Int) = some (l.drop (k + 1)) := by
        unfold sub
        rw [if_pos ⟨by omega, by omega, by omega⟩]
        simp
      have a1 : app [] (l.take k) = some (l.take k) := by unfold app; rw [if_pos (by simp; omega)]; simp
      have a2 : app (l.take k) (l.drop (k + 1)) = some (l.take k ++ l.drop (k + 1)) := by unfold app; rw [if_pos (by simp; omega)]
      rw [a1, Option.bind_some, s2, Option.bind_some, a2, Option.bind_some, Levels_eq w hw, Option.bind_some, r1, Option.bind_some]
      have hsub : (l.take k ++ l.drop (k + 1)).Sublist l := by
        have := (List.Sublist.refl (l.take k)).append (List.drop_sublist 1 (l.drop k))
        rw [List.drop_drop, List.take_append_drop] at this
        exact this
      obtain ⟨h40, hck, hgs⟩ := gaugedS_len hg
      have hz := (gaugeS_zero l []).1 hgs
      have big := allLev_sub (w := w) (l := l) (r := l.take k ++ l.drop (k + 1)) (fun g hg => hsub.subset hg)
      have less := levelsS_of (gaugedS_sub hg hsub) (by omega)
      rw [less, r2]
      have hne : ∀ g ∈ l, g.ID ≠ 0 := fun g hg => by have := gok_spec (hz.1 g hg); omega
      have sl := leastID_spec w ((allLev w tide_every l).Lo - 1) l 0 hne
      have sh := leastID_spec w ((allLev w tide_every l).Hi + 1) l 0 hne
      generalize leastID w ((allLev w tide_every l).Lo - 1) 0 l = idl at *
      generalize leastID w ((allLev w tide_every l).Hi + 1) 0 l = idh at *
      suffices h : ∃ r, Lp (law02_TideMoreGauges_b2 w l (levelsS w l) (allLev w tide_every (l.take k ++ l.drop (k + 1)), 0) (idl, idh, 0)) fuel (0, []) = some r ∧ r = true by obtain ⟨r, h, rfl⟩ := h; exact h
      refine lp_inv' (fun (i : Nat) (st : Int × List api_Gauge) => st.1 = (i : Int) ∧ st.2 = (l.take i).filter fun g => decide (g.ID = idl) || decide (g.ID = idh)) _ l.length (by omega) ⟨rfl, by simp⟩ fun i st hi hI => ?_
      obtain ⟨i', acc⟩ := st
      simp only at hI
      obtain ⟨rfl, rfl⟩ := hI
      unfold law02_TideMoreGauges_b2
      simp only
      by_cases h : i < l.length
      · left
        have hgb : ∀ {β : Type} (x : Bool) (k : api_Gauge → Option β), (x = false → k default = k l[i]) → gb x (some l[i]) k = k l[i] := by
          intro β x k hk
          cases x with
          | true => rfl
          | false => simpa [gb] using hk rfl
        rw [if_pos (by simpa using h), ix_lt h, Option.bind_some]
        rw [hgb _ _ (by intro hx; simp at hx; simp [hx])]
        have hf : ((l.take i).filter fun g => decide (g.ID = idl) || decide (g.ID = idh)).length ≤ 60 := by
          have := List.length_filter_le (fun g : api_Gauge => decide (g.ID = idl) || decide (g.ID = idh)) (l.take i)
          simp at this; omega
        refine ⟨h, ?_⟩
        by_cases hh : (decide (l[i].ID = idl) || decide (l[i].ID = idh)) = true
        · rw [if_pos hh, Option.bind_some, app_one (by omega), Option.bind_some]
          unfold law02_TideMoreGauges_j3
          rw [w64s' h (by omega)]
          refine ⟨_, rfl, rfl, ?_⟩
          rw [List.take_add_one, List.getElem?_eq_getElem h, List.filter_append]
          congr 1
          simp [hh]
        · rw [if_neg hh]
          unfold law02_TideMoreGauges_j3
          rw [w64s' h (by omega)]
          refine ⟨_, rfl, rfl, ?_⟩
          rw [List.take_add_one, List.getElem?_eq_getElem h, List.filter_append]
          simp only [Option.toList_some, List.filter_cons, List.filter_nil]
          rw [if_neg hh, List.append_nil]
      · right
        have hi' : i = l.length := by omega
        subst hi'
        rw [if_neg (by simp), List.take_length]
        unfold law02_TideMoreGauges_j1
        generalize hR : (l.filter fun g => decide (g.ID = idl) || decide (g.ID = idh)) = R
        have hRs : R.Sublist l := hR ▸ List.filter_sublist
        have big2 := allLev_sub (w := w) (l := l) (r := R) (fun g hg => hRs.subset hg)
        have same := levelsS_of (gaugedS_sub hg hRs) (by omega)
        have elo : (allLev w tide_every R).Lo = (allLev w tide_every l).Lo := by
          have all := (allLev_lo w (allLev w tide_every l).Lo l tide_every).1 (Int.le_refl _)
          have hin : ¬ (allLev w tide_every R).Lo ≤ (allLev w tide_every l).Lo - 1 := by
            intro hlt
            obtain ⟨t1, t2⟩ := (allLev_lo w ((allLev w tide_every l).Lo - 1) R tide_every).1 hlt
            have hall := (allLev_hi w (allLev w tide_every l).Hi l tide_every).1 (Int.le_refl _)
            have t1' : (-4000 : Int) ≤ (allLev w tide_every l).Lo - 1 := t1
            have hall' : (allLev w tide_every l).Hi ≤ 4000 := hall.1
            have hlevel : tide_level ((allLev w tide_every l).Lo - 1) = true := by simp [tide_level, tide_within]; omega
            rcases sl with ⟨_, h2⟩ | ⟨g, hg, hag, e⟩
            · have : (allLev w tide_every l).Lo ≤ (allLev w tide_every l).Lo - 1 := (allLev_lo w _ l tide_every).2 ⟨t1, fun g hg => by
                have h3 := h2 rfl g hg
                have h4 := hall.2 g hg
                unfold against at h3
                rw [hlevel] at h3
                simp only [Bool.true_and, Bool.not_eq_false', tide_within, Bool.and_eq_true, decide_eq_true_eq] at h3
                exact h3.1⟩
              omega
            · have hgR : g ∈ R := by rw [← hR, List.mem_filter]; exact ⟨hg, by simp [e]⟩
              have h4 := hall.2 g hg
              have h5 := t2 g hgR
              unfold against at hag
              rw [hlevel] at hag
              simp only [Bool.true_and, Bool.not_eq_true', tide_within, Bool.and_eq_false_iff, decide_eq_false_iff_not] at hag
              omega
          omega
        have ehi : (allLev w tide_every R).Hi = (allLev w tide_every l).Hi := by
          have hin : ¬ (allLev w tide_every l).Hi + 1 ≤ (allLev w tide_every R).Hi := by
            intro hlt
            obtain ⟨t1, t2⟩ := (allLev_hi w ((allLev w tide_every l).Hi + 1) R tide_every).1 hlt
            have hall := (allLev_lo w (allLev w tide_every l).Lo l tide_every).1 (Int.le_refl _)
            have t1' : (allLev w tide_every l).Hi + 1 ≤ 4000 := t1
            have hall' : (-4000 : Int) ≤ (allLev w tide_every l).Lo := hall.1
            have hlevel : tide_level ((allLev w tide_every l).Hi + 1) = true := by simp [tide_level, tide_within]; omega
            rcases sh with ⟨_, h2⟩ | ⟨g, hg, hag, e⟩
            · have : (allLev w tide_every l).Hi + 1 ≤ (allLev w tide_every l).Hi := (allLev_hi w _ l tide_every).2 ⟨t1, fun g hg => by
                have h3 := h2 rfl g hg
                unfold against at h3
                rw [hlevel] at h3
                simp only [Bool.true_and, Bool.not_eq_false', tide_within, Bool.and_eq_true, decide_eq_true_eq] at h3
                exact h3.2⟩
              omega
            · have hgR : g ∈ R := by rw [← hR, List.mem_filter]; exact ⟨hg, by simp [e]⟩
              have h4 := hall.2 g hg
              have h5 := t2 g hgR
              unfold against at hag
              rw [hlevel] at hag
              simp only [Bool.true_and, Bool.not_eq_true', tide_within, Bool.and_eq_false_iff, decide_eq_false_iff_not] at hag
              omega
          omega
        rw [Levels_eq w hw, sanity_true, same, r2]
        refine ⟨_, rfl, ?_⟩
        have esp : allLev w tide_every R = allLev w tide_every l := by
          cases h1 : allLev w tide_every R
          cases h2 : allLev w tide_every l
          rw [h1, h2] at elo ehi
          simp only at elo ehi
          rw [elo, ehi]
        simp [esp, big.1, big.2]
    · rw [if_pos (by simp [he]), sanity_true]; rfl
end Go.Mx
