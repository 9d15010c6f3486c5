/- HullCheckMost: the plain law. Conditions: none. -/
import Derived.Test.YthfnbjoecocfaaaLawHn
set_option linter.unusedVariables false
namespace Go.Mx
theorem checkMost_j1 (s : api_Ship) (l : api_Load) (form : List Int) (p : api_Price) (v c : Int) (x : List Int) (hl : Len s.Holds) (hw : LoadW l) (hL : Len l.Holds) (hwl : Len form) (hp : Len p.Loading) (hx : Len x) : law03_HullCheckMost_j1 s l form p v c x = some true := by
  unfold law03_HullCheckMost_j1
  rw [sanity3_true, hcm_eq s l form p hl hw hL hwl hp, rcm_eq s l form p hl hw hL hwl hp, hcm_eq s l form ⟨v, x, c⟩ hl hw hL hwl hx, rcm_eq s l form ⟨v, x, c⟩ hl hw hL hwl hx]
  simp [gb]
theorem holds_HullCheckMost {s : api_Ship} {l : api_Load} {form : List Int} {p : api_Price} {what by_ : Int} (h0 : ok_api_Ship s) (h1 : ok_api_Load l) (h2 : ok_40 form) (h3 : ok_api_Price p) (h4 : OkI .i64 what) (h5 : OkI .i64 by_) : law03_HullCheckMost s l form p what by_ = some true := by
  have hl : Len s.Holds := h0.2.2.2.2.1.1
  have hL : Len l.Holds := h1.1.1
  have hw := LoadW.ok h1
  have hwl : Len form := h2.1
  have hp : Len p.Loading := h3.2.1.1
  unfold law03_HullCheckMost
  split
  · rw [sanity3_true]; rfl
  · have hM : ∃ q e, hull_Most s l form = some (q, e) ∧ q.Loading.length ≤ 8 := by
      by_cases ha : askE s l form = 0
      · obtain ⟨q, q1, q2, _⟩ := Most_ok s l form hl hw hwl ha
        have hk : chkL s l = 0 := by unfold askE at ha; split at ha; · assumption
                                     · rename_i h; exact absurd ha h
        exact ⟨q, 0, q1, by rw [q2.fit.len]; exact (GoodL.of hk).lenL⟩
      · exact ⟨_, _, Most_err s l form hl hw hwl ha, by simp⟩
    obtain ⟨q, e, q1, q2⟩ := hM
    rw [q1, Option.bind_some, app_ok (by simp; omega), Option.bind_some, List.nil_append]
    simp only
    have J := fun v c x (hx : Len x) => checkMost_j1 s l form p v c x hl hw hL hwl hp hx
    split
    · exact J _ _ _ (by unfold Len; omega)
    · split
      · exact J _ _ _ (by unfold Len; omega)
      · split
        · rename_i hc
          simp only [Bool.and_eq_true, decide_eq_true_eq] at hc
          have h0 : 0 < q.Loading.length := by omega
          have e0 := ix_lt h0
          rw [show ((0 : Nat) : Int) = 0 from rfl] at e0
          rw [e0, Option.bind_some, Option.bind_some]
          exact J _ _ _ (by unfold Len put; simp; omega)
        · split
          · rename_i hc
            simp only [Bool.and_eq_true, decide_eq_true_eq] at hc
            have h0 : 0 < q.Loading.length := by omega
            have h1 : 1 < q.Loading.length := by omega
            have e0 := ix_lt h0
            have e1 := ix_lt h1
            rw [show ((0 : Nat) : Int) = 0 from rfl] at e0
            rw [show ((1 : Nat) : Int) = 1 from rfl] at e1
            rw [e1, Option.bind_some, e0, Option.bind_some, Option.bind_some]
            have e2 : ix (put q.Loading 0 q.Loading[1]) 1 = some ((put q.Loading 0 q.Loading[1])[1]'(by unfold put; simpa using h1)) := by
              have := ix_lt (l := put q.Loading 0 q.Loading[1]) (i := 1) (by unfold put; simpa using h1)
              simpa using this
            rw [e2, Option.bind_some]
            exact J _ _ _ (by unfold Len put; simp; omega)
          · exact J _ _ _ (by unfold Len; omega)
end Go.Mx
