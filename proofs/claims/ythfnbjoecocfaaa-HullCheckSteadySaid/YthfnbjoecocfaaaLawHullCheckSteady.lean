/- HullCheckSteady: the plain law. Conditions: none. -/
import Derived.Test.YthfnbjoecocfaaaLawHq
set_option linter.unusedVariables false
namespace Go.Mx
theorem checkSteady_j1 (s : api_Ship) (l : api_Load) (parts p : List api_Part) (hl : Len s.Holds) (hw : LoadW l) : law03_HullCheckSteady_j1 s l parts p = some true := by
  unfold law03_HullCheckSteady_j1
  rw [sanity3_true, hcs_eq s l parts hl hw, rcs_eq s l parts hl hw, hcs_eq s l p hl hw, rcs_eq s l p hl hw]
  simp [gb]
theorem holds_HullCheckSteady {s : api_Ship} {l : api_Load} {parts : List api_Part} {what at_ by_ : Int} (h0 : ok_api_Ship s) (h1 : ok_api_Load l) (h2 : ok_109 parts) (h3 : OkI .i64 what) (h4 : OkI .u16 at_) (h5 : OkI .i64 by_) : law03_HullCheckSteady s l parts what at_ by_ = some true := by
  have hl : Len s.Holds := h0.2.2.2.2.1.1
  have hw := LoadW.ok h1
  have hat : 0 ≤ at_ ∧ at_ ≤ 65535 := h4
  unfold law03_HullCheckSteady
  split
  · rw [sanity3_true]; rfl
  · obtain ⟨ps, e, q1, q2⟩ := prove_some hl hw
    rw [q1, Option.bind_some, app_ok (by simp; omega), Option.bind_some, List.nil_append]
    simp only
    have J := fun p => checkSteady_j1 s l parts p hl hw
    split
    · rename_i hc
      have hc' : 0 < ps.length := by simpa using hc
      obtain ⟨q, r1, r2, r3⟩ := rem_rng hat.1 hat.2 (show (1 : Int) ≤ (ps.length : Int) by omega)
      obtain ⟨k, rfl⟩ : ∃ k : Nat, q = (k : Int) := ⟨q.toNat, by omega⟩
      have hk : k < ps.length := by omega
      rw [r1, Option.bind_some]
      have e0 := ix_lt hk
      split
      · rw [e0, Option.bind_some, Option.bind_some]; exact J _
      · split
        · rw [e0, Option.bind_some, Option.bind_some]; exact J _
        · split
          · rw [e0, Option.bind_some, Option.bind_some]; exact J _
          · split
            · have s1 : sub ps 0 (k : Int) = some (ps.take k) := sub_pre (by omega)
              have s2 : w64 ((k : Int) + 1) = ((k + 1 : Nat) : Int) := w64s k (by omega)
              have s3 : qsl ps 0 ((k + 1 : Nat) : Int) = some (((0 : Int).toNat : Int) + ((k + 1 : Nat) : Int)) := by unfold qsl; rw [if_pos ⟨by omega, by simp; omega⟩]
              have s4 : cutO ps (k : Int) ((k + 1 : Nat) : Int) = some (ps.take (k : Int).toNat ++ ps.drop ((k + 1 : Nat) : Int).toNat) := by unfold cutO; rw [if_pos ⟨by omega, by omega, by omega⟩]
              rw [s1, Option.bind_some, s2, s3, Option.bind_some, s4, Option.bind_some]; exact J _
            · exact J _
    · exact J _
end Go.Mx
