/- ArbiterChecks: the plain law. Conditions: none. -/
import Derived.Test.YtkomoedegnckhaaLawZi
import Derived.Test.YtkomoedegnckhaaLawArbSan
set_option linter.unusedVariables false
set_option linter.unusedSimpArgs false
namespace Go.Mx
theorem few_len {l : List api_Letter} {n : Int} (hn : n ≤ 2005) (h : law09_few l n = true) : l.length ≤ 2005 := by
 unfold law09_few at h
 simp at h
 omega
theorem same_checks (c : api_Court) (p : List api_Letter) (hp : p.length ≤ 4000) : law09_ArbiterChecks_j1 c p = some true := by
 unfold law09_ArbiterChecks_j1
 obtain ⟨r, e1, e2, _⟩ := Chk_spec c p hp
 rw [e1, e2, sanity09]
 simp
theorem holds_ArbiterChecks {c : api_Court} {l : List api_Letter} {id what at_ by_ : Int} (h0 : ok_api_Court c) (h1 : ok_24 l) (h2 : OkI .i64 id) (h3 : OkI .i64 what) (h4 : OkI .u8 at_) (h5 : OkI .i64 by_) : law09_ArbiterChecks c l id what at_ by_ = some true := by
 unfold law09_ArbiterChecks
 split
 ·rw [sanity09]; rfl
 ·rename_i hf
  have hf : law09_few l 60 = true := by simpa using hf
  have hl := few_len (by omega) hf
  obtain ⟨r, e1, e2, _⟩ := Chk_spec c l (by omega)
  obtain ⟨o, g1, g2, e3⟩ := Rulings_spec c l (by omega)
  have ho : o.length ≤ 4000 := by
   rcases e3 with ⟨_, rfl⟩ | ⟨q, _, _, h⟩
   ·simp
   ·have := h.len (readS_ok q).1 (by omega); omega
  obtain ⟨e4, e5⟩ := Proof_eq c l (by omega) o ho (fun q => by
   rcases e3 with ⟨h, _⟩ | ⟨_, h⟩
   ·exact absurd q h
   ·exact h) id
  have hp : (prfA c l o id).1.length ≤ 2005 := by
   unfold prfA
   split
   ·split
    ·split
     ·have := prf_len c l ‹_›; simp only; omega
     ·simp
    ·simp
   ·simp
  rw [e1, e2, e4, sanity09]
  simp only [Option.bind_some, decide_true, Bool.not_true, Bool.or_self, Bool.false_eq_true, if_false]
  rw [app_ok (by simp; omega), Option.bind_some, List.nil_append]
  generalize (prfA c l o id).1 = p at hp
  by_cases h0 : p.length = 0
  ·simp [h0]
  ·have n0 : ¬ ((p.length : Nat) : Int) = 0 := by omega
   simp only [n0, decide_false, Bool.false_eq_true, if_false]
   have ha := h4.u8
   obtain ⟨q, hq, hr⟩ : ∃ q : Nat, q < p.length ∧ rem (w64 at_) (p.length : Int) = some (q : Int) := by
    refine ⟨(at_ % (p.length : Int)).toNat, ?_, ?_⟩
    ·have := Int.emod_nonneg at_ n0
     have := Int.emod_lt_of_pos at_ (by omega : (0 : Int) < (p.length : Int))
     omega
    ·unfold rem
     rw [if_neg n0, w64_id (by omega) (by omega), Int.tmod_eq_emod_of_nonneg (by omega)]
     have := Int.emod_nonneg at_ n0
     congr 1; omega
   rw [hr, Option.bind_some, w64i hq (by omega)]
   split
   ·rw [sub_to (by omega), Option.bind_some]
    unfold qsl cutO
    rw [if_pos (by simp; omega), Option.bind_some, if_pos (by omega), Option.bind_some]
    exact same_checks c _ (by simp; omega)
   ·rw [ix_nat hq]
    simp only [Option.bind_some]
    split
    ·exact same_checks c _ (by rw [put_nat, List.length_set]; omega)
    ·split
     ·exact same_checks c _ (by rw [put_nat, List.length_set]; omega)
     ·split
      ·exact same_checks c _ (by rw [put_nat, List.length_set]; omega)
      ·split
       ·rw [app_ok (by simp; omega), Option.bind_some]
        exact same_checks c _ (by simp; omega)
       ·exact same_checks c _ (by omega)
end Go.Mx
