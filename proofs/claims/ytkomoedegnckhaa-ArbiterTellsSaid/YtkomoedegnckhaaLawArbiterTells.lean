/- ArbiterTells: the plain law. Conditions: none. -/
import Derived.Test.YtkomoedegnckhaaLawZi
import Derived.Test.YtkomoedegnckhaaLawArbSan
set_option linter.unusedVariables false
set_option linter.unusedSimpArgs false
namespace Go.Mx
theorem few_len {l : List api_Letter} {n : Int} (hn : n ≤ 2005) (h : law09_few l n = true) : l.length ≤ 4000 := by
 unfold law09_few at h
 simp at h
 omega
theorem holds_ArbiterTells {c : api_Court} {l : List api_Letter} {who id round : Int} (h0 : ok_api_Court c) (h1 : ok_24 l) (h2 : OkI .i64 who) (h3 : OkI .i64 id) (h4 : OkI .i64 round) : law09_ArbiterTells c l who id round = some true := by
 unfold law09_ArbiterTells
 split
 ·rw [sanity09]; rfl
 ·rename_i hf
  have hf : law09_few l 60 = true := by simpa using hf
  have hl := few_len (by omega) hf
  obtain ⟨o, e1, e2, e3⟩ := Rulings_spec c l hl
  have ho : o.length ≤ 4000 := by
   rcases e3 with ⟨_, rfl⟩ | ⟨q, _, _, h⟩
   ·simp
   ·have := h.len (readS_ok q).1 hl; omega
  obtain ⟨e4, e5⟩ := Proof_eq c l hl o ho (fun q => by
   rcases e3 with ⟨h, _⟩ | ⟨_, h⟩
   ·exact absurd q h
   ·exact h) id
  have hp : (prfA c l o id).1.length ≤ 4000 := by
   unfold prfA
   split
   ·split
    ·split
     ·have := prf_len c l ‹_›; simp only; omega
     ·simp
    ·simp
   ·simp
  rw [e1, e2, Voted_eq c l hl, rVoted_eq c l hl, e4, e5, Can_eq c l hl, rCan_eq c l hl, sanity09]
  simp only [Option.bind_some, decide_true, Bool.not_true, Bool.not_false, gb, if_true, SameR_refl o ho, Bool.or_self, SameL_refl _ hp, Bool.false_eq_true, if_false, beq_self_eq_true, Bool.and_self]
end Go.Mx
