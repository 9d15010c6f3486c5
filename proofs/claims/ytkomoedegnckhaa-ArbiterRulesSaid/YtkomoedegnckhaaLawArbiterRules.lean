/- ArbiterRules: the plain law. Conditions: none. -/
import Derived.Test.YtkomoedegnckhaaLawZn
import Derived.Test.YtkomoedegnckhaaLawArbSan
set_option linter.unusedVariables false
namespace Go.Mx
theorem Alike_same (a b : api_Letter) : arbiter_Alike a b = ref09_Alike a b := by
 unfold arbiter_Alike arbiter_said ref09_Alike
 simp [Bool.decide_and, Bool.and_assoc]
theorem holds_ArbiterRules {c : api_Court} {a b : api_Letter} {who round : Int} (h0 : ok_api_Court c) (h1 : ok_api_Letter a) (h2 : ok_api_Letter b) (h3 : OkI .i64 who) (h4 : OkI .i64 round) : law09_ArbiterRules c a b who round = some true := by
 unfold law09_ArbiterRules
 rw [Next_eq, rNext_eq, sanity09, Maj_eq, rMaj_eq, Chair_eq, rChair_eq, Formed_eq, rFormed_eq, Check_eq, rCheck_eq, Alike_same]
 simp [gb]
end Go.Mx
