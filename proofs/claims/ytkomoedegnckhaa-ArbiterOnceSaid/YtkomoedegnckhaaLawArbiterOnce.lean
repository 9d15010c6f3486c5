/- ArbiterOnce: the plain law. Conditions: none. -/
import Derived.Test.YtkomoedegnckhaaLawZk
import Derived.Test.YtkomoedegnckhaaLawArbSan
set_option linter.unusedVariables false
set_option linter.unusedSimpArgs false
namespace Go.Mx
theorem once {c : api_Court} {l : List api_Letter} {o : List api_Ruling} (hr : readS c l = 0) (hL : LawTo c l) (ho : RulOK c l o) {x y : api_Ruling} (hx : x ∈ o) (hy : y ∈ o) (h : x.Case = y.Case) : x.Finding = y.Finding := by
 obtain ⟨hc, _, hf⟩ := readS_ok hr
 have hmaj : majS c = c.Arbiters / 2 + 1 := by unfold majS; rw [if_pos hc]
 obtain ⟨g1, g2⟩ := okC_spec hc
 have h1 := ((ho.mem x).1 hx).2
 have h2 := ((ho.mem y).1 hy).2
 unfold vtS at h1 h2
 exact pax_once (pax_of hc hf hL x.Case) (p1 := vtB l x) (p2 := vtB l y) (fun a ha => vt_kV ha) (fun a ha => by rw [h]; exact vt_kV ha) (by omega) (by omega) (by omega)
theorem holds_ArbiterOnce {c : api_Court} {l : List api_Letter} (h0 : ok_api_Court c) (h1 : ok_24 l) : law09_ArbiterOnce c l = some true := by
 unfold law09_ArbiterOnce
 split
 ·rw [sanity09]; rfl
 ·rename_i hf
  have hl : l.length ≤ 60 := by simp at hf; omega
  obtain ⟨r, e1, _, e2⟩ := Lawful_spec c l (by omega)
  obtain ⟨o, e3, _, e4⟩ := Rulings_spec c l (by omega)
  rw [e1, e3, sanity09]
  simp only [Option.bind_some, Bool.true_and]
  rcases e2 with ⟨q, rfl⟩ | ⟨q, hR⟩
  ·simp [q]
  ·rcases hR with ⟨rfl, hL⟩ | ⟨i, hi, rfl, _⟩
   ·simp only [decide_true, Bool.not_true, Bool.or_self, Bool.false_eq_true, if_false]
    have hR : RulOK c l o := by
     rcases e4 with ⟨h, _⟩ | ⟨_, _, _, h⟩
     ·exact absurd q h
     ·exact h
    have ho : o.length ≤ 60 := by
     obtain ⟨o', _, h2, h3⟩ := rrul_eq c (readS_ok q).1 l (by omega)
     rw [hR.uniq h2]; omega
    suffices h : ∃ s, Lp (law09_ArbiterOnce_b2 (o, readS c l)) fuel 0 = some s ∧ s = true by obtain ⟨s, h, rfl⟩ := h; exact h
    refine lp_inv' (fun (i : Nat) (s : Int) => s = (i : Int)) _ o.length (by omega) rfl fun i s hi hI => ?_
    subst hI
    unfold law09_ArbiterOnce_b2
    by_cases hlt : i < o.length
    ·refine .inl ⟨hlt, ((i + 1 : Nat) : Int), ?_, rfl⟩
     simp only [dlt hlt, if_true, ix_nat hlt, Option.bind_some, sub_to (by omega : i ≤ o.length)]
     suffices h : ∃ s, Lp (law09_ArbiterOnce_b4 (i : Int) o[i] (o.take i)) fuel 0 = some s ∧ s = .inl ((i + 1 : Nat) : Int) by obtain ⟨s, h, rfl⟩ := h; exact h
     refine lp_inv' (fun (j : Nat) (s : Int) => s = (j : Int)) _ (o.take i).length (by rw [List.length_take]; omega) rfl fun j s hj hJ => ?_
     subst hJ
     unfold law09_ArbiterOnce_b4
     by_cases hjl : j < (o.take i).length
     ·refine .inl ⟨hjl, ((j + 1 : Nat) : Int), ?_, rfl⟩
      simp only [dlt hjl, if_true, ix_nat hjl, Option.bind_some]
      have hm : (o.take i)[j] ∈ o := List.mem_of_mem_take (List.getElem_mem hjl)
      rw [w64i hjl (by rw [List.length_take]; omega)]
      by_cases hcs : o[i].Case = (o.take i)[j].Case
      ·have := once q hL hR (List.getElem_mem hlt) hm hcs
       simp [hcs, this]
      ·simp only [hcs, decide_false, Bool.false_and, Bool.false_eq_true, if_false]
     ·have e : j = (o.take i).length := by omega
      subst e
      refine .inr ⟨.inl ((i + 1 : Nat) : Int), ?_, rfl⟩
      simp only [dge, Bool.false_eq_true, if_false, law09_ArbiterOnce_j3, w64i hlt (by omega : o.length ≤ 4000), Option.map_some]
    ·have e : i = o.length := by omega
     subst e
     refine .inr ⟨true, ?_, rfl⟩
     simp [dge, law09_ArbiterOnce_j1, sanity09, q]
   ·simp [q]
end Go.Mx
