/- ArbiterBound: the plain law. Conditions: none. -/
import Derived.Test.YtkomoedegnckhaaLawZh
import Derived.Test.YtkomoedegnckhaaLawZk
import Derived.Test.YtkomoedegnckhaaLawArbSan
set_option linter.unusedVariables false
set_option linter.unusedSimpArgs false
namespace Go.Mx
theorem can_less {c : api_Court} {l : List api_Letter} (hr : readS c l = 0) (hL : LawTo c l) {x : api_Letter} (hx : x ∈ l) (h3 : x.Kind = 3) {r : Int} (h1 : 1 ≤ r) (hlt : r < x.Round) : ∃ b f, canS c l x.Case r = (f, b, false, 0) ∧ (b = true → f = x.Finding) := by
 obtain ⟨hc, _, hf⟩ := readS_ok hr
 have hmaj : majS c = c.Arbiters / 2 + 1 := by unfold majS; rw [if_pos hc]
 obtain ⟨g1, g2⟩ := okC_spec hc
 have hF := hf x hx
 have hpx := pax_of hc hf hL x.Case
 have hR : kR l x.Case x.Round x.Finding := ⟨x, hx, h3, rfl, rfl, rfl⟩
 have hin1 : inI x.Case 1 1099511627776 = true := by
  unfold fmB at hF
  simp only [Bool.and_eq_true] at hF
  exact hF.1.1.1.1.1.1.2
 have hin2 : inI r 1 1048576 = true := inI_spec.2 ⟨h1, by have := (fm_of hF).round; omega⟩
 unfold canS
 rw [if_pos hr, if_pos ⟨hin1, hin2⟩]
 unfold canE
 cases hp : prpS l x.Case r with
 | none =>
  have hlt2 : cnt (caS l x.Case r) c.Arbiters.toNat < (majS c).toNat := pax_any hpx hR hlt fun a ha => by
   unfold caS at ha
   rw [hp] at ha
   have ha : (opS l (a : Int) x.Case r || false) = true := ha
   rw [Bool.or_false] at ha
   exact ha
  refine ⟨false, 0, ?_, fun h => by cases h⟩
  have : ¬ majS c ≤ canN c l x.Case r := by unfold canN; omega
  simp [this]
 | some y =>
  simp only
  by_cases hm : majS c ≤ canN c l x.Case r
  ·rw [if_pos hm]
   refine ⟨true, y.Finding, rfl, fun _ => ?_⟩
   unfold canN at hm
   refine (pax_bound hpx x.Round.toNat x.Round x.Finding r y.Finding (caS l x.Case r) (Nat.le_refl _) hR hlt (fun a ha => ?_) (by omega)).2
   unfold caS at ha
   rw [hp] at ha
   rcases Bool.or_eq_true_iff.1 ha with ha | ha
   ·exact .inl ha
   ·exact .inr (vt_kV ha)
  ·rw [if_neg hm]
   exact ⟨false, 0, rfl, fun h => by cases h⟩
theorem can_ruled {c : api_Court} {l : List api_Letter} {o : List api_Ruling} (hr : readS c l = 0) (hL : LawTo c l) (ho : RulOK c l o) {x : api_Ruling} (hx : x ∈ o) : canS c l x.Case x.Round = (x.Finding, true, false, 0) := by
 obtain ⟨hc, _, hf⟩ := readS_ok hr
 have hpx := pax_of hc hf hL x.Case
 obtain ⟨⟨y, hy, k4, hyx⟩, hv⟩ := (ho.mem x).1 hx
 have hF := hf y hy
 subst hyx
 have hin1 : inI y.Case 1 1099511627776 = true := by
  unfold fmB at hF
  simp only [Bool.and_eq_true] at hF
  exact hF.1.1.1.1.1.1.2
 have hin2 : inI y.Round 1 1048576 = true := inI_spec.2 (fm_of hF).round
 have hfr := (fm_of hF).from_
 have hV : kV l y.Case y.From.toNat y.Round y.Finding := ⟨y, hy, k4, rfl, by omega, rfl, rfl⟩
 obtain ⟨z, hz, z1, z2, z3, z4⟩ := hpx.prop _ _ _ hV
 have z2 : z.Case = y.Case := z2
 unfold canS
 rw [if_pos hr]
 show (if inI y.Case 1 1099511627776 = true ∧ inI y.Round 1 1048576 = true then canE c l y.Case y.Round else _) = _
 rw [if_pos ⟨hin1, hin2⟩]
 unfold canE
 cases hp : prpS l y.Case y.Round with
 | none =>
  have := List.find?_eq_none.1 hp z hz
  simp [isK, z1, z2, z3] at this
 | some w =>
  have hw := List.mem_of_find?_eq_some hp
  have hwk := List.find?_some hp
  have hwf : w.Finding = y.Finding := by
   have := prop_uniq hL hw hz hwk (by simp [isK, z1, z2, z3])
   omega
  have hm : majS c ≤ canN c l y.Case y.Round := by
   unfold canN
   unfold vtS at hv
   have : cnt (vtB l (rulR y)) c.Arbiters.toNat ≤ cnt (caS l y.Case y.Round) c.Arbiters.toNat := cnt_mono fun a _ ha => by
    unfold caS
    rw [hp]
    show (_ || vtB l ⟨y.Case, y.Round, w.Finding⟩ a) = true
    rw [hwf]
    have ha : vtB l ⟨y.Case, y.Round, y.Finding⟩ a = true := ha
    rw [ha, Bool.or_true]
   omega
  simp only
  rw [if_pos hm, hwf]; rfl
theorem holds_ArbiterBound {c : api_Court} {l : List api_Letter} (h0 : ok_api_Court c) (h1 : ok_24 l) : law09_ArbiterBound c l = some true := by
 unfold law09_ArbiterBound
 split
 ·rw [sanity09]; rfl
 ·rename_i hf
  have hl : l.length ≤ 40 := by simp at hf; omega
  obtain ⟨r, e1, _, e2⟩ := Lawful_spec c l (by omega)
  obtain ⟨o, e3, _, e4⟩ := Rulings_spec c l (by omega)
  rw [e1]
  simp only [Option.bind_some]
  rcases e2 with ⟨q, rfl⟩ | ⟨q, hR⟩
  ·simp [q, sanity09]
  ·rcases hR with ⟨rfl, hL⟩ | ⟨i, hi, rfl, _⟩
   ·simp only [decide_true, Bool.not_true, Bool.or_self, Bool.false_eq_true, if_false]
    have hR : RulOK c l o := by
     rcases e4 with ⟨h, _⟩ | ⟨_, _, _, h⟩
     ·exact absurd q h
     ·exact h
    have hfm := (readS_ok q).2.2
    have ho : o.length ≤ 60 := by
     obtain ⟨o', _, h2, h3⟩ := rrul_eq c (readS_ok q).1 l (by omega)
     rw [hR.uniq h2]; omega
    have hlast : law09_ArbiterBound_j1 c l = some true := by
     unfold law09_ArbiterBound_j1
     rw [e3]
     simp only [Option.bind_some, q, decide_true, Bool.not_true, Bool.false_eq_true, if_false]
     suffices h : ∃ s, Lp (law09_ArbiterBound_b3 c l (o, 0)) fuel 0 = some s ∧ s = true by obtain ⟨s, h, rfl⟩ := h; exact h
     refine lp_inv' (fun (i : Nat) (s : Int) => s = (i : Int)) _ o.length (by omega) rfl fun i s hi hI => ?_
     subst hI
     unfold law09_ArbiterBound_b3
     by_cases hlt : i < o.length
     ·refine .inl ⟨hlt, ((i + 1 : Nat) : Int), ?_, rfl⟩
      simp only [dlt hlt, if_true, ix_nat hlt, Option.bind_some, Can_eq c l (by omega), can_ruled q hL hR (List.getElem_mem hlt), w64i hlt (by omega : o.length ≤ 4000), decide_true, Bool.not_true, Bool.or_self, Bool.false_eq_true, if_false]
     ·have e : i = o.length := by omega
      subst e
      refine .inr ⟨true, ?_, rfl⟩
      simp [dge, law09_ArbiterBound_j2, sanity09]
    suffices h : ∃ s, Lp (law09_ArbiterBound_b4 c l) fuel 0 = some s ∧ s = true by obtain ⟨s, h, rfl⟩ := h; exact h
    refine lp_inv' (fun (i : Nat) (s : Int) => s = (i : Int)) _ l.length (by omega) rfl fun i s hi hI => ?_
    subst hI
    unfold law09_ArbiterBound_b4
    by_cases hlt : i < l.length
    ·refine .inl ⟨hlt, ((i + 1 : Nat) : Int), ?_, rfl⟩
     simp only [dlt hlt, if_true, ix_nat hlt, Option.bind_some]
     by_cases k3 : l[i].Kind = 3
     ·have hmem := List.getElem_mem hlt
      have hrd := (fm_of (hfm _ hmem)).round
      simp only [k3, decide_true, Bool.not_true, Bool.false_eq_true, if_false]
      rw [w64_id (by omega) (by omega)]
      suffices h : ∃ s, Lp (law09_ArbiterBound_b6 c l (i : Int) l[i]) fuel (max 1 (l[i].Round - 60)) = some s ∧ s = .inl ((i + 1 : Nat) : Int) by obtain ⟨s, h, rfl⟩ := h; exact h
      refine lp_inv' (fun (j : Nat) (s : Int) => s = max 1 (l[i].Round - 60) + (j : Int)) _ (l[i].Round - max 1 (l[i].Round - 60)).toNat (by omega) (by simp) fun j s hj hJ => ?_
      subst hJ
      unfold law09_ArbiterBound_b6
      by_cases hjl : max 1 (l[i].Round - 60) + (j : Int) < l[i].Round
      ·obtain ⟨b, f, q1, q2⟩ := can_less q hL hmem k3 (r := max 1 (l[i].Round - 60) + (j : Int)) (by omega) hjl
       refine .inl ⟨by omega, _, ?_, rfl⟩
       simp only [hjl, decide_true, if_true, Can_eq c l (by omega), q1, Option.bind_some]
       rw [w64_id (by omega) (by omega)]
       have e : max 1 (l[i].Round - 60) + (j : Int) + 1 = max 1 (l[i].Round - 60) + ((j + 1 : Nat) : Int) := by omega
       rw [e]
       cases b with
       | false => simp
       | true => simp [q2 rfl]
      ·refine .inr ⟨.inl ((i + 1 : Nat) : Int), ?_, rfl⟩
       simp only [hjl, decide_false, Bool.false_eq_true, if_false, law09_ArbiterBound_j5, w64i hlt (by omega : l.length ≤ 4000), Option.map_some]
     ·simp [k3, law09_ArbiterBound_j5, w64i hlt (by omega : l.length ≤ 4000)]
    ·have e : i = l.length := by omega
     subst e
     refine .inr ⟨true, ?_, rfl⟩
     simp only [dge, Bool.false_eq_true, if_false, hlast, Option.map_some]
   ·simp [sanity09]
end Go.Mx
