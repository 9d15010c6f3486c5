/- ArbiterRepeats: the plain law. Conditions: none. -/
import Derived.Test.YtkomoedegnckhaaLawZi
import Derived.Test.YtkomoedegnckhaaLawArbSan
set_option linter.unusedVariables false
set_option linter.unusedSimpArgs false
namespace Go.Mx
theorem any_rep {l : List api_Letter} {x x' : api_Letter} {q : api_Letter → Bool} (hq : Resp q) (hx : x ∈ l) (hs : arbiter_said x' = arbiter_said x) : (l ++ [x']).any q = l.any q := by
 rw [List.any_append]
 cases h : q x' with
 | false => simp [h]
 | true =>
  have : q x = true := by rw [← hq x' x hs]; exact h
  rw [List.any_eq_true.2 ⟨x, hx, this⟩]; rfl
theorem vt_rep {l : List api_Letter} {x x' : api_Letter} (hx : x ∈ l) (hs : arbiter_said x' = arbiter_said x) (r : api_Ruling) (a : Nat) : vtB (l ++ [x']) r a = vtB l r a := any_rep (fun y z h => by
 obtain ⟨s1, s2, s3, s4, s5, s6⟩ := said_iff.1 h
 unfold ref09_votesFor
 rw [s1, s2, s3, s4, s6]) hx hs
theorem op_rep {l : List api_Letter} {x x' : api_Letter} (hx : x ∈ l) (hs : arbiter_said x' = arbiter_said x) (a k r : Int) : opS (l ++ [x']) a k r = opS l a k r := by
 unfold opS
 rw [any_rep (fun y z h => by
  obtain ⟨s1, s2, s3, s4, s5, s6⟩ := said_iff.1 h
  unfold wrdS
  rw [s1, s2, s3, s4]) hx hs]
theorem prp_rep {l : List api_Letter} {x x' : api_Letter} (hx : x ∈ l) (hs : arbiter_said x' = arbiter_said x) (k r : Int) : prpS (l ++ [x']) k r = prpS l k r := by
 unfold prpS
 rw [List.find?_append]
 cases h : l.find? (isK 3 k r) with
 | some y => rfl
 | none =>
  have := List.find?_eq_none.1 h x hx
  obtain ⟨s1, s2, s3, s4, s5, s6⟩ := said_iff.1 hs
  have : isK 3 k r x' = false := by
   unfold isK at this ⊢
   rw [s1, s2, s3]; simpa using this
  simp [this]
theorem holds_ArbiterRepeats {c : api_Court} {l : List api_Letter} {some_ which to id round : Int} (h0 : ok_api_Court c) (h1 : ok_24 l) (h2 : OkI .u8 some_) (h3 : OkI .u8 which) (h4 : OkI .u8 to) (h5 : OkI .i64 id) (h6 : OkI .i64 round) : law09_ArbiterRepeats c l some_ which to id round = some true := by
 unfold law09_ArbiterRepeats
 split
 ·rw [sanity09]; rfl
 ·rename_i hf
  have hl : l.length ≤ 40 ∧ l.length ≠ 0 := by rw [Bool.or_eq_true, decide_eq_true_eq, decide_eq_true_eq] at hf; omega
  obtain ⟨hl, hz⟩ := hl
  obtain ⟨r, e1, _, e2⟩ := Lawful_spec c l (by omega)
  rw [e1]
  simp only [Option.bind_some]
  rcases e2 with ⟨q, rfl⟩ | ⟨q, hR⟩
  ·simp [q, sanity09]
  ·rcases hR with ⟨rfl, hL⟩ | ⟨i, hi, rfl, _⟩
   ·obtain ⟨hc, _, hfm⟩ := readS_ok q
    obtain ⟨g1, g2⟩ := okC_spec hc
    have hrem : ∀ (v : Int) (n : Nat), OkI .u8 v → 0 < n → ∃ k : Nat, k < n ∧ rem (w64 v) (n : Int) = some (k : Int) := fun v n hv hn => by
     have hv := hv.u8
     have n0 : (n : Int) ≠ 0 := by omega
     refine ⟨(v % (n : Int)).toNat, ?_, ?_⟩
     ·have := Int.emod_nonneg v n0
      have := Int.emod_lt_of_pos v (by omega : (0 : Int) < (n : Int))
      omega
     ·unfold rem
      rw [if_neg n0, w64_id (by omega) (by omega), Int.tmod_eq_emod_of_nonneg (by omega)]
      have := Int.emod_nonneg v n0
      congr 1; omega
    simp only [decide_true, Bool.not_true, Bool.or_self, Bool.false_eq_true, if_false]
    have e7 : w64 ((l.length : Int) + 1) = ((l.length + 1 : Nat) : Int) := by rw [w64_id (by omega) (by omega)]; rfl
    obtain ⟨k1, hk1, hr1⟩ := hrem some_ (l.length + 1) h2 (by omega)
    obtain ⟨k2, hk2, hr2⟩ := hrem which l.length h3 (by omega)
    rw [e7, hr1, Option.bind_some, sub_to (by omega), Option.bind_some, app_ok (by simp; omega), Option.bind_some, List.nil_append]
    -- what is lawful stays lawful, cut short
    obtain ⟨r', e3, _, e4⟩ := Lawful_spec c (l.take k1) (by rw [List.length_take]; omega)
    have hrt : readS c (l.take k1) = 0 := by
     unfold readS
     rw [if_pos hc, if_neg (by rw [List.length_take]; omega), if_pos (List.all_eq_true.2 fun y hy => hfm y (List.mem_of_mem_take hy))]
    have hr' : r' = (-1, true, 0) := by
     rcases e4 with ⟨h, _⟩ | ⟨_, h⟩
     ·exact absurd hrt h
     ·exact LawRes_uniq h (.inl ⟨rfl, LawTo_take hL k1⟩)
    rw [e3, hr', Option.bind_some]
    simp only [decide_true, Bool.not_true, Bool.or_self, Bool.false_eq_true, if_false]
    rw [hr2, Option.bind_some, ix_nat hk2, Option.bind_some]
    have hx : l[k2] ∈ l := List.getElem_mem hk2
    have hF := hfm _ hx
    -- the letter again
    have hagain : ∀ To : Int, fmB c ⟨l[k2].ID, l[k2].Case, l[k2].Kind, l[k2].Round, l[k2].From, To, l[k2].Voted, l[k2].Finding⟩ = true → law09_ArbiterRepeats_j1 c l id round l[k2] To = some true := fun To hFT => by
     unfold law09_ArbiterRepeats_j1
     rw [app_ok (by simp; omega), Option.bind_some, List.nil_append, app_ok (by simp; omega), Option.bind_some]
     have hs : arbiter_said ⟨l[k2].ID, l[k2].Case, l[k2].Kind, l[k2].Round, l[k2].From, To, l[k2].Voted, l[k2].Finding⟩ = arbiter_said l[k2] := said_iff.2 ⟨rfl, rfl, rfl, rfl, rfl, rfl⟩
     generalize (⟨l[k2].ID, l[k2].Case, l[k2].Kind, l[k2].Round, l[k2].From, To, l[k2].Voted, l[k2].Finding⟩ : api_Letter) = x' at hFT hs
     have hl4 : (l ++ [x']).length ≤ 4000 := by simp; omega
     have hr4 : readS c (l ++ [x']) = 0 := by
      unfold readS
      rw [if_pos hc, if_neg (by simp; omega), if_pos (List.all_eq_true.2 fun y hy => by
       rcases List.mem_append.1 hy with hy | hy
       ·exact hfm y hy
       ·rw [List.mem_singleton] at hy; subst hy; exact hFT)]
     have hL4 : LawTo c (l ++ [x']) := LawTo_snoc.2 ⟨hL, by
      unfold lawS
      rw [if_pos (List.any_eq_true.2 ⟨l[k2], hx, by rw [alike_said, hs]; simp⟩)]⟩
     obtain ⟨r4, a1, _, a2⟩ := Lawful_spec c (l ++ [x']) hl4
     have hr4' : r4 = (-1, true, 0) := by
      rcases a2 with ⟨h, _⟩ | ⟨_, h⟩
      ·exact absurd hr4 h
      ·exact LawRes_uniq h (.inl ⟨rfl, hL4⟩)
     obtain ⟨o, b1, _, b2⟩ := Rulings_spec c l (by omega)
     obtain ⟨o', d1, _, d2⟩ := Rulings_spec c (l ++ [x']) hl4
     have hO : RulOK c l o := by
      rcases b2 with ⟨h, _⟩ | ⟨_, _, _, h⟩
      ·exact absurd q h
      ·exact h
     have hO' : RulOK c (l ++ [x']) o' := by
      rcases d2 with ⟨h, _⟩ | ⟨_, _, _, h⟩
      ·exact absurd hr4 h
      ·exact h
     have hvt : ∀ r, vtS c (l ++ [x']) r = vtS c l r := fun r => by
      unfold vtS
      rw [show vtB (l ++ [x']) r = vtB l r from funext fun a => vt_rep hx hs r a]
     have hoo : o' = o := sorted_eq hO'.sorted hO.sorted fun r => by
      rw [hO'.mem, hO.mem, hvt]
      constructor
      ·rintro ⟨⟨y, hy, y1, y2⟩, h⟩
       rcases List.mem_append.1 hy with hy | hy
       ·exact ⟨⟨y, hy, y1, y2⟩, h⟩
       ·rw [List.mem_singleton] at hy; subst hy
        obtain ⟨s1, s2, s3, s4, s5, s6⟩ := said_iff.1 hs
        refine ⟨⟨l[k2], hx, by omega, ?_⟩, h⟩
        rw [← y2]
        unfold rulR
        rw [s1, s3, s6]
      ·rintro ⟨⟨y, hy, y1, y2⟩, h⟩
       exact ⟨⟨y, List.mem_append_left _ hy, y1, y2⟩, h⟩
     have hcan : canS c (l ++ [x']) id round = canS c l id round := by
      unfold canS canE canN
      have hca : caS (l ++ [x']) id round = caS l id round := funext fun a => by
       unfold caS
       rw [op_rep hx hs, prp_rep hx hs]
       cases prpS l id round with
       | none => rfl
       | some y => simp only [vt_rep hx hs]
      rw [hca, prp_rep hx hs, q, hr4]
     have ho : o.length ≤ 4000 := by
      have := hO.len hc (by omega); omega
     rw [a1, hr4', b1, d1, Can_eq c l (by omega), Can_eq c _ hl4, hcan, hoo, sanity09, q, hr4]
     simp [gb, SameR_refl o ho]
    by_cases k : l[k2].Kind = 2
    ·simp only [k, decide_true, Bool.not_true, Bool.false_eq_true, if_false]
     exact hagain _ (by exact hF)
    ·obtain ⟨k3, hk3, hr3⟩ := hrem to c.Arbiters.toNat h4 (by omega)
     rw [show ((c.Arbiters.toNat : Nat) : Int) = c.Arbiters by omega] at hr3
     simp only [k, decide_false, Bool.not_false, if_true]
     rw [hr3, Option.bind_some]
     refine hagain _ ?_
     unfold fmB at hF ⊢
     simp only [Bool.and_eq_true] at hF ⊢
     obtain ⟨⟨⟨⟨⟨⟨⟨f0, f1⟩, f2⟩, f3⟩, f4⟩, f5⟩, f6⟩, f7⟩ := hF
     refine ⟨⟨⟨⟨⟨⟨⟨f0, f1⟩, f2⟩, f3⟩, inI_spec.2 ⟨by omega, by omega⟩⟩, f5⟩, f6⟩, ?_⟩
     unfold kdB at f7 ⊢
     rw [if_neg k] at f7
     simp only
     rw [if_neg k]
     exact f7
   ·simp [sanity09]
end Go.Mx
