/- ArbiterProves: the plain law. Conditions: none. -/
import Derived.Test.YtkomoedegnckhaaLawZj
import Derived.Test.YtkomoedegnckhaaLawArbSan
set_option linter.unusedVariables false
set_option linter.unusedSimpArgs false
namespace Go.Mx
theorem prove_in {c : api_Court} {l p : List api_Letter} {o : List api_Ruling} (hr : readS c l = 0) (ho : RulOK c l o) (hol : o.length ≤ 4000) (hp : ∀ y ∈ p, y ∈ l) (hn : p.length ≤ 2000) : law09_ArbiterProves_j2 c (o, 0) p = some true := by
 unfold law09_ArbiterProves_j2
 obtain ⟨r, e1, _, e3⟩ := Chk_spec c p (by omega)
 have hrp := readS_sub hr hp hn
 have e3 : ChkRes c p r := by
  rcases e3 with ⟨h, _⟩ | ⟨_, h⟩
  ·exact absurd hrp h
  ·exact h
 rw [e1, Option.bind_some]
 have key : Lp (law09_ArbiterProves_b4 (o, 0) r) fuel (!decide (r.2 = 0), 0) = some (o.foldl (fun f x => f || decide (x = r.1)) (!decide (r.2 = 0))) := by
  refine sum_loop (body := law09_ArbiterProves_b4 (o, 0) r) o hol (fun f n => (f, n)) (fun f x => f || decide (x = r.1)) (fun f => f) (fun _ _ => True) (a := !decide (r.2 = 0)) rfl trivial (fun f i hi _ => ⟨?_, trivial⟩) (fun f _ => ?_)
  ·unfold law09_ArbiterProves_b4
   simp only [dlt hi, if_true, ix_nat hi, w64i hi hol, Option.bind_some]
  ·unfold law09_ArbiterProves_b4
   simp only [dge, Bool.false_eq_true, if_false, law09_ArbiterProves_j3, sanity09, Option.bind_some, Bool.true_and, Option.map_some]
 rw [key]
 have hor : ∀ (L : List api_Ruling) (b : Bool), L.foldl (fun f x => f || decide (x = r.1)) b = (b || L.any fun x => decide (x = r.1)) := by
  intro L
  induction L with
  | nil => intro b; simp
  | cons x L ih => intro b; rw [List.foldl_cons, ih, List.any_cons, Bool.or_assoc]
 rw [hor]
 rcases e3 with ⟨x0, h, rfl⟩ | ⟨_, rfl⟩
 ·have := chk_sound (readS_ok hr).2.2 hp ho h
  have : (o.any fun x => decide (x = rulR x0)) = true := List.any_eq_true.2 ⟨_, this, by simp⟩
  simp [this]
 ·simp
theorem prove_out {c : api_Court} {l : List api_Letter} {o : List api_Ruling} {votes : List Int} {y2 : List api_Letter × Int} (hr : readS c l = 0) (ho : RulOK c l o) (hol : o.length ≤ 4000) (hv : votes.length ≤ 20) (h1 : ok_55 votes) (hl : l.length ≤ 60) (b : Bool) (hb : b = decide (y2.2 = 0)) : law09_ArbiterProves_j1 c l votes (o, 0) y2 b = some true := by
 unfold law09_ArbiterProves_j1
 subst hb
 simp only [beq_self_eq_true, Bool.not_true, Bool.false_or, sanity09, Option.bind_some, Bool.and_self, decide_eq_true_eq]
 split
 ·rfl
 ·rename_i n0
  suffices h : ∃ s, Lp (law09_ArbiterProves_b5 c l votes (o, 0)) fuel (0, []) = some s ∧ s = true by obtain ⟨s, h, rfl⟩ := h; exact h
  refine lp_inv' (fun (i : Nat) (s : Int × List api_Letter) => ∃ p, s = ((i : Int), p) ∧ p.length = i ∧ ∀ y ∈ p, y ∈ l) _ votes.length (by omega) ⟨[], rfl, rfl, fun y hy => by cases hy⟩ fun i s hi hI => ?_
  obtain ⟨p, rfl, hpi, hp⟩ := hI
  by_cases hlt : i < votes.length
  ·have ha := (h1.2 votes[i] (List.getElem_mem hlt)).u8
   obtain ⟨q, hq, hrm⟩ : ∃ q : Nat, q < l.length ∧ rem (w64 votes[i]) (l.length : Int) = some (q : Int) := by
    refine ⟨(votes[i] % (l.length : Int)).toNat, ?_, ?_⟩
    ·have := Int.emod_nonneg votes[i] n0
     have := Int.emod_lt_of_pos votes[i] (by omega : (0 : Int) < (l.length : Int))
     omega
    ·unfold rem
     rw [if_neg n0, w64_id (by omega) (by omega), Int.tmod_eq_emod_of_nonneg (by omega)]
     have := Int.emod_nonneg votes[i] n0
     congr 1; omega
   refine .inl ⟨hlt, (((i + 1 : Nat) : Int), p ++ [l[q]]), ?_, p ++ [l[q]], rfl, by simp [hpi], fun y hy => ?_⟩
   ·unfold law09_ArbiterProves_b5
    simp only [dlt hlt, if_true, ix_nat hlt, Option.bind_some, hrm, ix_nat hq, w64i hlt (by omega)]
    rw [app_ok (by simp; omega)]; rfl
   ·rcases List.mem_append.1 hy with hy | hy
    ·exact hp y hy
    ·rw [List.mem_singleton] at hy; subst hy; exact List.getElem_mem hq
  ·have e : i = votes.length := by omega
   subst e
   refine .inr ⟨true, ?_, rfl⟩
   unfold law09_ArbiterProves_b5
   simp only [dge, Bool.false_eq_true, if_false]
   rw [prove_in hr ho hol hp (by omega)]; rfl
theorem holds_ArbiterProves {c : api_Court} {l : List api_Letter} {id : Int} {votes : List Int} (h0 : ok_api_Court c) (h1 : ok_24 l) (h2 : OkI .i64 id) (h3 : ok_55 votes) : law09_ArbiterProves c l id votes = some true := by
 unfold law09_ArbiterProves
 split
 ·rw [sanity09]; rfl
 ·rename_i hf
  have hf : l.length ≤ 60 ∧ votes.length ≤ 20 := by simp at hf; omega
  obtain ⟨hl, hv⟩ := hf
  obtain ⟨o, e1, _, e3⟩ := Rulings_spec c l (by omega)
  have ho : o.length ≤ 4000 := by
   rcases e3 with ⟨_, rfl⟩ | ⟨q, _, _, h⟩
   ·simp
   ·have := h.len (readS_ok q).1 (by omega); omega
  obtain ⟨e4, _⟩ := Proof_eq c l (by omega) o ho (fun q => by
   rcases e3 with ⟨h, _⟩ | ⟨_, h⟩
   ·exact absurd q h
   ·exact h) id
  rw [e1, e4]
  simp only [Option.bind_some]
  by_cases hr : readS c l = 0
  ·have hR : RulOK c l o := by
    rcases e3 with ⟨h, _⟩ | ⟨_, _, _, h⟩
    ·exact absurd hr h
    ·exact h
   have hc := (readS_ok hr).1
   have hfm := (readS_ok hr).2.2
   simp only [hr, decide_true, Bool.not_true, Bool.false_eq_true, if_false]
   have hpl := prfA_len c l o id
   obtain ⟨r, e5, _, e6⟩ := Chk_spec c (prfA c l o id).1 (by omega)
   rw [e5, Option.bind_some]
   -- what the proof is
   have hA : inI id 1 1099511627776 = false → ∀ x ∈ o, x.Case ≠ id := fun hi x hx he => by
    obtain ⟨⟨y, hy, _, hyx⟩, _⟩ := (hR.mem x).1 hx
    have hF := hfm y hy
    unfold fmB at hF
    simp only [Bool.and_eq_true] at hF
    have : y.Case = id := by rw [← he, ← hyx]; rfl
    rw [this] at hF
    rw [hF.1.1.1.1.1.1.2] at hi; cases hi
   have hB : decide ((prfA c l o id).2 = 0) = o.any fun x => decide (x.Case = id) := by
    unfold prfA
    rw [if_pos hr]
    cases hi : inI id 1 1099511627776 with
    | false =>
     have := hA hi
     rw [List.any_eq_false.2 fun x hx => by simpa using this x hx]
     simp
    | true =>
     rw [if_pos rfl]
     cases hf : o.find? fun x => decide (x.Case = id) with
     | none =>
      rw [List.any_eq_false.2 fun x hx => List.find?_eq_none.1 hf x hx]
      simp
     | some x => rw [List.any_eq_true.2 ⟨x, List.mem_of_find?_eq_some hf, List.find?_some hf⟩]; simp
   suffices h : ∃ s, Lp (law09_ArbiterProves_b6 c l id votes (o, 0) (prfA c l o id) r) fuel (false, 0) = some s ∧ s = true by obtain ⟨s, h, rfl⟩ := h; exact h
   refine lp_inv' (fun (i : Nat) (s : Bool × Int) => s = ((o.take i).any fun x => decide (x.Case = id), (i : Int))) _ o.length (by omega) rfl fun i s hi hI => ?_
   subst hI
   unfold law09_ArbiterProves_b6
   by_cases hlt : i < o.length
   ·refine .inl ⟨hlt, _, ?_, rfl⟩
    simp only [dlt hlt, if_true, ix_nat hlt, Option.bind_some, law09_ArbiterProves_j7, w64i hlt ho]
    rw [List.take_succ_eq_append_getElem hlt, List.any_append]
    by_cases hcs : o[i].Case = id
    ·cases hs : (o.take i).any fun x => decide (x.Case = id) with
     | true => simp [hcs]
     | false =>
      have hfd : (o.find? fun x => decide (x.Case = id)) = some o[i] := by
       rw [List.find?_eq_some_iff_getElem]
       refine ⟨by simpa using hcs, i, hlt, rfl, fun j hj => ?_⟩
       have := List.any_eq_false.1 hs o[j] (by rw [List.mem_take_iff_getElem]; exact ⟨j, by omega, rfl⟩)
       simpa using this
      have hin : inI id 1 1099511627776 = true := by
       cases hi : inI id 1 1099511627776 with
       | true => rfl
       | false => exact absurd hcs (hA hi _ (List.getElem_mem hlt))
      have hpe : prfA c l o id = (prfS c l o[i], 0) := by
       unfold prfA
       rw [if_pos hr, if_pos hin, hfd]
      obtain ⟨x0, q1, q2⟩ := chk_complete hc hfm hR (List.getElem_mem hlt)
      have hrr : r = (o[i], 0) := by
       rw [hpe] at e6
       rcases e6 with ⟨h, _⟩ | ⟨_, h⟩
       ·exact absurd (readS_sub hr (fun y hy => ((prf_ok c l o[i]).sub y hy).1) (by have := prf_len c l o[i]; show (prfS c l o[i]).length ≤ 2000; omega)) h
       ·have : ChkRes c (prfS c l o[i]) (o[i], 0) := .inl ⟨x0, q1, by rw [q2]⟩
        exact ChkRes_uniq h this
      rw [hpe, hrr]
      simp [hcs]
    ·simp [hcs]
   ·have e : i = o.length := by omega
    subst e
    refine .inr ⟨true, ?_, rfl⟩
    simp only [dge, Bool.false_eq_true, if_false, List.take_length]
    rw [prove_out hr hR ho hv h3 hl _ hB.symm]; rfl
  ·simp only [hr, decide_false, Bool.not_false, if_true, sanity09, Option.bind_some]
   unfold prfA
   simp [hr]
end Go.Mx
