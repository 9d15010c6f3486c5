/- Plain laws of ships, fifth part: loads are compared, narrowed, and lessened. Conditions: none. -/
import Derived.Test.YtbmojhkipnnmlaaGreatLawHd
import Derived.Test.YtbmojhkipnnmlaaGreatLawTopSan
set_option linter.unusedVariables false
set_option linter.unusedSimpArgs false
namespace Go.Mx
theorem lp_app {α β σ ρ : Type} {body : σ → Option (σ ⊕ ρ)} (l : List α) (hl : l.length ≤ 4294967295) (f : α → β) (st : List β → Int → σ) (k : List β → ρ) {s0 : σ} (e0 : s0 = st [] 0)
  (step : ∀ acc (i : Nat) (hi : i < l.length), acc = (l.take i).map f → body (st acc (i : Int)) = some (.inl (st (acc ++ [f l[i]]) ((i + 1 : Nat) : Int))))
  (last : body (st (l.map f) (l.length : Int)) = some (.inr (k (l.map f)))) : Lp body fuel s0 = some (k (l.map f)) := by
 have h := lp_list (body := body) l (by omega) st (fun acc r => k (acc ++ r.map f)) (fun i acc => acc = (l.take i).map f) (a := []) e0 (by simp) (fun acc i hi hJ => .inl ⟨acc ++ [f l[i]], step acc i hi hJ, by simp only [List.map_cons, List.append_assoc, List.cons_append, List.nil_append], by rw [hJ, ← List.map_singleton, ← List.map_append, List.take_append_getElem]⟩) (fun acc hJ => by
  rw [List.take_length] at hJ
  rw [hJ, last]; simp)
 simpa using h
def narrowS (l : api_Load) (x : api_Span) : api_Span := ⟨max x.Lo (totLo l - (hiSum l.Holds - x.Hi)), min x.Hi (totHi l - (loSum l.Holds - x.Lo))⟩
def narrowL (l : api_Load) : api_Load := ⟨l.Holds.map (narrowS l), ⟨totLo l, totHi l⟩⟩
def narrowR (s : api_Ship) (l : api_Load) : api_Load × Int := if chkL s l = 0 then (narrowL l, 0) else (⟨[], ⟨0, 0⟩⟩, chkL s l)
theorem one_sum : ∀ (l : List api_Span), (∀ x ∈ l, x.Lo ≤ x.Hi) → (∀ x ∈ l, loSum l - x.Lo ≤ hiSum l - x.Hi) ∧ loSum l ≤ hiSum l
 | [], _ => by simp [loSum, hiSum]
 | y :: r, h => by
  obtain ⟨h1, h2⟩ := one_sum r fun x hx => h x (List.mem_cons_of_mem _ hx)
  have h3 := h y List.mem_cons_self
  simp only [loSum, hiSum, List.map_cons, List.sum_cons] at *
  refine ⟨fun x hx => ?_, by omega⟩
  rcases List.mem_cons.1 hx with rfl | hx
  ·omega
  ·have := h1 x hx; omega
theorem hNarrow_eq (s : api_Ship) (l : api_Load) (hl : Len s.Holds) (hw : LoadW l) : hull_Narrow s l = some (narrowR s l) := by
 unfold hull_Narrow narrowR
 rw [hload_eq s l hl hw, Option.bind_some]
 by_cases h : chkL s l = 0
 ·rw [if_neg (by simp [h]), if_pos h]
  have hg := GoodL.of h
  have hn := hg.lenL
  have ht := hg.tot
  have hb := sums_ok hg.ship hg.len hg.spans
  have hal := hg.all
  rw [hsums_eq l.Holds (by unfold Len; omega), htotals hg, Option.bind_some, Option.bind_some, w64_id (n := loSum l.Holds) (by omega) (by omega), w64_id (n := hiSum l.Holds) (by omega) (by omega)]
  refine (lp_app (body := hull_Narrow_b2 l _ _) l.Holds (by omega) (narrowS l) (fun acc i => (i, acc)) (fun acc => ((⟨acc, ⟨totLo l, totHi l⟩⟩ : api_Load), (0 : Int))) rfl (fun acc i hi hJ => ?_) ?_).trans rfl
  ·unfold hull_Narrow_b2
   simp only
   have hx := hg.mem _ (List.getElem_mem hi)
   have h1 := (one_sum l.Holds fun x hx => (hg.mem x hx).2.1).1 _ (List.getElem_mem hi)
   rw [if_pos (by simpa using hi), ix_lt hi, Option.bind_some, w64s' hi (by omega), app_ok (by rw [hJ]; simp; omega), Option.bind_some, greater_max]
   rw [w64_sub', w64_sub', w64_id (by omega) (by omega), w64_id (by omega) (by omega)]
   have e : (⟨max l.Holds[i].Lo (l.All.Lo - (hiSum l.Holds - l.Holds[i].Hi)), min l.Holds[i].Hi (l.All.Hi - (loSum l.Holds - l.Holds[i].Lo))⟩ : api_Span) = narrowS l l.Holds[i] := by
    unfold narrowS totLo totHi
    rw [api_Span.mk.injEq]
    omega
   rw [e]
  ·unfold hull_Narrow_b2
   simp only
   rw [if_neg (by simp)]; rfl
 ·rw [if_pos (by simp [h]), if_neg h]
end Go.Mx
