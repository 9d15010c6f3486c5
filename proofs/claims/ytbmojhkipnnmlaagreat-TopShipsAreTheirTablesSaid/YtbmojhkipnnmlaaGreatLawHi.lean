/- Plain laws of ships, sixth part: a loading of a load, by numbers. Conditions: none. -/
import Derived.Test.YtbmojhkipnnmlaaGreatLawHe
set_option linter.unusedVariables false
set_option linter.unusedSimpArgs false
namespace Go.Mx
theorem LoadW.ok {l : api_Load} (h : ok_api_Load l) : LoadW l := ⟨w64_id h.2.1.2.1.1 h.2.1.2.1.2, w64_id h.2.1.1.1 h.2.1.1.2⟩
theorem sum_set : ∀ (l : List Int) (i : Nat) (h : i < l.length) (n : Int), (l.set i n).sum = l.sum - l[i] + n
 | [], i, h, n => by simp at h
 | x :: r, 0, h, n => by simp only [List.set_cons_zero, List.sum_cons, List.getElem_cons_zero]; omega
 | x :: r, i + 1, h, n => by
  have := sum_set r i (by simpa using h) n
  simp only [List.set_cons_succ, List.sum_cons, List.getElem_cons_succ]; omega
theorem rem_rng {a b : Int} (h0 : 0 ≤ a) (h1 : a ≤ 65535) (hb : 1 ≤ b) : ∃ q, rem (w64 a) b = some q ∧ 0 ≤ q ∧ q < b := by
 rw [w64_id (by omega) (by omega)]
 refine ⟨a.tmod b, by unfold rem; rw [if_neg (by omega)], ?_, Int.tmod_lt_of_pos a (by omega)⟩
 rw [Int.tmod_eq_emod_of_nonneg h0]; exact Int.emod_nonneg _ (by omega)
theorem put_nat {α : Type} (l : List α) (i : Nat) (x : α) : put l (i : Int) x = l.set i x := by unfold put; simp
theorem w64_u {a : Int} (h : -4611686018427387904 ≤ a ∧ a ≤ 4611686018427387904) : w64 a = a := w64_id (by omega) (by omega)
theorem sum_bd8 (l : List Int) : ∀ (n : Nat), l.length ≤ n → (∀ x ∈ l, 0 ≤ x ∧ x ≤ 65536) → 0 ≤ l.sum ∧ l.sum ≤ 65536 * n := by
 induction l with
 | nil => intro n h _; simp only [List.sum_nil]; omega
 | cons x r ih =>
  intro n h hh
  obtain ⟨m, rfl⟩ : ∃ m, n = m + 1 := ⟨n - 1, by simp at h; omega⟩
  have h1 := hh x List.mem_cons_self
  have h2 := ih m (by simpa using h) fun y hy => hh y (List.mem_cons_of_mem _ hy)
  simp only [List.sum_cons]; omega
def InS (l : List api_Span) (x : List Int) : Prop := x.length = l.length ∧ ∀ i (h1 : i < x.length) (h2 : i < l.length), l[i].Lo ≤ x[i] ∧ x[i] ≤ l[i].Hi
theorem InS.sum {l : List api_Span} {x : List Int} (h : InS l x) : loSum l ≤ x.sum ∧ x.sum ≤ hiSum l := sum_fit l x h.1 h.2
theorem InS.of_all {l : List api_Span} {x : List Int} (h : InS l x) (hh : ∀ i (h1 : i < x.length) (h2 : i < l.length), x[i] = l[i].Hi) : x.sum = hiSum l := by
 have e : x = l.map (·.Hi) := List.ext_getElem (by simp [h.1]) fun i h1 h2 => by rw [List.getElem_map]; exact hh i h1 (by simpa using h2)
 rw [e]; rfl
theorem InS.of_all' {l : List api_Span} {x : List Int} (h : InS l x) (hh : ∀ i (h1 : i < x.length) (h2 : i < l.length), x[i] = l[i].Lo) : x.sum = loSum l := by
 have e : x = l.map (·.Lo) := List.ext_getElem (by simp [h.1]) fun i h1 h2 => by rw [List.getElem_map]; exact hh i h1 (by simpa using h2)
 rw [e]; rfl
theorem inside_spec {s : api_Ship} {l : api_Load} (hg : GoodL s l) (by_ : List Int) (hb : ok_33 by_) : ∃ x, law03_Inside l by_ = some (x, true) ∧ Fit l x := by
 have hn := hg.lenL
 have ht := hg.tot
 have hal := hg.all
 have hm : ∀ i (h : i < l.Holds.length), 0 ≤ l.Holds[i].Lo ∧ l.Holds[i].Lo ≤ l.Holds[i].Hi ∧ l.Holds[i].Hi ≤ 65536 := fun i h => hg.mem _ (List.getElem_mem h)
 -- the second loop
 have h2 : ∀ x, InS l.Holds x → ∃ r, law03_Inside_j1 l x.sum x = some r ∧ ∃ y, r = (y, true) ∧ Fit l y := fun x hx => by
  unfold law03_Inside_j1
  refine lp_inv' (fun i s => s.2.1 = (i : Int) ∧ InS l.Holds s.2.2 ∧ s.1 = s.2.2.sum ∧ (s.1 < l.All.Lo → ∀ j (h1 : j < s.2.2.length) (h2 : j < l.Holds.length), j < i → s.2.2[j] = l.Holds[j].Hi) ∧ (l.All.Hi < s.1 → ∀ j (h1 : j < s.2.2.length) (h2 : j < l.Holds.length), j < i → s.2.2[j] = l.Holds[j].Lo)) _ l.Holds.length (by omega) ⟨rfl, hx, rfl, fun _ j _ _ h => by omega, fun _ j _ _ h => by omega⟩ fun i st hi hI => ?_
  obtain ⟨all, ix4, y⟩ := st
  obtain ⟨e1, hy, e2, hlo, hhi⟩ := hI
  simp only at e1 e2 hy hlo hhi
  subst e1 e2
  unfold law03_Inside_b3
  simp only
  have hys := hy.sum
  by_cases h : i < l.Holds.length
  ·left
   have hi' : i < y.length := by rw [hy.1]; exact h
   have hmi := hm i h
   have hyi := hy.2 i hi' h
   rw [if_pos (by simpa using h), ix_lt h, Option.bind_some, ix_lt hi', Option.bind_some, Option.bind_some, Option.bind_some, w64s' h (by omega), put_nat]
   rw [w64_u (a := l.All.Lo - y.sum) (by omega), w64_u (a := y.sum - l.All.Hi) (by omega), w64_u (a := y[i] + max 0 (l.All.Lo - y.sum)) (by omega), w64_u (a := y[i] + max 0 (l.All.Lo - y.sum) - max 0 (y.sum - l.All.Hi)) (by omega)]
   generalize hnn : max l.Holds[i].Lo (min l.Holds[i].Hi (y[i] + max 0 (l.All.Lo - y.sum) - max 0 (y.sum - l.All.Hi))) = n
   have hnr : l.Holds[i].Lo ≤ n ∧ n ≤ l.Holds[i].Hi := by omega
   have hss := sum_set y i hi' n
   rw [w64_u (a := y.sum + n) (by omega), w64_u (by omega)]
   have hin : InS l.Holds (y.set i n) := ⟨by simp [hy.1], fun j q1 q2 => by
    rw [List.getElem_set]
    split
    ·rename_i e; subst e; exact hnr
    ·exact hy.2 j (by simpa using q1) q2⟩
   refine ⟨h, _, rfl, rfl, hin, by simp only; omega, fun hc j q1 q2 q3 => ?_, fun hc j q1 q2 q3 => ?_⟩
   ·simp only at hc ⊢
    rw [List.getElem_set]
    split
    ·rename_i e; subst e; omega
    ·exact hlo (by omega) j (by simpa using q1) q2 (by omega)
   ·simp only at hc ⊢
    rw [List.getElem_set]
    split
    ·rename_i e; subst e; omega
    ·exact hhi (by omega) j (by simpa using q1) q2 (by omega)
  ·right
   have e : i = l.Holds.length := by omega
   subst e
   rw [if_neg (by simp)]
   unfold law03_Inside_j2
   have h3 : l.All.Lo ≤ y.sum := by
    rcases Int.lt_or_le y.sum l.All.Lo with hc | hc
    ·have := hy.of_all fun j q1 q2 => hlo hc j q1 q2 q2
     omega
    ·exact hc
   have h4 : y.sum ≤ l.All.Hi := by
    rcases Int.lt_or_le l.All.Hi y.sum with hc | hc
    ·have := hy.of_all' fun j q1 q2 => hhi hc j q1 q2 q2
     omega
    ·exact hc
   have e3 : (decide (l.All.Lo ≤ y.sum) && decide (y.sum ≤ l.All.Hi)) = true := by simp [h3, h4]
   refine ⟨_, rfl, y, ?_, hy.1, hy.2, h3, h4⟩
   simp [h3, h4]
 -- the first loop
 suffices h : ∃ r, law03_Inside l by_ = some r ∧ ∃ y, r = (y, true) ∧ Fit l y by obtain ⟨r, h, y, rfl, hf⟩ := h; exact ⟨y, h, hf⟩
 unfold law03_Inside
 refine lp_inv' (fun i s => s.2.1 = (i : Int) ∧ InS (l.Holds.take i) s.2.2 ∧ s.1 = s.2.2.sum) _ l.Holds.length (by omega) ⟨rfl, ⟨rfl, fun j h => by simp at h⟩, rfl⟩ fun i st hi hI => ?_
 obtain ⟨all, ix4, y⟩ := st
 obtain ⟨e1, hy, e2⟩ := hI
 simp only at e1 e2 hy
 subst e1 e2
 unfold law03_Inside_b4
 simp only
 have hyl : y.length = i := by have := hy.1; rw [List.length_take] at this; omega
 have hyb := sum_bd8 y i (by omega) fun v hv => by
  obtain ⟨j, hj, rfl⟩ := List.getElem_of_mem hv
  have q := hy.2 j hj (by rw [List.length_take]; omega)
  have := hm j (by omega)
  simp only [List.getElem_take] at q
  omega
 by_cases h : i < l.Holds.length
 ·left
  have hmi := hm i h
  rw [if_pos (by simpa using h), ix_lt h, Option.bind_some]
  have key : ∀ n, l.Holds[i].Lo ≤ n → n ≤ l.Holds[i].Hi → i < l.Holds.length ∧ ∃ s', law03_Inside_j5 y.sum (i : Int) y n = some (Sum.inl s') ∧ s'.2.1 = ((i + 1 : Nat) : Int) ∧ InS (l.Holds.take (i + 1)) s'.2.2 ∧ s'.1 = s'.2.2.sum := fun n q1 q2 => by
   refine ⟨h, ⟨y.sum + n, ((i + 1 : Nat) : Int), y ++ [n]⟩, ?_, rfl, ⟨?_, fun j p1 p2 => ?_⟩, by simp⟩
   ·unfold law03_Inside_j5
    rw [app_ok (by simp; omega), Option.bind_some, w64s' h (by omega), w64_u (by omega)]
   ·simp [List.length_take]; omega
   ·simp only [List.getElem_take]
    by_cases e : j < y.length
    ·rw [List.getElem_append_left e]
     have := hy.2 j e (by rw [List.length_take]; omega)
     simpa only [List.getElem_take] using this
    ·have : j = i := by simp at p1; omega
     subst this
     rw [List.getElem_append_right (by omega)]
     simp only [List.getElem_singleton]
     exact ⟨q1, q2⟩
  by_cases hby : i < by_.length
  ·rw [if_pos (by simpa using hby), ix_lt hby, Option.bind_some]
   have hbv := hb.2 _ (List.getElem_mem hby)
   have e : w64 (w64 (l.Holds[i].Hi - l.Holds[i].Lo) + 1) = l.Holds[i].Hi - l.Holds[i].Lo + 1 := by rw [w64_u (a := l.Holds[i].Hi - l.Holds[i].Lo) (by omega), w64_u (by omega)]
   have hbv' : 0 ≤ by_[i] ∧ by_[i] ≤ 65535 := hbv
   obtain ⟨q, r1, r2, r3⟩ := rem_rng (b := l.Holds[i].Hi - l.Holds[i].Lo + 1) hbv'.1 hbv'.2 (by omega)
   rw [e, r1, Option.bind_some, w64_u (by omega)]
   exact key _ (by omega) (by omega)
  ·rw [if_neg (by simpa using hby)]
   exact key _ (by omega) (by omega)
 ·right
  have e : i = l.Holds.length := by omega
  subst e
  rw [if_neg (by simp)]
  rw [List.take_length] at hy
  obtain ⟨r, q1, q2⟩ := h2 y hy
  rw [q1]
  exact ⟨r, rfl, q2⟩
end Go.Mx
