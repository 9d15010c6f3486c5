/- Plain laws, arbiters: what proves a ruling, and that a ruling has its proof. Conditions: none. -/
import Derived.Test.YtkomoedegnckhaaLawZi
set_option linter.unusedVariables false
set_option linter.unusedSimpArgs false
namespace Go.Mx
theorem from_cnt {c : api_Court} {L : List api_Letter} (hf : ∀ y ∈ L, 0 ≤ y.From ∧ y.From < c.Arbiters) (hd : ∀ i (h : i < L.length), sameFrom (L.take i) L[i] = false) : L.length = cnt (fun a => L.any fun y => decide (y.From = (a : Int))) c.Arbiters.toNat := by
 have hn : (L.map (·.From)).Nodup := by
  refine List.pairwise_iff_getElem.2 fun i j hi hj hij => ?_
  rw [List.length_map] at hi hj
  simp only [List.getElem_map]
  intro e
  have := hd j hj
  unfold sameFrom at this
  rw [List.any_eq_false] at this
  exact this L[i] (by rw [List.mem_take_iff_getElem]; exact ⟨i, by omega, rfl⟩) (by simpa using e)
 rw [← List.length_map (as := L) (·.From)]
 refine nodup_cnt hn fun a => ?_
 constructor
 ·intro h
  obtain ⟨y, hy, rfl⟩ := List.mem_map.1 h
  have := hf y hy
  refine ⟨this.1, by omega, List.any_eq_true.2 ⟨y, hy, ?_⟩⟩
  simp only [decide_eq_true_eq]; omega
 ·rintro ⟨q1, q2, q3⟩
  obtain ⟨y, hy, h⟩ := List.any_eq_true.1 q3
  simp only [decide_eq_true_eq] at h
  exact List.mem_map.2 ⟨y, hy, by omega⟩
theorem chk_sound {c : api_Court} {l p : List api_Letter} {o : List api_Ruling} {x0 : api_Letter} (hl : ∀ y ∈ l, fmB c y = true) (hp : ∀ y ∈ p, y ∈ l) (ho : RulOK c l o) (h : ChkOK c p x0) : rulR x0 ∈ o := by
 obtain ⟨h1, h2, h3⟩ := h
 obtain ⟨h0, h2⟩ := List.getElem?_eq_some_iff.1 h2
 refine (ho.mem _).2 ⟨⟨x0, hp x0 (h2 ▸ List.getElem_mem h0), ?_, rfl⟩, ?_⟩
 ·have := (vf_iff.1 (h3 0 h0).1).1
  rw [h2] at this; exact this
 ·have e := from_cnt (c := c) (L := p) (fun y hy => (fm_of (hl y (hp y hy))).from_) (fun i hi => (h3 i hi).2)
  have : cnt (fun a => p.any fun y => decide (y.From = (a : Int))) c.Arbiters.toNat ≤ cnt (vtB l (rulR x0)) c.Arbiters.toNat := cnt_mono fun a _ ha => by
   obtain ⟨y, hy, h⟩ := List.any_eq_true.1 ha
   obtain ⟨i, hi, rfl⟩ := List.getElem_of_mem hy
   refine List.any_eq_true.2 ⟨p[i], hp _ hy, ?_⟩
   rw [(h3 i hi).1, h]; rfl
  unfold vtS
  omega
structure PrOK (c : api_Court) (l : List api_Letter) (r : api_Ruling) (p : List api_Letter) : Prop where
 sub : ∀ y ∈ p, y ∈ l ∧ ref09_votesFor y r = true
 dif : ∀ i (h : i < p.length), sameFrom (p.take i) p[i] = false
 all : (p.length : Int) < majS c → ∀ x ∈ l, ref09_votesFor x r = true → sameFrom p x = true
theorem prf_ok (c : api_Court) (l : List api_Letter) (r : api_Ruling) : PrOK c l r (prfS c l r) := by
 refine snoc_rec (motive := fun l => PrOK c l r (prfS c l r)) ⟨fun y hy => (by cases hy), fun i h => absurd h (Nat.not_lt_zero _), fun _ x hx => (by cases hx)⟩ (fun l x ih => ?_) l
 rw [prfS_snoc]
 obtain ⟨i1, i2, i3⟩ := ih
 generalize prfS c l r = p at i1 i2 i3
 unfold prF
 by_cases hc : (p.length : Int) < majS c ∧ ref09_votesFor x r = true ∧ sameFrom p x = false
 ·rw [if_pos hc]
  refine ⟨fun y hy => ?_, fun i hi => ?_, fun hm z hz hv => ?_⟩
  ·rcases List.mem_append.1 hy with hy | hy
   ·exact ⟨List.mem_append_left _ (i1 y hy).1, (i1 y hy).2⟩
   ·rw [List.mem_singleton] at hy; subst hy
    exact ⟨by simp, hc.2.1⟩
  ·by_cases e : i < p.length
   ·rw [List.getElem_append_left e, List.take_append_of_le_length (by omega)]
    exact i2 i e
   ·have e : i = p.length := by simp at hi; omega
    subst e
    simpa using hc.2.2
  ·unfold sameFrom
   rw [List.any_append]
   rcases List.mem_append.1 hz with hz | hz
   ·have := i3 hc.1 z hz hv
    unfold sameFrom at this
    rw [this]; rfl
   ·rw [List.mem_singleton] at hz; subst hz
    simp
 ·rw [if_neg hc]
  refine ⟨fun y hy => ⟨List.mem_append_left _ (i1 y hy).1, (i1 y hy).2⟩, i2, fun hm z hz hv => ?_⟩
  rcases List.mem_append.1 hz with hz | hz
  ·exact i3 hm z hz hv
  ·rw [List.mem_singleton] at hz; subst hz
   cases hs : sameFrom p z with
   | true => rfl
   | false => exact absurd ⟨hm, hv, hs⟩ hc
theorem chk_complete {c : api_Court} {l : List api_Letter} {o : List api_Ruling} {r : api_Ruling} (hc : okC c = true) (hl : ∀ y ∈ l, fmB c y = true) (ho : RulOK c l o) (hr : r ∈ o) : ∃ x0, ChkOK c (prfS c l r) x0 ∧ rulR x0 = r := by
 obtain ⟨i1, i2, i3⟩ := prf_ok c l r
 have hmaj : majS c ≤ ((prfS c l r).length : Int) := by
  rcases Int.lt_or_le ((prfS c l r).length : Int) (majS c) with h | h
  ·have e := from_cnt (c := c) (fun y hy => (fm_of (hl y (i1 y hy).1)).from_) i2
   have h2 := ((ho.mem r).1 hr).2
   have : cnt (vtB l r) c.Arbiters.toNat ≤ cnt (fun a => (prfS c l r).any fun y => decide (y.From = (a : Int))) c.Arbiters.toNat := cnt_mono fun a _ ha => by
    obtain ⟨x, hx, h4⟩ := List.any_eq_true.1 ha
    simp only [Bool.and_eq_true, decide_eq_true_eq] at h4
    have := i3 h x hx h4.1
    unfold sameFrom at this
    rw [h4.2] at this
    exact this
   unfold vtS at h2
   omega
  ·exact h
 have h0 : 0 < (prfS c l r).length := by have := (maj_pos hc).1; omega
 have hv := (i1 _ (List.getElem_mem h0)).2
 have e := (vf_iff.1 hv).2
 refine ⟨_, ⟨hmaj, List.getElem?_eq_getElem h0, fun i hi => ⟨?_, i2 i hi⟩⟩, e⟩
 rw [e]
 exact (i1 _ (List.getElem_mem hi)).2
theorem prfA_len (c : api_Court) (l : List api_Letter) (o : List api_Ruling) (id : Int) : (prfA c l o id).1.length ≤ l.length := by
 unfold prfA
 by_cases h : readS c l = 0
 ·rw [if_pos h]
  by_cases h2 : inI id 1 1099511627776 = true
  ·rw [if_pos h2]
   cases o.find? fun r => decide (r.Case = id) with
   | none => exact Nat.zero_le _
   | some r => exact prf_len c l r
  ·rw [if_neg h2]; exact Nat.zero_le _
 ·rw [if_neg h]; exact Nat.zero_le _
theorem readS_sub {c : api_Court} {l p : List api_Letter} (h : readS c l = 0) (hp : ∀ y ∈ p, y ∈ l) (hn : p.length ≤ 2000) : readS c p = 0 := by
 obtain ⟨h1, h2, h3⟩ := readS_ok h
 unfold readS
 rw [if_pos h1, if_neg (by omega), if_pos (List.all_eq_true.2 fun y hy => h3 y (hp y hy))]
end Go.Mx
