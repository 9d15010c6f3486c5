/- Plain laws of ships, ninth part: the program's best loading is filled by weights. Conditions: none. -/
import Derived.Test.YtbmojhkipnnmlaaGreatLawHk
set_option linter.unusedVariables false
set_option linter.unusedSimpArgs false
namespace Go.Mx
theorem lp_once {σ ρ : Type} {body : σ → Option (σ ⊕ ρ)} {s : σ} {r : ρ} (h : body s = some (.inr r)) : Lp body fuel s = some r := by
 obtain ⟨y, h1, h2⟩ := lp_inv' (body := body) (s0 := s) (fun _ s' => s' = s) (fun y => y = r) 0 (by omega) rfl fun i s' _ hI => .inr ⟨r, by rw [hI, h], rfl⟩
 rw [h1, h2]
def cN (l : List Nat) : List Int := l.map fun (i : Nat) => (i : Int)
theorem cN_len (l : List Nat) : (cN l).length = l.length := by simp [cN]
theorem ix_mid0 {α : Type} (P R : List α) (u v : α) : ix (P ++ u :: v :: R) (P.length : Int) = some u := by
 have h : P.length < (P ++ u :: v :: R).length := by simp
 rw [ix_lt h]; simp
theorem ix_mid1 {α : Type} (P R : List α) (u v : α) : ix (P ++ u :: v :: R) ((P.length + 1 : Nat) : Int) = some v := by
 have h : P.length + 1 < (P ++ u :: v :: R).length := by simp
 rw [ix_lt h]; simp
theorem set_mid2 {α : Type} (P R : List α) (u v : α) : ((P ++ u :: v :: R).set (P.length + 1) u).set P.length v = P ++ v :: u :: R := by simp
theorem pri_trans {w : List Int} {a b c : Nat} (h1 : Pri w a b) (h2 : Pri w b c) : Pri w a c := by
 rcases h1 with h1 | h1 <;> rcases h2 with h2 | h2
 ·exact .inl (by omega)
 ·exact .inl (by omega)
 ·exact .inl (by omega)
 ·exact .inr (by omega)
theorem pri_asym {w : List Int} {a b : Nat} (h1 : Pri w a b) (h2 : Pri w b a) : False := by
 rcases h1 with h1 | h1 <;> rcases h2 with h2 | h2 <;> omega
def insD (w : List Int) (e : Nat) : List Nat → List Nat → List Nat
 | [], B => e :: B
 | a :: A, B => if gI w a < gI w e then insD w e A (a :: B) else (a :: A).reverse ++ e :: B
theorem insD_perm (w : List Int) (e : Nat) : ∀ A B, (insD w e A B).Perm (A.reverse ++ e :: B)
 | [], B => List.Perm.refl _
 | a :: A, B => by
  unfold insD
  split
  ·refine (insD_perm w e A (a :: B)).trans ?_
   simp only [List.reverse_cons, List.append_assoc, List.cons_append, List.nil_append]
   exact List.Perm.append_left _ (List.Perm.swap a e B)
  ·exact List.Perm.refl _
theorem insD_sorted (w : List Int) (e : Nat) : ∀ A B, (A.reverse ++ B).Pairwise (Pri w) → (∀ a ∈ A, a < e) → (∀ b ∈ B, Pri w e b) → (insD w e A B).Pairwise (Pri w)
 | [], B, h, _, hB => by
  unfold insD
  exact List.pairwise_cons.2 ⟨hB, by simpa using h⟩
 | a :: A, B, h, hA, hB => by
  have e1 : (a :: A).reverse ++ B = A.reverse ++ a :: B := by simp
  unfold insD
  split
  ·rename_i hc
   refine insD_sorted w e A (a :: B) (by rw [← e1]; exact h) (fun x hx => hA x (List.mem_cons_of_mem _ hx)) fun b hb => ?_
   rcases List.mem_cons.1 hb with rfl | hb
   ·exact .inl hc
   ·exact hB b hb
  ·rename_i hc
   rw [List.pairwise_append] at h ⊢
   obtain ⟨h1, h2, h3⟩ := h
   refine ⟨h1, List.pairwise_cons.2 ⟨hB, h2⟩, fun x hx y hy => ?_⟩
   have hae : Pri w a e := by
    have := hA a List.mem_cons_self
    rcases Int.lt_or_le (gI w e) (gI w a) with h | h
    ·exact .inl h
    ·exact .inr ⟨by omega, this⟩
   have hxe : Pri w x e := by
    rw [List.reverse_cons, List.mem_append] at hx
    rcases hx with hx | hx
    ·rw [List.reverse_cons, List.pairwise_append] at h1
     exact pri_trans (h1.2.2 x hx a (by simp)) hae
    ·rw [List.mem_singleton] at hx; subst hx; exact hae
   rcases List.mem_cons.1 hy with rfl | hy
   ·exact hxe
   ·exact h3 x hx y hy
theorem compare_neg (x y : Int) : (cmp_Compare_int x y < 0) ↔ x < y := by
 unfold cmp_Compare_int cmp_isNaN_int
 simp only [decide_true, Bool.not_true, Bool.false_eq_true, if_false, decide_eq_true_eq]
 split
 ·exact ⟨fun _ => by assumption, fun _ => by omega⟩
 ·split <;> exact ⟨fun h => by omega, fun h => by omega⟩
theorem ins_loop (w : List Int) (i : Nat) (hw : w.length ≤ 8) (hi : i < w.length) (rest : List Nat) : ∀ (A B : List Nat) (m : Nat), A.length < m → A.length ≤ 8 → (∀ a ∈ A, a < w.length) → Lp (hull_best_b12 w 0 (i : Int)) m ((A.length : Int), cN (A.reverse ++ i :: (B ++ rest))) = some (.inl (((i + 1 : Nat) : Int), cN (insD w i A B ++ rest)))
 | [], B, m, hm, _, _ => by
  obtain ⟨n, rfl⟩ : ∃ n, m = n + 1 := ⟨m - 1, by simp at hm; omega⟩
  refine lp_done n ?_
  unfold hull_best_b12
  simp only [List.length_nil, Int.natCast_zero, Int.lt_irrefl, decide_false, gb, Bool.false_eq_true, if_false, Option.bind_some, Bool.false_and]
  unfold hull_best_j11
  rw [w64s i (by omega)]
  rfl
 | a :: A, B, m, hm, h8, hA => by
  obtain ⟨n, rfl⟩ : ∃ n, m = n + 1 := ⟨m - 1, by simp at hm; omega⟩
  have ha : a < w.length := hA a List.mem_cons_self
  have hlen : A.length ≤ 7 := by simp at h8; omega
  have e1 : cN ((a :: A).reverse ++ i :: (B ++ rest)) = cN A.reverse ++ (a : Int) :: (i : Int) :: cN (B ++ rest) := by
   simp [cN]
  have eP : (cN A.reverse).length = A.length := by simp [cN]
  have hj : (((a :: A).length : Nat) : Int) = ((A.length + 1 : Nat) : Int) := by simp
  have hj1 : w64 (((A.length + 1 : Nat) : Int) - 1) = (A.length : Int) := by rw [w64_u (by omega)]; omega
  have i0 := ix_mid0 (cN A.reverse) (cN (B ++ rest)) (a : Int) (i : Int)
  have i1 := ix_mid1 (cN A.reverse) (cN (B ++ rest)) (a : Int) (i : Int)
  rw [eP] at i0 i1
  have hb1 : hull_best_1 (i : Int) (a : Int) w = some (cmp_Compare_int (gI w a) (gI w i)) := by
   unfold hull_best_1
   rw [ix_gI ha, ix_gI hi]; rfl
  have hpos : decide ((0 : Int) < ((A.length + 1 : Nat) : Int)) = true := by rw [decide_eq_true_eq]; omega
  rw [hj, e1]
  by_cases hc : gI w a < gI w i
  ·have hst : hull_best_b12 w 0 (i : Int) (((A.length + 1 : Nat) : Int), cN A.reverse ++ (a : Int) :: (i : Int) :: cN (B ++ rest)) = some (.inl ((A.length : Int), cN (A.reverse ++ i :: (a :: B ++ rest)))) := by
    unfold hull_best_b12
    simp only [hpos, gb, if_true, Bool.true_and]
    rw [i1, hj1, i0]
    simp only [Option.bind_some]
    rw [hb1]
    simp only [Option.bind_some]
    rw [if_pos (by rw [decide_eq_true_eq]; exact (compare_neg _ _).2 hc)]
    rw [put_nat, put_nat]
    have h2 : A.length < ((cN A.reverse ++ (a : Int) :: (i : Int) :: cN (B ++ rest)).set (A.length + 1) (a : Int)).length := by simp [cN]
    rw [ix_lt h2, Option.bind_some]
    have e3 := set_mid2 (cN A.reverse) (cN (B ++ rest)) (a : Int) (i : Int)
    rw [eP] at e3
    rw [e3]
    simp [cN]
   rw [lp_next n hst]
   unfold insD
   rw [if_pos hc]
   exact ins_loop w i hw hi rest A (a :: B) n (by simp at hm; omega) (by omega) fun x hx => hA x (List.mem_cons_of_mem _ hx)
  ·have hst : hull_best_b12 w 0 (i : Int) (((A.length + 1 : Nat) : Int), cN A.reverse ++ (a : Int) :: (i : Int) :: cN (B ++ rest)) = some (.inr (.inl (((i + 1 : Nat) : Int), cN A.reverse ++ (a : Int) :: (i : Int) :: cN (B ++ rest)))) := by
    unfold hull_best_b12
    simp only [hpos, gb, if_true, Bool.true_and]
    rw [i1, hj1, i0]
    simp only [Option.bind_some]
    rw [hb1]
    simp only [Option.bind_some]
    rw [if_neg (by rw [decide_eq_true_eq]; exact fun h => hc ((compare_neg _ _).1 h))]
    unfold hull_best_j11
    rw [w64s i (by omega)]
    rfl
   rw [lp_done n hst]
   unfold insD
   rw [if_neg hc]
   simp [cN]
theorem fill_loop {l : api_Load} {w : List Int} {t : Int} (h : Spn l.Holds) (hw : w.length = l.Holds.length) (h1 : loSum l.Holds ≤ t) (h2 : t ≤ hiSum l.Holds) (σ : List Nat) (hp : σ.Perm (List.range l.Holds.length)) (hs : σ.Pairwise (Pri w)) : ∃ x, Lp (hull_best_b4 l (cN σ)) fuel (0, t - loSum l.Holds, l.Holds.map (·.Lo)) = some x ∧ Greedy l.Holds w t x := by
 have hn := h.n
 have hsm := h.sums
 have hσl : σ.length = l.Holds.length := by rw [hp.length_eq, List.length_range]
 have hσm : ∀ v, v ∈ σ ↔ v < l.Holds.length := fun v => by rw [hp.mem_iff, List.mem_range]
 have hnd : σ.Nodup := hp.nodup_iff.2 List.nodup_range
 refine lp_inv' (fun k (s : Int × Int × List Int) => s.1 = (k : Int) ∧ 0 ≤ s.2.1 ∧ InS l.Holds s.2.2 ∧ s.2.2.sum + s.2.1 = t ∧ (∀ p (hp : p < σ.length), k ≤ p → gI s.2.2 σ[p] = (gS l.Holds σ[p]).Lo) ∧ (0 < s.2.1 → ∀ p (hp : p < σ.length), p < k → gI s.2.2 σ[p] = (gS l.Holds σ[p]).Hi) ∧ (∀ p q (hp : p < σ.length) (hq : q < σ.length), p < q → q < k → gI s.2.2 σ[p] < (gS l.Holds σ[p]).Hi → gI s.2.2 σ[q] = (gS l.Holds σ[q]).Lo)) _ σ.length (by omega) ⟨rfl, by simp only; omega, InS.lo h, by simp only [show (l.Holds.map (·.Lo)).sum = loSum l.Holds from rfl]; omega, fun p hp _ => gI_lo ((hσm _).1 (List.getElem_mem hp)), fun _ p _ h => by omega, fun p q _ _ _ h => by omega⟩ fun k s hk hI => ?_
 obtain ⟨k0, left, x⟩ := s
 obtain ⟨e0, q1, q2, q3, q4, q5, q6⟩ := hI
 simp only at e0 q1 q2 q3 q4 q5 q6
 subst e0
 unfold hull_best_b4
 simp only
 have hxl := q2.1
 by_cases hc : k < σ.length
 ·left
  have hv : σ[k] < l.Holds.length := (hσm _).1 (List.getElem_mem hc)
  have hvx : σ[k] < x.length := by omega
  have hbv := h.b _ hv
  have hlo := q4 k hc (Nat.le_refl _)
  have hck : k < (cN σ).length := by rw [cN_len]; exact hc
  have eσ : (cN σ)[k] = ((σ[k] : Nat) : Int) := by simp [cN]
  rw [if_pos (by rw [cN_len]; simpa using hc), ix_lt hck, eσ, Option.bind_some, ix_gS hv, Option.bind_some, Option.bind_some, ix_gI hvx, Option.bind_some, Option.bind_some, w64s' hc (by omega), put_nat, w64_u (a := (gS l.Holds σ[k]).Hi - (gS l.Holds σ[k]).Lo) (by omega)]
  have hxs := q2.sum
  generalize hm : min left ((gS l.Holds σ[k]).Hi - (gS l.Holds σ[k]).Lo) = m
  rw [w64_u (a := left - m) (by omega), w64_u (a := gI x σ[k] + m) (by omega)]
  have hss := sum_setg hvx (gI x σ[k] + m)
  have hne : ∀ p (hp : p < σ.length), p ≠ k → σ[p] ≠ σ[k] := fun p hp hpk he => by
   have hq := List.pairwise_iff_getElem.1 hnd
   rcases Nat.lt_or_gt_of_ne hpk with h | h
   ·exact hq p k hp hc h he
   ·exact hq k p hc hp h he.symm
  refine ⟨hc, _, rfl, rfl, by simp only; omega, InS.of_g (by simp [hxl]) fun j hj => ?_, by simp only; omega, fun p hp hkp => ?_, fun hl p hp hkp => ?_, fun p q hp hq hpq hqk hf => ?_⟩
  ·simp only
   rw [gI_set hvx]
   split
   ·rename_i e; subst e; omega
   ·exact q2.g j hj
  ·simp only
   rw [gI_set hvx, if_neg (hne p hp (by omega))]
   exact q4 p hp (by omega)
  ·simp only at hl ⊢
   rw [gI_set hvx]
   by_cases e : p = k
   ·subst e; rw [if_pos rfl]; omega
   ·rw [if_neg (hne p hp e)]
    exact q5 (by omega) p hp (by omega)
  ·simp only at hf ⊢
   rw [gI_set hvx] at hf ⊢
   rw [if_neg (hne p hp (by omega))] at hf
   by_cases e : q = k
   ·subst e
    rw [if_pos rfl]
    rcases Int.lt_or_le 0 left with h0 | h0
    ·have := q5 h0 p hp hpq; omega
    ·omega
   ·rw [if_neg (hne q hq e)]
    exact q6 p q hp hq hpq (by omega) hf
 ·right
  have e : k = σ.length := by omega
  subst e
  rw [if_neg (by rw [cN_len]; simp)]
  have hpos : ∀ v, v < l.Holds.length → ∃ p, ∃ hp : p < σ.length, σ[p] = v := fun v hv => List.getElem_of_mem ((hσm v).2 hv)
  have hl0 : left = 0 := by
   rcases Int.lt_or_le 0 left with h0 | h0
   ·have := q2.full fun i hi => by
     obtain ⟨p, hp, e⟩ := hpos i hi
     have := q5 h0 p hp hp
     rw [e] at this; omega
    omega
   ·omega
  refine ⟨x, rfl, q2, by omega, fun i j hi hj hp hf => ?_⟩
  obtain ⟨p, hp1, e1⟩ := hpos i hi
  obtain ⟨q, hq1, e2⟩ := hpos j hj
  subst e1 e2
  rcases Nat.lt_trichotomy p q with hpq | hpq | hpq
  ·exact q6 p q hp1 hq1 hpq hq1 hf
  ·subst hpq; exact (pri_asym hp hp).elim
  ·exact (pri_asym hp (List.pairwise_iff_getElem.1 hs q p hq1 hp1 hpq)).elim
theorem best_spec {l : api_Load} {w : List Int} {t : Int} (h : Spn l.Holds) (hw : w.length = l.Holds.length) (h1 : loSum l.Holds ≤ t) (h2 : t ≤ hiSum l.Holds) : ∃ x, hull_best l w t = some x ∧ Greedy l.Holds w t x := by
 have hn := h.n
 have hsm := h.sums
 have hrl : (cN (List.range l.Holds.length)).length = l.Holds.length := by simp [cN]
 -- the fills
 have j2 : ∀ σ : List Nat, σ.Perm (List.range l.Holds.length) → σ.Pairwise (Pri w) → ∃ x, hull_best_j2 l t (cN (List.range l.Holds.length)) (l.Holds.map (·.Lo)) (cN σ) = some x ∧ Greedy l.Holds w t x := fun σ hp hs => by
  obtain ⟨x, q1, q2⟩ := fill_loop h hw h1 h2 σ hp hs
  refine ⟨x, ?_, q2⟩
  unfold hull_best_j2 sameO
  rw [if_pos (by rw [cN_len, cN_len, hp.length_eq]), Option.bind_some, hsum_eq _ (by unfold Len; simp; omega), Option.bind_some, show (l.Holds.map (·.Lo)).sum = loSum l.Holds from rfl, w64_sub', w64_u (by omega)]
  exact q1
 have j6 : ∀ σ : List Nat, σ.Perm (List.range l.Holds.length) → σ.Pairwise (Pri w) → ∃ x, hull_best_j6 l t (cN (List.range l.Holds.length)) (l.Holds.map (·.Lo)) (cN σ) = some x ∧ Greedy l.Holds w t x := fun σ hp hs => by
  obtain ⟨x, q1, q2⟩ := j2 σ hp hs
  refine ⟨x, ?_, q2⟩
  unfold hull_best_j6
  refine lp_once ?_
  unfold hull_best_b7
  rw [if_neg (by rw [hrl]; simp; omega), q1]; rfl
 -- the sort
 have j5 : ∃ x, hull_best_j5 l w t (cN (List.range l.Holds.length)) (l.Holds.map (·.Lo)) 0 (cN (List.range l.Holds.length)) = some x ∧ Greedy l.Holds w t x := by
  unfold hull_best_j5
  refine lp_inv' (fun i (s : Int × List Int) => s.1 = ((i + 1 : Nat) : Int) ∧ ∃ S : List Nat, s.2 = cN (S ++ (List.range l.Holds.length).drop (i + 1)) ∧ S.Perm ((List.range l.Holds.length).take (i + 1)) ∧ S.Pairwise (Pri w)) _ l.Holds.length (by omega) ⟨(by show w64 (0 + 1) = ((0 + 1 : Nat) : Int); decide), (List.range l.Holds.length).take 1, by rw [List.take_append_drop], List.Perm.refl _, ?_⟩ fun i s hi hI => ?_
  ·cases hc : l.Holds.length with
   | zero => simp
   | succ n => simp [List.range_succ_eq_map]
  ·obtain ⟨i0, l10⟩ := s
   obtain ⟨e0, S, e1, hp, hs⟩ := hI
   simp only at e0 e1
   subst e0 e1
   unfold hull_best_b10
   simp only
   by_cases hc : i + 1 < l.Holds.length
   ·left
    have hrg : (List.range l.Holds.length).drop (i + 1) = (i + 1) :: (List.range l.Holds.length).drop (i + 2) := by
     rw [List.drop_eq_getElem_cons (by rw [List.length_range]; exact hc), List.getElem_range]
    have hSl : S.length = i + 1 := by rw [hp.length_eq, List.length_take, List.length_range]; omega
    have hSm : ∀ a ∈ S, a < i + 1 := fun a ha => by
     have := hp.mem_iff.1 ha
     rw [List.mem_take_iff_getElem] at this
     obtain ⟨j, hj, e⟩ := this
     rw [List.getElem_range] at e
     omega
    have hil := ins_loop w (i + 1) (by omega) (by omega) ((List.range l.Holds.length).drop (i + 2)) S.reverse [] fuel (by rw [List.length_reverse, hSl]; unfold fuel; omega) (by rw [List.length_reverse, hSl]; omega) fun a ha => by have := hSm a (List.mem_reverse.1 ha); omega
    rw [List.length_reverse, hSl, List.reverse_reverse, List.nil_append] at hil
    rw [if_pos (by rw [hrl, decide_eq_true_eq]; omega), hrg, hil]
    refine ⟨by omega, _, rfl, rfl, insD w (i + 1) S.reverse [], rfl, ?_, ?_⟩
    ·have h3 := insD_perm w (i + 1) S.reverse []
     rw [List.reverse_reverse] at h3
     refine h3.trans ?_
     rw [show i + 1 + 1 = (i + 1) + 1 from rfl, List.take_add_one (i := i + 1)]
     refine List.Perm.append hp ?_
     rw [List.getElem?_eq_getElem (by rw [List.length_range]; exact hc), List.getElem_range]
     exact List.Perm.refl _
    ·exact insD_sorted w (i + 1) S.reverse [] (by rw [List.reverse_reverse, List.append_nil]; exact hs) (fun a ha => hSm a (List.mem_reverse.1 ha)) fun b hb => by simp at hb
   ·right
    have hd : (List.range l.Holds.length).drop (i + 1) = [] := List.drop_eq_nil_of_le (by rw [List.length_range]; omega)
    have ht : (List.range l.Holds.length).take (i + 1) = List.range l.Holds.length := List.take_of_length_le (by rw [List.length_range]; omega)
    rw [ht] at hp
    rw [if_neg (by rw [hrl, decide_eq_true_eq]; omega), hd, List.append_nil]
    unfold sameO
    rw [if_pos (by rw [cN_len, cN_len, hp.length_eq]), Option.bind_some]
    obtain ⟨x, q1, q2⟩ := j6 S hp hs
    rw [q1]
    exact ⟨x, rfl, q2⟩
 have j1 : ∃ x, hull_best_j1 l w t (cN (List.range l.Holds.length)) (l.Holds.map (·.Lo)) = some x ∧ Greedy l.Holds w t x := by
  obtain ⟨x, q1, q2⟩ := j5
  refine ⟨x, ?_, q2⟩
  unfold hull_best_j1
  refine lp_once ?_
  unfold hull_best_b13
  simp only
  rw [if_neg (by rw [hrl]; simp; omega), q1]; rfl
 obtain ⟨x, q1, q2⟩ := j1
 refine ⟨x, ?_, q2⟩
 unfold hull_best
 refine (lp_list (body := hull_best_b18 l w t) (s0 := (0, [], [])) l.Holds (by omega) (fun (acc : List Int × List Int) i => (i, acc.1, acc.2)) (fun acc r => x) (fun i acc => acc.1 = cN (List.range i) ∧ acc.2 = (l.Holds.take i).map (·.Lo)) (a := ([], [])) rfl ⟨rfl, rfl⟩ (fun acc i hi hJ => ?_) (fun acc hJ => ?_)).trans rfl
 ·left
  obtain ⟨a1, a2⟩ := acc
  obtain ⟨e1, e2⟩ := hJ
  simp only at e1 e2
  subst e1 e2
  unfold hull_best_b18
  simp only
  rw [if_pos (by simpa using hi), ix_lt hi, Option.bind_some, app_ok (by simp; omega), Option.bind_some, app_ok (by simp [cN]; omega), Option.bind_some, w64s' hi (by omega)]
  refine ⟨(_, _), rfl, by simp, ?_, ?_⟩
  ·simp only [cN, List.range_succ, List.map_append, List.map_cons, List.map_nil]
  ·simp only
   rw [← List.map_singleton, ← List.map_append, List.take_append_getElem]
 ·obtain ⟨a1, a2⟩ := acc
  obtain ⟨e1, e2⟩ := hJ
  simp only at e1 e2
  subst e1 e2
  unfold hull_best_b18
  simp only
  rw [List.take_length, if_neg (by simp), q1]; rfl
end Go.Mx
