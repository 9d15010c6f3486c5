/- HullNarrow: the plain law. Conditions: none. -/
import Derived.Test.YthfnbjoecocfaaaLawHn
set_option linter.unusedVariables false
set_option linter.unusedSimpArgs false
namespace Go.Mx
theorem spansE_ok {rest : Int} : ∀ (hs : List api_Hold) (l : List api_Span), l.length ≤ hs.length → (∀ (j : Nat) (x : api_Span) (h : api_Hold), l[j]? = some x → hs[j]? = some h → 0 ≤ x.Lo ∧ x.Lo ≤ x.Hi ∧ x.Hi ≤ h.Room) → spansE rest hs l = rest
 | hs, [], _, _ => by cases hs <;> rfl
 | [], x :: r, h, _ => by simp at h
 | y :: t, x :: r, h, hh => by
  have h0 := hh 0 x y rfl rfl
  unfold spansE
  rw [if_pos (by simp only [spanB, Bool.and_eq_true, decide_eq_true_eq]; omega)]
  exact spansE_ok t r (by simpa using h) fun j a b ha hb => hh (j + 1) a b (by simpa using ha) (by simpa using hb)
theorem lo_hi : ∀ l : List api_Span, (∀ x ∈ l, x.Lo ≤ x.Hi) → loSum l ≤ hiSum l
 | [], _ => by simp [loSum, hiSum]
 | a :: r, h => by
  have h1 := h a List.mem_cons_self
  have h2 := lo_hi r fun x hx => h x (List.mem_cons_of_mem _ hx)
  simp only [loSum, hiSum, List.map_cons, List.sum_cons] at *
  omega
theorem ins_ex : ∀ (l : List api_Span) (t : Int), (∀ x ∈ l, x.Lo ≤ x.Hi) → loSum l ≤ t → t ≤ hiSum l → ∃ x, InS l x ∧ x.sum = t
 | [], t, _, h1, h2 => ⟨[], ⟨rfl, fun i h => by simp at h⟩, by simp [loSum, hiSum] at h1 h2; simp; omega⟩
 | a :: r, t, h, h1, h2 => by
  have ha := h a List.mem_cons_self
  have hr := lo_hi r fun x hx => h x (List.mem_cons_of_mem _ hx)
  have e1 : loSum (a :: r) = a.Lo + loSum r := by simp [loSum]
  have e2 : hiSum (a :: r) = a.Hi + hiSum r := by simp [hiSum]
  obtain ⟨x, q1, q2⟩ := ins_ex r (t - max a.Lo (t - hiSum r)) (fun x hx => h x (List.mem_cons_of_mem _ hx)) (by omega) (by omega)
  refine ⟨max a.Lo (t - hiSum r) :: x, ⟨by simp [q1.1], fun i h1 h2 => ?_⟩, by simp only [List.sum_cons, q2]; omega⟩
  cases i with
  | zero => show a.Lo ≤ max a.Lo (t - hiSum r) ∧ max a.Lo (t - hiSum r) ≤ a.Hi; omega
  | succ i => exact q1.2 i (by simpa using h1) (by simpa using h2)
theorem gS_set {l : List api_Span} {k : Nat} (h : k < l.length) (v : api_Span) (i : Nat) : gS (l.set k v) i = if i = k then v else gS l i := by
 unfold gS
 rw [List.getD_eq_getElem?_getD, List.getD_eq_getElem?_getD, List.getElem?_set]
 by_cases e : k = i
 ·subst e; simp [h]
 ·rw [if_neg e, if_neg fun h => e h.symm]
theorem gI_hi {l : List api_Span} {i : Nat} (hi : i < l.length) : gI (l.map (·.Hi)) i = (gS l i).Hi := by rw [gI_get (by simpa using hi), gS_get hi, List.getElem_map]
theorem loSum_set {l : List api_Span} {k : Nat} (hk : k < l.length) (v : api_Span) : loSum (l.set k v) = loSum l - (gS l k).Lo + v.Lo := by
 unfold loSum
 rw [List.map_set, sum_setg (by simpa using hk), gI_lo hk]
theorem hiSum_set {l : List api_Span} {k : Nat} (hk : k < l.length) (v : api_Span) : hiSum (l.set k v) = hiSum l - (gS l k).Hi + v.Hi := by
 unfold hiSum
 rw [List.map_set, sum_setg (by simpa using hk), gI_hi hk]
theorem set_le {l : List api_Span} (h : ∀ x ∈ l, x.Lo ≤ x.Hi) (k : Nat) (v : Int) : ∀ x ∈ l.set k ⟨v, v⟩, x.Lo ≤ x.Hi := fun x hx => by
 rcases List.mem_or_eq_of_mem_set hx with q | rfl
 ·exact h x q
 ·exact Int.le_refl _
theorem GoodL.le {s : api_Ship} {l : api_Load} (hg : GoodL s l) : ∀ x ∈ l.Holds, x.Lo ≤ x.Hi := fun x hx => (spans_mem hg.ship hg.len hg.spans x hx).2.1
theorem rest_le {s : api_Ship} {l : api_Load} (hg : GoodL s l) {k : Nat} (hk : k < l.Holds.length) : loSum l.Holds - (gS l.Holds k).Lo ≤ hiSum l.Holds - (gS l.Holds k).Hi := by
 have := lo_hi _ (set_le hg.le k 0)
 rw [loSum_set hk, hiSum_set hk] at this
 simp only at this; omega
theorem fit_at {s : api_Ship} {l : api_Load} (hg : GoodL s l) {k : Nat} (hk : k < l.Holds.length) {v : Int} (h1 : (gS l.Holds k).Lo ≤ v ∧ v ≤ (gS l.Holds k).Hi) (h2 : loSum l.Holds - (gS l.Holds k).Lo + v ≤ totHi l) (h3 : totLo l ≤ hiSum l.Holds - (gS l.Holds k).Hi + v) : ∃ y, Fit l y ∧ gI y k = v := by
 have ht := hg.tot
 have hle := set_le hg.le k v
 have hlh := lo_hi _ hle
 have e1 := loSum_set hk ⟨v, v⟩
 have e2 := hiSum_set hk ⟨v, v⟩
 simp only at e1 e2
 obtain ⟨x, q1, q2⟩ := ins_ex (l.Holds.set k ⟨v, v⟩) (max (totLo l) (loSum (l.Holds.set k ⟨v, v⟩))) hle (by omega) (by omega)
 have hlen : x.length = l.Holds.length := by rw [q1.1, List.length_set]
 have hg2 : ∀ i, i < l.Holds.length → (gS (l.Holds.set k ⟨v, v⟩) i).Lo ≤ gI x i ∧ gI x i ≤ (gS (l.Holds.set k ⟨v, v⟩) i).Hi := fun i hi => q1.g i (by rw [List.length_set]; exact hi)
 have hxk : gI x k = v := by
  have := hg2 k hk
  rw [gS_set hk, if_pos rfl] at this
  simp only at this; omega
 have hin : InS l.Holds x := InS.of_g hlen fun i hi => by
  have := hg2 i hi
  rw [gS_set hk] at this
  by_cases e : i = k
  ·subst e; rw [hxk]; exact h1
  ·rwa [if_neg e] at this
 refine ⟨x, ⟨hlen, hin.2, ?_⟩, hxk⟩
 unfold totLo totHi at *
 omega
theorem fit_sum {s : api_Ship} {l : api_Load} (hg : GoodL s l) {t : Int} (h1 : totLo l ≤ t) (h2 : t ≤ totHi l) : ∃ y, Fit l y ∧ y.sum = t := by
 have ht := hg.tot
 obtain ⟨x, q1, q2⟩ := ins_ex l.Holds t hg.le (by omega) (by omega)
 refine ⟨x, ⟨q1.1, q1.2, ?_⟩, q2⟩
 unfold totLo totHi at *
 omega
theorem InS.part {l : List api_Span} {x : List Int} (h : InS l x) {k : Nat} (hk : k < l.length) : loSum l - (gS l k).Lo + gI x k ≤ x.sum ∧ x.sum ≤ hiSum l - (gS l k).Hi + gI x k := by
 have hkx : k < x.length := by rw [h.1]; exact hk
 have hg := h.g k hk
 have key : ∀ v, (gS l k).Lo ≤ v ∧ v ≤ (gS l k).Hi → InS l (x.set k v) := fun v hv => InS.of_g (by rw [List.length_set]; exact h.1) fun i hi => by
  rw [gI_set hkx]
  by_cases e : i = k
  ·subst e; rw [if_pos rfl]; exact hv
  ·rw [if_neg e]; exact h.g i hi
 have h1 := (key (gS l k).Lo (by omega)).sum
 have h2 := (key (gS l k).Hi (by omega)).sum
 rw [sum_setg hkx] at h1 h2
 omega
theorem nLen (l : api_Load) : (narrowL l).Holds.length = l.Holds.length := by simp [narrowL]
theorem gS_n {l : api_Load} {k : Nat} (hk : k < l.Holds.length) : gS (narrowL l).Holds k = narrowS l (gS l.Holds k) := by
 rw [gS_get (by rw [nLen]; exact hk), gS_get hk]
 simp only [narrowL, List.getElem_map]
theorem fit_n {s : api_Ship} {l : api_Load} (hg : GoodL s l) {x : List Int} (h : Fit l x) : Fit (narrowL l) x := by
 have hs := h.sum hg
 have hi : InS (narrowL l).Holds x := InS.of_g (by rw [nLen]; exact h.len) fun i hi => by
  rw [nLen] at hi
  rw [gS_n hi]
  have h1 := h.ins.g i hi
  have h2 := h.ins.part hi
  unfold narrowS
  simp only; omega
 exact ⟨hi.1, hi.2, hs⟩
theorem n_fit {s : api_Ship} {l : api_Load} (hg : GoodL s l) {x : List Int} (h : Fit (narrowL l) x) : Fit l x := by
 have hlen : x.length = l.Holds.length := by rw [h.len, nLen]
 have hi : InS l.Holds x := InS.of_g hlen fun i hi => by
  have h1 := h.ins.g i (by rw [nLen]; exact hi)
  rw [gS_n hi] at h1
  unfold narrowS at h1
  simp only at h1; omega
 have ha : totLo l ≤ x.sum ∧ x.sum ≤ totHi l := h.all
 refine ⟨hlen, hi.2, ?_⟩
 unfold totLo totHi at ha
 omega
theorem fit_lo {s : api_Ship} {l : api_Load} (hg : GoodL s l) {k : Nat} (hk : k < l.Holds.length) : ∃ y, Fit l y ∧ gI y k = (gS (narrowL l).Holds k).Lo := by
 have ht := hg.tot
 have hr := rest_le hg hk
 have hle := hg.le _ (List.getElem_mem hk)
 rw [← gS_get hk] at hle
 refine fit_at hg hk ?_ ?_ ?_ <;> rw [gS_n hk] <;> unfold narrowS <;> simp only <;> omega
theorem fit_hi {s : api_Ship} {l : api_Load} (hg : GoodL s l) {k : Nat} (hk : k < l.Holds.length) : ∃ y, Fit l y ∧ gI y k = (gS (narrowL l).Holds k).Hi := by
 have ht := hg.tot
 have hr := rest_le hg hk
 have hle := hg.le _ (List.getElem_mem hk)
 rw [← gS_get hk] at hle
 refine fit_at hg hk ?_ ?_ ?_ <;> rw [gS_n hk] <;> unfold narrowS <;> simp only <;> omega
theorem n_sums {s : api_Ship} {l : api_Load} (hg : GoodL s l) : loSum (narrowL l).Holds ≤ totLo l ∧ totHi l ≤ hiSum (narrowL l).Holds := by
 have ht := hg.tot
 obtain ⟨y, y1, y2⟩ := fit_sum hg (t := totLo l) (by omega) (by omega)
 obtain ⟨z, z1, z2⟩ := fit_sum hg (t := totHi l) (by omega) (by omega)
 have a := (fit_n hg y1).ins.sum
 have b := (fit_n hg z1).ins.sum
 omega
theorem n_chk {s : api_Ship} {l : api_Load} (hk : chkL s l = 0) : chkL s (narrowL l) = 0 := by
 have hg := GoodL.of hk
 have ht := hg.tot
 have hc : chk s = 0 := by unfold chkL at hk; split at hk <;> assumption
 have hn := n_sums hg
 have hal := hg.all
 have hf := hg.few
 have hta : l.All.Lo ≤ totLo l ∧ totHi l ≤ l.All.Hi := by unfold totLo totHi; omega
 unfold chkL
 rw [if_pos hc]
 unfold loadE
 rw [if_pos (by rw [nLen, hg.len]), spansE_ok _ _ (by rw [nLen, hg.len]; exact Nat.le_refl _) fun j x h hx hh => ?_]
 ·unfold allE
  have e1 : (narrowL l).All = ⟨totLo l, totHi l⟩ := rfl
  rw [e1]
  simp only
  rw [if_neg (by omega), if_neg (by omega), if_neg (by omega)]
 ·obtain ⟨hj, e⟩ := List.getElem?_eq_some_iff.1 hx
  rw [nLen] at hj
  have e2 : x = gS (narrowL l).Holds j := by rw [gS_get (by rw [nLen]; exact hj)]; exact e.symm
  obtain ⟨y, y1, y2⟩ := fit_lo hg hj
  have h1 := (fit_n hg y1).ins.g j (by rw [nLen]; exact hj)
  have h2 := hg.spans j hj _ h (List.getElem?_eq_getElem hj) hh
  rw [← gS_get hj] at h2
  rw [e2]
  rw [gS_n hj] at h1 ⊢
  unfold narrowS at h1 ⊢
  simp only at h1 ⊢; omega
theorem n_again {s : api_Ship} {l : api_Load} (hk : chkL s l = 0) : narrowL (narrowL l) = narrowL l := by
 have hg := GoodL.of hk
 have hn := n_sums hg
 have e1 : totLo (narrowL l) = totLo l := by show max (loSum (narrowL l).Holds) (totLo l) = totLo l; omega
 have e2 : totHi (narrowL l) = totHi l := by show min (hiSum (narrowL l).Holds) (totHi l) = totHi l; omega
 have e3 : (narrowL (narrowL l)).Holds = (narrowL l).Holds := List.ext_getElem (by rw [nLen]) fun i h1 h2 => by
  have hi : i < l.Holds.length := by rw [nLen] at h2; exact h2
  rw [← gS_get h1, ← gS_get h2, gS_n h2]
  obtain ⟨y, y1, y2⟩ := fit_lo hg hi
  obtain ⟨z, z1, z2⟩ := fit_hi hg hi
  have a := (fit_n hg y1).ins.part h2
  have b := (fit_n hg z1).ins.part h2
  have a' := y1.sum hg
  have b' := z1.sum hg
  have f : narrowS (narrowL l) (gS (narrowL l).Holds i) = ⟨(gS (narrowL l).Holds i).Lo, (gS (narrowL l).Holds i).Hi⟩ := by
   unfold narrowS
   rw [e1, e2]
   simp only [api_Span.mk.injEq]
   omega
  rw [f]
 have e4 : (narrowL (narrowL l)).All = (narrowL l).All := by show (⟨totLo (narrowL l), totHi (narrowL l)⟩ : api_Span) = ⟨totLo l, totHi l⟩; rw [e1, e2]
 show (⟨(narrowL (narrowL l)).Holds, (narrowL (narrowL l)).All⟩ : api_Load) = ⟨(narrowL l).Holds, (narrowL l).All⟩
 rw [e3, e4]

/-! Forms. -/
theorem dot_zero : ∀ (n : Nat) (x : List Int), dot (List.replicate n 0) x = 0
 | 0, x => rfl
 | n + 1, [] => rfl
 | n + 1, a :: r => by rw [List.replicate_succ, dot, dot_zero n r]; omega
theorem dot_unit (c : Int) : ∀ (x : List Int) (k : Nat), k < x.length → dot ((List.replicate x.length 0).set k c) x = c * gI x k
 | [], k, h => by simp at h
 | a :: r, 0, h => by
  rw [List.length_cons, List.replicate_succ, List.set_cons_zero, dot, dot_zero]
  show c * a + 0 = c * a; omega
 | a :: r, k + 1, h => by
  rw [List.length_cons, List.replicate_succ, List.set_cons_succ, dot, dot_unit c r k (by simpa using h)]
  show 0 * a + c * gI r k = c * gI r k; omega
theorem dot_rep (c : Int) : ∀ x : List Int, dot (List.replicate x.length c) x = c * x.sum
 | [] => by simp [dot]
 | a :: r => by rw [List.length_cons, List.replicate_succ, dot, dot_rep c r, List.sum_cons, Int.mul_add]
theorem ask_ok {s : api_Ship} {l : api_Load} (hk : chkL s l = 0) {w : List Int} (hl : w.length = s.Holds.length) (hb : ∀ a ∈ w, -1 ≤ a ∧ a ≤ 1) : askE s l w = 0 := by
 unfold askE
 rw [if_pos hk, if_pos]
 unfold formB
 rw [Bool.and_eq_true, decide_eq_true_eq, List.all_eq_true]
 refine ⟨hl, fun a ha => ?_⟩
 have := hb a ha
 simp only [Bool.and_eq_true, decide_eq_true_eq]; omega
theorem unit_bd (n k : Nat) (c : Int) (hc : -1 ≤ c ∧ c ≤ 1) : ∀ a ∈ (List.replicate n (0 : Int)).set k c, -1 ≤ a ∧ a ≤ 1 := fun a ha => by
 rcases List.mem_or_eq_of_mem_set ha with q | rfl
 ·have := List.eq_of_mem_replicate q; omega
 ·exact hc
theorem rep_bd (n : Nat) (c : Int) (hc : -1 ≤ c ∧ c ≤ 1) : ∀ a ∈ List.replicate n c, -1 ≤ a ∧ a ≤ 1 := fun a ha => by
 have := List.eq_of_mem_replicate ha; omega
theorem most_unit {s : api_Ship} {l : api_Load} (hl : Len s.Holds) (hW : LoadW l) (hk : chkL s l = 0) {k : Nat} (hkl : k < s.Holds.length) {c : Int} (hc : c = 1 ∨ c = -1) : ∃ q, hull_Most s l ((List.replicate s.Holds.length 0).set k c) = some (q, 0) ∧ q.Value = if c = 1 then (gS (narrowL l).Holds k).Hi else -(gS (narrowL l).Holds k).Lo := by
 have hg := GoodL.of hk
 have hkl' : k < l.Holds.length := by rw [hg.len]; exact hkl
 obtain ⟨q, q1, q2, _⟩ := Most_ok s l _ hl hW (by unfold Len at *; rw [List.length_set, List.length_replicate]; exact hl) (ask_ok hk (by simp) (unit_bd s.Holds.length k c (by omega)))
 refine ⟨q, q1, ?_⟩
 have hv : ∀ y, Fit l y → dot ((List.replicate s.Holds.length 0).set k c) y = c * gI y k := fun y hy => by
  have e : s.Holds.length = y.length := by rw [hy.len, hg.len]
  rw [e]; exact dot_unit c y k (by rw [hy.len]; exact hkl')
 have hmax : ∀ y, Fit l y → c * gI y k ≤ q.Value := fun y hy => by
  rw [← hv y hy]
  exact q2.max (by rw [List.length_set, List.length_replicate, hg.len]) hy
 have hval : q.Value = c * gI q.Loading k := by rw [q2.val, hv _ q2.fit]
 have hb := (fit_n hg q2.fit).ins.g k (by rw [nLen]; exact hkl')
 rcases hc with rfl | rfl
 ·rw [if_pos rfl]
  obtain ⟨y, y1, y2⟩ := fit_hi hg hkl'
  have := hmax y y1
  omega
 ·rw [if_neg (by decide)]
  obtain ⟨y, y1, y2⟩ := fit_lo hg hkl'
  have := hmax y y1
  omega
theorem most_all {s : api_Ship} {l : api_Load} (hl : Len s.Holds) (hW : LoadW l) (hk : chkL s l = 0) {c : Int} (hc : c = 1 ∨ c = -1) : ∃ q, hull_Most s l (List.replicate s.Holds.length c) = some (q, 0) ∧ q.Value = if c = 1 then totHi l else -totLo l := by
 have hg := GoodL.of hk
 have ht := hg.tot
 obtain ⟨q, q1, q2, _⟩ := Most_ok s l _ hl hW (by unfold Len at *; rw [List.length_replicate]; exact hl) (ask_ok hk (by simp) (rep_bd s.Holds.length c (by omega)))
 refine ⟨q, q1, ?_⟩
 have hv : ∀ y, Fit l y → dot (List.replicate s.Holds.length c) y = c * y.sum := fun y hy => by
  have e : s.Holds.length = y.length := by rw [hy.len, hg.len]
  rw [e]; exact dot_rep c y
 have hmax : ∀ y, Fit l y → c * y.sum ≤ q.Value := fun y hy => by
  rw [← hv y hy]
  exact q2.max (by rw [List.length_replicate, hg.len]) hy
 have hval : q.Value = c * q.Loading.sum := by rw [q2.val, hv _ q2.fit]
 have hb := q2.fit.sum hg
 rcases hc with rfl | rfl
 ·rw [if_pos rfl]
  obtain ⟨y, y1, y2⟩ := fit_sum hg (t := totHi l) (by omega) (by omega)
  have := hmax y y1
  omega
 ·rw [if_neg (by decide)]
  obtain ⟨y, y1, y2⟩ := fit_sum hg (t := totLo l) (by omega) (by omega)
  have := hmax y y1
  omega

/-! The law. -/
theorem rep_of {v : List Int} {n : Nat} {c : Int} (h : v.length = n) (hh : ∀ j, j < n → gI v j = c) : v = List.replicate n c := list_ext_g (by simp [h]) fun j hj => by
 rw [hh j (by omega), gI_get (by simp; omega), List.getElem_replicate]
theorem narrow_b4 {s : api_Ship} {l : api_Load} {y1 : api_Load × Int} {q : Int} {l1 : List Int} (l2 : List Int) (hl : l2.length ≤ 8) {r : Bool} (hr : law03_HullNarrow_j1 s l y1 q l1 (List.replicate l2.length 1) = some r) : Lp (law03_HullNarrow_b4 s l y1 q l1 l2) fuel (0, l2) = some r := by
 suffices h : ∃ q2, Lp (law03_HullNarrow_b4 s l y1 q l1 l2) fuel (0, l2) = some q2 ∧ q2 = r by obtain ⟨q2, h, rfl⟩ := h; exact h
 refine lp_inv' (fun i (x : Int × List Int) => x.1 = (i : Int) ∧ x.2.length = l2.length ∧ ∀ j, j < i → gI x.2 j = 1) _ l2.length (by omega) ⟨rfl, rfl, fun j hj => by omega⟩ fun i x hi hI => ?_
 obtain ⟨i0, v⟩ := x
 obtain ⟨e0, e1, e2⟩ := hI
 simp only at e0 e1 e2
 subst e0
 unfold law03_HullNarrow_b4
 simp only
 by_cases hc : i < l2.length
 ·left
  rw [if_pos (by simpa using hc), ix_gI (show i < v.length by omega), Option.bind_some, w64s i (by omega), put_nat]
  refine ⟨hc, _, rfl, rfl, by simp only [List.length_set]; exact e1, fun j hj => ?_⟩
  simp only
  rw [gI_set (by omega)]
  by_cases e : j = i
  ·rw [if_pos e]
  ·rw [if_neg e]; exact e2 j (by omega)
 ·right
  have e3 : i = l2.length := by omega
  subst e3
  rw [if_neg (by simp), rep_of e1 e2, hr]
  exact ⟨_, rfl, rfl⟩
theorem narrow_b3 {s : api_Ship} {l : api_Load} {y1 : api_Load × Int} {q : Int} {l1 : List Int} (l3 : List Int) {y9 y10 : api_Price × Int} (hl : l3.length ≤ 8) {r : Bool} (hr : law03_HullNarrow_j2 s l y1 q l1 y9 y10 (List.replicate l3.length (-1)) = some r) : Lp (law03_HullNarrow_b3 s l y1 q l1 l3 y9 y10) fuel (0, l3) = some r := by
 suffices h : ∃ q2, Lp (law03_HullNarrow_b3 s l y1 q l1 l3 y9 y10) fuel (0, l3) = some q2 ∧ q2 = r by obtain ⟨q2, h, rfl⟩ := h; exact h
 refine lp_inv' (fun i (x : Int × List Int) => x.1 = (i : Int) ∧ x.2.length = l3.length ∧ ∀ j, j < i → gI x.2 j = -1) _ l3.length (by omega) ⟨rfl, rfl, fun j hj => by omega⟩ fun i x hi hI => ?_
 obtain ⟨i0, v⟩ := x
 obtain ⟨e0, e1, e2⟩ := hI
 simp only at e0 e1 e2
 subst e0
 unfold law03_HullNarrow_b3
 simp only
 by_cases hc : i < l3.length
 ·left
  rw [if_pos (by simpa using hc), ix_gI (show i < v.length by omega), Option.bind_some, w64s i (by omega), put_nat]
  refine ⟨hc, _, rfl, rfl, by simp only [List.length_set]; exact e1, fun j hj => ?_⟩
  simp only
  rw [gI_set (by omega)]
  by_cases e : j = i
  ·rw [if_pos e]
  ·rw [if_neg e]; exact e2 j (by omega)
 ·right
  have e3 : i = l3.length := by omega
  subst e3
  rw [if_neg (by simp), rep_of e1 e2, hr]
  exact ⟨_, rfl, rfl⟩
theorem mk_zero (n : Nat) (h : n ≤ 8) : mkS (n : Int) (n : Int) (0 : Int) = some (List.replicate n 0) := by
 unfold mkS
 rw [if_pos ⟨rfl, by omega, by omega⟩]; rfl
theorem holds_HullNarrow {s : api_Ship} {l : api_Load} {x : List Int} {at_ : Int} (h0 : ok_api_Ship s) (h1 : ok_api_Load l) (h2 : ok_40 x) (h3 : OkI .u8 at_) : law03_HullNarrow s l x at_ = some true := by
 have hl : Len s.Holds := h0.2.2.2.2.1.1
 have hL : Len l.Holds := h1.1.1
 have hx : Len x := h2.1
 have hw := LoadW.ok h1
 have hat : 0 ≤ at_ ∧ at_ ≤ 255 := h3
 unfold law03_HullNarrow
 split
 ·rw [sanity3_true]; rfl
 ·rw [hNarrow_eq s l hl hw, Option.bind_some]
  unfold narrowR
  by_cases hk : chkL s l = 0
  ·have hg := GoodL.of hk
   have hnh := hg.ship.nh
   have ht := hg.tot
   have hal := hg.all
   have hk2 := n_chk hk
   have hLn : Len (narrowL l).Holds := by unfold Len; rw [nLen, hg.len]; omega
   have hwn : LoadW (narrowL l) := by
    unfold LoadW narrowL totLo totHi at *
    simp only
    constructor <;> exact w64_u (by omega)
   have hn2 : narrowR s (narrowL l) = (narrowL l, 0) := by unfold narrowR; rw [if_pos hk2, n_again hk]
   have hfit : fitB (narrowL l) x = fitB l x := by
    rw [Bool.eq_iff_iff, fitB_iff (GoodL.of hk2), fitB_iff hg]
    exact ⟨n_fit hg, fit_n hg⟩
   rw [if_pos hk]
   simp only [decide_true, Bool.not_true, Bool.false_eq_true, if_false]
   rw [hNarrow_eq s (narrowL l) hl hwn, Option.bind_some, hn2]
   simp only [decide_true, Bool.not_true, Bool.not_false, gb, if_true, Bool.false_or]
   rw [sameLoads_eq _ _ hLn, Option.bind_some]
   simp only [decide_true, Bool.not_true, Bool.not_false, if_true]
   rw [hFits_eq s l x hl hw hL hx, hFits_eq s (narrowL l) x hl hwn hLn hx, Option.bind_some, Option.bind_some, hfit, hk, hk2]
   simp only [decide_true, Bool.true_and, beq_self_eq_true, Bool.not_true, Bool.or_self, Bool.false_eq_true, if_false]
   by_cases hz : s.Holds.length = 0
   ·rw [if_pos (by simp [hz]), sanity3_true, Option.bind_some]
    have e0 : l.Holds = [] := List.length_eq_zero_iff.1 (by rw [hg.len]; exact hz)
    have e1 : loSum l.Holds = 0 := by rw [e0]; rfl
    have e2 : hiSum l.Holds = 0 := by rw [e0]; rfl
    have e3 : (narrowL l).All = ⟨0, 0⟩ := by
     show (⟨totLo l, totHi l⟩ : api_Span) = ⟨0, 0⟩
     rw [api_Span.mk.injEq]; omega
    rw [e3]; simp
   ·rw [if_neg (by simpa using hz)]
    obtain ⟨q, r1, r2, r3⟩ := rem_rng hat.1 (show at_ ≤ 65535 by omega) (show (1 : Int) ≤ (s.Holds.length : Int) by omega)
    obtain ⟨k, rfl⟩ : ∃ k : Nat, q = (k : Int) := ⟨q.toNat, by omega⟩
    have hks : k < s.Holds.length := by omega
    have hkl : k < l.Holds.length := by rw [hg.len]; exact hks
    rw [r1, Option.bind_some, mk_zero _ hnh, Option.bind_some, Option.bind_some]
    refine narrow_b4 _ (by rw [List.length_replicate]; exact hnh) ?_
    rw [List.length_replicate]
    obtain ⟨p1, a1, b1⟩ := most_unit hl hw hk hks (c := 1) (.inl rfl)
    obtain ⟨p2, a2, b2⟩ := most_all hl hw hk (c := 1) (.inl rfl)
    obtain ⟨p3, a3, b3⟩ := most_unit hl hw hk hks (c := -1) (.inr rfl)
    obtain ⟨p4, a4, b4⟩ := most_all hl hw hk (c := -1) (.inr rfl)
    unfold law03_HullNarrow_j1
    rw [ix_gI (show k < (List.replicate s.Holds.length (0 : Int)).length by simpa using hks), Option.bind_some, put_nat, a1, Option.bind_some, a2, Option.bind_some, ix_gI (show k < ((List.replicate s.Holds.length (0 : Int)).set k 1).length by simpa using hks), Option.bind_some]
    refine narrow_b3 _ (by rw [List.length_replicate]; exact hnh) ?_
    rw [List.length_replicate]
    unfold law03_HullNarrow_j2
    rw [put_nat, put_nat, List.set_set, a3, Option.bind_some, a4, Option.bind_some]
    simp only [decide_true, Bool.not_true, Bool.or_self, Bool.false_eq_true, if_false]
    rw [sanity3_true, Option.bind_some]
    simp only [gb, if_true]
    rw [ix_gS (show k < (narrowL l).Holds.length by rw [nLen]; exact hkl), Option.bind_some]
    rw [if_pos rfl] at b1 b2
    rw [if_neg (by decide)] at b3 b4
    obtain ⟨y, y1, y2⟩ := fit_lo hg hkl
    have hyb := y1.ins.g k hkl
    obtain ⟨z, z1, z2⟩ := fit_hi hg hkl
    have hzb := z1.ins.g k hkl
    have hsp := spans_mem hg.ship hg.len hg.spans _ (List.getElem_mem hkl)
    rw [← gS_get hkl] at hsp
    have ew3 : w64 (0 - p3.Value) = (gS (narrowL l).Holds k).Lo := by rw [b3, w64_u (by omega)]; omega
    have ew4 : w64 (0 - p4.Value) = totLo l := by rw [b4, w64_u (by omega)]; omega
    rw [ew3, ew4, b1, b2]
    simp [narrowL]
  ·rw [if_neg hk]
   simp only
   rw [if_pos (by simpa using hk), sanity3_true, Option.bind_some]
   simp only [gb, if_true]
   rw [hFits_eq s l x hl hw hL hx, Option.bind_some]
   simp [hk]
end Go.Mx
