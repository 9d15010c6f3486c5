/- BerthMost: the plain law. Conditions: none. -/
import Derived.Test.YtnkngglimidldaaGreatLawYn
import Derived.Test.YtnkngglimidldaaGreatLawBerthSan
set_option linter.unusedVariables false
set_option linter.unusedSimpArgs false
namespace Go.Mx
theorem zI1 {α : Type} {l : List α} (h : l.Nodup) {i j : Nat} (hi : i < l.length) (hj : j < l.length) (e : l[i] = l[j]) : i = j := by
 have g := List.pairwise_iff_getElem.1 (List.nodup_iff_pairwise_ne.1 h)
 rcases Nat.lt_trichotomy i j with c | c | c
 ·exact absurd e (g i j hi hj c)
 ·exact c
 ·exact absurd e.symm (g j i hj hi c)
def stB (b : zK) (f : List Int) (i r : Nat) : zP := ⟨(b.calls.getD (i + r) default).ID, b.slots.getD ((muF f r).getD 0) default, (ZH (b.slots.getD ((muF f r).getD 0) default) (b.can.getD (i + r) [])).getD ⟨0, 0⟩⟩
theorem zI3 (a : Int) (f : List Int) (r : Nat) : muF (a :: f) (r + 1) = muF f r := by
 have eg : gI (a :: f) (r + 1) = gI f r := rfl
 unfold muF
 rw [eg, List.length_cons]
 by_cases h : r < f.length ∧ 0 ≤ gI f r
 ·rw [if_pos (show r + 1 < f.length + 1 ∧ _ from ⟨by omega, h.2⟩), if_pos h]
 ·rw [if_neg (fun z : r + 1 < f.length + 1 ∧ _ => h ⟨by omega, z.2⟩), if_neg h]
theorem zEp (b : zK) : ∀ (f : List Int) (i : Nat), jq b i f = ((List.range f.length).filter fun r => (muF f r).isSome).map (stB b f i)
 | [], i => rfl
 | a :: f, i => by
  rw [jq, zEp b f (i + 1), List.length_cons, List.range_succ_eq_map, List.filter_cons, List.filter_map]
  have eg : gI (a :: f) 0 = a := rfl
  have e1 : ((fun r => (muF (a :: f) r).isSome) ∘ Nat.succ) = fun r => (muF f r).isSome := funext fun r => by simp only [Function.comp, Nat.succ_eq_add_one, zI3]
  have e2 : ∀ r, stB b (a :: f) i (r + 1) = stB b f (i + 1) r := fun r => by
   unfold stB
   rw [zI3, show i + (r + 1) = i + 1 + r by omega]
  have e3 : (((List.range f.length).filter fun r => (muF f r).isSome).map Nat.succ).map (stB b (a :: f) i) = ((List.range f.length).filter fun r => (muF f r).isSome).map (stB b f (i + 1)) := by
   rw [List.map_map]
   exact List.map_congr_left fun r _ => e2 r
  rw [e1]
  unfold zFC
  by_cases h : a < 0
  ·have e0 : muF (a :: f) 0 = none := by unfold muF; rw [eg, if_neg (by omega)]
   rw [if_pos h, e0, if_neg (by simp), e3]; rfl
  ·have e0 : muF (a :: f) 0 = some a.toNat := by unfold muF; rw [eg, if_pos ⟨by simp, by omega⟩]
   rw [if_neg h, e0, show (some a.toNat).isSome = true from rfl, if_pos rfl, List.map_cons, e3]
   unfold stB
   rw [e0]; rfl
theorem zGu {h : zL} {l : List zN} (hh : LenH h) (hl : Len l) (ec : QH h l = 0) {f : List Int} (hfl : f.length = l.length) (hM : Mat (Zz h l) (muF f)) : YQ h l (jq (Zz h l) 0 f) = some 0 := by
 have hg := zCG.of hh ec
 have hn := hg.n
 have hR : ∀ r, r ∈ ((List.range f.length).filter fun r => (muF f r).isSome) ↔ r < l.length ∧ ∃ k, muF f r = some k := fun r => by
  rw [List.mem_filter, List.mem_range, hfl]
  exact ⟨fun q => ⟨q.1, Option.isSome_iff_exists.1 q.2⟩, fun q => ⟨q.1, Option.isSome_iff_exists.2 q.2⟩⟩
 have hS : ((List.range f.length).filter fun r => (muF f r).isSome).Pairwise (· < ·) := List.Pairwise.sublist List.filter_sublist List.pairwise_lt_range
 unfold YQ
 rw [yH h hh l hl, Option.bind_some, if_neg (by simp [ec]), zEp]
 generalize ((List.range f.length).filter fun r => (muF f r).isSome) = R at hR hS
 have hRl : R.length ≤ l.length := by
  have := Q8 (l := R) (r := List.range l.length) (hS.imp fun h => by omega) fun r hr => List.mem_range.2 ((hR r).1 hr).1
  simpa using this
 have hsl := zAg hg.h h.Tides 0
 obtain ⟨⟨last, x, m⟩, ⟨rfl, _⟩, h3⟩ := qE (body := Jr h l (R.map (stB (Zz h l) f 0))) (X := fun s => Jq) (s0 := (-1, 0, []))
  (fun t s => s.2.1 = (t : Int) ∧ (∀ q (hq : q < R.length), t ≤ q → s.1 < (R[q] : Int)) ∧ ∀ y, (ZH y s.2.2).getD false = true → ∃ (q : Nat) (hq : q < R.length), q < t ∧ (stB (Zz h l) f 0 R[q]).Slot = y) R.length (by omega)
  ⟨rfl, fun q hq _ => by simp only; omega, fun y hy => by simp [ZH] at hy⟩
  (fun t s ht hI => by
   obtain ⟨last, x, m⟩ := s
   simp only at hI
   obtain ⟨rfl, h1, h2⟩ := hI
   obtain ⟨r1, k, r2⟩ := (hR R[t]).1 (List.getElem_mem ht)
   obtain ⟨-, k1, k2⟩ := hM.c _ k r2
   have hsm : (Zz h l).slots.getD k default ∈ Z6 h 0 h.Tides := by rw [getD_lt k1]; exact List.getElem_mem k1
   obtain ⟨j, hj, b, hb, q4⟩ := zDd.1 hsm
   rw [Nat.zero_add] at q4
   have hcan := k2
   unfold canB at hcan
   rw [q4, zI7 r1, zFJ hg.h hj hb] at hcan
   have hw : (qX h l[R[t]] h.Tides[j] b).2 = true := by
    by_cases c : (qX h l[R[t]] h.Tides[j] b).2 = true
    ·exact c
    ·rw [if_neg c] at hcan; cases hcan
   have est : stB (Zz h l) f 0 R[t] = ⟨l[R[t]].ID, ⟨(j : Int), b.ID⟩, (qX h l[R[t]] h.Tides[j] b).1⟩ := by
    unfold stB
    rw [r2, Option.getD_some, q4, Nat.zero_add, zI7 r1, zFJ hg.h hj hb, if_pos hw, show (Zz h l).calls = l from rfl, getD_lt r1]; rfl
   have gc := zEg.of (hg.r _ (List.getElem_mem r1))
   unfold Jr
   simp only
   rw [if_pos (by simpa using ht), jO (by simpa using ht), Option.bind_some]
   simp only [List.getElem_map]
   rw [est]
   simp only
   rw [zHj l hl, zMF hg.d r1, Option.bind_some, slot_eq hg.h hb hj, Option.bind_some]
   have hlast := h1 t ht (Nat.le_refl _)
   have hseen : (ZH (⟨(j : Int), b.ID⟩ : zF) m).getD false = false := by
    cases e : (ZH (⟨(j : Int), b.ID⟩ : zF) m).getD false with
    | false => rfl
    | true =>
     exfalso
     obtain ⟨q, hq, hqt, e2⟩ := h2 _ e
     obtain ⟨s1, k', s2⟩ := (hR R[q]).1 (List.getElem_mem hq)
     obtain ⟨-, k3, -⟩ := hM.c _ k' s2
     have e3 : (Zz h l).slots.getD k' default = (Zz h l).slots.getD k default := by
      rw [q4, ← e2]
      unfold stB
      rw [s2]; rfl
     rw [getD_lt k3, getD_lt k1] at e3
     have e4 : k' = k := zI1 hsl k3 k1 e3
     have e5 := hM.i _ _ k (by rw [← e4]; exact s2) r2
     have := List.pairwise_iff_getElem.1 hS q t hq ht hqt
     omega
   rw [hseen, if_neg (by simp; omega), jO r1, Option.bind_some, zKN (t := h.Tides[j]) hg.h (by rw [jO hj]) hb gc.d0 gc.d1 gc.f0 gc.l0 gc.l1, Option.bind_some, if_neg (by simp [hw])]
   refine ⟨_, rfl, by simp only; rw [ZO (by omega) (by omega)]; rfl, fun q hq hqt => ?_, fun y hy => ?_⟩
   ·have := List.pairwise_iff_getElem.1 hS t q ht hq (by omega)
    simp only; omega
   ·simp only at hy
    rw [zHZ] at hy
    by_cases c : y = ⟨(j : Int), b.ID⟩
    ·exact ⟨t, ht, by omega, by rw [est]; exact c.symm⟩
    ·rw [if_neg c] at hy
     obtain ⟨q, hq, hqt, e⟩ := h2 y hy
     exact ⟨q, hq, by omega, e⟩)
  (fun s hI => by
   obtain ⟨last, x, m⟩ := s
   simp only at hI
   obtain ⟨rfl, _⟩ := hI
   unfold Jr
   simp only
   rw [if_neg (by simp)])
 rw [h3]; rfl
end Go.Mx
