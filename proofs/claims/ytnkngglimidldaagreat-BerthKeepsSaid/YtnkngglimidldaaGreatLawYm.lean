/- Plain laws, berths: how many are left over. Conditions: none. -/
import Derived.Test.YtnkngglimidldaaGreatLawYl
set_option linter.unusedVariables false
set_option linter.unusedSimpArgs false
namespace Go.Mx
theorem zFl (m : List (Int × Bool)) (i r : Nat) : inM (putM posI m (i : Int) true) r = (decide (r = i) || inM m r) := by
 unfold inM
 rw [zHZ]
 by_cases e : r = i
 ·rw [if_pos (by omega)]; simp [e]
 ·rw [if_neg (by omega)]; simp [e]
structure AltI (b : zK) (μ0 : Nat → Option Nat) (m0 : Nat) (m : List (Int × Bool)) : Prop where
 u : ∀ i, i < b.calls.length → μ0 i = none → inM m i = true
 a : ∀ s, s < b.calls.length → inM m s = true → ∃ μ, Mat b μ ∧ m0 ≤ (dom b μ).length ∧ μ s = none ∧ (∀ r, inM m r = false → μ r = μ0 r) ∧ ∀ r k, μ r = some k → ∃ q, μ0 q = some k
theorem mat_put {b : zK} {μ : Nat → Option Nat} (h : Mat b μ) {j k : Nat} (hj : j < b.calls.length) (hk : k < b.slots.length) (hc : canB b j k = true) (hf : ∀ r, μ r = some k → r = j) : Mat b (fun r => if r = j then some k else μ r) := by
 refine ⟨fun r q e => ?_, fun r q x e1 e2 => ?_⟩
 ·by_cases c : r = j
  ·rw [if_pos c] at e; cases e; rw [c]; exact ⟨hj, hk, hc⟩
  ·rw [if_neg c] at e; exact h.c r q e
 ·by_cases c : r = j
  ·by_cases d : q = j
   ·rw [c, d]
   ·rw [if_pos c] at e1; rw [if_neg d] at e2
    cases e1
    exact absurd (hf q e2) d
  ·rw [if_neg c] at e1
   by_cases d : q = j
   ·rw [if_pos d] at e2
    cases e2
    exact absurd (hf r e1) c
   ·rw [if_neg d] at e2
    exact h.i r q x e1 e2
theorem mat_cut {b : zK} {μ : Nat → Option Nat} (h : Mat b μ) (i : Nat) : Mat b (fun r => if r = i then none else μ r) := by
 refine ⟨fun r q e => ?_, fun r q x e1 e2 => ?_⟩
 ·by_cases c : r = i
  ·rw [if_pos c] at e; cases e
  ·rw [if_neg c] at e; exact h.c r q e
 ·by_cases c : r = i
  ·rw [if_pos c] at e1; cases e1
  ·by_cases d : q = i
   ·rw [if_pos d] at e2; cases e2
   ·rw [if_neg c] at e1; rw [if_neg d] at e2; exact h.i r q x e1 e2
theorem dom_put {b : zK} {μ : Nat → Option Nat} {j k : Nat} (hj : j < b.calls.length) (h0 : μ j = none) : (dom b μ).length + 1 ≤ (dom b (fun r => if r = j then some k else μ r)).length :=
 Q8 (l := j :: dom b μ) (List.nodup_cons.2 ⟨fun q => (by rw [qw, h0] at q; cases q.2), zE4 b μ⟩) fun x hx => by
  rw [qw]
  rcases List.mem_cons.1 hx with rfl | hx
  ·exact ⟨hj, by rw [if_pos rfl]; rfl⟩
  ·rw [qw] at hx
   refine ⟨hx.1, ?_⟩
   split
   ·rfl
   ·exact hx.2
theorem dom_cut {b : zK} {μ : Nat → Option Nat} (i : Nat) : (dom b μ).length ≤ (dom b (fun r => if r = i then none else μ r)).length + 1 :=
 Q8 (l := dom b μ) (r := i :: dom b (fun r => if r = i then none else μ r)) (zE4 b μ) fun x hx => by
  by_cases c : x = i
  ·rw [c]; exact List.mem_cons_self
  ·refine List.mem_cons_of_mem _ ?_
   rw [qw] at hx ⊢
   exact ⟨hx.1, by rw [if_neg c]; exact hx.2⟩
theorem AltI.put {b : zK} {μ0 : Nat → Option Nat} {m0 : Nat} {m : List (Int × Bool)} (hM : Mat b μ0) (h : AltI b μ0 m0 m) {i j k : Nat} (hi : μ0 i = some k) (hj : j < b.calls.length) (hjm : inM m j = true) (hc : canB b j k = true) : AltI b μ0 m0 (putM posI m (i : Int) true) := by
 obtain ⟨i1, i2, i3⟩ := hM.c i k hi
 by_cases e : inM m i = true
 ·have es : ∀ r, inM (putM posI m (i : Int) true) r = inM m r := fun r => by
   rw [zFl]
   by_cases c : r = i
   ·rw [c, e]; simp
   ·simp [c]
  refine ⟨fun r hr h0 => by rw [es]; exact h.u r hr h0, fun s hs hs2 => ?_⟩
  rw [es] at hs2
  obtain ⟨μ, a1, a2, a3, a4, a5⟩ := h.a s hs hs2
  exact ⟨μ, a1, a2, a3, fun r hr => a4 r (by rw [← es]; exact hr), a5⟩
 ·have e' : inM m i = false := by simpa using e
  refine ⟨fun r hr h0 => by rw [zFl, h.u r hr h0]; simp, fun s hs hs2 => ?_⟩
  rw [zFl] at hs2
  have hout : ∀ r, inM (putM posI m (i : Int) true) r = false → r ≠ i ∧ inM m r = false := fun r hr => by
   rw [zFl] at hr
   simpa using hr
  by_cases c : s = i
  ·subst c
   obtain ⟨μ, a1, a2, a3, a4, a5⟩ := h.a j hj hjm
   have hji : j ≠ s := fun q => by rw [q, e'] at hjm; cases hjm
   have hμi : μ s = some k := by rw [a4 s e']; exact hi
   have b1 := mat_cut a1 s
   have b2 := mat_put b1 hj i2 hc (fun r hr => by
    by_cases d : r = s
    ·rw [if_pos d] at hr; cases hr
    ·rw [if_neg d] at hr; exact absurd (a1.i r s k hr hμi) d)
   have b3 := dom_cut (b := b) (μ := μ) s
   have b4 := dom_put (b := b) (μ := fun r => if r = s then none else μ r) (j := j) (k := k) hj (by rw [if_neg hji]; exact a3)
   refine ⟨_, b2, by omega, by show (if s = j then some k else if s = s then none else μ s) = none; rw [if_neg (fun q => hji q.symm), if_pos rfl], fun r hr => ?_, fun r q hr => ?_⟩
   ·obtain ⟨r1, r2⟩ := hout r hr
    show (if r = j then some k else if r = s then none else μ r) = μ0 r
    rw [if_neg (fun q => by rw [q, hjm] at r2; cases r2), if_neg r1]
    exact a4 r r2
   ·replace hr : (if r = j then some k else if r = s then none else μ r) = some q := hr
    by_cases d : r = j
    ·rw [if_pos d] at hr; cases hr; exact ⟨s, hi⟩
    ·rw [if_neg d] at hr
     by_cases f : r = s
     ·rw [if_pos f] at hr; cases hr
     ·rw [if_neg f] at hr; exact a5 r q hr
  ·have hs3 : inM m s = true := by simpa [c] using hs2
   obtain ⟨μ, a1, a2, a3, a4, a5⟩ := h.a s hs hs3
   exact ⟨μ, a1, a2, a3, fun r hr => a4 r (hout r hr).2, a5⟩
end Go.Mx
