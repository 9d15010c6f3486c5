/- Plain laws, berths: costs with old slots that are kept. Conditions: none. -/
import Derived.Test.YtnkngglimidldaaGreatLawYr
set_option linter.unusedVariables false
set_option linter.unusedSimpArgs false
namespace Go.Mx
def kpB (b : zK) (μ : Nat → Option Nat) (r : Nat) : Bool := match μ r with | some k => decide (gI b.old r = (k : Int)) | none => false
def zBC (b : zK) (μ : Nat → Option Nat) : Nat := ((List.range b.calls.length).filter (kpB b μ)).length
theorem zKP (f : Nat → Int) (p q : Nat → Bool) : ∀ R : List Nat, (∀ r ∈ R, q r = true → p r = true) → (∀ r ∈ R, f r = if p r = true then (if q r = true then -1001 else -1000) else 0) → (R.map f).sum = -1000 * ((R.filter p).length : Int) - ((R.filter q).length : Int)
 | [], _, _ => by simp
 | a :: R, h0, h => by
  have ih := zKP f p q R (fun r hr => h0 r (List.mem_cons_of_mem _ hr)) fun r hr => h r (List.mem_cons_of_mem _ hr)
  have ha := h0 a List.mem_cons_self
  rw [List.map_cons, List.sum_cons, ih, h a List.mem_cons_self, List.filter_cons, List.filter_cons]
  by_cases e : p a = true
  ·by_cases e2 : q a = true
   ·rw [if_pos e, if_pos e2, if_pos e, if_pos e2, List.length_cons, List.length_cons]; omega
   ·rw [if_pos e, if_neg e2, if_pos e, if_neg e2, List.length_cons]; omega
  ·have e2 : ¬ q a = true := fun z => e (ha z)
   rw [if_neg e, if_neg e, if_neg e2]; omega
theorem zIg {b : zK} {s : Nat → Nat} (hs : OkB b s) : totB b [] s = -1000 * ((dom b (muOf b s)).length : Int) - (zBC b (muOf b s) : Int) := by
 unfold totB dom zBC
 refine zKP _ _ _ _ (fun r _ hr => ?_) fun r hr => ?_
 ·unfold kpB at hr
  cases h : muOf b s r with
  | none => rw [h] at hr; cases hr
  | some k => rfl
 ·rw [List.mem_range] at hr
  have e0 : rowF b [] r (s r) = QZ b r (s r) := by unfold rowF; rw [if_neg (fun z : r < ([] : List Int).length ∧ _ => by simp at z)]
  rw [e0]
  rcases hs r hr with e | ⟨e1, e2⟩
  ·have e3 : muOf b s r = none := by unfold muOf; rw [if_neg (by omega)]
   have e4 : QZ b r (s r) = 0 := by unfold QZ; rw [if_pos e]
   unfold kpB
   rw [e3, e4]; rfl
  ·have e3 : muOf b s r = some (s r) := by unfold muOf; rw [if_pos ⟨hr, e1⟩]
   unfold kpB QZ
   rw [e3, if_neg (by omega), if_pos ⟨e1, e2⟩]
   by_cases c : gI b.old r = (s r : Int)
   ·rw [if_pos c]; simp [c]
   ·rw [if_neg c]; simp [c]
theorem zI9 (b : zK) (μ : Nat → Option Nat) : zBC b μ ≤ (dom b μ).length := by
 unfold zBC dom
 have h : ∀ R : List Nat, (R.filter (kpB b μ)).length ≤ (R.filter fun r => (μ r).isSome).length := fun R => by
  induction R with
  | nil => exact Nat.le_refl _
  | cons a R ih =>
   rw [List.filter_cons, List.filter_cons]
   by_cases e : kpB b μ a = true
   ·have e2 : (μ a).isSome = true := by
     unfold kpB at e
     cases h : μ a with
     | none => rw [h] at e; cases e
     | some k => rfl
    rw [if_pos e, if_pos e2, List.length_cons, List.length_cons]; omega
   ·rw [if_neg e]
    split
    ·rw [List.length_cons]; omega
    ·exact ih
 exact h _
structure Like (b c : zK) : Prop where
 calls : b.calls = c.calls
 slots : b.slots = c.slots
 can : b.can = c.can
theorem Like.canB {b c : zK} (h : Like b c) (i k : Nat) : canB b i k = canB c i k := by unfold Go.Mx.canB; rw [h.slots, h.can]
theorem Like.mat {b c : zK} (h : Like b c) {μ : Nat → Option Nat} (m : Mat b μ) : Mat c μ := ⟨fun r k e => by have := m.c r k e; rw [h.canB, h.calls, h.slots] at this; exact this, m.i⟩
theorem Like.symm {b c : zK} (h : Like b c) : Like c b := ⟨h.calls.symm, h.slots.symm, h.can.symm⟩
theorem Like.dom {b c : zK} (h : Like b c) (μ : Nat → Option Nat) : dom b μ = dom c μ := by unfold Go.Mx.dom; rw [h.calls]
theorem Like.jq {b c : zK} (h : Like b c) : ∀ (f : List Int) (i : Nat), jq b i f = jq c i f
 | [], i => rfl
 | a :: f, i => by
  unfold Go.Mx.jq zFC
  rw [h.calls, h.slots, h.can, Like.jq h f (i + 1)]
theorem Like.max {b c : zK} (h : Like b c) {m : Nat} (hm : MaxM b m) : MaxM c m := by
 obtain ⟨μ, m1, m2⟩ := hm.e
 exact ⟨⟨μ, h.mat m1, by rw [← h.dom]; exact m2⟩, fun ν hν => by rw [← h.dom]; exact hm.m ν (h.symm.mat hν)⟩
structure VF (b : zK) (m : Nat) (f : List Int) : Prop where
 l : f.length = b.calls.length
 v : ∀ r, r < b.calls.length → gI f r = -1 ∨ ∃ k : Nat, gI f r = (k : Int) ∧ k < b.slots.length ∧ canB b r k = true
 mat : Mat b (muF f)
 n : (dom b (muF f)).length = m
theorem Like.vf {b c : zK} (h : Like b c) {m : Nat} {f : List Int} (v : VF b m f) : VF c m f := by
 refine ⟨by rw [← h.calls]; exact v.l, fun r hr => ?_, h.mat v.mat, by rw [← h.dom]; exact v.n⟩
 rcases v.v r (by rw [h.calls]; exact hr) with e | ⟨k, e1, e2, e3⟩
 ·exact .inl e
 ·exact .inr ⟨k, e1, by rw [← h.slots]; exact e2, by rw [← h.canB]; exact e3⟩
theorem zHO {b : zK} (hB : BOK b) {m : Nat} (hm : MaxM b m) : ∃ f, jG b = some (jq b 0 f) ∧ VF b m f ∧ ∀ g, VF b m g → zBC b (muF g) ≤ zBC b (muF f) := by
 obtain ⟨out, want, h1, h2⟩ := zE6 hB (fixed := []) (by simp)
 obtain ⟨f, p1, p2⟩ := zKV hB h2 h1
 obtain ⟨s, q1, q2, q3, q4, q5, q6⟩ := zF8 p1
 have nc := hB.nc
 have ht := zIg q2
 rw [q4, q5] at ht
 have hle : ∀ {μ : Nat → Option Nat}, Mat b μ → want ≤ -1000 * ((dom b μ).length : Int) - (zBC b μ : Int) := fun {μ} hμ => by
  obtain ⟨a1, a2⟩ := zMb hμ
  have := h2.m _ a1
  rw [zIg a2] at this
  have e : muOf b (sOf b μ) = μ := by
   funext r
   rcases zAm hμ r with ⟨e1, e2⟩ | ⟨k, e1, e2, e3⟩
   ·rw [e1]
    unfold muOf
    rw [if_neg (by omega)]
   ·rw [e1]
    exact zC6.2 ⟨(hμ.c r k e1).1, e3, e2⟩
  rw [e] at this
  exact this
 have hk := zI9 b (muF f)
 have hd : (dom b (muF f)).length = m := by
  obtain ⟨μ, m1, m2⟩ := hm.e
  have g1 := hle m1
  have g2 := hm.m _ q6
  have g3 : (dom b (muF f)).length ≤ b.calls.length := by
   have := List.length_filter_le (fun r => (muF f r).isSome) (List.range b.calls.length)
   rw [List.length_range] at this
   exact this
  omega
 exact ⟨f, p2, ⟨p1.l, p1.v, q6, hd⟩, fun g hg => by
  have g1 := hle hg.mat
  have g2 := hg.n
  omega⟩
theorem vf_eq {b : zK} {m : Nat} {f g : List Int} (hf : VF b m f) (hg : VF b m g) (h : ∀ r k, muF g r = some k → muF f r = some k) : g = f := by
 have hsub : ∀ r ∈ dom b (muF g), r ∈ dom b (muF f) := fun r hr => by
  obtain ⟨h1, h2⟩ := qw.1 hr
  obtain ⟨k, hk⟩ := Option.isSome_iff_exists.1 h2
  exact qw.2 ⟨h1, by rw [h r k hk]; rfl⟩
 have hback : ∀ r ∈ dom b (muF f), r ∈ dom b (muF g) := fun r hr => by
  cases hd : decide (r ∈ dom b (muF g)) with
  | true => simpa using hd
  | false =>
   have hn : r ∉ dom b (muF g) := by simpa using hd
   have := Q8 (l := r :: dom b (muF g)) (r := dom b (muF f)) (List.nodup_cons.2 ⟨hn, zE4 b _⟩) fun x hx => by
    rcases List.mem_cons.1 hx with rfl | hx
    ·exact hr
    ·exact hsub x hx
   rw [List.length_cons, hf.n, hg.n] at this
   omega
 refine List.ext_getElem (by rw [hf.l, hg.l]) fun r h1 h2 => ?_
 have hr : r < b.calls.length := by rw [← hf.l]; exact h2
 rw [← zBS h1, ← zBS h2]
 have val : ∀ {e : List Int} {k : Nat}, e.length = b.calls.length → gI e r = (k : Int) → muF e r = some k := fun {e k} el ek => by
  unfold muF
  rw [if_pos ⟨by omega, by omega⟩]
  congr 1; omega
 have non : ∀ {e : List Int}, gI e r = -1 → muF e r = none := fun {e} ek => by
  unfold muF
  rw [if_neg (by omega)]
 rcases hg.v r hr with e | ⟨k, e1, _, _⟩
 ·rcases hf.v r hr with e' | ⟨k', e1', _, _⟩
  ·rw [e, e']
  ·have := hback r (qw.2 ⟨hr, by rw [val hf.l e1']; rfl⟩)
   have := (qw.1 this).2
   rw [non e] at this; cases this
 ·have := h r k (val hg.l e1)
  rcases hf.v r hr with e' | ⟨k', e1', _, _⟩
  ·rw [non e'] at this; cases this
  ·rw [val hf.l e1'] at this
   have := Option.some.inj this
   omega
theorem zK3 {b : zK} (hB : BOK b) {m : Nat} (hm : MaxM b m) {f : List Int} (hf : VF b m f) (ho : ∀ r k, muF f r = some k → gI b.old r = (k : Int)) (hn : ∀ r, r < b.calls.length → muF f r = none → gI b.old r = -1) : jG b = some (jq b 0 f) := by
 obtain ⟨g, p1, p2, p3⟩ := zHO hB hm
 have h1 : zBC b (muF f) = m := by
  rw [← hf.n]
  unfold zBC dom
  congr 1
  refine List.filter_congr fun r _ => ?_
  unfold kpB
  cases h : muF f r with
  | none => rfl
  | some k => simp [ho r k h]
 have h2 := p3 f hf
 have h3 := zI9 b (muF g)
 rw [p2.n] at h3
 have h4 : zBC b (muF g) = (dom b (muF g)).length := by rw [p2.n]; omega
 -- so all of its ships keep theirs
 have all : ∀ r k, muF g r = some k → gI b.old r = (k : Int) := by
  intro r k hk
  have hr := (p2.mat.c r k hk).1
  cases hd : kpB b (muF g) r with
  | true =>
   unfold kpB at hd
   rw [hk] at hd
   simpa using hd
  | false =>
   exfalso
   have : zBC b (muF g) < (dom b (muF g)).length := by
    have := Q8 (l := r :: ((List.range b.calls.length).filter (kpB b (muF g)))) (r := dom b (muF g)) (List.nodup_cons.2 ⟨fun q => (by rw [List.mem_filter, hd] at q; cases q.2), List.Nodup.sublist List.filter_sublist List.nodup_range⟩) fun x hx => by
     rcases List.mem_cons.1 hx with rfl | hx
     ·exact qw.2 ⟨hr, by rw [hk]; rfl⟩
     ·obtain ⟨q1, q2⟩ := List.mem_filter.1 hx
      refine qw.2 ⟨List.mem_range.1 q1, ?_⟩
      unfold kpB at q2
      cases h : muF g x with
      | none => rw [h] at q2; cases q2
      | some k => rfl
    rw [List.length_cons] at this
    unfold zBC
    omega
   omega
 have : g = f := vf_eq hf p2 fun r k hk => by
  have hr := (p2.mat.c r k hk).1
  have := all r k hk
  cases h : muF f r with
  | none => have := hn r hr h; omega
  | some k' => have := ho r k' h; congr 1; omega
 rw [p1, this]
end Go.Mx
