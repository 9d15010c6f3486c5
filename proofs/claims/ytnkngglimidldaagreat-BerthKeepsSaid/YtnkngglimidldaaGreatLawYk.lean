/- Plain laws, berths: which ship has which slot; as many as can be. Conditions: none. -/
import Derived.Test.YtnkngglimidldaaGreatLawYi
set_option linter.unusedVariables false
set_option linter.unusedSimpArgs false
namespace Go.Mx
structure Mat (b : zK) (μ : Nat → Option Nat) : Prop where
 c : ∀ r k, μ r = some k → r < b.calls.length ∧ k < b.slots.length ∧ canB b r k = true
 i : ∀ r q k, μ r = some k → μ q = some k → r = q
def dom (b : zK) (μ : Nat → Option Nat) : List Nat := (List.range b.calls.length).filter fun r => (μ r).isSome
theorem zE4 (b : zK) (μ : Nat → Option Nat) : (dom b μ).Nodup := List.Nodup.sublist List.filter_sublist List.nodup_range
theorem qw {b : zK} {μ : Nat → Option Nat} {r : Nat} : r ∈ dom b μ ↔ r < b.calls.length ∧ (μ r).isSome = true := by unfold dom; rw [List.mem_filter, List.mem_range]
def muOf (b : zK) (s : Nat → Nat) : Nat → Option Nat := fun r => if r < b.calls.length ∧ s r < b.slots.length then some (s r) else none
def sOf (b : zK) (μ : Nat → Option Nat) : Nat → Nat := fun r => (μ r).getD (b.slots.length + r)
theorem zC6 {b : zK} {s : Nat → Nat} {r k : Nat} : muOf b s r = some k ↔ r < b.calls.length ∧ k < b.slots.length ∧ s r = k := by
 unfold muOf
 by_cases h : r < b.calls.length ∧ s r < b.slots.length
 ·rw [if_pos h]
  constructor
  ·intro e; cases e; exact ⟨h.1, h.2, rfl⟩
  ·rintro ⟨_, _, e⟩; rw [e]
 ·rw [if_neg h]
  constructor
  ·intro e; cases e
  ·rintro ⟨a, c, e⟩; exact absurd ⟨a, by rw [e]; exact c⟩ h
theorem zL1 {b : zK} {s : Nat → Nat} (h : AsgB b s) (hs : OkB b s) : Mat b (muOf b s) := by
 refine ⟨fun r k e => ?_, fun r q k e1 e2 => ?_⟩
 ·obtain ⟨h1, h2, rfl⟩ := zC6.1 e
  rcases hs r h1 with e | ⟨_, e⟩
  ·omega
  ·exact ⟨h1, h2, e⟩
 ·obtain ⟨h1, h2, h3⟩ := zC6.1 e1
  obtain ⟨h4, h5, h6⟩ := zC6.1 e2
  exact h.inj r q h1 h4 (by rw [h3, h6])
theorem zAm {b : zK} {μ : Nat → Option Nat} (h : Mat b μ) (r : Nat) : (μ r = none ∧ sOf b μ r = b.slots.length + r) ∨ ∃ k, μ r = some k ∧ sOf b μ r = k ∧ k < b.slots.length := by
 unfold sOf
 cases e : μ r with
 | none => exact .inl ⟨rfl, rfl⟩
 | some k => exact .inr ⟨k, rfl, rfl, (h.c r k e).2.1⟩
theorem zMb {b : zK} {μ : Nat → Option Nat} (h : Mat b μ) : AsgB b (sOf b μ) ∧ OkB b (sOf b μ) := by
 refine ⟨⟨fun r hr => ?_, fun r q hr hq e => ?_⟩, fun r hr => ?_⟩
 ·rcases zAm h r with ⟨_, e⟩ | ⟨k, _, e, hk⟩ <;> omega
 ·rcases zAm h r with ⟨a1, a2⟩ | ⟨k, a1, a2, a3⟩ <;> rcases zAm h q with ⟨c1, c2⟩ | ⟨m, c1, c2, c3⟩
  ·omega
  ·omega
  ·omega
  ·exact h.i r q k a1 (by rw [c1]; congr 1; omega)
 ·rcases zAm h r with ⟨a1, a2⟩ | ⟨k, a1, a2, a3⟩
  ·exact .inl a2
  ·exact .inr (by rw [a2]; exact ⟨a3, (h.c r k a1).2.2⟩)
theorem dom_sOf {b : zK} {μ : Nat → Option Nat} (h : Mat b μ) : dom b (muOf b (sOf b μ)) = dom b μ := by
 unfold dom
 refine List.filter_congr fun r hr => ?_
 rw [List.mem_range] at hr
 rcases zAm h r with ⟨a1, a2⟩ | ⟨k, a1, a2, a3⟩
 ·unfold muOf; rw [if_neg (by omega), a1]
 ·unfold muOf; rw [if_pos ⟨hr, by omega⟩, a1]; rfl
def zEf (b : zK) : Prop := ∀ r, r < b.calls.length → gI b.old r = -1
theorem zFu (f : Nat → Int) (p : Nat → Bool) : ∀ R : List Nat, (∀ r ∈ R, f r = if p r = true then -1000 else 0) → (R.map f).sum = -1000 * ((R.filter p).length : Int)
 | [], _ => by simp
 | a :: R, h => by
  have ih := zFu f p R fun r hr => h r (List.mem_cons_of_mem _ hr)
  rw [List.map_cons, List.sum_cons, ih, h a List.mem_cons_self, List.filter_cons]
  by_cases e : p a = true
  ·rw [if_pos e, if_pos e, List.length_cons]; omega
  ·rw [if_neg e, if_neg e]; omega
theorem zH1 {b : zK} (ho : zEf b) {s : Nat → Nat} (hs : OkB b s) : totB b [] s = -1000 * ((dom b (muOf b s)).length : Int) := by
 unfold totB dom
 refine zFu _ _ _ fun r hr => ?_
 rw [List.mem_range] at hr
 have := ho r hr
 have e0 : rowF b [] r (s r) = QZ b r (s r) := by unfold rowF; rw [if_neg (fun z : r < ([] : List Int).length ∧ _ => by simp at z)]
 rw [e0]
 rcases hs r hr with e | ⟨e1, e2⟩
 ·have e3 : muOf b s r = none := by unfold muOf; rw [if_neg (by omega)]
  have e4 : QZ b r (s r) = 0 := by unfold QZ; rw [if_pos e]
  rw [e3, e4]; rfl
 ·have e3 : muOf b s r = some (s r) := by unfold muOf; rw [if_pos ⟨hr, e1⟩]
  have e4 : QZ b r (s r) = -1000 := by unfold QZ; rw [if_neg (by omega), if_pos ⟨e1, e2⟩, if_neg (by omega)]
  rw [e3, e4]; rfl
structure MaxM (b : zK) (m : Nat) : Prop where
 e : ∃ μ, Mat b μ ∧ (dom b μ).length = m
 m : ∀ μ, Mat b μ → (dom b μ).length ≤ m
theorem MaxM.uniq {b : zK} {m n : Nat} (h : MaxM b m) (g : MaxM b n) : m = n := by
 obtain ⟨μ, a1, a2⟩ := h.e
 obtain ⟨ν, c1, c2⟩ := g.e
 have := h.m ν c1; have := g.m μ a1; omega
theorem zMW {b : zK} (hB : BOK b) (ho : zEf b) {out : List Int} {want : Int} (h : Best b [] out want) : MaxM b (dom b (muOf b (fun r => (gI out r).toNat))).length ∧ want = -1000 * ((dom b (muOf b (fun r => (gI out r).toNat))).length : Int) := by
 obtain ⟨w0, w1⟩ := zJZ hB h
 have e := zH1 ho w1
 refine ⟨⟨⟨_, zL1 h.a w1, rfl⟩, fun μ hμ => ?_⟩, by rw [h.e]; exact e⟩
 obtain ⟨a1, a2⟩ := zMb hμ
 have := h.m _ a1
 rw [h.e, e, zH1 ho a2, dom_sOf hμ] at this
 omega
theorem zHQ {out : List Int} {n : Nat} (h : out.length = n) : out = (List.range n).map (gI out) := zIL h fun _ _ => rfl
theorem zKb {b : zK} (hB : BOK b) (ho : zEf b) : ∃ (m : Nat) (out : List Int) (want : Int), Zn b [] = some (out, want) ∧ Best b [] out want ∧ Jg b = some (m : Int) ∧ MaxM b m ∧ want = -1000 * (m : Int) ∧ m = (dom b (muOf b (fun r => (gI out r).toNat))).length ∧ m ≤ b.calls.length := by
 have nc := hB.nc; have ns := hB.ns
 obtain ⟨out, want, b1, b2⟩ := zE6 hB (fixed := []) (by simp)
 obtain ⟨m1, m2⟩ := zMW hB ho b2
 have hl := b2.l
 have hle : (dom b (muOf b (fun r => (gI out r).toNat))).length ≤ b.calls.length := by
  unfold dom
  have := List.length_filter_le (fun r => (muOf b (fun r => (gI out r).toNat) r).isSome) (List.range b.calls.length)
  simpa using this
 have hc : (out.countP fun x => decide (x < (b.slots.length : Int))) = (dom b (muOf b (fun r => (gI out r).toNat))).length := by
  rw [zHQ hl, List.countP_map, dom, ← List.countP_eq_length_filter]
  rw [← zHQ hl]
  refine List.countP_congr fun r hr => ?_
  rw [List.mem_range] at hr
  have := b2.nn r hr
  simp only [Function.comp, muOf]
  by_cases e : gI out r < (b.slots.length : Int)
  ·rw [if_pos ⟨hr, by omega⟩]; simp [e]
  ·rw [if_neg (by omega)]; simp [e]
 refine ⟨_, out, want, b1, b2, ?_, m1, m2, rfl, hle⟩
 unfold Jg
 rw [b1, Option.bind_some, ← hc]
 refine (J3 out (by omega) (fun (n : Int) i => (n, i)) (fun n r => n + ((r.countP fun x => decide (x < (b.slots.length : Int)) : Nat) : Int)) (fun i n => 0 ≤ n ∧ n ≤ i) (a := 0) rfl ⟨Int.le_refl _, by omega⟩ (fun n i hi hJ => ?_) fun n _ => ?_).trans (by simp)
 ·left
  have hj : ∀ z, jL (i : Int) z = some (.inl (z, ((i + 1 : Nat) : Int))) := fun z => by unfold jL; rw [w64s' hi (by omega)]
  unfold yM
  simp only
  rw [if_pos (by simpa using hi), jO hi, Option.bind_some]
  by_cases e : out[i] < (b.slots.length : Int)
  ·rw [if_pos (by simpa using e), hj, ZO (by omega) (by omega)]
   refine ⟨_, rfl, ?_, by omega, by omega⟩
   rw [List.countP_cons_of_pos (by simpa using e)]; omega
  ·rw [if_neg (by simpa using e), hj]
   refine ⟨_, rfl, ?_, by omega, by omega⟩
   rw [List.countP_cons_of_neg (by simpa using e)]
 ·unfold yM JY
  simp only
  rw [if_neg (by simp)]
  simp
def muF (f : List Int) : Nat → Option Nat := fun r => if r < f.length ∧ 0 ≤ gI f r then some (gI f r).toNat else none
theorem zCT (b : zK) : ∀ (f : List Int) (i : Nat), (jq b i f).length = ((List.range f.length).filter fun r => (muF f r).isSome).length
 | [], i => rfl
 | a :: f, i => by
  rw [jq, List.length_append, zCT b f (i + 1), List.length_cons, List.range_succ_eq_map, List.filter_cons, List.filter_map]
  have e0 : (muF (a :: f) 0).isSome = decide (0 ≤ a) := by
   have eg : gI (a :: f) 0 = a := rfl
   unfold muF
   rw [eg]
   by_cases h : 0 ≤ a
   ·rw [if_pos ⟨by simp, h⟩]; simp [h]
   ·rw [if_neg (fun z => h z.2)]; simp [h]
  have e1 : ((fun r => (muF (a :: f) r).isSome) ∘ Nat.succ) = fun r => (muF f r).isSome := by
   funext r
   have eg : gI (a :: f) (r + 1) = gI f r := rfl
   simp only [Function.comp, muF, List.length_cons, Nat.succ_eq_add_one]
   rw [eg]
   by_cases h : r < f.length ∧ 0 ≤ gI f r
   ·rw [if_pos (show r + 1 < f.length + 1 ∧ _ from ⟨by omega, h.2⟩), if_pos h]
   ·rw [if_neg (fun z : r + 1 < f.length + 1 ∧ _ => h ⟨by omega, z.2⟩), if_neg h]
  rw [e0, e1]
  unfold zFC
  by_cases h : a < 0
  ·rw [if_pos h, if_neg (by simp; omega)]; simp
  ·rw [if_neg h, if_pos (by simp; omega)]; simp; omega
theorem zF8 {b : zK} {want : Int} {f : List Int} (h : zDO b want b.calls.length f) : ∃ s, AsgB b s ∧ OkB b s ∧ zGr b f s ∧ totB b [] s = want ∧ muOf b s = muF f ∧ Mat b (muF f) := by
 obtain ⟨s, q1, q2, q3, q4⟩ := h.c
 have hl := h.l
 have e : muOf b s = muF f := by
  funext r
  unfold muOf muF
  by_cases hr : r < b.calls.length
  ·have hs := q3 r (by omega)
   unfold fixK at hs
   rcases h.v r hr with w | ⟨k, w1, w2, w3⟩
   ·rw [if_pos (by omega)] at hs
    rw [if_neg (by omega), if_neg (by omega)]
   ·rw [if_neg (by omega)] at hs
    rw [if_pos ⟨hr, by omega⟩, if_pos ⟨by omega, by omega⟩]
    congr 1; omega
  ·rw [if_neg (fun z => hr z.1), if_neg (fun z => hr (by omega))]
 exact ⟨s, q1, q2, q3, q4, e, by rw [← e]; exact zL1 q1 q2⟩
theorem zLl {b : zK} (ho : zEf b) {m : Nat} {f : List Int} (h : zDO b (-1000 * (m : Int)) b.calls.length f) : (jq b 0 f).length = m ∧ (dom b (muF f)).length = m := by
 obtain ⟨s, q1, q2, q3, q4, q5, q6⟩ := zF8 h
 have e := zH1 ho q2
 rw [q4, q5] at e
 have e2 := zCT b f 0
 rw [h.l] at e2
 have e3 : (dom b (muF f)).length = ((List.range b.calls.length).filter fun r => (muF f r).isSome).length := rfl
 omega
theorem zGW (h : zL) (l : List zN) : zEf (Zz h l) := by
 intro r hr
 have hr' : r < l.length := hr
 rw [zBS (by simpa [Zz] using hr')]
 simp [Zz]
theorem zI7 {h : zL} {l : List zN} {r : Nat} (hr : r < l.length) : (Zz h l).can.getD r [] = yR h l[r] 0 h.Tides := by
 rw [getD_lt (by simpa [Zz] using hr)]; simp [Zz]
theorem Most_eq {h : zL} {l : List zN} (hh : LenH h) (hl : Len l) (ec : QH h l = 0) : ∃ m : Nat, Qu h l = some ((m : Int), 0) ∧ MaxM (Zz h l) m ∧ Jg (Zz h l) = some (m : Int) ∧ m ≤ l.length := by
 have hg := zCG.of hh ec
 obtain ⟨m, out, want, b1, b2, b3, b4, b5, b6, b7⟩ := zKb (zED hg) (zGW h l)
 refine ⟨m, ?_, b4, b3, b7⟩
 unfold Qu
 rw [yH h hh l hl, Option.bind_some, if_neg (by simp [ec]), zKd hg.h hg.n (fun c hc => zEg.of (hg.r c hc)), Option.bind_some, b3]; rfl
theorem Plan_eq {h : zL} {l : List zN} (hh : LenH h) (hl : Len l) (ec : QH h l = 0) : ∃ (m : Nat) (f : List Int), YE h l = some (jq (Zz h l) 0 f, 0) ∧ MaxM (Zz h l) m ∧ zDO (Zz h l) (-1000 * (m : Int)) l.length f := by
 have hg := zCG.of hh ec
 obtain ⟨m, out, want, b1, b2, b3, b4, b5, b6⟩ := zKb (zED hg) (zGW h l)
 obtain ⟨f, p1, p2⟩ := zKV (zED hg) b2 b1
 refine ⟨m, f, ?_, b4, by rw [← b5]; exact p1⟩
 unfold YE
 rw [yH h hh l hl, Option.bind_some, if_neg (by simp [ec]), zKd hg.h hg.n (fun c hc => zEg.of (hg.r c hc)), Option.bind_some, p2]; rfl
end Go.Mx
