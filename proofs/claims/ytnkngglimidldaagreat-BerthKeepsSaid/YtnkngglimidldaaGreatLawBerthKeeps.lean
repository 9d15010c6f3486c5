/- BerthKeeps: the plain law. Conditions: none. -/
import Derived.Test.YtnkngglimidldaaGreatLawYs
import Derived.Test.YtnkngglimidldaaGreatLawBerthSan
set_option linter.unusedVariables false
set_option linter.unusedSimpArgs false
namespace Go.Mx
theorem zL2 (h : zL) (l : List zN) (old : List zP) : Like (Zz h l) (qK h l old) := ⟨rfl, rfl, rfl⟩
theorem zEL {α : Type} [DecidableEq α] {l : List α} (h : l.Nodup) {k : Nat} (hk : k < l.length) {x : α} : Yf (fun y => decide (x = y)) l 0 = (k : Int) ↔ x = l[k] := by
 rcases Q0 (fun y => decide (x = y)) l 0 with ⟨h1, h2⟩ | ⟨i, h1, h2, h3, h4⟩
 ·rw [show (0 : Int) = ((0 : Nat) : Int) from rfl, h1]
  constructor
  ·intro e; omega
  ·intro e
   have := h2 l[k] (List.getElem_mem hk)
   simp [e] at this
 ·rw [show (0 : Int) = ((0 : Nat) : Int) from rfl, h1, Nat.zero_add]
  have h3' : x = l[i] := by simpa using h3
  constructor
  ·intro e
   have e : i = k := by omega
   subst e; exact h3'
  ·intro e
   rw [h3'] at e
   rw [zI1 h h2 hk e]
theorem zLx {h : zL} {l : List zN} (old : List zP) {r : Nat} (hr : r < l.length) : gI (qK h l old).old r = zAv (Z6 h 0 h.Tides) old l[r].ID := by
 unfold qK
 rw [zBS (by simpa using hr)]
 simp
theorem zHl {h : zL} {l : List zN} (hg : zCG h l) {m : Nat} {e : List Int} (hv : VF (Zz h l) m e) {r : Nat} (hr : r < l.length) : (jq (Zz h l) 0 e).find? (fun s => decide (s.Call = l[r].ID)) = (muF e r).map fun _ => stB (Zz h l) e 0 r := by
 have hcall : ∀ q (hq : q < l.length), (stB (Zz h l) e 0 q).Call = l[q].ID := fun q hq => by
  unfold stB
  rw [Nat.zero_add, show (Zz h l).calls = l from rfl, getD_lt hq]
 have hel : e.length = l.length := hv.l
 have huniq : ∀ q (hq : q < l.length), l[q].ID = l[r].ID → q = r := fun q hq he => by
  rcases Nat.lt_trichotomy q r with w | w | w
  ·exact absurd he (List.pairwise_iff_getElem.1 hg.d q r hq hr w)
  ·exact w
  ·exact absurd he.symm (List.pairwise_iff_getElem.1 hg.d r q hr hq w)
 have hmem : ∀ x, x ∈ jq (Zz h l) 0 e ↔ ∃ q, q < l.length ∧ (muF e q).isSome = true ∧ stB (Zz h l) e 0 q = x := fun x => by
  rw [zEp, List.mem_map]
  constructor
  ·rintro ⟨q, hq, rfl⟩
   obtain ⟨h1, h2⟩ := List.mem_filter.1 hq
   exact ⟨q, by rw [← hel]; exact List.mem_range.1 h1, h2, rfl⟩
  ·rintro ⟨q, h1, h2, rfl⟩
   exact ⟨q, List.mem_filter.2 ⟨List.mem_range.2 (by rw [hel]; exact h1), h2⟩, rfl⟩
 cases hf : (jq (Zz h l) 0 e).find? (fun s => decide (s.Call = l[r].ID)) with
 | none =>
  cases hm : muF e r with
  | none => rfl
  | some k =>
   have := List.find?_eq_none.1 hf _ ((hmem _).2 ⟨r, hr, by rw [hm]; rfl, rfl⟩)
   rw [hcall r hr] at this
   simp at this
 | some x =>
  obtain ⟨q, h1, h2, rfl⟩ := (hmem x).1 (List.mem_of_find?_eq_some hf)
  have h3 := List.find?_some hf
  rw [decide_eq_true_eq, hcall q h1] at h3
  have := huniq q h1 h3
  subst this
  obtain ⟨k, hk⟩ := Option.isSome_iff_exists.1 h2
  rw [hk]; rfl
theorem zIl {h : zL} {l : List zN} {e : List Int} {r k : Nat} (hk : muF e r = some k) (hl : k < (Z6 h 0 h.Tides).length) : (stB (Zz h l) e 0 r).Slot = (Z6 h 0 h.Tides)[k] := by
 unfold stB
 rw [hk, Option.getD_some, show (Zz h l).slots = Z6 h 0 h.Tides from rfl, getD_lt hl]
theorem zFW {h : zL} {l : List zN} (hh : LenH h) (hl : Len l) (ec : QH h l = 0) {m : Nat} (hm : MaxM (Zz h l) m) {e : List Int} (hv : VF (Zz h l) m e) : JG h l (jq (Zz h l) 0 e) = some (jq (Zz h l) 0 e, 0) := by
 have hg := zCG.of hh ec
 have hn := hg.n
 have hlk := zL2 h l (jq (Zz h l) 0 e)
 have hnd := zAg hg.h h.Tides 0
 have hel : e.length = l.length := hv.l
 have hat : ∀ r, r < l.length → gI (qK h l (jq (Zz h l) 0 e)).old r = match muF e r with | some k => (k : Int) | none => -1 := fun r hr => by
  rw [zLx _ hr]
  unfold zAv
  rw [zHl hg hv hr]
  cases hk : muF e r with
  | none => rfl
  | some k =>
   have hkl := (hv.mat.c r k hk).2.1
   exact (zEL hnd hkl).2 (zIl hk hkl)
 have := zK3 (zHu hg (jq (Zz h l) 0 e)) (hlk.max hm) (hlk.vf hv) (fun r k hk => by
  rw [hat r (hv.mat.c r k hk).1, hk]) (fun r hr hk => by rw [hat r hr, hk])
 rw [← hlk.jq] at this
 exact zHz hh hl ec (by have := zAo (Zz h l) e 0; omega) this
theorem zCx (a : List zP) (ha : a.length ≤ 4000) : Ju a a = some true := by
 unfold Ju
 rw [if_neg (by simp)]
 obtain ⟨r, h1, h2⟩ := lp_inv' (body := yw a a) (s0 := 0) (fun i s => s = (i : Int)) (fun r => r = true) a.length (by omega) rfl fun i s hi hI => by
  subst hI
  unfold yw
  simp only
  by_cases e : i < a.length
  ·rw [if_pos (by simpa using e), jO e, Option.bind_some, Option.bind_some, if_neg (by simp)]
   exact .inl ⟨e, _, rfl, w64s' e (by omega)⟩
  ·rw [if_neg (by simpa using e)]
   exact .inr ⟨_, rfl, rfl⟩
 rw [h1, h2]
theorem zHr (p q : Nat → Bool) : ∀ R : List Nat, (∀ r ∈ R, q r = true → p r = true) → (R.filter fun r => p r && !q r).length + (R.filter q).length = (R.filter p).length
 | [], _ => rfl
 | a :: R, h => by
  have ih := zHr p q R fun r hr => h r (List.mem_cons_of_mem _ hr)
  have ha := h a List.mem_cons_self
  rw [List.filter_cons, List.filter_cons, List.filter_cons]
  cases hq : q a with
  | true =>
   rw [ha hq]
   simp only [Bool.not_true, Bool.and_false, Bool.false_eq_true, if_false, if_true, List.length_cons]
   omega
  | false =>
   cases hp : p a with
   | true =>
    simp only [Bool.not_false, Bool.and_self, Bool.false_eq_true, if_false, if_true, List.length_cons]
    omega
   | false =>
    simp only [Bool.false_and, Bool.false_eq_true, if_false]
    exact ih
theorem zLL (l : List zN) (p : zN → Bool) : (l.filter p).length = ((List.range l.length).filter fun r => p (l.getD r default)).length := by
 have e : l = (List.range l.length).map fun r => l.getD r default := by
  refine List.ext_getElem (by simp) fun r h1 h2 => ?_
  simp [h1]
 have e2 : l.filter p = ((List.range l.length).filter fun r => p (l.getD r default)).map fun r => l.getD r default := by
  conv => lhs; rw [e]
  rw [List.filter_map]; rfl
 rw [e2, List.length_map]
theorem zEW {h : zL} {l : List zN} (hg : zCG h l) (old : List zP) (ho : old.length ≤ 10) {m : Nat} {e : List Int} (hv : VF (Zz h l) m e) : ∃ n : Nat, yC l old (jq (Zz h l) 0 e) = some (n : Int) ∧ n + zBC (qK h l old) (muF e) = ((List.range l.length).filter fun r => (old.find? (fun s => decide (s.Call = (l.getD r default).ID))).isSome).length := by
 have hn := hg.n
 have hel : e.length = l.length := hv.l
 have hnd := zAg hg.h h.Tides 0
 refine ⟨_, zKE l old _ (by omega) (by omega) (by have := zAo (Zz h l) e 0; unfold Len; omega), ?_⟩
 rw [zLL]
 have hk : zBC (qK h l old) (muF e) = ((List.range l.length).filter (kpB (qK h l old) (muF e))).length := rfl
 rw [hk]
 have key : ∀ r, r < l.length → (kpB (qK h l old) (muF e) r = true → (old.find? (fun s => decide (s.Call = (l.getD r default).ID))).isSome = true) ∧ chB old (jq (Zz h l) 0 e) (l.getD r default).ID = ((old.find? (fun s => decide (s.Call = (l.getD r default).ID))).isSome && !kpB (qK h l old) (muF e) r) := fun r hr => by
  have hold := zLx (h := h) old hr
  have hfp := zHl hg hv hr
  rw [getD_lt hr]
  unfold chB kpB
  rw [hold, hfp]
  unfold zAv
  cases hf : old.find? (fun s => decide (s.Call = l[r].ID)) with
  | none =>
   cases hm : muF e r with
   | none => exact ⟨fun q => q, rfl⟩
   | some k =>
    refine ⟨fun q => ?_, rfl⟩
    simp only [decide_eq_true_eq] at q
    omega
  | some a =>
   refine ⟨fun _ => rfl, ?_⟩
   cases hm : muF e r with
   | none => rfl
   | some k =>
    have hkl := (hv.mat.c r k hm).2.1
    simp only [Option.map_some, Option.isSome_some, Bool.true_and]
    rw [zIl hm hkl]
    congr 1
    rw [Bool.eq_iff_iff, decide_eq_true_eq, decide_eq_true_eq]
    exact (zEL hnd hkl).symm
 rw [List.filter_congr (q := fun r => (old.find? (fun s => decide (s.Call = (l.getD r default).ID))).isSome && !kpB (qK h l old) (muF e) r) fun r hr => (key r (List.mem_range.1 hr)).2]
 exact zHr _ _ _ fun r hr => (key r (List.mem_range.1 hr)).1
theorem holds_BerthKeeps {h : zL} {l : List zN} {old : List zP} (h0 : zAz h) (h1 : ok_30 l) (h2 : old.length ≤ 9223372036854775807 ∧ ∀ a ∈ old, (zCZ a)) : yU h l old = some true := by
 have hh := LenH.of h0
 have hl : Len l := h1.1
 obtain ⟨y, hy⟩ := zJp h hh
 unfold yU
 rw [hy, Option.bind_some, sanity06]
 split
 ·rfl
 ·rename_i hc
  have hb : l.length ≤ 5 ∧ old.length ≤ 10 := by
   simp only [Bool.or_eq_true, decide_eq_true_eq] at hc
   omega
  obtain ⟨hl5, ho⟩ := hb
  by_cases ec : QH h l = 0
  ·have hg := zCG.of hh ec
   obtain ⟨m, m1, m2, _, _⟩ := Most_eq hh hl ec
   obtain ⟨m', f, p1, p2, p3⟩ := Plan_eq hh hl ec
   have em := p2.uniq m2
   subst em
   have hvf : VF (Zz h l) m' f := by
    obtain ⟨_, _, _, _, _, _, q⟩ := zF8 (b := Zz h l) p3
    exact ⟨p3.l, p3.v, q, (zLl (zGW h l) p3).2⟩
   have hlk := zL2 h l old
   obtain ⟨g, g1, g2, g3⟩ := zHO (zHu hg old) (hlk.max m2)
   have hvg := hlk.symm.vf g2
   have hch := zHz hh hl ec ho g1
   rw [← hlk.jq] at hch
   have hgl : g.length = l.length := hvg.l
   have hlen : (jq (Zz h l) 0 g).length = m' := by
    rw [zCT, hgl]
    exact hvg.n
   have hpl := zAo (Zz h l) f 0
   have hgl2 := zAo (Zz h l) g 0
   have hfl : f.length = l.length := hvf.l
   rw [hch, p1, m1]
   simp only [Option.bind_some, decide_true, Bool.not_true, Bool.or_self, Bool.false_eq_true, if_false]
   rw [zFW hh hl ec m2 hvf, zFW hh hl ec m2 hvg, zGu hh hl ec hgl hvg.mat]
   simp only [Option.bind_some, decide_true, Bool.not_true, Bool.or_self, Bool.false_eq_true, if_false, Bool.not_false, hlen, gb, if_true]
   rw [zCx _ (by omega), zCx _ (by omega)]
   simp only [Option.bind_some, Bool.not_true, Bool.or_self, Bool.false_eq_true, if_false, Bool.not_false, if_true]
   obtain ⟨n1, c1, c2⟩ := zEW hg old ho hvg
   obtain ⟨n2, c3, c4⟩ := zEW hg old ho hvf
   have := g3 f (hlk.vf hvf)
   rw [c1, c3]
   simp only [Option.bind_some, Bool.true_and]
   congr 1
   rw [decide_eq_true_eq]
   omega
  ·have hch : JG h l old = some ([], QH h l) := by
    unfold JG
    rw [yH h hh l hl, Option.bind_some, if_pos (by simpa using ec)]
   have hpl : YE h l = some ([], QH h l) := by
    unfold YE
    rw [yH h hh l hl, Option.bind_some, if_pos (by simpa using ec)]
   have hmo : Qu h l = some (0, QH h l) := by
    unfold Qu
    rw [yH h hh l hl, Option.bind_some, if_pos (by simpa using ec)]
   rw [hch, hpl, hmo]
   simp [ec]
end Go.Mx
