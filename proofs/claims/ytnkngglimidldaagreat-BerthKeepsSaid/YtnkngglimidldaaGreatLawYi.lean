/- Plain laws, berths: the ships that wait, the plan. Conditions: none. -/
import Derived.Test.YtnkngglimidldaaGreatLawYh
set_option linter.unusedVariables false
set_option linter.unusedSimpArgs false
namespace Go.Mx
theorem zHj (l : List zN) (hl : Len l) (id : Int) : ZB l id = some (Yf (fun b => decide (b.ID = id)) l 0) := by
 unfold ZB ZF
 have e := zBw (body := zq l id) (fun b => decide (b.ID = id)) l hl (fun i hi => by
  unfold zq
  rw [if_pos (by simpa using hi), jO hi, Option.bind_some, w64s' hi hl]
  rfl) (by
  unfold zq
  rw [if_neg (by simp)]; rfl)
 rw [e]; rfl
def zHt : List zN → List zN → Int
 | _, [] => 0
 | pre, c :: r => if zCQ c = true then (if (pre.any fun x => decide (x.ID = c.ID)) = true then 6 else zHt (pre ++ [c]) r) else 1
def QH (h : zL) (l : List zN) : Int := if zB1 h = 0 then (if 10 < l.length then 2 else zHt [] l) else zB1 h
theorem yH (h : zL) (hh : LenH h) (l : List zN) (hl : Len l) : Zo h l = some (QH h l) := by
 unfold Zo QH
 rw [zLS h hh, Option.bind_some]
 by_cases h0 : zB1 h = 0
 ·rw [if_pos h0, if_neg (by simp [h0])]
  by_cases h1 : 10 < l.length
  ·rw [if_pos h1, if_pos (by simp; omega)]
  ·rw [if_neg h1, if_neg (by simp; omega)]
   refine J3 l hl (fun (_ : List zN) i => i) zHt (fun i a => a = l.take i) (a := []) rfl (by simp) (fun a i hi hJ => ?_) (fun a _ => ?_)
   ·subst hJ
    unfold yP
    rw [if_pos (by simpa using hi), jO hi]
    simp only [Option.bind_some, zHt, zK2]
    by_cases hg : zCQ l[i] = true
    ·rw [if_pos hg, zHj _ hl, Option.bind_some, if_neg (by simp [hg])]
     have := zJF (p := fun b : zN => decide (b.ID = l[i].ID)) hi (by simp)
     by_cases hc : ((l.take i).any fun x => decide (x.ID = l[i].ID)) = true
     ·right; rw [if_pos hc, if_pos (by rw [decide_eq_true_eq]; exact this.2 hc)]
     ·left
      rw [if_neg hc, if_neg (by rw [decide_eq_true_eq]; exact fun q => hc (this.1 q)), w64s' hi hl]
      exact ⟨_, rfl, rfl, by rw [List.take_succ_eq_append_getElem hi]⟩
    ·right
     rw [if_neg hg, if_pos (by simpa using hg)]
   ·unfold yP
    rw [if_neg (by simp)]; rfl
 ·rw [if_neg h0, if_pos (by simp [h0])]
theorem zGo : ∀ (l pre : List zN), zHt pre l = 0 → pre.Pairwise (fun a b => a.ID ≠ b.ID) → (∀ b ∈ l, zCQ b = true) ∧ (pre ++ l).Pairwise (fun a b => a.ID ≠ b.ID)
 | [], pre, h, hp => ⟨fun b hb => (by cases hb), by simpa using hp⟩
 | b :: r, pre, h, hp => by
  unfold zHt at h
  split at h
  ·rename_i hg
   split at h
   ·cases h
   ·rename_i hn
    have hp' : (pre ++ [b]).Pairwise (fun a b => a.ID ≠ b.ID) := by
     rw [List.pairwise_append]
     refine ⟨hp, List.pairwise_singleton _ _, fun x hx y hy => ?_⟩
     rw [List.mem_singleton] at hy
     subst hy
     intro q
     exact hn (List.any_eq_true.2 ⟨x, hx, by simpa using q⟩)
    obtain ⟨q2, q3⟩ := zGo r (pre ++ [b]) h hp'
    refine ⟨fun x hx => ?_, by simpa using q3⟩
    rcases List.mem_cons.1 hx with rfl | hx
    ·exact hg
    ·exact q2 x hx
  ·cases h
structure zCG (h : zL) (l : List zN) : Prop where
 h : zAb h
 n : l.length ≤ 10
 r : ∀ c ∈ l, zCQ c = true
 d : l.Pairwise (fun a b => a.ID ≠ b.ID)
theorem zCG.of {h : zL} {l : List zN} (hh : LenH h) (e : QH h l = 0) : zCG h l := by
 unfold QH at e
 split at e
 ·rename_i e1
  split at e
  ·cases e
  ·obtain ⟨q1, q2⟩ := zGo l [] e .nil
   exact ⟨zAb.of hh e1, by omega, q1, by simpa using q2⟩
 ·contradiction
theorem zED {h : zL} {l : List zN} (hg : zCG h l) : BOK (Zz h l) := by
 have := hg.h.nb; have := hg.h.nt
 refine ⟨hg.n, ?_, by simp [Zz], by simp [Zz]⟩
 simp only [Zz, zFx]
 have : h.Berths.length * h.Tides.length ≤ 6 * 12 := Nat.mul_le_mul (by omega) (by omega)
 omega
def zFC (b : zK) (i : Nat) (k : Int) : List zP := if k < 0 then [] else [⟨(b.calls.getD i default).ID, b.slots.getD k.toNat default, (ZH (b.slots.getD k.toNat default) (b.can.getD i [])).getD ⟨0, 0⟩⟩]
def jq (b : zK) : Nat → List Int → List zP
 | _, [] => []
 | i, k :: r => zFC b i k ++ jq b (i + 1) r
theorem zDX (b : zK) : ∀ (f : List Int) (i : Nat) (k : Int), jq b i (f ++ [k]) = jq b i f ++ zFC b (i + f.length) k
 | [], i, k => by simp [jq]
 | a :: f, i, k => by
  simp only [List.cons_append, jq, zDX b f (i + 1) k, List.append_assoc, List.length_cons]
  rw [show i + 1 + f.length = i + (f.length + 1) by omega]
theorem zAo (b : zK) : ∀ (f : List Int) (i : Nat), (jq b i f).length ≤ f.length
 | [], i => Nat.le_refl _
 | a :: f, i => by
  have := zAo b f (i + 1)
  simp only [jq, List.length_append, List.length_cons]
  unfold zFC
  split <;> simp only [List.length_nil, List.length_cons] <;> omega
def zE9 (b : zK) (want : Int) (fixed : List Int) : Prop := ∃ s, AsgB b s ∧ OkB b s ∧ zGr b fixed s ∧ totB b [] s = want
theorem zKG {b : zK} (hB : BOK b) {want : Int} (h0 : want ≤ 0) (hm : ∀ s, AsgB b s → want ≤ totB b [] s) {fixed : List Int} (hf : fixed.length ≤ b.calls.length) {out : List Int} {sum : Int} (h : Best b fixed out sum) : sum = want ↔ zE9 b want fixed := by
 constructor
 ·intro e
  obtain ⟨q1, q2⟩ := zLU hB hf (s := fun r => (gI out r).toNat) (by rw [← h.e]; omega)
  exact ⟨_, h.a, q1, q2, by rw [← zKO q2, ← h.e]; exact e⟩
 ·rintro ⟨s, q1, q2, q3, q4⟩
  have a := h.m s q1
  rw [zKO q3, q4] at a
  have b1 := hm _ h.a
  have b2 := tot_le b fixed (fun r => (gI out r).toNat)
  rw [← h.e] at b2
  omega
structure zDO (b : zK) (want : Int) (i : Nat) (fixed : List Int) : Prop where
 l : fixed.length = i
 v : ∀ r, r < i → gI fixed r = -1 ∨ ∃ k : Nat, gI fixed r = (k : Int) ∧ k < b.slots.length ∧ canB b r k = true
 c : zE9 b want fixed
 f : ∀ r, r < i → ∀ k : Nat, k < b.slots.length → canB b r k = true → (gI fixed r = -1 ∨ (k : Int) < gI fixed r) → ¬ zE9 b want (fixed.take r ++ [(k : Int)])
theorem zIR {l : List Int} {x : Int} {r : Nat} : gI (l ++ [x]) r = if r < l.length then gI l r else if r = l.length then x else 0 := by
 unfold gI
 rw [List.getD_eq_getElem?_getD, List.getD_eq_getElem?_getD]
 by_cases h : r < l.length
 ·rw [if_pos h, List.getElem?_append_left h]
 ·rw [if_neg h, List.getElem?_append_right (by omega)]
  by_cases e : r = l.length
  ·rw [if_pos e, e]; simp
  ·rw [if_neg e, List.getElem?_eq_none (by simp; omega)]; rfl
theorem zDO.snoc {b : zK} {want : Int} {i : Nat} {fixed : List Int} (h : zDO b want i fixed) {x : Int} (hv : x = -1 ∨ ∃ k : Nat, x = (k : Int) ∧ k < b.slots.length ∧ canB b i k = true) (hc : zE9 b want (fixed ++ [x]))
  (hf : ∀ k : Nat, k < b.slots.length → canB b i k = true → (x = -1 ∨ (k : Int) < x) → ¬ zE9 b want (fixed ++ [(k : Int)])) : zDO b want (i + 1) (fixed ++ [x]) := by
 have hl := h.l
 refine ⟨by simp [hl], fun r hr => ?_, hc, fun r hr k hk hk2 hk3 => ?_⟩
 ·rw [zIR]
  by_cases e : r < fixed.length
  ·rw [if_pos e]; exact h.v r (by omega)
  ·have e2 : r = i := by omega
   rw [if_neg e, if_pos (by omega), e2]; exact hv
 ·rw [zIR] at hk3
  by_cases e : r < fixed.length
  ·rw [if_pos e] at hk3
   rw [List.take_append_of_le_length (by omega)]
   exact h.f r (by omega) k hk hk2 hk3
  ·have e2 : r = i := by omega
   rw [if_neg e, if_pos (by omega)] at hk3
   rw [e2] at hk2 ⊢
   rw [show i = fixed.length by omega, List.take_left]
   exact hf k hk hk2 hk3
theorem zHi {b : zK} {fixed : List Int} {x : Int} {s : Nat → Nat} : zGr b (fixed ++ [x]) s ↔ zGr b fixed s ∧ (s fixed.length : Int) = if x < 0 then ((b.slots.length + fixed.length : Nat) : Int) else x := by
 unfold zGr
 have e1 : ∀ r, r < fixed.length → fixK b (fixed ++ [x]) r = fixK b fixed r := fun r hr => by unfold fixK; rw [zIR, if_pos hr]
 have e2 : fixK b (fixed ++ [x]) fixed.length = if x < 0 then ((b.slots.length + fixed.length : Nat) : Int) else x := by
  have : gI (fixed ++ [x]) fixed.length = x := by rw [zIR, if_neg (by omega), if_pos rfl]
  unfold fixK
  rw [this]
 constructor
 ·intro h
  refine ⟨fun r hr => by rw [← e1 r hr]; exact h r (by simp; omega), by rw [← e2]; exact h _ (by simp)⟩
 ·rintro ⟨h1, h2⟩ r hr
  simp only [List.length_append, List.length_cons, List.length_nil] at hr
  by_cases e : r < fixed.length
  ·rw [e1 r e]; exact h1 r e
  ·rw [show r = fixed.length by omega, e2]; exact h2
theorem zKV {b : zK} (hB : BOK b) {out0 : List Int} {want : Int} (h0 : Best b [] out0 want) (hb0 : Zn b [] = some (out0, want)) : ∃ fixed, zDO b want b.calls.length fixed ∧ jG b = some (jq b 0 fixed) := by
 have nc := hB.nc; have ns := hB.ns; have hlc := hB.lc
 obtain ⟨w0, w1⟩ := zJZ hB h0
 have start : zDO b want 0 [] := ⟨rfl, fun r hr => by omega, ⟨_, h0.a, w1, fun r hr => by simp at hr, by rw [h0.e]⟩, fun r hr => by omega⟩
 unfold jG
 rw [hb0, Option.bind_some]
 obtain ⟨⟨x, f, o⟩, ⟨rfl, h1, h2⟩, h3⟩ := qE (body := JX b (out0, want)) (X := fun s => JW s.2.2) (s0 := (0, [], []))
  (fun i s => s.1 = (i : Int) ∧ zDO b want i s.2.1 ∧ s.2.2 = jq b 0 s.2.1) b.calls.length (by omega) ⟨rfl, start, rfl⟩
  (fun i s hi hI => by
   obtain ⟨x, f, o⟩ := s
   simp only at hI
   obtain ⟨rfl, hI, rfl⟩ := hI
   have hfl := hI.l
   have hol := zAo b f 0
   unfold JX
   simp only
   rw [if_pos (by simpa using hi), zEG (d := default) hi, Option.bind_some]
   have key := lp_inv' (body := yL b (out0, want) (i : Int) f (jq b 0 f) (b.calls.getD i default)) (s0 := 0) (fun q s => s = (q : Int) ∧ ∀ k : Nat, k < q → canB b i k = true → ¬ zE9 b want (f ++ [(k : Int)]))
    (fun r => ∃ s', r = .inl s' ∧ s'.1 = ((i + 1 : Nat) : Int) ∧ zDO b want (i + 1) s'.2.1 ∧ s'.2.2 = jq b 0 s'.2.1) b.slots.length (by omega) ⟨rfl, fun k hk => by omega⟩ (fun q s hq hJ => by
     obtain ⟨rfl, hJ⟩ := hJ
     have hj6 : jJ (q : Int) = some (.inl ((q + 1 : Nat) : Int)) := by unfold jJ; rw [ZO (by omega) (by omega)]; rfl
     have hj3 : ∀ (z : List Int) (y : List zP), jK (i : Int) z y = some (.inl (((i + 1 : Nat) : Int), z, y)) := fun z y => by unfold jK; rw [ZO (by omega) (by omega)]; rfl
     unfold yL
     simp only
     by_cases hqs : q < b.slots.length
     ·rw [if_pos (by simpa using hqs), zEG (d := default) hqs, Option.bind_some, zEG (d := []) (by omega), Option.bind_some]
      have hcb : (ZH (b.slots.getD q default) (b.can.getD i [])).isSome = canB b i q := rfl
      rw [hcb]
      by_cases hc : canB b i q = true
      ·obtain ⟨out, sum, g1, g2⟩ := zE6 hB (fixed := f ++ [(q : Int)]) (by simp; omega)
       have hiff := zKG hB w0 h0.m (by simp; omega) g2
       rw [if_neg (by simp [hc]), qU (l := []) (by simp; omega), Option.bind_some, qU (by simp; omega), Option.bind_some, List.nil_append, g1, Option.bind_some]
       by_cases he : sum = want
       ·rw [if_pos (by simpa using he), qU (by simp; omega), Option.bind_some, qU (by simp only [List.length_cons, List.length_nil]; omega), Option.bind_some, hj3]
        refine .inr ⟨_, rfl, _, rfl, rfl, hI.snoc (.inr ⟨q, rfl, hqs, hc⟩) (hiff.1 he) fun k hk hk2 hk3 => hJ k (by omega) hk2, ?_⟩
        simp only
        rw [zDX, hfl, Nat.zero_add]
        unfold zFC
        rw [if_neg (by omega), show ((q : Int)).toNat = q by omega]
       ·rw [if_neg (by simpa using he), hj6]
        refine .inl ⟨hqs, _, rfl, rfl, fun k hk hk2 => ?_⟩
        by_cases e : k = q
        ·subst e; exact fun z => he (hiff.2 z)
        ·exact hJ k (by omega) hk2
      ·rw [if_pos (by simpa using hc), hj6]
       refine .inl ⟨hqs, _, rfl, rfl, fun k hk hk2 => ?_⟩
       by_cases e : k = q
       ·subst e; exact absurd hk2 hc
       ·exact hJ k (by omega) hk2
     ·have e : q = b.slots.length := by omega
      subst e
      rw [if_neg (by simp)]
      unfold JV
      rw [qU (by simp; omega), Option.bind_some, hj3]
      refine .inr ⟨_, rfl, _, rfl, rfl, hI.snoc (.inl rfl) ?_ fun k hk hk2 _ => hJ k hk hk2, ?_⟩
      ·obtain ⟨s, q1, q2, q3, q4⟩ := hI.c
       refine ⟨s, q1, q2, zHi.2 ⟨q3, ?_⟩, q4⟩
       rw [if_pos (by decide), hfl]
       rcases q2 i hi with e | ⟨e1, e2⟩
       ·rw [e]
       ·exact absurd ⟨s, q1, q2, zHi.2 ⟨q3, by rw [if_neg (by omega), hfl]⟩, q4⟩ (hJ (s i) e1 e2)
      ·simp only
       rw [zDX, zFC, if_pos (by decide), List.append_nil])
   obtain ⟨r, g1, s', rfl, g2, g3, g4⟩ := key
   exact ⟨s', g1, g2, g3, g4⟩)
  (fun s hI => by
   obtain ⟨x, f, o⟩ := s
   simp only at hI
   obtain ⟨rfl, _⟩ := hI
   unfold JX
   simp only
   rw [if_neg (by simp)])
 simp only at h1 h2 h3
 exact ⟨f, h1, by rw [h3, h2]; rfl⟩
end Go.Mx
