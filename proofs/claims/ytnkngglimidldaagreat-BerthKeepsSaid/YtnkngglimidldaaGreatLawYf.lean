/- Plain laws, berths: the cheapest places (all rows; that they are the cheapest). Conditions: none. -/
import Derived.Test.YtnkngglimidldaaGreatLawYe
set_option linter.unusedVariables false
set_option linter.unusedSimpArgs false
namespace Go.Mx
structure Aug (cost : List (List Int)) (p i : Nat) (u v of fr : List Int) (L : List Nat) (a : Nat) (L' : List Nat) (o : List Int) : Prop where
 l : o.length = p + 1
 ap : a ≤ p
 ch : Chain fr (a :: L')
 sub : ∀ x ∈ L', x ∈ L
 te : a ≠ 0 → ∀ c : Nat, gI fr a = (c : Int) → gI u (Of of i c) + gI v a = cC cost (Of of i c) a
 same : ∀ k ∈ L', gI o k = (Of of i k : Int)
 rg : ∀ k, k ≤ p → 0 ≤ gI o k ∧ gI o k ≤ i
 inj : ∀ k l, k ≤ p → l ≤ p → k ≠ a → l ≠ a → gI o k ≠ 0 → gI o k = gI o l → k = l
 sur : ∀ r : Nat, 1 ≤ r → r ≤ i → ∃ k, k ≤ p ∧ k ≠ a ∧ gI o k = (r : Int)
 ti : ∀ k, 1 ≤ k → k ≤ p → k ≠ a → gI o k ≠ 0 → gI u (gI o k).toNat + gI v k = cC cost (gI o k).toNat k
 vz : ∀ k, 1 ≤ k → k ≤ p → k ≠ a → gI o k = 0 → gI v k = 0
theorem zMX {cost : List (List Int)} {p i : Nat} {u0 v0 u v of fr least : List Int} {used : List Bool} {m0 : Nat} {L : List Nat} (hc : qW cost p) (hi1 : 1 ≤ i) (hi2 : i ≤ cost.length) (hA : AInv cost p i u0 v0 of) (hm0 : m0 ≠ 0)
  (hS : SInv cost p i u0 v0 of (Of of i) m0 L u v least fr used) : ∀ (m a : Nat) (L' : List Nat) (o : List Int), L'.length < m → Aug cost p i u v of fr L a L' o →
   ∃ o', Aug cost p i u v of fr L 0 [] o' ∧ Lp (YO (i : Int) u v fr) m ((a : Int), o) = some (.inl ((i + 1 : Nat), u, v, o')) := by
 have hp := hc.hp; have hn := hc.hn
 have hol : 0 < of.length := by rw [hA.lo]; omega
 intro m
 induction m with
 | zero => intro a L' o h; omega
 | succ m ih =>
  intro a L' o h hG
  by_cases ha : a = 0
  ·subst ha
   have e := hG.ch.nil
   subst e
   refine ⟨o, hG, zFj m ?_⟩
   unfold YO YL
   simp only
   rw [if_neg (by simp), ZO (by omega) (by omega)]; rfl
  ·have hch := hG.ch
   obtain ⟨c, hc1, hc2⟩ : ∃ c ∈ L', gI fr a = ((c : Nat) : Int) := by
    rcases hch with ⟨_, q⟩ | ⟨_, _, q, _⟩
    ·exact absurd q ha
    ·exact q
   have hal : a ∉ L' := (List.nodup_cons.1 hch.nodup).1
   obtain ⟨L2, q1, q2, q3⟩ := (hch.tl ha).cut hc1
   have hcL := hG.sub c hc1
   have hcp : c ≤ p := hS.le c (List.mem_cons_of_mem _ hcL)
   have hap := hG.ap; have hol2 := hG.l
   have hca : c ≠ a := fun e => hal (by rw [← e]; exact hc1)
   have hoc := hG.same c hc1
   have hpos : Of of i c ≠ 0 := by
    by_cases e : c = 0
    ·rw [e, zKv hol]; omega
    ·have := hS.mt c hcL e
     have := hA.rg c (by omega) hcp
     rw [zKL hol (by omega)]; omega
   have hgs : ∀ k, gI (o.set a (Of of i c : Int)) k = if k = a then (Of of i c : Int) else gI o k := fun k => JN (by omega) _ _
   have hN : Aug cost p i u v of fr L c L2 (o.set a (Of of i c : Int)) := by
    refine ⟨by rw [List.length_set]; exact hG.l, hcp, q1, fun x hx => hG.sub x (q3 x (List.mem_cons_of_mem _ hx)), fun hc0 d hd => hS.te c (List.mem_cons_of_mem _ hcL) hc0 d hd, fun k hk => ?_, fun k hk => ?_, fun k l hk hl h1 h2 h3 h4 => ?_, fun r h1 h2 => ?_, fun k h1 h2 h3 h4 => ?_, fun k h1 h2 h3 h4 => ?_⟩
    ·have hkL := q3 k (List.mem_cons_of_mem _ hk)
     rw [hgs, if_neg (fun e => hal (by rw [← e]; exact hkL))]
     exact hG.same k hkL
    ·rw [hgs]
     split
     ·rw [← hoc]; exact hG.rg c hcp
     ·exact hG.rg k hk
    ·rw [hgs] at h3
     rw [hgs, hgs] at h4
     by_cases ka : k = a
     ·by_cases la : l = a
      ·omega
      ·rw [if_pos ka, if_neg la, ← hoc] at h4
       rw [if_pos ka, ← hoc] at h3
       exact absurd (hG.inj c l hcp hl hca la h3 h4).symm h2
     ·rw [if_neg ka] at h3 h4
      by_cases la : l = a
      ·rw [if_pos la, ← hoc] at h4
       exact absurd (hG.inj k c hk hcp ka hca h3 h4) h1
      ·rw [if_neg la] at h4
       exact hG.inj k l hk hl ka la h3 h4
    ·obtain ⟨k, w1, w2, w3⟩ := hG.sur r h1 h2
     by_cases e : k = c
     ·exact ⟨a, hap, fun q => hca q.symm, by rw [hgs, if_pos rfl, ← hoc, ← e]; exact w3⟩
     ·exact ⟨k, w1, e, by rw [hgs, if_neg w2]; exact w3⟩
    ·rw [hgs] at h4 ⊢
     by_cases e : k = a
     ·rw [if_pos e, e]
      have := hG.te ha c hc2
      rw [show ((Of of i c : Nat) : Int).toNat = Of of i c by omega]; exact this
     ·rw [if_neg e] at h4 ⊢
      exact hG.ti k h1 h2 e h4
    ·rw [hgs] at h4
     by_cases e : k = a
     ·rw [if_pos e] at h4; omega
     ·rw [if_neg e] at h4
      exact hG.vz k h1 h2 e h4
   obtain ⟨o', w1, w2⟩ := ih c L2 _ (by omega) hN
   refine ⟨o', w1, ?_⟩
   rw [zFi (s' := ((c : Int), o.set a (Of of i c : Int))) m ?_]
   ·exact w2
   ·have hfl := hS.lf
    unfold YO
    simp only
    rw [if_pos (by simp; omega), yh (by omega), Option.bind_some, hc2, yh (by omega), Option.bind_some, yh (by omega), Option.bind_some, Option.bind_some, yx, hoc]
theorem zMY {cost : List (List Int)} {p i : Nat} {u0 v0 u v of fr least o : List Int} {used : List Bool} {m0 : Nat} {L : List Nat} (hc : qW cost p) (hi1 : 1 ≤ i) (hi2 : i ≤ cost.length) (hA : AInv cost p i u0 v0 of) (hm0 : m0 ≠ 0)
  (hS : SInv cost p i u0 v0 of (Of of i) m0 L u v least fr used) (hG : Aug cost p i u v of fr L 0 [] o) : AInv cost p (i + 1) u v o := by
 have hp := hc.hp; have hn := hc.hn
 have ui := hS.ui
 refine ⟨hS.lu, hS.lv, hG.l, fun k h1 h2 => ?_, fun k l h1 h2 h3 h4 => hG.inj k l h2 h4 (by omega) (by omega), fun r h1 h2 => ?_, fun k h1 h2 => ⟨(hS.vz k h1 h2).1, hG.vz k h1 h2 (by omega)⟩, fun r k h1 h2 h3 h4 => ?_, fun k h1 h2 h3 => hG.ti k h1 h2 (by omega) h3, fun r hr => ?_, fun r => ?_, fun k => ?_⟩
 ·have := hG.rg k h2; omega
 ·obtain ⟨k, q1, q2, q3⟩ := hG.sur r h1 (by omega)
  exact ⟨k, by omega, q1, q3⟩
 ·by_cases e : r = i
  ·rw [e]; exact hS.fi hm0 k h3 h4
  ·exact hS.fe r k h1 (by omega) h3 h4
 ·rw [hS.uo r (.inr (by omega))]; exact hA.uz r (by omega)
 ·have b := hA.bu r
  by_cases e : r = 0 ∨ i < r
  ·rw [hS.uo r e]; omega
  ·by_cases e2 : r = i
   ·rw [e2]; omega
   ·have := hS.ub r (by omega) (by omega); omega
 ·have b := hA.bv k
  by_cases e : k = 0
  ·rw [e, hS.vn]; rw [e] at b; omega
  ·by_cases e2 : k ≤ p
   ·have := hS.vb k (by omega) e2; omega
   ·rw [zJ5 (by rw [hS.lv]; omega)]; omega
theorem zIp {cost : List (List Int)} {p i : Nat} {u0 v0 of : List Int} (hc : qW cost p) (hi1 : 1 ≤ i) (hi2 : i ≤ cost.length) (hA : AInv cost p i u0 v0 of) : ∀ (m : Nat) (at_ : Nat) (L : List Nat) (u v least fr : List Int) (used : List Bool), p + 1 < L.length + m →
  SInv cost p i u0 v0 of (Of of i) at_ L u v least fr used → (at_ ≠ 0 → gI of at_ ≠ 0) →
  ∃ u' v' o, AInv cost p (i + 1) u' v' o ∧ Lp (yZ cost (p : Int) (i : Int) of) m ((at_ : Int), u, v, least, fr, used) = some (.inl ((i + 1 : Nat), u', v', o)) := by
 have hp := hc.hp; have hn := hc.hn
 have hol : 0 < of.length := by rw [hA.lo]; omega
 intro m
 induction m with
 | zero =>
  intro at_ L u v least fr used h hS hat
  have := Q8 (l := at_ :: L) (r := List.range (p + 1)) hS.ch.nodup fun x hx => by rw [List.mem_range]; have := hS.le x hx; omega
  simp at this
  omega
 | succ n ih =>
  intro at_ L u v least fr used h hS hat
  obtain ⟨m, u', v', ls', fr', m1, m2, hS', hb⟩ := asgIter hc hi1 hi2 hA hS hat
  have hx : ix (put of 0 (i : Int)) (m : Int) = some (gI of m) := by
   rw [show put of 0 (i : Int) = of.set 0 (i : Int) from rfl, yh (by rw [List.length_set, hA.lo]; omega), JN hol, if_neg (by omega)]
  unfold jb at hb
  rw [hx, Option.bind_some] at hb
  by_cases e : gI of m = 0
  ·rw [if_pos (by simpa using e)] at hb
   unfold YM at hb
   have hlen : (at_ :: L).length ≤ p + 1 := by
    have := Q8 (l := at_ :: L) (r := List.range (p + 1)) hS.ch.nodup fun x hx => by rw [List.mem_range]; have := hS.le x hx; omega
    simpa using this
   have hg : Aug cost p i u' v' of fr' (at_ :: L) m (at_ :: L) (of.set 0 (i : Int)) := by
    have hgs : ∀ k, gI (of.set 0 (i : Int)) k = if k = 0 then (i : Int) else gI of k := fun k => JN hol _ _
    refine ⟨by rw [List.length_set]; exact hA.lo, m2, hS'.ch, fun x hx => hx, fun h0 c hcc => hS'.te m List.mem_cons_self h0 c hcc, fun k hk => ?_, fun k hk => ?_, fun k l hk hl h1 h2 h3 h4 => ?_, fun r h1 h2 => ?_, fun k h1 h2 h3 h4 => ?_, fun k h1 h2 h3 h4 => ?_⟩
    ·unfold Of
     rw [hgs]
     split
     ·omega
     ·have := hA.rg k (by omega) (hS'.le k (List.mem_cons_of_mem _ hk)); omega
    ·rw [hgs]
     split
     ·omega
     ·have := hA.rg k (by omega) hk; omega
    ·rw [hgs] at h3
     rw [hgs, hgs] at h4
     by_cases k0 : k = 0
     ·by_cases l0 : l = 0
      ·omega
      ·rw [if_pos k0, if_neg l0] at h4
       have := hA.rg l (by omega) hl; omega
     ·rw [if_neg k0] at h3 h4
      by_cases l0 : l = 0
      ·rw [if_pos l0] at h4
       have := hA.rg k (by omega) hk; omega
      ·rw [if_neg l0] at h4
       exact hA.inj k l (by omega) hk (by omega) hl h3 h4
    ·by_cases er : r = i
     ·exact ⟨0, by omega, by omega, by rw [hgs, if_pos rfl, er]⟩
     ·obtain ⟨k, q1, q2, q3⟩ := hA.sur r h1 (by omega)
      exact ⟨k, q2, fun q => by rw [q] at q3; omega, by rw [hgs, if_neg (by omega)]; exact q3⟩
    ·rw [hgs, if_neg (by omega)] at h4 ⊢
     exact hS'.ti k h1 h2 h4
    ·rw [hgs, if_neg (by omega)] at h4
     exact (hS'.vz k h1 h2).2 h4
   obtain ⟨o, w1, w2⟩ := zMX hc hi1 hi2 hA (by omega) hS' fuel m (at_ :: L) _ (by unfold fuel; omega) hg
   refine ⟨u', v', o, zMY hc hi1 hi2 hA (by omega) hS' w1, zFj n ?_⟩
   rw [hb, show put of 0 (i : Int) = of.set 0 (i : Int) from rfl, w2]; rfl
  ·rw [if_neg (by simpa using e)] at hb
   obtain ⟨u2, v2, o, w1, w2⟩ := ih m (at_ :: L) u' v' ls' fr' _ (by simp only [List.length_cons]; omega) hS' (fun _ => e)
   exact ⟨u2, v2, o, w1, by rw [zFi n hb]; exact w2⟩
theorem zMd {cost : List (List Int)} {p i : Nat} {u v of least : List Int} (hc : qW cost p) (hi1 : 1 ≤ i) (hi2 : i ≤ cost.length) (hA : AInv cost p i u v of) (hl : least.length = p + 1) (hls : ∀ k, k ≤ p → gI least k = 4294967296) :
  SInv cost p i u v of (Of of i) 0 [] u v least (List.replicate (p + 1) 0) (List.replicate (p + 1) false) := by
 have hu := hA.uz i (Nat.le_refl _)
 refine ⟨hA.lu, hA.lv, hl, by simp, by simp, .inl ⟨rfl, rfl⟩, fun k => by rw [gB_rep]; simp, fun k hk => by rw [List.mem_singleton] at hk; omega, fun k hk => (by cases hk), hA.vz, hA.fe, hA.ti, fun h => absurd rfl h, fun k hk h0 => by rw [List.mem_singleton] at hk; exact absurd hk h0, fun j hj => (by cases hj), fun k h1 h2 _ => .inr (by rw [hls k h2, hu]; rfl), fun h => absurd rfl h, fun k h1 h2 _ => by rw [hls k h2, hu]; decide, ⟨by omega, by omega, fun _ => hu⟩, fun r h1 h2 => by omega, fun r _ => rfl, fun k h1 h2 => by omega, by omega, fun _ => ⟨fun _ _ _ => rfl, fun _ _ _ => rfl⟩⟩
theorem zC3 {α : Type} [DecidableEq α] (f : α → Int) {a : α} : ∀ {B : List α}, a ∈ B → (B.map f).sum = f a + ((B.erase a).map f).sum
 | [], h => by cases h
 | b :: r, h => by
  by_cases e : b = a
  ·subst e; simp
  ·have ha : a ∈ r := by
    rcases List.mem_cons.1 h with h | h
    ·exact absurd h.symm e
    ·exact h
   rw [List.erase_cons_tail (by simpa using e), List.map_cons, List.map_cons, List.sum_cons, List.sum_cons, zC3 f ha]
   omega
theorem zKQ {α : Type} (f : α → Int) : ∀ {B : List α}, (∀ b ∈ B, f b ≤ 0) → (B.map f).sum ≤ 0
 | [], _ => by simp
 | b :: r, h => by
  have := zKQ f (B := r) fun x hx => h x (List.mem_cons_of_mem _ hx)
  have := h b List.mem_cons_self
  rw [List.map_cons, List.sum_cons]; omega
theorem zFt {α : Type} [DecidableEq α] (f : α → Int) : ∀ {A B : List α}, A.Nodup → (∀ x ∈ A, x ∈ B) → (∀ b ∈ B, f b ≤ 0) → (B.map f).sum ≤ (A.map f).sum
 | [], B, _, _, h => by simpa using zKQ f h
 | a :: A, B, hn, hs, h => by
  rw [List.nodup_cons] at hn
  rw [zC3 f (hs a List.mem_cons_self), List.map_cons, List.sum_cons]
  have := zFt f (A := A) (B := B.erase a) hn.2 (fun x hx => (List.mem_erase_of_ne (fun e : x = a => hn.1 (by rw [← e]; exact hx))).2 (hs x (List.mem_cons_of_mem _ hx))) fun b hb => h b (List.mem_of_mem_erase hb)
  omega
theorem zDS {α : Type} [DecidableEq α] (f : α → Int) : ∀ {A B : List α}, A.Nodup → B.Nodup → (∀ x ∈ A, x ∈ B) → (∀ b ∈ B, b ∉ A → f b = 0) → (B.map f).sum = (A.map f).sum
 | [], B, _, _, _, h => by
  have : ∀ {B : List α}, (∀ b ∈ B, f b = 0) → (B.map f).sum = 0 := by
   intro B
   induction B with
   | nil => intro _; rfl
   | cons b r ih => intro q; rw [List.map_cons, List.sum_cons, q b List.mem_cons_self, ih fun x hx => q x (List.mem_cons_of_mem _ hx)]; rfl
  simpa using this fun b hb => h b hb (by simp)
 | a :: A, B, hn, hB, hs, h => by
  rw [List.nodup_cons] at hn
  rw [zC3 f (hs a List.mem_cons_self), List.map_cons, List.sum_cons]
  have := zDS f (A := A) (B := B.erase a) hn.2 (hB.erase a) (fun x hx => (List.mem_erase_of_ne (fun e : x = a => hn.1 (by rw [← e]; exact hx))).2 (hs x (List.mem_cons_of_mem _ hx))) fun b hb hbA => by
   have hb2 := (List.Nodup.mem_erase_iff hB).1 hb
   exact h b hb2.2 fun q => by
    rcases List.mem_cons.1 q with q | q
    ·exact hb2.1 q
    ·exact hbA q
  omega
theorem zDT {α : Type} (f g : α → Int) : ∀ {l : List α}, (∀ x ∈ l, f x ≤ g x) → (l.map f).sum ≤ (l.map g).sum
 | [], _ => by simp
 | a :: l, h => by
  have := zDT f g (l := l) fun x hx => h x (List.mem_cons_of_mem _ hx)
  have := h a List.mem_cons_self
  simp only [List.map_cons, List.sum_cons]; omega
theorem qb {α : Type} (f g : α → Int) : ∀ {l : List α}, (∀ x ∈ l, f x = g x) → (l.map f).sum = (l.map g).sum
 | [], _ => by simp
 | a :: l, h => by
  have := qb f g (l := l) fun x hx => h x (List.mem_cons_of_mem _ hx)
  have := h a List.mem_cons_self
  simp only [List.map_cons, List.sum_cons]; omega
theorem zCK {α : Type} (f g : α → Int) : ∀ {l : List α}, (l.map fun x => f x + g x).sum = (l.map f).sum + (l.map g).sum
 | [] => by simp
 | a :: l => by
  have := zCK f g (l := l)
  simp only [List.map_cons, List.sum_cons]; omega
structure Asg (n p : Nat) (s : Nat → Nat) : Prop where
 lt : ∀ r, r < n → s r < p
 inj : ∀ r q, r < n → q < n → s r = s q → r = q
def tot (cost : List (List Int)) (s : Nat → Nat) : Int := ((List.range cost.length).map fun r => cC cost (r + 1) (s r + 1)).sum
def wCol (cost : List (List Int)) (of : List Int) (k : Nat) : Int := if gI of (k + 1) = 0 then 0 else cC cost (gI of (k + 1)).toNat (k + 1)
theorem zHv {n p : Nat} {s : Nat → Nat} (h : Asg n p s) : ((List.range n).map s).Nodup ∧ ∀ x ∈ (List.range n).map s, x ∈ List.range p := by
 constructor
 ·rw [List.nodup_iff_pairwise_ne, List.pairwise_map]
  refine List.Pairwise.imp_of_mem (R := fun a b => a ≠ b) (fun {a b} ha hb hab e => ?_) (List.nodup_iff_pairwise_ne.1 List.nodup_range)
  rw [List.mem_range] at ha hb
  exact hab (h.inj a b ha hb e)
 ·intro x hx
  rw [List.mem_map] at hx
  obtain ⟨k, hk, rfl⟩ := hx
  rw [List.mem_range] at hk ⊢
  exact h.lt k hk
theorem zLo {cost : List (List Int)} {p : Nat} {u v of : List Int} (hc : qW cost p) (hA : AInv cost p (cost.length + 1) u v of) :
  ∃ out, Lp (Jw cost (p : Int) of) fuel (0, 1, List.replicate cost.length 0) = some (out, ((List.range p).map (wCol cost of)).sum) ∧ out.length = cost.length ∧ ∀ k, 1 ≤ k → k ≤ p → gI of k ≠ 0 → gI out ((gI of k).toNat - 1) = (k : Int) - 1 := by
 have hp := hc.hp; have hn := hc.hn
 have key := qE (body := Jw cost (p : Int) of) (X := fun s => YN s.1 s.2.2) (s0 := (0, 1, List.replicate cost.length 0))
  (fun j s => s.2.1 = ((j + 1 : Nat) : Int) ∧ s.1 = ((List.range j).map (wCol cost of)).sum ∧ -(1073741824 * (j : Int)) ≤ s.1 ∧ s.1 ≤ 1073741824 * (j : Int) ∧ s.2.2.length = cost.length ∧ ∀ k, 1 ≤ k → k ≤ j → gI of k ≠ 0 → gI s.2.2 ((gI of k).toNat - 1) = (k : Int) - 1) p (by omega)
  ⟨rfl, rfl, by simp, by simp, by simp, fun k h1 h2 => by omega⟩
  (fun j s hj hI => by
   obtain ⟨sum, k, out⟩ := s
   simp only at hI
   obtain ⟨rfl, h1, h2, h3, h4, h5⟩ := hI
   have hol := hA.lo
   have rk := hA.rg (j + 1) (by omega) (by omega)
   have hw : ((List.range (j + 1)).map (wCol cost of)).sum = ((List.range j).map (wCol cost of)).sum + wCol cost of j := by rw [List.range_succ, List.map_append, List.sum_append]; simp
   unfold Jw
   simp only
   rw [if_pos (by simp; omega), yh (by omega), Option.bind_some]
   by_cases e : 0 < gI of (j + 1)
   ·have hr1 : 1 ≤ (gI of (j + 1)).toNat := by omega
    have hr2 : (gI of (j + 1)).toNat ≤ cost.length := by omega
    have er : gI of (j + 1) = (((gI of (j + 1)).toNat : Nat) : Int) := by omega
    obtain ⟨q1, q2⟩ := hc.row hr1 hr2
    obtain ⟨q3, q4, q5⟩ := hc.at hr1 hr2 (k := j + 1) (by omega) (by omega)
    have e1 : w64 (gI of (j + 1) - 1) = (((gI of (j + 1)).toNat - 1 : Nat) : Int) := by rw [ZO (by omega) (by omega)]; omega
    have q1' := q1
    rw [← er] at q1'
    have ew : wCol cost of j = cC cost (gI of (j + 1)).toNat (j + 1) := by unfold wCol; rw [if_neg (by omega)]
    rw [if_pos (by simpa using e), Option.bind_some, e1, yh (by omega), Option.bind_some, Option.bind_some, ← e1, q1', Option.bind_some, q3, Option.bind_some, e1]
    unfold JP
    rw [ZO (n := sum + _) (by omega) (by omega), ZO (n := ((j + 1 : Nat) : Int) + 1) (by omega) (by omega), ZO (n := ((j + 1 : Nat) : Int) - 1) (by omega) (by omega), yx]
    refine ⟨_, rfl, rfl, ?_, ?_, ?_, by simp only [List.length_set]; exact h4, fun k k1 k2 k3 => ?_⟩
    ·simp only; rw [hw, h1, ew]
    ·simp only; omega
    ·simp only; omega
    ·simp only
     rw [JN (by omega)]
     by_cases ek : k = j + 1
     ·subst ek; rw [if_pos rfl]
     ·have rk2 := hA.rg k k1 (by omega)
      rw [if_neg (fun q => ek (hA.inj k (j + 1) k1 (by omega) (by omega) (by omega) k3 (by omega)))]
      exact h5 k k1 (by omega) k3
   ·have ew : wCol cost of j = 0 := by unfold wCol; rw [if_pos (by omega)]
    rw [if_neg (by simpa using e)]
    unfold JP
    rw [ZO (n := ((j + 1 : Nat) : Int) + 1) (by omega) (by omega)]
    refine ⟨_, rfl, rfl, ?_, ?_, ?_, h4, fun k k1 k2 k3 => ?_⟩
    ·simp only; rw [hw, h1, ew]; omega
    ·simp only; omega
    ·simp only; omega
    ·by_cases ek : k = j + 1
     ·subst ek; omega
     ·exact h5 k k1 (by omega) k3)
  (fun s hI => by
   obtain ⟨sum, k, out⟩ := s
   simp only at hI
   obtain ⟨rfl, _⟩ := hI
   unfold Jw
   simp only
   rw [if_neg (by rw [decide_eq_true_eq]; omega)])
 obtain ⟨⟨sum, k, out⟩, ⟨h1, h2, _, _, h3, h4⟩, h5⟩ := key
 simp only at h1 h2 h3 h4 h5
 exact ⟨out, by rw [h5, h2]; rfl, h3, h4⟩
theorem zEu {α : Type} {n : Nat} (h : n ≤ 1048576) (x : α) {m : Int} (hm : m = (n : Int)) : mkS m m x = some (List.replicate n x) := by
 subst hm
 unfold mkS
 rw [if_pos ⟨rfl, by omega, by omega⟩]; rfl
theorem zJc {cost : List (List Int)} {p : Nat} (hc : qW cost p) : ∃ u v of, AInv cost p (cost.length + 1) u v of ∧ Jc cost (p : Int) = JR cost (p : Int) of := by
 have hp := hc.hp; have hn := hc.hn
 have e1 : w64 ((p : Int) + 1) = ((p + 1 : Nat) : Int) := by rw [ZO (by omega) (by omega)]; omega
 have e2 : w64 ((cost.length : Int) + 1) = ((cost.length + 1 : Nat) : Int) := by rw [ZO (by omega) (by omega)]; omega
 have rz : ∀ n k, gI (List.replicate n 0) k = 0 := fun n k => by
  by_cases h : k < n
  ·exact gI_rep n k 0 h
  ·exact zJ5 (by simp; omega)
 have key := qE (body := YP cost (p : Int)) (X := fun s => JR cost (p : Int) s.2.2.2) (s0 := (1, List.replicate (cost.length + 1) 0, List.replicate (p + 1) 0, List.replicate (p + 1) 0))
  (fun j s => s.1 = ((j + 1 : Nat) : Int) ∧ AInv cost p (j + 1) s.2.1 s.2.2.1 s.2.2.2) cost.length (by omega)
  ⟨rfl, by simp, by simp, by simp, fun k h1 h2 => by simp only [rz]; omega, fun k l h1 h2 h3 h4 h5 => by simp only [rz] at h5; exact absurd rfl h5, fun r h1 h2 => by omega, fun k h1 h2 => by simp [rz], fun r k h1 h2 => by omega, fun k h1 h2 h3 => by simp only [rz] at h3; exact absurd rfl h3, fun r _ => by simp only [rz], fun r => by simp only [rz]; omega, fun r => by simp only [rz]; omega⟩
  (fun j s hj hI => by
   obtain ⟨i, u, v, of⟩ := s
   simp only at hI
   obtain ⟨rfl, hA⟩ := hI
   unfold YP
   simp only
   rw [if_pos (by simp; omega), show (0 : Int) = ((0 : Nat) : Int) from rfl, yh (by rw [hA.lo]; omega), Option.bind_some, zEu (n := p + 1) (by omega) _ e1, Option.bind_some, Option.bind_some, zEu (n := p + 1) (by omega) _ e1, Option.bind_some]
   have fill := qE (body := yY cost (p : Int) ((j + 1 : Nat) : Int) u v of (List.replicate (p + 1) ((0 : Nat) : Int)) (List.replicate (p + 1) ((0 : Nat) : Int)) (List.replicate (p + 1) false)) (X := fun s => Jv cost (p : Int) ((j + 1 : Nat) : Int) u v of (List.replicate (p + 1) ((0 : Nat) : Int)) (List.replicate (p + 1) false) s.2) (s0 := (((0 : Nat) : Int), List.replicate (p + 1) ((0 : Nat) : Int)))
    (fun q s => s.1 = (q : Int) ∧ s.2.length = p + 1 ∧ ∀ k, k < q → gI s.2 k = 4294967296) (p + 1) (by omega) ⟨rfl, by simp, fun k h => by omega⟩
    (fun q s hq hI => by
     obtain ⟨x, l⟩ := s
     simp only at hI
     obtain ⟨rfl, h1, h2⟩ := hI
     unfold yY
     simp only
     rw [if_pos (by simp; omega), yh (by omega), Option.bind_some, ZO (by omega) (by omega), yx]
     refine ⟨_, rfl, by simp only; omega, by simp only [List.length_set]; exact h1, fun k hk => ?_⟩
     simp only
     rw [JN (by omega)]
     by_cases e : k = q
     ·rw [if_pos e]
     ·rw [if_neg e]; exact h2 k (by omega))
    (fun s hI => by
     obtain ⟨x, l⟩ := s
     simp only at hI
     obtain ⟨rfl, h1, h2⟩ := hI
     unfold yY
     simp only
     rw [if_neg (by simp)])
   obtain ⟨⟨x, l⟩, ⟨_, h1, h2⟩, h3⟩ := fill
   simp only at h1 h2 h3
   rw [h3]
   unfold Jv
   obtain ⟨u', v', o, w1, w2⟩ := zIp hc (by omega) (by omega) hA fuel 0 [] u v l _ _ (by unfold fuel; simp; omega) (zMd hc (by omega) (by omega) hA h1 fun k hk => h2 k (by omega)) (fun h => absurd rfl h)
   refine ⟨((j + 1 + 1 : Nat), u', v', o), w2, rfl, w1⟩)
  (fun s hI => by
   obtain ⟨i, u, v, of⟩ := s
   simp only at hI
   obtain ⟨rfl, _⟩ := hI
   unfold YP
   simp only
   rw [if_neg (by rw [decide_eq_true_eq]; omega)])
 obtain ⟨⟨i, u, v, of⟩, ⟨_, h2⟩, h3⟩ := key
 refine ⟨u, v, of, h2, ?_⟩
 unfold Jc
 rw [zEu (n := cost.length + 1) (by omega) _ e2, Option.bind_some, zEu (n := p + 1) (by omega) _ e1, Option.bind_some, Option.bind_some]
 exact h3
theorem zJb {cost : List (List Int)} {p : Nat} (hc : qW cost p) : ∃ out sum, Jc cost (p : Int) = some (out, sum) ∧ out.length = cost.length ∧ (∀ r, r < cost.length → 0 ≤ gI out r) ∧ Asg cost.length p (fun r => (gI out r).toNat) ∧ sum = tot cost (fun r => (gI out r).toNat) ∧ ∀ s, Asg cost.length p s → sum ≤ tot cost s := by
 have hp := hc.hp; have hn := hc.hn
 obtain ⟨u, v, of, hA, h1⟩ := zJc hc
 obtain ⟨out, h2, h3, h4⟩ := zLo hc hA
 have hcol : ∀ r, r < cost.length → ∃ k, 1 ≤ k ∧ k ≤ p ∧ gI of k = ((r + 1 : Nat) : Int) ∧ gI out r = (k : Int) - 1 := fun r hr => by
  obtain ⟨k, q1, q2, q3⟩ := hA.sur (r + 1) (by omega) (by omega)
  have := h4 k q1 q2 (by omega)
  rw [show (gI of k).toNat - 1 = r by omega] at this
  exact ⟨k, q1, q2, q3, this⟩
 have hcol2 : ∀ r, r < cost.length → gI of ((gI out r).toNat + 1) = ((r + 1 : Nat) : Int) := fun r hr => by
  obtain ⟨k, q1, q2, q3, q4⟩ := hcol r hr
  rw [show (gI out r).toNat + 1 = k by omega]; exact q3
 have hAs : Asg cost.length p (fun r => (gI out r).toNat) := ⟨fun r hr => by obtain ⟨k, q1, q2, q3, q4⟩ := hcol r hr; omega, fun r q hr hq e => by
  have a := hcol2 r hr; have b := hcol2 q hq
  rw [e] at a; omega⟩
 obtain ⟨n1, n2⟩ := zHv hAs
 have hsum : ((List.range p).map (wCol cost of)).sum = tot cost (fun r => (gI out r).toNat) := by
  rw [zDS (wCol cost of) n1 List.nodup_range n2 fun k hk hk2 => ?_]
  ·unfold tot
   rw [List.map_map]
   refine qb _ _ fun r hr => ?_
   rw [List.mem_range] at hr
   have := hcol2 r hr
   simp only [Function.comp, wCol]
   rw [if_neg (by omega), this]; rfl
  ·unfold wCol
   rw [List.mem_range] at hk
   by_cases e : gI of (k + 1) = 0
   ·rw [if_pos e]
   ·exfalso
    have rk := hA.rg (k + 1) (by omega) (by omega)
    have := h4 (k + 1) (by omega) (by omega) e
    apply hk2
    rw [List.mem_map]
    exact ⟨(gI of (k + 1)).toNat - 1, by rw [List.mem_range]; omega, by rw [this]; omega⟩
 refine ⟨out, _, ?_, h3, fun r hr => by obtain ⟨k, q1, q2, q3, q4⟩ := hcol r hr; omega, hAs, hsum, fun s hs => ?_⟩
 ·rw [h1]
  unfold JR
  rw [zEu (n := cost.length) (by omega) _ rfl, Option.bind_some]
  exact h2
 ·rw [hsum]
  have ea : tot cost (fun r => (gI out r).toNat) = ((List.range cost.length).map fun r => gI u (r + 1)).sum + ((List.range cost.length).map fun r => gI v ((gI out r).toNat + 1)).sum := by
   unfold tot
   rw [← zCK]
   refine qb _ _ fun r hr => ?_
   rw [List.mem_range] at hr
   have e := hcol2 r hr
   have := hA.ti ((gI out r).toNat + 1) (by omega) (by have := hAs.lt r hr; omega) (by omega)
   rw [e, show (((r + 1 : Nat) : Int)).toNat = r + 1 by omega] at this
   exact this.symm
  have eb : ((List.range cost.length).map fun r => gI u (r + 1)).sum + ((List.range cost.length).map fun r => gI v (s r + 1)).sum ≤ tot cost s := by
   unfold tot
   rw [← zCK]
   refine zDT _ _ fun r hr => ?_
   rw [List.mem_range] at hr
   exact hA.fe (r + 1) (s r + 1) (by omega) (by omega) (by omega) (by have := hs.lt r hr; omega)
  have ec : ((List.range p).map fun k => gI v (k + 1)).sum = ((List.range cost.length).map fun r => gI v ((gI out r).toNat + 1)).sum := by
   rw [zDS (fun k => gI v (k + 1)) n1 List.nodup_range n2 fun k hk hk2 => ?_]
   ·rw [List.map_map]; rfl
   ·rw [List.mem_range] at hk
    refine (hA.vz (k + 1) (by omega) (by omega)).2 (Classical.byContradiction fun e => hk2 ?_)
    have rk := hA.rg (k + 1) (by omega) (by omega)
    have := h4 (k + 1) (by omega) (by omega) e
    rw [List.mem_map]
    exact ⟨(gI of (k + 1)).toNat - 1, by rw [List.mem_range]; omega, by rw [this]; omega⟩
  obtain ⟨m1, m2⟩ := zHv hs
  have ed := zFt (fun k => gI v (k + 1)) m1 m2 fun k hk => (hA.vz (k + 1) (by omega) (by rw [List.mem_range] at hk; omega)).1
  rw [List.map_map] at ed
  have ee : ((List.range cost.length).map ((fun k => gI v (k + 1)) ∘ s)).sum = ((List.range cost.length).map fun r => gI v (s r + 1)).sum := rfl
  omega
end Go.Mx
