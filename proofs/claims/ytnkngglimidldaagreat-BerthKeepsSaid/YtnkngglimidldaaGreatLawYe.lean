/- Plain laws, berths: the cheapest places (the search for one row). Conditions: none. -/
import Derived.Test.YtnkngglimidldaaGreatLawYd
set_option linter.unusedVariables false
set_option linter.unusedSimpArgs false
namespace Go.Mx
def Chain (fr : List Int) : List Nat → Prop
 | [] => False
 | a :: L => (L = [] ∧ a = 0) ∨ (a ≠ 0 ∧ a ∉ L ∧ (∃ c ∈ L, gI fr a = ((c : Nat) : Int)) ∧ Chain fr L)
theorem Chain.zero {fr : List Int} : ∀ {L : List Nat}, Chain fr L → 0 ∈ L
 | [], h => h.elim
 | a :: L, h => by
  rcases h with ⟨rfl, rfl⟩ | ⟨_, _, _, h⟩
  ·exact List.mem_cons_self
  ·exact List.mem_cons_of_mem _ h.zero
theorem Chain.nodup {fr : List Int} : ∀ {L : List Nat}, Chain fr L → L.Nodup
 | [], h => h.elim
 | a :: L, h => by
  rcases h with ⟨rfl, rfl⟩ | ⟨_, h1, _, h⟩
  ·simp
  ·exact List.nodup_cons.2 ⟨h1, h.nodup⟩
theorem Chain.nil {fr : List Int} {L : List Nat} (h : Chain fr (0 :: L)) : L = [] := by
 rcases h with ⟨h, _⟩ | ⟨h, _⟩
 ·exact h
 ·exact absurd rfl h
theorem Chain.tl {fr : List Int} {a : Nat} {L : List Nat} (h : Chain fr (a :: L)) (ha : a ≠ 0) : Chain fr L := by
 rcases h with ⟨_, h⟩ | ⟨_, _, _, h⟩
 ·exact absurd h ha
 ·exact h
theorem Chain.congr {fr fr' : List Int} : ∀ {L : List Nat}, Chain fr L → (∀ k ∈ L, gI fr' k = gI fr k) → Chain fr' L
 | [], h, _ => h.elim
 | a :: L, h, e => by
  rcases h with h | ⟨h0, h1, ⟨c, h2, h3⟩, h⟩
  ·exact .inl h
  ·exact .inr ⟨h0, h1, ⟨c, h2, by rw [e a List.mem_cons_self]; exact h3⟩, h.congr fun k hk => e k (List.mem_cons_of_mem _ hk)⟩
theorem Chain.from_ {fr : List Int} : ∀ {L : List Nat}, Chain fr L → ∀ {k : Nat}, k ∈ L → k ≠ 0 → ∃ c ∈ L, gI fr k = ((c : Nat) : Int)
 | [], h, _, _, _ => h.elim
 | a :: L, h, k, hk, h0 => by
  rcases h with ⟨rfl, rfl⟩ | ⟨_, _, ⟨c, h2, h3⟩, h⟩
  ·rw [List.mem_singleton] at hk; exact absurd hk h0
  ·rcases List.mem_cons.1 hk with rfl | hk
   ·exact ⟨c, List.mem_cons_of_mem _ h2, h3⟩
   ·obtain ⟨d, q1, q2⟩ := h.from_ hk h0
    exact ⟨d, List.mem_cons_of_mem _ q1, q2⟩
theorem Chain.cut {fr : List Int} : ∀ {L : List Nat}, Chain fr L → ∀ {c : Nat}, c ∈ L → ∃ L', Chain fr (c :: L') ∧ L'.length < L.length ∧ ∀ x ∈ c :: L', x ∈ L
 | [], h, _, _ => h.elim
 | a :: L, h, c, hc => by
  rcases List.mem_cons.1 hc with rfl | hc
  ·exact ⟨L, h, by simp, fun x hx => hx⟩
  ·rcases h with ⟨rfl, _⟩ | ⟨_, _, _, h⟩
   ·cases hc
   ·obtain ⟨L', q1, q2, q3⟩ := h.cut hc
    exact ⟨L', q1, by simp only [List.length_cons]; omega, fun x hx => List.mem_cons_of_mem _ (q3 x hx)⟩
structure AInv (cost : List (List Int)) (p i : Nat) (u v of : List Int) : Prop where
 lu : u.length = cost.length + 1
 lv : v.length = p + 1
 lo : of.length = p + 1
 rg : ∀ k, 1 ≤ k → k ≤ p → 0 ≤ gI of k ∧ gI of k < i
 inj : ∀ k l, 1 ≤ k → k ≤ p → 1 ≤ l → l ≤ p → gI of k ≠ 0 → gI of k = gI of l → k = l
 sur : ∀ r : Nat, 1 ≤ r → r < i → ∃ k, 1 ≤ k ∧ k ≤ p ∧ gI of k = (r : Int)
 vz : ∀ k, 1 ≤ k → k ≤ p → gI v k ≤ 0 ∧ (gI of k = 0 → gI v k = 0)
 fe : ∀ r k, 1 ≤ r → r < i → 1 ≤ k → k ≤ p → gI u r + gI v k ≤ cC cost r k
 ti : ∀ k, 1 ≤ k → k ≤ p → gI of k ≠ 0 → gI u (gI of k).toNat + gI v k = cC cost (gI of k).toNat k
 uz : ∀ r, i ≤ r → gI u r = 0
 bu : ∀ r, -(2147483648 * (i : Int)) ≤ gI u r ∧ gI u r ≤ 2147483648 * (i : Int)
 bv : ∀ k, -(2147483648 * (i : Int)) ≤ gI v k ∧ gI v k ≤ 2147483648 * (i : Int)
structure SInv (cost : List (List Int)) (p i : Nat) (u0 v0 of : List Int) (O : Nat → Nat) (at_ : Nat) (L : List Nat) (u v least fr : List Int) (used : List Bool) : Prop where
 lu : u.length = cost.length + 1
 lv : v.length = p + 1
 ll : least.length = p + 1
 lf : fr.length = p + 1
 lus : used.length = p + 1
 ch : Chain fr (at_ :: L)
 us : ∀ k, gB used k = true ↔ k ∈ L
 le : ∀ k ∈ at_ :: L, k ≤ p
 mt : ∀ k ∈ L, k ≠ 0 → gI of k ≠ 0
 vz : ∀ k, 1 ≤ k → k ≤ p → gI v k ≤ 0 ∧ (gI of k = 0 → gI v k = 0)
 fe : ∀ r k, 1 ≤ r → r < i → 1 ≤ k → k ≤ p → gI u r + gI v k ≤ cC cost r k
 ti : ∀ k, 1 ≤ k → k ≤ p → gI of k ≠ 0 → gI u (gI of k).toNat + gI v k = cC cost (gI of k).toNat k
 fi : at_ ≠ 0 → ∀ k, 1 ≤ k → k ≤ p → gI u i + gI v k ≤ cC cost i k
 te : ∀ k ∈ at_ :: L, k ≠ 0 → ∀ c : Nat, gI fr k = (c : Int) → gI u (O c) + gI v k = cC cost (O c) k
 ls : ∀ j ∈ L, ∀ k, 1 ≤ k → k ≤ p → k ∉ at_ :: L → gI least k + gI u (O j) + gI v k ≤ cC cost (O j) k
 lt : ∀ k, 1 ≤ k → k ≤ p → k ∉ at_ :: L → (∃ c ∈ L, gI fr k = ((c : Nat) : Int) ∧ gI least k + gI u (O c) + gI v k = cC cost (O c) k) ∨ gI least k = 4294967296 - gI u i
 lz : at_ ≠ 0 → ∀ k, 1 ≤ k → k ≤ p → k ∉ at_ :: L → 0 ≤ gI least k
 lb : ∀ k, 1 ≤ k → k ≤ p → k ∉ at_ :: L → gI least k ≤ 4294967296 - gI u i
 ui : -1001 ≤ gI u i ∧ gI u i ≤ 1073741824 ∧ (at_ = 0 → gI u i = 0)
 ub : ∀ r, 1 ≤ r → r < i → gI u0 r ≤ gI u r ∧ gI u r ≤ gI u0 r + gI u i + 1001
 uo : ∀ r, r = 0 ∨ i < r → gI u r = gI u0 r
 vb : ∀ k, 1 ≤ k → k ≤ p → gI v0 k - gI u i - 1001 ≤ gI v k ∧ gI v k ≤ gI v0 k
 vn : gI v 0 = gI v0 0 - gI u i
 st : at_ = 0 → (∀ r, 1 ≤ r → r < i → gI u r = gI u0 r) ∧ ∀ k, 1 ≤ k → k ≤ p → gI v k = gI v0 k
def Of (of : List Int) (i j : Nat) : Nat := (gI (of.set 0 (i : Int)) j).toNat
theorem zKv {of : List Int} {i : Nat} (h : 0 < of.length) : Of of i 0 = i := by unfold Of; rw [JN h, if_pos rfl]; omega
theorem zKL {of : List Int} {i j : Nat} (h : 0 < of.length) (hj : 1 ≤ j) : Of of i j = (gI of j).toNat := by unfold Of; rw [JN h, if_neg (by omega)]
theorem AInv.free {cost : List (List Int)} {p i : Nat} {u v of : List Int} (h : AInv cost p i u v of) (hi : i ≤ p) (hi1 : 1 ≤ i) : ∃ k, 1 ≤ k ∧ k ≤ p ∧ gI of k = 0 := by
 refine Classical.byContradiction fun hn => ?_
 have hno : ∀ k, 1 ≤ k → k ≤ p → gI of k ≠ 0 := fun k h1 h2 e => hn ⟨k, h1, h2, e⟩
 have := Q8 (l := (List.range p).map fun k => (gI of (k + 1)).toNat) (r := List.range' 1 (i - 1)) ?_ ?_
 ·simp at this; omega
 ·rw [List.nodup_iff_pairwise_ne, List.pairwise_map]
  refine List.Pairwise.imp_of_mem (R := fun a b => a ≠ b) (fun {a b} ha hb hab e => ?_) (List.nodup_iff_pairwise_ne.1 List.nodup_range)
  rw [List.mem_range] at ha hb
  have ra := h.rg (a + 1) (by omega) (by omega)
  have rb := h.rg (b + 1) (by omega) (by omega)
  have := h.inj (a + 1) (b + 1) (by omega) (by omega) (by omega) (by omega) (hno _ (by omega) (by omega)) (by omega)
  omega
 ·intro x hx
  rw [List.mem_map] at hx
  obtain ⟨k, hk, rfl⟩ := hx
  rw [List.mem_range] at hk
  have ra := h.rg (k + 1) (by omega) (by omega)
  have := hno (k + 1) (by omega) (by omega)
  rw [List.mem_range'_1]
  omega
theorem asgIter {cost : List (List Int)} {p i : Nat} {u0 v0 of : List Int} (hc : qW cost p) (hi1 : 1 ≤ i) (hi2 : i ≤ cost.length) (hA : AInv cost p i u0 v0 of) {at_ : Nat} {L : List Nat} {u v least fr : List Int} {used : List Bool}
  (hS : SInv cost p i u0 v0 of (Of of i) at_ L u v least fr used) (hat : at_ ≠ 0 → gI of at_ ≠ 0) :
  ∃ (m : Nat) (u' v' ls' fr' : List Int), 1 ≤ m ∧ m ≤ p ∧ SInv cost p i u0 v0 of (Of of i) m (at_ :: L) u' v' ls' fr' (used.set at_ true) ∧
   yZ cost (p : Int) (i : Int) of ((at_ : Int), u, v, least, fr, used) = jb (i : Int) of (at_ : Int) used (m : Int) fr' u' v' ls' := by
 have hp := hc.hp; have hn := hc.hn
 have hap : at_ ≤ p := hS.le _ List.mem_cons_self
 have hol : 0 < of.length := by rw [hA.lo]; omega
 have O0 : Of of i 0 = i := zKv hol
 have h0 : 0 ∈ at_ :: L := hS.ch.zero
 have hU : ∀ k, gB (used.set at_ true) k = true ↔ k ∈ at_ :: L := by
  intro k
  rw [gB_set (by rw [hS.lus]; omega), List.mem_cons]
  by_cases e : k = at_
  ·simp [e]
  ·rw [if_neg e, hS.us k]; simp [e]
 have hUf : ∀ k, k ∉ at_ :: L → gB (used.set at_ true) k = false := fun k hk => by
  cases hb : gB (used.set at_ true) k with
  | false => rfl
  | true => exact absurd ((hU k).1 hb) hk
 have hmt : ∀ k ∈ at_ :: L, k ≠ 0 → gI of k ≠ 0 := fun k hk hk0 => by
  rcases List.mem_cons.1 hk with rfl | hk
  ·exact hat hk0
  ·exact hS.mt k hk hk0
 have hOr : ∀ k ∈ at_ :: L, k ≠ 0 → 1 ≤ Of of i k ∧ Of of i k < i ∧ gI of k = (Of of i k : Int) := fun k hk hk0 => by
  have r := hA.rg k (by omega) (hS.le k hk)
  have := hmt k hk hk0
  rw [zKL hol (by omega)]
  omega
 have hinj : ∀ j ∈ at_ :: L, ∀ k ∈ at_ :: L, Of of i j = Of of i k → j = k := fun j hj k hk e => by
  by_cases j0 : j = 0
  ·by_cases k0 : k = 0
   ·omega
   ·have := hOr k hk k0; rw [j0, O0] at e; omega
  ·by_cases k0 : k = 0
   ·have := hOr j hj j0; rw [k0, O0] at e; omega
   ·have a := hOr j hj j0; have b := hOr k hk k0
    exact hA.inj j k (by omega) (hS.le j hj) (by omega) (hS.le k hk) (by omega) (by omega)
 have hx : 1 ≤ Of of i at_ ∧ Of of i at_ ≤ i := by
  by_cases e : at_ = 0
  ·rw [e, O0]; omega
  ·have := hOr at_ List.mem_cons_self e; omega
 have hne : ∀ k ∈ at_ :: L, k ≠ 0 → at_ ≠ 0 := fun k hk hk0 e => by
  subst e
  rw [hS.ch.nil, List.mem_singleton] at hk
  exact hk0 hk
 have hi1000 : (i : Int) ≤ 1000 := by omega
 -- bounds
 have bU : ∀ r, -9007199254740992 ≤ gI u r ∧ gI u r ≤ 9007199254740992 := fun r => by
  have b := hA.bu r; have ui := hS.ui
  by_cases e : r = 0 ∨ i < r
  ·rw [hS.uo r e]; omega
  ·by_cases e2 : r = i
   ·rw [e2]; omega
   ·have := hS.ub r (by omega) (by omega); omega
 have bV : ∀ k, -9007199254740992 ≤ gI v k ∧ gI v k ≤ 9007199254740992 := fun k => by
  have b := hA.bv k; have ui := hS.ui
  by_cases e : k = 0
  ·have b0 := hA.bv 0; rw [e, hS.vn]; omega
  ·by_cases e2 : k ≤ p
   ·have := hS.vb k (by omega) e2; omega
   ·rw [zJ5 (by rw [hS.lv]; omega)]; omega
 obtain ⟨next, step, ls, f, hP, hL1⟩ := scan_eq (i := i) (of := of) hc (x := Of of i at_) hx.1 (by omega) hap hS.lu hS.lv hS.ll hS.lf hS.lus (bU _) (fun k _ _ => bV k)
 have A0 : ∀ k, 1 ≤ k → k ≤ p → k ∉ at_ :: L → gI ls k ≤ gI least k ∧ gI ls k ≤ cC cost (Of of i at_) k - gI u (Of of i at_) - gI v k ∧ ((gI ls k = gI least k ∧ gI f k = gI fr k) ∨ (gI ls k = cC cost (Of of i at_) k - gI u (Of of i at_) - gI v k ∧ gI f k = at_)) ∧ step ≤ gI ls k := fun k h1 h2 h3 => hP.lo k h1 (by omega) (hUf k h3)
 have A1 : ∀ j ∈ at_ :: L, ∀ k, 1 ≤ k → k ≤ p → k ∉ at_ :: L → gI ls k + gI u (Of of i j) + gI v k ≤ cC cost (Of of i j) k := fun j hj k h1 h2 h3 => by
  have a := A0 k h1 h2 h3
  rcases List.mem_cons.1 hj with rfl | hj
  ·omega
  ·have := hS.ls j hj k h1 h2 h3; omega
 have A2 : ∀ k, 1 ≤ k → k ≤ p → k ∉ at_ :: L → (∃ c ∈ at_ :: L, gI f k = ((c : Nat) : Int) ∧ gI ls k + gI u (Of of i c) + gI v k = cC cost (Of of i c) k) ∨ gI ls k = 4294967296 - gI u i := fun k h1 h2 h3 => by
  obtain ⟨a1, a2, a3, a4⟩ := A0 k h1 h2 h3
  rcases a3 with ⟨a3, a5⟩ | ⟨a3, a5⟩
  ·rcases hS.lt k h1 h2 h3 with ⟨c, q1, q2, q3⟩ | q
   ·exact .inl ⟨c, List.mem_cons_of_mem _ q1, by rw [a5]; exact q2, by omega⟩
   ·exact .inr (by omega)
  ·exact .inl ⟨at_, List.mem_cons_self, a5, by omega⟩
 have A3 : at_ ≠ 0 → ∀ k, 1 ≤ k → k ≤ p → k ∉ at_ :: L → 0 ≤ gI ls k := fun e k h1 h2 h3 => by
  obtain ⟨a1, a2, a3, a4⟩ := A0 k h1 h2 h3
  rcases a3 with ⟨a3, a5⟩ | ⟨a3, a5⟩
  ·have := hS.lz e k h1 h2 h3; omega
  ·have hr := hOr at_ List.mem_cons_self e
   have := hS.fe (Of of i at_) k hr.1 hr.2.1 h1 h2; omega
 have A4 : ∀ k, 1 ≤ k → k ≤ p → k ∉ at_ :: L → gI ls k ≤ 4294967296 - gI u i := fun k h1 h2 h3 => by
  have a := A0 k h1 h2 h3; have := hS.lb k h1 h2 h3; omega
 obtain ⟨k0, k1, k2, k3⟩ := hA.free (by omega) hi1
 have k4 : k0 ∉ at_ :: L := fun q => hmt k0 q (by omega) k3
 have hstep : step ≤ 1073741824 - gI u i := by
  have a := A1 0 h0 k0 k1 k2 k4
  rw [O0, (hS.vz k0 k1 k2).2 k3] at a
  have c := (hc.at hi1 hi2 k1 k2).2
  have := (A0 k0 k1 k2 k4).2.2.2
  omega
 have ui := hS.ui
 rcases hP.nx with ⟨e, e2⟩ | ⟨m, e1, m1, m2, m3, m4, m5⟩
 ·omega
 ·subst e1
  have mp : m ≤ p := by omega
  have mn : m ∉ at_ :: L := fun q => by rw [(hU m).2 q] at m3; cases m3
  have hs0 : at_ ≠ 0 → 0 ≤ step := fun e => by rw [m4]; exact A3 e m m1 mp mn
  have hs1 : -1001 ≤ step := by
   by_cases e : at_ = 0
   ·have eL : L = [] := by have := hS.ch; rw [e] at this; exact this.nil
    obtain ⟨a1, a2, a3, a4⟩ := A0 m m1 mp mn
    rcases a3 with ⟨a3, a5⟩ | ⟨a3, a5⟩
    ·rcases hS.lt m m1 mp mn with ⟨c, q1, q2, q3⟩ | q
     ·rw [eL] at q1; cases q1
     ·have := ui.2.2 e; omega
    ·have e3 := ui.2.2 e
     rw [e, O0] at a3
     have c := (hc.at hi1 hi2 m1 mp).2
     have := (hS.vz m m1 mp).1
     omega
   ·have := hs0 e; omega
  -- the tight way to m
  obtain ⟨c, hc1, hc2, hc3⟩ : ∃ c ∈ at_ :: L, gI f m = ((c : Nat) : Int) ∧ gI ls m + gI u (Of of i c) + gI v m = cC cost (Of of i c) m := by
   rcases A2 m m1 mp mn with q | q
   ·exact q
   ·omega
  obtain ⟨u', v', ls', hQ, hL2⟩ := upd_eq (n := cost.length) (p := p) (i := i) (at_ := at_) (of := of) (row := u) (col := v) (least := ls) (fr := f) (used := used) (next := (m : Int)) (step := step) (by omega) hp hap hS.lu hS.lv hP.l1 hS.lus hA.lo (O := Of of i)
   (fun j hj => by
    unfold Of
    by_cases e : j = 0
    ·rw [e, JN hol, if_pos rfl]; omega
    ·have := hA.rg j (by omega) hj
     rw [JN hol, if_neg e]; omega)
   (fun j hj hj2 => by
    have hm := (hU j).1 hj2
    by_cases e : j = 0
    ·rw [e, O0]; exact hi2
    ·have := hOr j hm e; omega)
   (fun j k hj hk hj2 hk2 e => hinj j ((hU j).1 hj2) k ((hU k).1 hk2) e)
   (by omega) bU bV (fun k hk hk2 => by
    have hkn : k ∉ at_ :: L := fun q => by rw [(hU k).2 q] at hk2; cases hk2
    have hk1 : 1 ≤ k := by
     by_cases e : k = 0
     ·rw [e] at hkn; exact absurd h0 hkn
     ·omega
    have a := A4 k hk1 hk hkn
    have b := (A0 k hk1 hk hkn).2.2.2
    omega)
  have R1 : ∀ j ∈ at_ :: L, gI u' (Of of i j) = gI u (Of of i j) + step := fun j hj => hQ.u1 j (by have := hS.le j hj; omega) ((hU j).2 hj)
  have R2 : ∀ r, (∀ j ∈ at_ :: L, Of of i j ≠ r) → gI u' r = gI u r := fun r hr => hQ.u2 r fun j _ hj => hr j ((hU j).1 hj)
  have V1 : ∀ k ∈ at_ :: L, gI v' k = gI v k - step := fun k hk => by rw [hQ.v1, if_pos ⟨by have := hS.le k hk; omega, (hU k).2 hk⟩]
  have V2 : ∀ k, k ∉ at_ :: L → gI v' k = gI v k := fun k hk => by rw [hQ.v1, if_neg (fun q => hk ((hU k).1 q.2))]
  have M1 : ∀ k, k ≤ p → k ∉ at_ :: L → gI ls' k = gI ls k - step := fun k hk hk2 => by rw [hQ.m1, if_pos ⟨by omega, hUf k hk2⟩]
  have Ri : gI u' i = gI u i + step := by have := R1 0 h0; rwa [O0] at this
  have hui : -1001 ≤ gI u' i := by
   rw [Ri]
   by_cases e : at_ = 0
   ·have := ui.2.2 e; omega
   ·have := hs0 e; omega
  have Rs : ∀ r, 1 ≤ r → r < i → (gI u' r = gI u r ∧ ∀ j ∈ at_ :: L, Of of i j ≠ r) ∨ (gI u' r = gI u r + step ∧ 0 ≤ step ∧ ∃ j ∈ at_ :: L, Of of i j = r) := fun r h1 h2 => by
   by_cases e : ∃ j ∈ at_ :: L, Of of i j = r
   ·obtain ⟨j, q1, q2⟩ := e
    right
    have j0 : j ≠ 0 := fun w => by rw [w, O0] at q2; omega
    exact ⟨by rw [← q2]; exact R1 j q1, hs0 (hne j q1 j0), j, q1, q2⟩
   ·left
    have : ∀ j ∈ at_ :: L, Of of i j ≠ r := fun j q1 q2 => e ⟨j, q1, q2⟩
    exact ⟨R2 r this, this⟩
  have hff : ∀ k ∈ at_ :: L, gI f k = gI fr k := fun k hk => (hP.no k fun q => by rw [(hU k).2 hk] at q; cases q.2.2).2
  have hnm : ∀ k, k ∉ m :: at_ :: L → k ≠ m ∧ k ∉ at_ :: L := fun k hk => ⟨fun e => hk (by rw [e]; exact List.mem_cons_self), fun e => hk (List.mem_cons_of_mem _ e)⟩
  refine ⟨m, u', v', ls', f, m1, mp, ⟨hQ.l1, hQ.l2, hQ.l3, hP.l2, by rw [List.length_set]; exact hS.lus, .inr ⟨by omega, mn, ⟨c, hc1, hc2⟩, hS.ch.congr hff⟩, hU, fun k hk => ?_, hmt, fun k h1 h2 => ?_, fun r k h1 h2 h3 h4 => ?_, fun k h1 h2 h3 => ?_, fun _ k h1 h2 => ?_, fun k hk hk0 d hd => ?_, fun j hj k h1 h2 h3 => ?_, fun k h1 h2 h3 => ?_, fun _ k h1 h2 h3 => ?_, fun k h1 h2 h3 => ?_, ⟨hui, by rw [Ri]; omega, fun e => by omega⟩, fun r h1 h2 => ?_, fun r hr => ?_, fun k h1 h2 => ?_, ?_, fun e => ?_⟩, ?_⟩
  ·rcases List.mem_cons.1 hk with rfl | hk
   ·exact mp
   ·exact hS.le k hk
  ·have z := hS.vz k h1 h2
   by_cases e : k ∈ at_ :: L
   ·have := hs0 (hne k e (by omega))
    rw [V1 k e]
    exact ⟨by omega, fun q => absurd q (hmt k e (by omega))⟩
   ·rw [V2 k e]; exact z
  ·have z := hS.fe r k h1 h2 h3 h4
   by_cases e : k ∈ at_ :: L
   ·have := hs0 (hne k e (by omega))
    rw [V1 k e]
    rcases Rs r h1 h2 with ⟨q, _⟩ | ⟨q, _⟩ <;> omega
   ·rw [V2 k e]
    rcases Rs r h1 h2 with ⟨q, _⟩ | ⟨q, _, j, q2, q3⟩
    ·omega
    ·have := A1 j q2 k h3 h4 e
     have := (A0 k h3 h4 e).2.2.2
     rw [q3] at *; omega
  ·have z := hS.ti k h1 h2 h3
   have rk := hA.rg k h1 h2
   by_cases e : k ∈ at_ :: L
   ·have := R1 k e
    rw [zKL hol h1] at this
    rw [V1 k e, this]; omega
   ·rw [V2 k e, R2 _ fun j hj q => ?_]
    ·exact z
    ·by_cases j0 : j = 0
     ·rw [j0, O0] at q; omega
     ·have a := hOr j hj j0
      exact e (by rw [← hA.inj j k (by omega) (hS.le j hj) h1 h2 (by omega) (by omega)]; exact hj)
  ·rw [Ri]
   by_cases e : k ∈ at_ :: L
   ·have := hS.fi (hne k e (by omega)) k h1 h2
    rw [V1 k e]; omega
   ·have := A1 0 h0 k h1 h2 e
    have := (A0 k h1 h2 e).2.2.2
    rw [V2 k e]; rw [O0] at *; omega
  ·rcases List.mem_cons.1 hk with rfl | hk
   ·have e : d = c := by rw [hc2] at hd; omega
    rw [e, R1 c hc1, V2 k mn]; omega
   ·have hk2 : gI fr k = (d : Int) := by rw [← hff k hk]; exact hd
    have z := hS.te k hk hk0 d hk2
    obtain ⟨d2, q1, q2⟩ := hS.ch.from_ hk hk0
    have e : d2 = d := by rw [hk2] at q2; omega
    rw [e] at q1
    rw [R1 d q1, V1 k hk]; omega
  ·obtain ⟨n1, n2⟩ := hnm k h3
   have a := A1 j hj k h1 h2 n2
   rw [M1 k h2 n2, R1 j hj, V2 k n2]; omega
  ·obtain ⟨n1, n2⟩ := hnm k h3
   rw [M1 k h2 n2, Ri]
   rcases A2 k h1 h2 n2 with ⟨d, q1, q2, q3⟩ | q
   ·left; exact ⟨d, q1, q2, by rw [R1 d q1, V2 k n2]; omega⟩
   ·right; omega
  ·obtain ⟨n1, n2⟩ := hnm k h3
   have := (A0 k h1 h2 n2).2.2.2
   rw [M1 k h2 n2]; omega
  ·obtain ⟨n1, n2⟩ := hnm k h3
   have := A4 k h1 h2 n2
   rw [M1 k h2 n2, Ri]; omega
  ·have z := hS.ub r h1 h2
   rw [Ri]
   by_cases e : at_ = 0
   ·have e0 := ui.2.2 e
    have e1 := (hS.st e).1 r h1 h2
    rcases Rs r h1 h2 with ⟨q, _⟩ | ⟨q, q2, j, q3, q4⟩
    ·omega
    ·exact absurd e (hne j q3 fun w => by rw [w, O0] at q4; omega)
   ·have := hs0 e
    rcases Rs r h1 h2 with ⟨q, _⟩ | ⟨q, q2, j, q3, q4⟩ <;> omega
  ·rw [R2 r fun j hj q => ?_]
   ·exact hS.uo r hr
   ·by_cases j0 : j = 0
    ·rw [j0, O0] at q; omega
    ·have := hOr j hj j0; omega
  ·have z := hS.vb k h1 h2
   rw [Ri]
   by_cases e : k ∈ at_ :: L
   ·have := hs0 (hne k e (by omega))
    rw [V1 k e]; omega
   ·rw [V2 k e]
    by_cases e2 : at_ = 0
    ·have := ui.2.2 e2; have := (hS.st e2).2 k h1 h2; omega
    ·have := hs0 e2; omega
  ·rw [V1 0 h0, Ri, hS.vn]; omega
  ·omega
  ·unfold yZ
   simp only
   rw [zMB (by rw [hS.lus]; omega), Option.bind_some, show put of 0 (i : Int) = of.set 0 (i : Int) from rfl, yh (by rw [List.length_set, hA.lo]; omega), Option.bind_some]
   have e : gI (of.set 0 (i : Int)) at_ = ((Of of i at_ : Nat) : Int) := by
    unfold Of
    by_cases e : at_ = 0
    ·rw [e, JN hol, if_pos rfl]; omega
    ·have := hA.rg at_ (by omega) hap
     rw [JN hol, if_neg e]; omega
   rw [e, hL1]
   unfold j6
   exact hL2
end Go.Mx
