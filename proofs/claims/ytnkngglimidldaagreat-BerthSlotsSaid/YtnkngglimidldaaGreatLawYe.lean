/- Plain laws, berths: the cheapest places (the search for one row). Conditions: none. -/
import Derived.Test.YtnkngglimidldaaGreatLawYd
set_option linter.unusedVariables false
set_option linter.unusedSimpArgs false
namespace Go.Mx
def Chain (fr : List Int) : List Nat → Prop
 | [] => False
 | a :: L => (L = [] ∧ a = 0) ∨ (a ≠ 0 ∧ a ∉ L ∧ (∃ c ∈ L, gI fr a = ((c : Nat) : Int)) ∧ Chain fr L)
theorem Chain.zero {fr : List Int} : ∀ {L : List Nat}, Chain fr L → 0 ∈ L
 | [], h => h.elim
 | a :: L, h => by
  rcases h with ⟨rfl, rfl⟩ | ⟨_, _, _, h⟩
  ·exact List.mem_cons_self
  ·exact List.mem_cons_of_mem _ h.zero
theorem Chain.nodup {fr : List Int} : ∀ {L : List Nat}, Chain fr L → L.Nodup
 | [], h => h.elim
 | a :: L, h => by
  rcases h with ⟨rfl, rfl⟩ | ⟨_, h1, _, h⟩
  ·simp
  ·exact List.nodup_cons.2 ⟨h1, h.nodup⟩
theorem Chain.nil {fr : List Int} {L : List Nat} (h : Chain fr (0 :: L)) : L = [] := by
 rcases h with ⟨h, _⟩ | ⟨h, _⟩
 ·exact h
 ·exact absurd rfl h
theorem Chain.congr {fr fr' : List Int} : ∀ {L : List Nat}, Chain fr L → (∀ k ∈ L, gI fr' k = gI fr k) → Chain fr' L
 | [], h, _ => h.elim
 | a :: L, h, e => by
  rcases h with h | ⟨h0, h1, ⟨c, h2, h3⟩, h⟩
  ·exact .inl h
  ·exact .inr ⟨h0, h1, ⟨c, h2, by rw [e a List.mem_cons_self]; exact h3⟩, h.congr fun k hk => e k (List.mem_cons_of_mem _ hk)⟩
theorem Chain.cut {fr : List Int} : ∀ {L : List Nat}, Chain fr L → ∀ {c : Nat}, c ∈ L → ∃ L', Chain fr (c :: L') ∧ L'.length < L.length ∧ ∀ x ∈ c :: L', x ∈ L
 | [], h, _, _ => h.elim
 | a :: L, h, c, hc => by
  rcases List.mem_cons.1 hc with rfl | hc
  ·exact ⟨L, h, by simp, fun x hx => hx⟩
  ·rcases h with ⟨rfl, _⟩ | ⟨_, _, _, h⟩
   ·cases hc
   ·obtain ⟨L', q1, q2, q3⟩ := h.cut hc
    exact ⟨L', q1, by simp only [List.length_cons]; omega, fun x hx => List.mem_cons_of_mem _ (q3 x hx)⟩
structure AInv (cost : List (List Int)) (p i : Nat) (u v of : List Int) : Prop where
 lu : u.length = cost.length + 1
 lv : v.length = p + 1
 lo : of.length = p + 1
 rg : ∀ k, 1 ≤ k → k ≤ p → 0 ≤ gI of k ∧ gI of k < i
 inj : ∀ k l, 1 ≤ k → k ≤ p → 1 ≤ l → l ≤ p → gI of k ≠ 0 → gI of k = gI of l → k = l
 sur : ∀ r : Nat, 1 ≤ r → r < i → ∃ k, 1 ≤ k ∧ k ≤ p ∧ gI of k = (r : Int)
 vz : ∀ k, 1 ≤ k → k ≤ p → gI v k ≤ 0 ∧ (gI of k = 0 → gI v k = 0)
 fe : ∀ r k, 1 ≤ r → r < i → 1 ≤ k → k ≤ p → gI u r + gI v k ≤ cC cost r k
 ti : ∀ k, 1 ≤ k → k ≤ p → gI of k ≠ 0 → gI u (gI of k).toNat + gI v k = cC cost (gI of k).toNat k
 uz : ∀ r, i ≤ r → gI u r = 0
 bu : ∀ r, -(2147483648 * (i : Int)) ≤ gI u r ∧ gI u r ≤ 2147483648 * (i : Int)
 bv : ∀ k, -(2147483648 * (i : Int)) ≤ gI v k ∧ gI v k ≤ 2147483648 * (i : Int)
structure SInv (cost : List (List Int)) (p i : Nat) (u0 v0 of : List Int) (O : Nat → Nat) (at_ : Nat) (L : List Nat) (u v least fr : List Int) (used : List Bool) : Prop where
 lu : u.length = cost.length + 1
 lv : v.length = p + 1
 ll : least.length = p + 1
 lf : fr.length = p + 1
 lus : used.length = p + 1
 ch : Chain fr (at_ :: L)
 us : ∀ k, gB used k = true ↔ k ∈ L
 le : ∀ k ∈ at_ :: L, k ≤ p
 mt : ∀ k ∈ L, k ≠ 0 → gI of k ≠ 0
 vz : ∀ k, 1 ≤ k → k ≤ p → gI v k ≤ 0 ∧ (gI of k = 0 → gI v k = 0)
 fe : ∀ r k, 1 ≤ r → r < i → 1 ≤ k → k ≤ p → gI u r + gI v k ≤ cC cost r k
 ti : ∀ k, 1 ≤ k → k ≤ p → gI of k ≠ 0 → gI u (gI of k).toNat + gI v k = cC cost (gI of k).toNat k
 fi : at_ ≠ 0 → ∀ k, 1 ≤ k → k ≤ p → gI u i + gI v k ≤ cC cost i k
 te : ∀ k ∈ at_ :: L, k ≠ 0 → ∀ c : Nat, gI fr k = (c : Int) → gI u (O c) + gI v k = cC cost (O c) k
 ls : ∀ j ∈ L, ∀ k, 1 ≤ k → k ≤ p → k ∉ at_ :: L → gI least k + gI u (O j) + gI v k ≤ cC cost (O j) k
 lt : ∀ k, 1 ≤ k → k ≤ p → k ∉ at_ :: L → (∃ c ∈ L, gI fr k = ((c : Nat) : Int) ∧ gI least k + gI u (O c) + gI v k = cC cost (O c) k) ∨ gI least k = 4294967296 - gI u i
 lz : at_ ≠ 0 → ∀ k, 1 ≤ k → k ≤ p → k ∉ at_ :: L → 0 ≤ gI least k
 lb : ∀ k, 1 ≤ k → k ≤ p → k ∉ at_ :: L → gI least k ≤ 4294967296 - gI u i
 ui : -1001 ≤ gI u i ∧ gI u i ≤ 1073741824 ∧ (at_ = 0 → gI u i = 0)
 ub : ∀ r, 1 ≤ r → r < i → gI u0 r ≤ gI u r ∧ gI u r ≤ gI u0 r + gI u i + 1001
 uo : ∀ r, r = 0 ∨ i < r → gI u r = gI u0 r
 vb : ∀ k, 1 ≤ k → k ≤ p → gI v0 k - gI u i - 1001 ≤ gI v k ∧ gI v k ≤ gI v0 k
 vn : gI v 0 = gI v0 0 - gI u i
 st : at_ = 0 → (∀ r, 1 ≤ r → r < i → gI u r = gI u0 r) ∧ ∀ k, 1 ≤ k → k ≤ p → gI v k = gI v0 k
def Of (of : List Int) (i j : Nat) : Nat := (gI (of.set 0 (i : Int)) j).toNat
theorem AInv.free {cost : List (List Int)} {p i : Nat} {u v of : List Int} (h : AInv cost p i u v of) (hi : i ≤ p) (hi1 : 1 ≤ i) : ∃ k, 1 ≤ k ∧ k ≤ p ∧ gI of k = 0 := by
 refine Classical.byContradiction fun hn => ?_
 have hno : ∀ k, 1 ≤ k → k ≤ p → gI of k ≠ 0 := fun k h1 h2 e => hn ⟨k, h1, h2, e⟩
 have := sub_len (l := (List.range p).map fun k => (gI of (k + 1)).toNat) (r := List.range' 1 (i - 1)) ?_ ?_
 ·simp at this; omega
 ·rw [List.nodup_iff_pairwise_ne, List.pairwise_map]
  refine List.Pairwise.imp_of_mem (R := fun a b => a ≠ b) (fun {a b} ha hb hab e => ?_) (List.nodup_iff_pairwise_ne.1 List.nodup_range)
  rw [List.mem_range] at ha hb
  have ra := h.rg (a + 1) (by omega) (by omega)
  have rb := h.rg (b + 1) (by omega) (by omega)
  have := h.inj (a + 1) (b + 1) (by omega) (by omega) (by omega) (by omega) (hno _ (by omega) (by omega)) (by omega)
  omega
 ·intro x hx
  rw [List.mem_map] at hx
  obtain ⟨k, hk, rfl⟩ := hx
  rw [List.mem_range] at hk
  have ra := h.rg (k + 1) (by omega) (by omega)
  have := hno (k + 1) (by omega) (by omega)
  rw [List.mem_range'_1]
  omega
end Go.Mx
