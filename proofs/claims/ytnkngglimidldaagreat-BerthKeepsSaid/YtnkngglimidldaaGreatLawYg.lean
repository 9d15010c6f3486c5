/- Plain laws, berths: what a ship can take; the board. Conditions: none. -/
import Derived.Test.YtnkngglimidldaaGreatLawYb
import Derived.Test.YtnkngglimidldaaGreatLawYf
set_option linter.unusedVariables false
set_option linter.unusedSimpArgs false
namespace Go.Mx
theorem zJB {α : Type} : ∀ (l : List α) (x : α), insL l l.length x = l ++ [x]
 | [], x => rfl
 | y :: r, x => by simp only [List.length_cons, insL, zJB r x, List.cons_append]
theorem zLk {α β : Type} [DecidableEq α] (m : List (α × β)) (k : α) (v : β) (h : ∀ p ∈ m, p.1 ≠ k) : putM posE m k v = m ++ [(k, v)] := by
 unfold putM
 have hf : zAZ k m = none := by
  have := zA6 (k := k) (l := m)
  cases e : zAZ k m with
  | none => rfl
  | some i =>
   rw [e] at this
   obtain ⟨v', h1, h2⟩ := this
   exact absurd rfl (h _ (List.mem_of_getElem? h1))
 rw [hf]
 simp only [posE, List.length_map]
 exact zJB m (k, v)
theorem zHa {α β : Type} [DecidableEq α] {k : α} {v : β} : ∀ {l : List (α × β)}, ZH k l = some v → (k, v) ∈ l
 | [], h => by cases h
 | p :: r, h => by
  unfold ZH at h
  split at h
  ·rename_i e
   cases h
   rw [e]; exact List.mem_cons_self
  ·exact List.mem_cons_of_mem _ (zHa h)
theorem zGR {α β : Type} [DecidableEq α] {k : α} : ∀ {l : List (α × β)}, ZH k l = none → ∀ v, (k, v) ∉ l
 | [], h, v, hm => by cases hm
 | p :: r, h, v, hm => by
  unfold ZH at h
  split at h
  ·cases h
  ·rename_i e
   rcases List.mem_cons.1 hm with q | q
   ·exact e (by rw [← q])
   ·exact zGR h v q
def zCQ (c : zN) : Bool := decide (1 ≤ c.ID ∧ c.ID ≤ 1099511627776 ∧ 0 ≤ c.Draught ∧ c.Draught ≤ 8000 ∧ 0 ≤ c.From ∧ c.From ≤ c.To ∧ c.To ≤ 1048576 ∧ 1 ≤ c.Long ∧ c.Long ≤ 1440)
theorem zK2 (c : zN) : Yw c = zCQ c := by
 unfold Yw zCQ zZ
 rw [Bool.eq_iff_iff]
 simp only [Bool.and_eq_true, decide_eq_true_eq]
 constructor <;> intro h <;> omega
structure zEg (c : zN) : Prop where
 d0 : 0 ≤ c.Draught
 d1 : c.Draught ≤ 8000
 f0 : 0 ≤ c.From
 l0 : 1 ≤ c.Long
 l1 : c.Long ≤ 1440
theorem zEg.of {c : zN} (h : zCQ c = true) : zEg c := by
 simp only [zCQ, decide_eq_true_eq] at h
 exact ⟨by omega, by omega, by omega, by omega, by omega⟩
def Qj (h : zL) (c : zN) (i : Nat) (t : zD) (bs : List zm) : List (zF × zD) := bs.filterMap fun b => if (qX h c t b).2 = true then some ((⟨i, b.ID⟩ : zF), (qX h c t b).1) else none
def yR (h : zL) (c : zN) : Nat → List zD → List (zF × zD)
 | _, [] => []
 | i, t :: r => Qj h c i t h.Berths ++ yR h c (i + 1) r
def Z6 (h : zL) : Nat → List zD → List zF
 | _, [] => []
 | i, t :: r => (h.Berths.map fun b => (⟨i, b.ID⟩ : zF)) ++ Z6 h (i + 1) r
theorem zH2 (h : zL) (c : zN) (i : Nat) (t : zD) (b : zm) (bs : List zm) : Qj h c i t (b :: bs) = (if (qX h c t b).2 = true then [((⟨i, b.ID⟩ : zF), (qX h c t b).1)] else []) ++ Qj h c i t bs := by
 unfold Qj
 rw [List.filterMap_cons]
 by_cases e : (qX h c t b).2 = true
 ·rw [if_pos e, if_pos e]; rfl
 ·rw [if_neg e, if_neg e]; rfl
theorem zFI {h : zL} {c : zN} {i : Nat} {t : zD} {bs : List zm} {x : zF} {s : zD} : (x, s) ∈ Qj h c i t bs ↔ ∃ b ∈ bs, x = ⟨i, b.ID⟩ ∧ (qX h c t b).2 = true ∧ s = (qX h c t b).1 := by
 unfold Qj
 rw [List.mem_filterMap]
 constructor
 ·rintro ⟨b, hb, q⟩
  split at q
  ·rename_i e
   cases q
   exact ⟨b, hb, rfl, e, rfl⟩
  ·cases q
 ·rintro ⟨b, hb, rfl, e, rfl⟩
  exact ⟨b, hb, by rw [if_pos e]⟩
theorem zDc {h : zL} {c : zN} {x : zF} {s : zD} : ∀ {ts : List zD} {i : Nat}, (x, s) ∈ yR h c i ts ↔ ∃ (j : Nat) (hj : j < ts.length), ∃ b ∈ h.Berths, x = ⟨((i + j : Nat) : Int), b.ID⟩ ∧ (qX h c ts[j] b).2 = true ∧ s = (qX h c ts[j] b).1
 | [], i => by simp [yR]
 | t :: r, i => by
  unfold yR
  rw [List.mem_append, zFI, zDc]
  constructor
  ·rintro (⟨b, hb, q⟩ | ⟨j, hj, b, hb, q1, q2, q3⟩)
   ·exact ⟨0, by simp, b, hb, q⟩
   ·exact ⟨j + 1, by simp only [List.length_cons]; omega, b, hb, by rw [q1, show i + 1 + j = i + (j + 1) by omega], q2, q3⟩
  ·rintro ⟨j, hj, b, hb, q1, q2, q3⟩
   cases j with
   | zero => exact .inl ⟨b, hb, q1, q2, q3⟩
   | succ j => exact .inr ⟨j, by simpa using hj, b, hb, by rw [q1, show i + 1 + j = i + (j + 1) by omega], q2, q3⟩
theorem zDd {h : zL} {x : zF} : ∀ {ts : List zD} {i : Nat}, x ∈ Z6 h i ts ↔ ∃ (j : Nat) (hj : j < ts.length), ∃ b ∈ h.Berths, x = ⟨((i + j : Nat) : Int), b.ID⟩
 | [], i => by simp [Z6]
 | t :: r, i => by
  unfold Z6
  rw [List.mem_append, List.mem_map, zDd]
  constructor
  ·rintro (⟨b, hb, rfl⟩ | ⟨j, hj, b, hb, q1⟩)
   ·exact ⟨0, by simp, b, hb, rfl⟩
   ·exact ⟨j + 1, by simp only [List.length_cons]; omega, b, hb, by rw [q1, show i + 1 + j = i + (j + 1) by omega]⟩
  ·rintro ⟨j, hj, b, hb, q1⟩
   cases j with
   | zero => exact .inl ⟨b, hb, q1.symm⟩
   | succ j => exact .inr ⟨j, by simpa using hj, b, hb, by rw [q1, show i + 1 + j = i + (j + 1) by omega]⟩
theorem zFx {h : zL} : ∀ (ts : List zD) (i : Nat), (Z6 h i ts).length = h.Berths.length * ts.length
 | [], i => rfl
 | t :: r, i => by simp only [Z6, List.length_append, List.length_map, zFx r, List.length_cons, Nat.mul_succ]; omega
theorem zAg {h : zL} (hg : zAb h) : ∀ (ts : List zD) (i : Nat), (Z6 h i ts).Nodup
 | [], i => .nil
 | t :: r, i => by
  unfold Z6
  rw [List.nodup_append]
  refine ⟨?_, zAg hg r (i + 1), fun a ha b hb e => ?_⟩
  ·rw [List.nodup_iff_pairwise_ne, List.pairwise_map]
   exact hg.bd.imp fun {a b} hab e => hab (by injection e)
  ·rw [List.mem_map] at ha
   obtain ⟨c, _, rfl⟩ := ha
   rw [zDd] at hb
   obtain ⟨j, hj, d, hd, rfl⟩ := hb
   injection e with e1 e2
   omega
theorem zIi (h : zL) (c : zN) (i : Nat) (t : zD) (bs : List zm) : (Qj h c i t bs).length ≤ bs.length := List.length_filterMap_le _ _
theorem zKy {h : zL} (hg : zAb h) {c : zN} (hc : zEg c) {i : Nat} (hi : i < h.Tides.length) (l : List zF) (m : List (zF × zD)) (hl : l.length ≤ 6 * i) (hm : ∀ p ∈ m, p.1.Tide ≠ (i : Int)) :
  Lp (Yv h c (i : Int)) fuel (0, l, m) = some (.inl (((i + 1 : Nat) : Int), l ++ (Qj h c i h.Tides[i] h.Berths).map (·.1), m ++ Qj h c i h.Tides[i] h.Berths)) := by
 have hnt := hg.nt; have hnb := hg.nb
 refine J3 h.Berths (by omega) (fun (a : List zF × List (zF × zD)) j => (j, a.1, a.2)) (fun a r => Sum.inl (((i + 1 : Nat) : Int), a.1 ++ (Qj h c i h.Tides[i] r).map (·.1), a.2 ++ Qj h c i h.Tides[i] r))
  (fun j a => a.1.length ≤ 6 * i + j ∧ ∀ p ∈ a.2, p.1.Tide ≠ (i : Int) ∨ ∃ (q : Nat) (hq : q < h.Berths.length), q < j ∧ p.1.Berth = h.Berths[q].ID) (a := (l, m)) rfl ⟨by simpa using hl, fun p hp => .inl (hm p hp)⟩ (fun a j hj hJ => ?_) (fun a _ => ?_)
 ·left
  obtain ⟨l, m⟩ := a
  obtain ⟨h1, h2⟩ := hJ
  simp only at h1 h2 ⊢
  unfold Yv zW
  simp only
  rw [if_pos (by simpa using hj), jO hj, Option.bind_some, zKN (t := h.Tides[i]) hg (by rw [jO hi]) (List.getElem_mem hj) hc.d0 hc.d1 hc.f0 hc.l0 hc.l1, Option.bind_some, w64s' hj (by omega), zH2]
  by_cases e : (qX h c h.Tides[i] h.Berths[j]).2 = true
  ·have hnew : ∀ p ∈ m, p.1 ≠ (⟨i, h.Berths[j].ID⟩ : zF) := fun p hp q => by
    rcases h2 p hp with w | ⟨k, hk, hkj, w⟩
    ·exact w (by rw [q])
    ·rw [q] at w
     exact List.pairwise_iff_getElem.1 hg.bd k j hk hj hkj w.symm
   rw [if_pos e, qU (by simp only [List.length_cons, List.length_nil]; omega), Option.bind_some, if_pos e, zLk _ _ _ hnew]
   refine ⟨(_, _), rfl, by simp, by simp only [List.length_append, List.length_cons, List.length_nil]; omega, fun p hp => ?_⟩
   simp only [List.mem_append, List.mem_singleton] at hp
   rcases hp with hp | rfl
   ·rcases h2 p hp with w | ⟨k, hk, hkj, w⟩
    ·exact .inl w
    ·exact .inr ⟨k, hk, by omega, w⟩
   ·exact .inr ⟨j, hj, by omega, rfl⟩
  ·rw [if_neg e, if_neg e]
   refine ⟨(l, m), rfl, by simp, by simp only; omega, fun p hp => ?_⟩
   rcases h2 p hp with w | ⟨k, hk, hkj, w⟩
   ·exact .inl w
   ·exact .inr ⟨k, hk, by omega, w⟩
 ·unfold Yv zW Yu
  simp only
  rw [if_neg (by simp), ZO (by omega) (by omega)]
  simp [Qj]
theorem zIh {h : zL} (hg : zAb h) {c : zN} (hc : zEg c) : Q5 h c = some ((yR h c 0 h.Tides).map (·.1), yR h c 0 h.Tides) := by
 have hnt := hg.nt; have hnb := hg.nb
 unfold Q5
 refine (J3 h.Tides (by omega) (fun (a : List zF × List (zF × zD)) i => (i, a.1, a.2)) (fun a r => (a.1 ++ (yR h c (h.Tides.length - r.length) r).map (·.1), a.2 ++ yR h c (h.Tides.length - r.length) r))
  (fun i a => a.1.length ≤ 6 * i ∧ ∀ p ∈ a.2, p.1.Tide < (i : Int)) (a := ([], [])) rfl ⟨by simp, fun p hp => by cases hp⟩ (fun a i hi hJ => ?_) (fun a _ => ?_)).trans (by simp)
 ·left
  obtain ⟨l, m⟩ := a
  obtain ⟨h1, h2⟩ := hJ
  simp only at h1 h2 ⊢
  unfold qL
  simp only [show (zW h).Tides = h.Tides from rfl]
  rw [if_pos (by simpa using hi), zKy hg hc hi l m h1 fun p hp q => by have := h2 p hp; omega]
  have e1 : h.Tides.length - (h.Tides[i] :: h.Tides.drop (i + 1)).length = i := by simp only [List.length_cons, List.length_drop]; omega
  have e2 : h.Tides.length - (h.Tides.drop (i + 1)).length = i + 1 := by simp only [List.length_drop]; omega
  refine ⟨(_, _), rfl, by rw [e1, e2]; simp [yR], ?_, fun p hp => ?_⟩
  ·have := zIi h c i h.Tides[i] h.Berths
   simp only [List.length_append, List.length_map]; omega
  ·simp only [List.mem_append] at hp
   rcases hp with hp | hp
   ·have := h2 p hp; omega
   ·obtain ⟨x, s⟩ := p
    rw [zFI] at hp
    obtain ⟨b, hb, rfl, _⟩ := hp
    simp only; omega
 ·unfold qL
  simp only [show (zW h).Tides = h.Tides from rfl]
  rw [if_neg (by simp)]
  simp [yR]
theorem zFJ {h : zL} (hg : zAb h) {c : zN} {j : Nat} (hj : j < h.Tides.length) {b : zm} (hb : b ∈ h.Berths) : ZH (⟨j, b.ID⟩ : zF) (yR h c 0 h.Tides) = if (qX h c h.Tides[j] b).2 = true then some (qX h c h.Tides[j] b).1 else none := by
 have huniq : ∀ a ∈ h.Berths, a.ID = b.ID → a = b := fun a ha e => by
  obtain ⟨p, hp, rfl⟩ := List.getElem_of_mem ha
  obtain ⟨q, hq, rfl⟩ := List.getElem_of_mem hb
  rcases Nat.lt_trichotomy p q with w | w | w
  ·exact absurd e (List.pairwise_iff_getElem.1 hg.bd p q hp hq w)
  ·subst w; rfl
  ·exact absurd e.symm (List.pairwise_iff_getElem.1 hg.bd q p hq hp w)
 cases e : ZH (⟨j, b.ID⟩ : zF) (yR h c 0 h.Tides) with
 | some s =>
  obtain ⟨k, hk, a, ha, q1, q2, q3⟩ := zDc.1 (zHa e)
  injection q1 with w1 w2
  have : k = j := by omega
  subst this
  rw [huniq a ha w2.symm] at q2 q3
  rw [if_pos q2, q3]
 | none =>
  by_cases w : (qX h c h.Tides[j] b).2 = true
  ·exact absurd (zDc.2 ⟨j, hj, b, hb, by simp, w, rfl⟩) (zGR e _)
  ·rw [if_neg w]
theorem zL6 {h : zL} (hg : zAb h) {i : Nat} (hi : i < h.Tides.length) (l : List zF) (hl : l.length ≤ 6 * i) : Lp (Qd h (i : Int)) fuel (0, l) = some (.inl (((i + 1 : Nat) : Int), l ++ h.Berths.map fun b => (⟨i, b.ID⟩ : zF))) := by
 have hnt := hg.nt; have hnb := hg.nb
 refine J3 h.Berths (by omega) (fun (a : List zF) j => (j, a)) (fun a r => Sum.inl (((i + 1 : Nat) : Int), a ++ r.map fun b => (⟨i, b.ID⟩ : zF))) (fun j a => a.length ≤ 6 * i + j) (a := l) rfl (by simpa using hl) (fun a j hj hJ => ?_) (fun a _ => ?_)
 ·left
  unfold Qd zW
  simp only
  rw [if_pos (by simpa using hj), jO hj, Option.bind_some, qU (by simp only [List.length_cons, List.length_nil]; omega), Option.bind_some, w64s' hj (by omega)]
  exact ⟨_, rfl, by simp only [List.map_cons, List.append_assoc, List.cons_append, List.nil_append], by simp only [List.length_append, List.length_cons, List.length_nil]; omega⟩
 ·unfold Qd zW Qc
  simp only
  rw [if_neg (by simp), ZO (by omega) (by omega)]
  simp
def Zz (h : zL) (l : List zN) : zK := ⟨l, Z6 h 0 h.Tides, l.map fun c => yR h c 0 h.Tides, l.map fun _ => -1⟩
theorem zKd {h : zL} (hg : zAb h) {l : List zN} (hl : l.length ≤ 10) (hc : ∀ c ∈ l, zEg c) : yF h l = some (Zz h l) := by
 have hnt := hg.nt; have hnb := hg.nb
 unfold yF
 refine (J3 h.Tides (by omega) (fun (a : List zF) i => (i, a)) (fun a r => (⟨l, a ++ Z6 h (h.Tides.length - r.length) r, l.map fun c => yR h c 0 h.Tides, l.map fun _ => -1⟩ : zK)) (fun i a => a.length ≤ 6 * i) (a := []) rfl (by simp) (fun a i hi hJ => ?_) (fun a hJ => ?_)).trans (by simp [Zz])
 ·left
  unfold qy
  simp only [show (zW h).Tides = h.Tides from rfl]
  rw [if_pos (by simpa using hi), zL6 hg hi a hJ]
  have e1 : h.Tides.length - (h.Tides[i] :: h.Tides.drop (i + 1)).length = i := by simp only [List.length_cons, List.length_drop]; omega
  have e2 : h.Tides.length - (h.Tides.drop (i + 1)).length = i + 1 := by simp only [List.length_drop]; omega
  exact ⟨_, rfl, by rw [e1, e2]; simp [Z6], by simp only [List.length_append, List.length_map]; omega⟩
 ·unfold qy
  simp only [show (zW h).Tides = h.Tides from rfl]
  rw [if_neg (by simp)]
  refine (J3 l (by omega) (fun (x : List (List (zF × zD)) × List Int) i => (i, x.1, x.2)) (fun x r => Sum.inr (⟨l, a, x.1 ++ r.map fun c => yR h c 0 h.Tides, x.2 ++ r.map fun _ => -1⟩ : zK)) (fun i x => x.1.length = i ∧ x.2.length = i) (a := ([], [])) rfl ⟨rfl, rfl⟩ (fun x i hi hJ => ?_) (fun x _ => ?_)).trans (by simp [Z6])
  ·left
   unfold qx
   simp only
   rw [if_pos (by simpa using hi), jO hi, Option.bind_some, zIh hg (hc _ (List.getElem_mem hi)), Option.bind_some, qU (by simp only [List.length_cons, List.length_nil]; omega), Option.bind_some, qU (by simp only [List.length_cons, List.length_nil]; omega), Option.bind_some, w64s' hi (by omega)]
   exact ⟨(_, _), rfl, by simp only [List.map_cons, List.append_assoc, List.cons_append, List.nil_append], by simp [hJ.1], by simp [hJ.2]⟩
  ·unfold qx Qb
   simp only
   rw [if_neg (by simp)]
   simp
end Go.Mx
