/- Plain laws, berths: what a ship can take; the board. Conditions: none. -/
import Derived.Test.YtnkngglimidldaaGreatLawYb
import Derived.Test.YtnkngglimidldaaGreatLawYf
set_option linter.unusedVariables false
set_option linter.unusedSimpArgs false
namespace Go.Mx
theorem zIq {α : Type} : ∀ (l : List α) (x : α), insL l l.length x = l ++ [x]
 | [], x => rfl
 | y :: r, x => by simp only [List.length_cons, insL, zIq r x, List.cons_append]
theorem zLT {α β : Type} [DecidableEq α] (m : List (α × β)) (k : α) (v : β) (h : ∀ p ∈ m, p.1 ≠ k) : putM posE m k v = m ++ [(k, v)] := by
 unfold putM
 have hf : qk k m = none := by
  have := zAR (k := k) (l := m)
  cases e : qk k m with
  | none => rfl
  | some i =>
   rw [e] at this
   obtain ⟨v', h1, h2⟩ := this
   exact absurd rfl (h _ (List.mem_of_getElem? h1))
 rw [hf]
 simp only [posE, List.length_map]
 exact zIq m (k, v)
theorem zG8 {α β : Type} [DecidableEq α] {k : α} {v : β} : ∀ {l : List (α × β)}, ZA k l = some v → (k, v) ∈ l
 | [], h => by cases h
 | p :: r, h => by
  unfold ZA at h
  split at h
  ·rename_i e
   cases h
   rw [e]; exact List.mem_cons_self
  ·exact List.mem_cons_of_mem _ (zG8 h)
theorem zFy {α β : Type} [DecidableEq α] {k : α} : ∀ {l : List (α × β)}, ZA k l = none → ∀ v, (k, v) ∉ l
 | [], h, v, hm => by cases hm
 | p :: r, h, v, hm => by
  unfold ZA at h
  split at h
  ·cases h
  ·rename_i e
   rcases List.mem_cons.1 hm with q | q
   ·exact e (by rw [← q])
   ·exact zFy h v q
def zBq (c : zM) : Bool := decide (1 ≤ c.ID ∧ c.ID ≤ 1099511627776 ∧ 0 ≤ c.Draught ∧ c.Draught ≤ 8000 ∧ 0 ≤ c.From ∧ c.From ≤ c.To ∧ c.To ≤ 1048576 ∧ 1 ≤ c.Long ∧ c.Long ≤ 1440)
theorem zKi (c : zM) : YO c = zBq c := by
 unfold YO zBq zY
 rw [Bool.eq_iff_iff]
 simp only [Bool.and_eq_true, decide_eq_true_eq]
 constructor <;> intro h <;> omega
structure zD8 (c : zM) : Prop where
 d0 : 0 ≤ c.Draught
 d1 : c.Draught ≤ 8000
 f0 : 0 ≤ c.From
 l0 : 1 ≤ c.Long
 l1 : c.Long ≤ 1440
theorem zD8.of {c : zM} (h : zBq c = true) : zD8 c := by
 simp only [zBq, decide_eq_true_eq] at h
 exact ⟨by omega, by omega, by omega, by omega, by omega⟩
def QB (h : zK) (c : zM) (i : Nat) (t : zD) (bs : List zj) : List (zE × zD) := bs.filterMap fun b => if (Qy h c t b).2 = true then some ((⟨i, b.ID⟩ : zE), (Qy h c t b).1) else none
def J4 (h : zK) (c : zM) : Nat → List zD → List (zE × zD)
 | _, [] => []
 | i, t :: r => QB h c i t h.Berths ++ J4 h c (i + 1) r
def Zv (h : zK) : Nat → List zD → List zE
 | _, [] => []
 | i, t :: r => (h.Berths.map fun b => (⟨i, b.ID⟩ : zE)) ++ Zv h (i + 1) r
theorem zHb (h : zK) (c : zM) (i : Nat) (t : zD) (b : zj) (bs : List zj) : QB h c i t (b :: bs) = (if (Qy h c t b).2 = true then [((⟨i, b.ID⟩ : zE), (Qy h c t b).1)] else []) ++ QB h c i t bs := by
 unfold QB
 rw [List.filterMap_cons]
 by_cases e : (Qy h c t b).2 = true
 ·rw [if_pos e, if_pos e]; rfl
 ·rw [if_neg e, if_neg e]; rfl
theorem zEn {h : zK} {c : zM} {i : Nat} {t : zD} {bs : List zj} {x : zE} {s : zD} : (x, s) ∈ QB h c i t bs ↔ ∃ b ∈ bs, x = ⟨i, b.ID⟩ ∧ (Qy h c t b).2 = true ∧ s = (Qy h c t b).1 := by
 unfold QB
 rw [List.mem_filterMap]
 constructor
 ·rintro ⟨b, hb, q⟩
  split at q
  ·rename_i e
   cases q
   exact ⟨b, hb, rfl, e, rfl⟩
  ·cases q
 ·rintro ⟨b, hb, rfl, e, rfl⟩
  exact ⟨b, hb, by rw [if_pos e]⟩
theorem zC4 {h : zK} {c : zM} {x : zE} {s : zD} : ∀ {ts : List zD} {i : Nat}, (x, s) ∈ J4 h c i ts ↔ ∃ (j : Nat) (hj : j < ts.length), ∃ b ∈ h.Berths, x = ⟨((i + j : Nat) : Int), b.ID⟩ ∧ (Qy h c ts[j] b).2 = true ∧ s = (Qy h c ts[j] b).1
 | [], i => by simp [J4]
 | t :: r, i => by
  unfold J4
  rw [List.mem_append, zEn, zC4]
  constructor
  ·rintro (⟨b, hb, q⟩ | ⟨j, hj, b, hb, q1, q2, q3⟩)
   ·exact ⟨0, by simp, b, hb, q⟩
   ·exact ⟨j + 1, by simp only [List.length_cons]; omega, b, hb, by rw [q1, show i + 1 + j = i + (j + 1) by omega], q2, q3⟩
  ·rintro ⟨j, hj, b, hb, q1, q2, q3⟩
   cases j with
   | zero => exact .inl ⟨b, hb, q1, q2, q3⟩
   | succ j => exact .inr ⟨j, by simpa using hj, b, hb, by rw [q1, show i + 1 + j = i + (j + 1) by omega], q2, q3⟩
theorem zC5 {h : zK} {x : zE} : ∀ {ts : List zD} {i : Nat}, x ∈ Zv h i ts ↔ ∃ (j : Nat) (hj : j < ts.length), ∃ b ∈ h.Berths, x = ⟨((i + j : Nat) : Int), b.ID⟩
 | [], i => by simp [Zv]
 | t :: r, i => by
  unfold Zv
  rw [List.mem_append, List.mem_map, zC5]
  constructor
  ·rintro (⟨b, hb, rfl⟩ | ⟨j, hj, b, hb, q1⟩)
   ·exact ⟨0, by simp, b, hb, rfl⟩
   ·exact ⟨j + 1, by simp only [List.length_cons]; omega, b, hb, by rw [q1, show i + 1 + j = i + (j + 1) by omega]⟩
  ·rintro ⟨j, hj, b, hb, q1⟩
   cases j with
   | zero => exact .inl ⟨b, hb, q1.symm⟩
   | succ j => exact .inr ⟨j, by simpa using hj, b, hb, by rw [q1, show i + 1 + j = i + (j + 1) by omega]⟩
theorem zFT {h : zK} : ∀ (ts : List zD) (i : Nat), (Zv h i ts).length = h.Berths.length * ts.length
 | [], i => rfl
 | t :: r, i => by simp only [Zv, List.length_append, List.length_map, zFT r, List.length_cons, Nat.mul_succ]; omega
theorem qr {h : zK} (hg : qm h) : ∀ (ts : List zD) (i : Nat), (Zv h i ts).Nodup
 | [], i => .nil
 | t :: r, i => by
  unfold Zv
  rw [List.nodup_append]
  refine ⟨?_, qr hg r (i + 1), fun a ha b hb e => ?_⟩
  ·rw [List.nodup_iff_pairwise_ne, List.pairwise_map]
   exact hg.bd.imp fun {a b} hab e => hab (by injection e)
  ·rw [List.mem_map] at ha
   obtain ⟨c, _, rfl⟩ := ha
   rw [zC5] at hb
   obtain ⟨j, hj, d, hd, rfl⟩ := hb
   injection e with e1 e2
   omega
theorem zIL (h : zK) (c : zM) (i : Nat) (t : zD) (bs : List zj) : (QB h c i t bs).length ≤ bs.length := List.length_filterMap_le _ _
theorem zKe {h : zK} (hg : qm h) {c : zM} (hc : zD8 c) {i : Nat} (hi : i < h.Tides.length) (l : List zE) (m : List (zE × zD)) (hl : l.length ≤ 6 * i) (hm : ∀ p ∈ m, p.1.Tide ≠ (i : Int)) :
  Lp (YN h c (i : Int)) fuel (0, l, m) = some (.inl (((i + 1 : Nat) : Int), l ++ (QB h c i h.Tides[i] h.Berths).map (·.1), m ++ QB h c i h.Tides[i] h.Berths)) := by
 have hnt := hg.nt; have hnb := hg.nb
 refine Jg h.Berths (by omega) (fun (a : List zE × List (zE × zD)) j => (j, a.1, a.2)) (fun a r => Sum.inl (((i + 1 : Nat) : Int), a.1 ++ (QB h c i h.Tides[i] r).map (·.1), a.2 ++ QB h c i h.Tides[i] r))
  (fun j a => a.1.length ≤ 6 * i + j ∧ ∀ p ∈ a.2, p.1.Tide ≠ (i : Int) ∨ ∃ (q : Nat) (hq : q < h.Berths.length), q < j ∧ p.1.Berth = h.Berths[q].ID) (a := (l, m)) rfl ⟨by simpa using hl, fun p hp => .inl (hm p hp)⟩ (fun a j hj hJ => ?_) (fun a _ => ?_)
 ·left
  obtain ⟨l, m⟩ := a
  obtain ⟨h1, h2⟩ := hJ
  simp only at h1 h2 ⊢
  unfold YN zV
  simp only
  rw [if_pos (by simpa using hj), jE hj, Option.bind_some, zJ2 (t := h.Tides[i]) hg (by rw [jE hi]) (List.getElem_mem hj) hc.d0 hc.d1 hc.f0 hc.l0 hc.l1, Option.bind_some, w64s' hj (by omega), zHb]
  by_cases e : (Qy h c h.Tides[i] h.Berths[j]).2 = true
  ·have hnew : ∀ p ∈ m, p.1 ≠ (⟨i, h.Berths[j].ID⟩ : zE) := fun p hp q => by
    rcases h2 p hp with w | ⟨k, hk, hkj, w⟩
    ·exact w (by rw [q])
    ·rw [q] at w
     exact List.pairwise_iff_getElem.1 hg.bd k j hk hj hkj w.symm
   rw [if_pos e, Qv (by simp only [List.length_cons, List.length_nil]; omega), Option.bind_some, if_pos e, zLT _ _ _ hnew]
   refine ⟨(_, _), rfl, by simp, by simp only [List.length_append, List.length_cons, List.length_nil]; omega, fun p hp => ?_⟩
   simp only [List.mem_append, List.mem_singleton] at hp
   rcases hp with hp | rfl
   ·rcases h2 p hp with w | ⟨k, hk, hkj, w⟩
    ·exact .inl w
    ·exact .inr ⟨k, hk, by omega, w⟩
   ·exact .inr ⟨j, hj, by omega, rfl⟩
  ·rw [if_neg e, if_neg e]
   refine ⟨(l, m), rfl, by simp, by simp only; omega, fun p hp => ?_⟩
   rcases h2 p hp with w | ⟨k, hk, hkj, w⟩
   ·exact .inl w
   ·exact .inr ⟨k, hk, by omega, w⟩
 ·unfold YN zV YM
  simp only
  rw [if_neg (by simp), ZH (by omega) (by omega)]
  simp [QB]
theorem zIK {h : zK} (hg : qm h) {c : zM} (hc : zD8 c) : QW h c = some ((J4 h c 0 h.Tides).map (·.1), J4 h c 0 h.Tides) := by
 have hnt := hg.nt; have hnb := hg.nb
 unfold QW
 refine (Jg h.Tides (by omega) (fun (a : List zE × List (zE × zD)) i => (i, a.1, a.2)) (fun a r => (a.1 ++ (J4 h c (h.Tides.length - r.length) r).map (·.1), a.2 ++ J4 h c (h.Tides.length - r.length) r))
  (fun i a => a.1.length ≤ 6 * i ∧ ∀ p ∈ a.2, p.1.Tide < (i : Int)) (a := ([], [])) rfl ⟨by simp, fun p hp => by cases hp⟩ (fun a i hi hJ => ?_) (fun a _ => ?_)).trans (by simp)
 ·left
  obtain ⟨l, m⟩ := a
  obtain ⟨h1, h2⟩ := hJ
  simp only at h1 h2 ⊢
  unfold Qo
  simp only [show (zV h).Tides = h.Tides from rfl]
  rw [if_pos (by simpa using hi), zKe hg hc hi l m h1 fun p hp q => by have := h2 p hp; omega]
  have e1 : h.Tides.length - (h.Tides[i] :: h.Tides.drop (i + 1)).length = i := by simp only [List.length_cons, List.length_drop]; omega
  have e2 : h.Tides.length - (h.Tides.drop (i + 1)).length = i + 1 := by simp only [List.length_drop]; omega
  refine ⟨(_, _), rfl, by rw [e1, e2]; simp [J4], ?_, fun p hp => ?_⟩
  ·have := zIL h c i h.Tides[i] h.Berths
   simp only [List.length_append, List.length_map]; omega
  ·simp only [List.mem_append] at hp
   rcases hp with hp | hp
   ·have := h2 p hp; omega
   ·obtain ⟨x, s⟩ := p
    rw [zEn] at hp
    obtain ⟨b, hb, rfl, _⟩ := hp
    simp only; omega
 ·unfold Qo
  simp only [show (zV h).Tides = h.Tides from rfl]
  rw [if_neg (by simp)]
  simp [J4]
theorem zEo {h : zK} (hg : qm h) {c : zM} {j : Nat} (hj : j < h.Tides.length) {b : zj} (hb : b ∈ h.Berths) : ZA (⟨j, b.ID⟩ : zE) (J4 h c 0 h.Tides) = if (Qy h c h.Tides[j] b).2 = true then some (Qy h c h.Tides[j] b).1 else none := by
 have huniq : ∀ a ∈ h.Berths, a.ID = b.ID → a = b := fun a ha e => by
  obtain ⟨p, hp, rfl⟩ := List.getElem_of_mem ha
  obtain ⟨q, hq, rfl⟩ := List.getElem_of_mem hb
  rcases Nat.lt_trichotomy p q with w | w | w
  ·exact absurd e (List.pairwise_iff_getElem.1 hg.bd p q hp hq w)
  ·subst w; rfl
  ·exact absurd e.symm (List.pairwise_iff_getElem.1 hg.bd q p hq hp w)
 cases e : ZA (⟨j, b.ID⟩ : zE) (J4 h c 0 h.Tides) with
 | some s =>
  obtain ⟨k, hk, a, ha, q1, q2, q3⟩ := zC4.1 (zG8 e)
  injection q1 with w1 w2
  have : k = j := by omega
  subst this
  rw [huniq a ha w2.symm] at q2 q3
  rw [if_pos q2, q3]
 | none =>
  by_cases w : (Qy h c h.Tides[j] b).2 = true
  ·exact absurd (zC4.2 ⟨j, hj, b, hb, by simp, w, rfl⟩) (zFy e _)
  ·rw [if_neg w]
theorem zLp {h : zK} (hg : qm h) {i : Nat} (hi : i < h.Tides.length) (l : List zE) (hl : l.length ≤ 6 * i) : Lp (Y4 h (i : Int)) fuel (0, l) = some (.inl (((i + 1 : Nat) : Int), l ++ h.Berths.map fun b => (⟨i, b.ID⟩ : zE))) := by
 have hnt := hg.nt; have hnb := hg.nb
 refine Jg h.Berths (by omega) (fun (a : List zE) j => (j, a)) (fun a r => Sum.inl (((i + 1 : Nat) : Int), a ++ r.map fun b => (⟨i, b.ID⟩ : zE))) (fun j a => a.length ≤ 6 * i + j) (a := l) rfl (by simpa using hl) (fun a j hj hJ => ?_) (fun a _ => ?_)
 ·left
  unfold Y4 zV
  simp only
  rw [if_pos (by simpa using hj), jE hj, Option.bind_some, Qv (by simp only [List.length_cons, List.length_nil]; omega), Option.bind_some, w64s' hj (by omega)]
  exact ⟨_, rfl, by simp only [List.map_cons, List.append_assoc, List.cons_append, List.nil_append], by simp only [List.length_append, List.length_cons, List.length_nil]; omega⟩
 ·unfold Y4 zV Y3
  simp only
  rw [if_neg (by simp), ZH (by omega) (by omega)]
  simp
def Zr (h : zK) (l : List zM) : zJ := ⟨l, Zv h 0 h.Tides, l.map fun c => J4 h c 0 h.Tides, l.map fun _ => -1⟩
theorem zKJ {h : zK} (hg : qm h) {l : List zM} (hl : l.length ≤ 10) (hc : ∀ c ∈ l, zD8 c) : Js h l = some (Zr h l) := by
 have hnt := hg.nt; have hnb := hg.nb
 unfold Js
 refine (Jg h.Tides (by omega) (fun (a : List zE) i => (i, a)) (fun a r => (⟨l, a ++ Zv h (h.Tides.length - r.length) r, l.map fun c => J4 h c 0 h.Tides, l.map fun _ => -1⟩ : zJ)) (fun i a => a.length ≤ 6 * i) (a := []) rfl (by simp) (fun a i hi hJ => ?_) (fun a hJ => ?_)).trans (by simp [Zr])
 ·left
  unfold qI
  simp only [show (zV h).Tides = h.Tides from rfl]
  rw [if_pos (by simpa using hi), zLp hg hi a hJ]
  have e1 : h.Tides.length - (h.Tides[i] :: h.Tides.drop (i + 1)).length = i := by simp only [List.length_cons, List.length_drop]; omega
  have e2 : h.Tides.length - (h.Tides.drop (i + 1)).length = i + 1 := by simp only [List.length_drop]; omega
  exact ⟨_, rfl, by rw [e1, e2]; simp [Zv], by simp only [List.length_append, List.length_map]; omega⟩
 ·unfold qI
  simp only [show (zV h).Tides = h.Tides from rfl]
  rw [if_neg (by simp)]
  refine (Jg l (by omega) (fun (x : List (List (zE × zD)) × List Int) i => (i, x.1, x.2)) (fun x r => Sum.inr (⟨l, a, x.1 ++ r.map fun c => J4 h c 0 h.Tides, x.2 ++ r.map fun _ => -1⟩ : zJ)) (fun i x => x.1.length = i ∧ x.2.length = i) (a := ([], [])) rfl ⟨rfl, rfl⟩ (fun x i hi hJ => ?_) (fun x _ => ?_)).trans (by simp [Zv])
  ·left
   unfold qH
   simp only
   rw [if_pos (by simpa using hi), jE hi, Option.bind_some, zIK hg (hc _ (List.getElem_mem hi)), Option.bind_some, Qv (by simp only [List.length_cons, List.length_nil]; omega), Option.bind_some, Qv (by simp only [List.length_cons, List.length_nil]; omega), Option.bind_some, w64s' hi (by omega)]
   exact ⟨(_, _), rfl, by simp only [List.map_cons, List.append_assoc, List.cons_append, List.nil_append], by simp [hJ.1], by simp [hJ.2]⟩
  ·unfold qH Y2
   simp only
   rw [if_neg (by simp)]
   simp
end Go.Mx
