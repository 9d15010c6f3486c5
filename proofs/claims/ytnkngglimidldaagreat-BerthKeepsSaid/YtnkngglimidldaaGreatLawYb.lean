/- Plain laws, berths: harbours, slots, when a ship lies there. Conditions: none. -/
import Derived.Test.YtnkngglimidldaaGreatLawYa
import Derived.Test.YtnkngglimidldaaGreatLawTideWindows
set_option linter.unusedVariables false
set_option linter.unusedSimpArgs false
namespace Go.Mx
def zCI (s : zD) : Bool := decide (0 ≤ s.Lo ∧ s.Lo ≤ s.Hi ∧ s.Hi ≤ 1048576 ∧ s.Hi - s.Lo < 1440)
theorem zLW (s : zD) : jr s = zCI s := by
 unfold jr zCI
 by_cases h : 0 ≤ s.Lo ∧ s.Lo ≤ s.Hi ∧ s.Hi ≤ 1048576
 ·rw [ZO (by omega) (by omega)]
  rw [Bool.eq_iff_iff]
  simp [and_assoc]
 ·rw [Bool.eq_iff_iff]
  simp only [Bool.and_eq_true, decide_eq_true_eq]
  constructor
  ·intro q; exact absurd ⟨q.1.1.1, q.1.1.2, q.1.2⟩ h
  ·intro q; exact absurd ⟨q.1, q.2.1, q.2.2.1⟩ h
def zEz (b : zm) : Bool := decide (1 ≤ b.ID ∧ b.ID ≤ 1099511627776 ∧ 0 ≤ b.Depth ∧ b.Depth ≤ 8000)
def zE7 (e : Int) : List zm → List zm → Int
 | _, [] => e
 | pre, b :: r => if zEz b = true then (if (pre.any fun x => decide (x.ID = b.ID)) = true then 6 else zE7 e (pre ++ [b]) r) else 1
def zFB (e : Int) : Int → List zD → Int
 | _, [] => e
 | last, t :: r => if zCI t = true ∧ last < t.Lo then zFB e t.Hi r else 1
def zJA (h : zL) : Int := if 0 ≤ h.Keel ∧ h.Keel ≤ 8000 then 0 else 1
def zB1 (h : zL) : Int :=
 if zBU h.Water = 0 then (if 6 < h.Berths.length ∨ 12 < h.Tides.length then 2 else zE7 (zFB (zJA h) (-1) h.Tides) [] h.Berths) else zBU h.Water
structure LenH (h : zL) : Prop where
 w : LenW h.Water
 b : Len h.Berths
 t : Len h.Tides
theorem LenH.of {h : zL} (q : zAz h) : LenH h := ⟨LenW.of q.1, q.2.1.1, q.2.2.1.1⟩
theorem zHk (l : List zm) (hl : Len l) (id : Int) : zu l id = some (Yf (fun b => decide (b.ID = id)) l 0) := by
 unfold zu ZA
 have e := zBw (body := zk l id) (fun b => decide (b.ID = id)) l hl (fun i hi => by
  unfold zk
  rw [if_pos (by simpa using hi), jO hi, Option.bind_some, w64s' hi hl]
  rfl) (by
  unfold zk
  rw [if_neg (by simp)]; rfl)
 rw [e]; rfl
theorem zJF {α : Type} {p : α → Bool} {l : List α} {i : Nat} (hi : i < l.length) (hp : p l[i] = true) : Yf p l 0 < (i : Int) ↔ (l.take i).any p = true := by
 rcases Q0 p l 0 with ⟨h1, h2⟩ | ⟨k, h1, h2, h3, h4⟩
 ·rw [h2 _ (List.getElem_mem hi)] at hp; cases hp
 ·rw [show ((0 : Nat) : Int) = 0 from rfl] at h1
  rw [h1, List.any_eq_true]
  constructor
  ·intro h
   refine ⟨l[k], ?_, h3⟩
   rw [List.mem_take_iff_getElem]
   exact ⟨k, by omega, rfl⟩
  ·rintro ⟨x, hx, hx2⟩
   rw [List.mem_take_iff_getElem] at hx
   obtain ⟨j, hj, rfl⟩ := hx
   by_cases e : j < k
   ·rw [h4 j e] at hx2; cases hx2
   ·omega
theorem zLS (h : zL) (hh : LenH h) : J9 h = some (zB1 h) := by
 unfold J9 zB1
 rw [zGt _ hh.w, Option.bind_some]
 by_cases h0 : zBU h.Water = 0
 ·rw [if_pos h0, if_neg (by simp [h0])]
  by_cases h1 : 6 < h.Berths.length ∨ 12 < h.Tides.length
  ·rw [if_pos h1, if_pos (by simp; omega)]
  ·rw [if_neg h1, if_neg (by simp; omega)]
   refine J3 h.Berths hh.b (fun (_ : List zm) i => i) (zE7 (zFB (zJA h) (-1) h.Tides)) (fun i a => a = h.Berths.take i) (a := []) rfl (by simp) (fun a i hi hJ => ?_) (fun a _ => ?_)
   ·subst hJ
    unfold qO
    rw [if_pos (by simpa using hi), jO hi]
    simp only [Option.bind_some, zE7]
    by_cases hg : zEz h.Berths[i] = true
    ·rw [if_pos hg, zHk _ hh.b, Option.bind_some, if_neg (by simp only [zEz, decide_eq_true_eq] at hg; simp [zZ]; omega)]
     have := zJF (p := fun b => decide (b.ID = h.Berths[i].ID)) hi (by simp)
     by_cases hc : ((h.Berths.take i).any fun x => decide (x.ID = h.Berths[i].ID)) = true
     ·right; rw [if_pos hc, if_pos (by rw [decide_eq_true_eq]; exact this.2 hc)]
     ·left
      rw [if_neg hc, if_neg (by rw [decide_eq_true_eq]; exact fun q => hc (this.1 q)), w64s' hi hh.b]
      exact ⟨_, rfl, rfl, by rw [List.take_succ_eq_append_getElem hi]⟩
    ·right
     rw [if_neg hg, if_pos]
     simp only [zEz, decide_eq_true_eq] at hg
     simp [zZ]; omega
   ·unfold qO
    rw [if_neg (by simp)]
    unfold Yz
    rw [J3 h.Tides hh.t (fun (a : Int) i => (a, i)) (zFB (zJA h)) (fun _ _ => True) (a := -1) rfl trivial (fun a i hi _ => ?_) (fun a _ => ?_)]
    ·rfl
    ·unfold qP
     simp only
     rw [if_pos (by simpa using hi), jO hi, Option.bind_some, zLW]
     simp only [zFB]
     by_cases hc : zCI h.Tides[i] = true ∧ a < h.Tides[i].Lo
     ·left
      rw [if_pos hc, if_neg (by simp [hc.1]; omega), w64s' hi hh.t]
      exact ⟨_, rfl, rfl, trivial⟩
     ·right
      rw [if_neg hc, if_pos]
      rw [Bool.or_eq_true, Bool.not_eq_true', decide_eq_true_eq]
      by_cases ht : zCI h.Tides[i] = true
      ·right
       have : ¬ a < h.Tides[i].Lo := fun q => hc ⟨ht, q⟩
       omega
      ·left; simpa using ht
    ·unfold qP
     simp only
     rw [if_neg (by simp)]
     unfold Yy zJA
     simp only [zFB]
     by_cases hk : 0 ≤ h.Keel ∧ h.Keel ≤ 8000
     ·rw [if_pos hk, if_neg (by simp [zZ]; omega)]; rfl
     ·rw [if_neg hk, if_pos (by simp [zZ]; omega)]; rfl
 ·rw [if_neg h0, if_pos (by simp [h0])]
structure zAb (h : zL) : Prop where
 c : zBU h.Water = 0
 g : zHy h.Water
 lw : LenW h.Water
 nb : h.Berths.length ≤ 6
 nt : h.Tides.length ≤ 12
 bs : ∀ b ∈ h.Berths, 1 ≤ b.ID ∧ b.ID ≤ 1099511627776 ∧ 0 ≤ b.Depth ∧ b.Depth ≤ 8000
 bd : h.Berths.Pairwise (fun a b => a.ID ≠ b.ID)
 ts : ∀ t ∈ h.Tides, 0 ≤ t.Lo ∧ t.Lo ≤ t.Hi ∧ t.Hi ≤ 1048576 ∧ t.Hi - t.Lo < 1440
 tp : h.Tides.Pairwise (fun a b => a.Hi < b.Lo)
 k0 : 0 ≤ h.Keel
 k1 : h.Keel ≤ 8000
theorem zFX (e : Int) : ∀ (l pre : List zm), zE7 e pre l = 0 → pre.Pairwise (fun a b => a.ID ≠ b.ID) → e = 0 ∧ (∀ b ∈ l, zEz b = true) ∧ (pre ++ l).Pairwise (fun a b => a.ID ≠ b.ID)
 | [], pre, h, hp => ⟨h, fun b hb => (by cases hb), by simpa using hp⟩
 | b :: r, pre, h, hp => by
  unfold zE7 at h
  split at h
  ·rename_i hg
   split at h
   ·cases h
   ·rename_i hn
    have hp' : (pre ++ [b]).Pairwise (fun a b => a.ID ≠ b.ID) := by
     rw [List.pairwise_append]
     refine ⟨hp, List.pairwise_singleton _ _, fun x hx y hy => ?_⟩
     rw [List.mem_singleton] at hy
     subst hy
     intro q
     exact hn (List.any_eq_true.2 ⟨x, hx, by simpa using q⟩)
    obtain ⟨q1, q2, q3⟩ := zFX e r (pre ++ [b]) h hp'
    refine ⟨q1, fun x hx => ?_, by simpa using q3⟩
    rcases List.mem_cons.1 hx with rfl | hx
    ·exact hg
    ·exact q2 x hx
  ·cases h
theorem zFs (e : Int) : ∀ (l : List zD) (last : Int), zFB e last l = 0 → e = 0 ∧ (∀ t ∈ l, zCI t = true ∧ last < t.Lo) ∧ l.Pairwise (fun a b => a.Hi < b.Lo)
 | [], last, h => ⟨h, fun b hb => (by cases hb), .nil⟩
 | t :: r, last, h => by
  unfold zFB at h
  split at h
  ·rename_i hg
   obtain ⟨q1, q2, q3⟩ := zFs e r t.Hi h
   have ht := hg.1
   simp only [zCI, decide_eq_true_eq] at ht
   refine ⟨q1, fun x hx => ?_, List.pairwise_cons.2 ⟨fun x hx => (q2 x hx).2, q3⟩⟩
   rcases List.mem_cons.1 hx with rfl | hx
   ·exact hg
   ·have := q2 x hx
    exact ⟨this.1, by omega⟩
  ·cases h
theorem zAb.of {h : zL} (hh : LenH h) (h0 : zB1 h = 0) : zAb h := by
 unfold zB1 at h0
 split at h0
 ·rename_i hc
  split at h0
  ·cases h0
  ·rename_i hn
   obtain ⟨q1, q2, q3⟩ := zFX _ _ _ h0 .nil
   obtain ⟨r1, r2, r3⟩ := zFs _ _ _ q1
   have hk : 0 ≤ h.Keel ∧ h.Keel ≤ 8000 := by
    unfold zJA at r1
    split at r1
    ·assumption
    ·cases r1
   exact ⟨hc, zFV hh.w hc, hh.w, by omega, by omega, fun b hb => by simpa [zEz] using q2 b hb, by simpa using q3, fun t ht => by simpa [zCI] using (r2 t ht).1, r3, hk.1, hk.2⟩
 ·contradiction
def need (h : zL) (b : zm) (d : Int) : Int := d + h.Keel - b.Depth
def qX (h : zL) (c : zN) (t : zD) (b : zm) : zD × Bool :=
 if min t.Hi c.To < max t.Lo c.From then (⟨0, 0⟩, false) else
  if (zD8 h.Water ⟨max t.Lo c.From, min t.Hi c.To⟩ (need h b c.Draught) c.Long).2 = 0 then
   (⟨(zD8 h.Water ⟨max t.Lo c.From, min t.Hi c.To⟩ (need h b c.Draught) c.Long).1.Lo, (zD8 h.Water ⟨max t.Lo c.From, min t.Hi c.To⟩ (need h b c.Draught) c.Long).1.Lo + c.Long - 1⟩, true)
  else (⟨0, 0⟩, false)
theorem zGF (long : Int) : ∀ l : List zD, ((zDH long l).2 = 0 ∧ (zDH long l).1 ∈ l ∧ long ≤ (zDH long l).1.Hi - (zDH long l).1.Lo + 1) ∨ ((zDH long l).2 = 5 ∧ ∀ x ∈ l, x.Hi - x.Lo + 1 < long)
 | [] => .inr ⟨rfl, fun x hx => by cases hx⟩
 | x :: r => by
  unfold zDH
  by_cases hc : long ≤ x.Hi - x.Lo + 1
  ·rw [if_pos hc]; exact .inl ⟨rfl, List.mem_cons_self, hc⟩
  ·rw [if_neg hc]
   rcases zGF long r with ⟨h1, h2, h3⟩ | ⟨h1, h2⟩
   ·exact .inl ⟨h1, List.mem_cons_of_mem _ h2, h3⟩
   ·refine .inr ⟨h1, fun y hy => ?_⟩
    rcases List.mem_cons.1 hy with rfl | hy
    ·omega
    ·exact h2 y hy
theorem WinP.block {H : Int → Int} {height lo t : Int} {l : List zD} (h : WinP H height lo t l) {a : Int} (ha : lo ≤ a) : ∀ n : Nat, a + n < t → (∀ m, a ≤ m → m ≤ a + n → height ≤ H m) → ∃ x ∈ l, x.Lo ≤ a ∧ a + n ≤ x.Hi
 | 0, ht, hm => by
  obtain ⟨x, hx, q1, q2⟩ := h.all a ha (by omega) (hm a (by omega) (by omega))
  exact ⟨x, hx, q1, by omega⟩
 | n + 1, ht, hm => by
  obtain ⟨x, hx, q1, q2⟩ := WinP.block h ha n (by omega) (fun m h0 h1 => hm m h0 (by omega))
  by_cases e : a + ((n + 1 : Nat) : Int) ≤ x.Hi
  ·exact ⟨x, hx, q1, e⟩
  ·obtain ⟨z, hz, q3, q4⟩ := h.all (a + ((n + 1 : Nat) : Int)) (by omega) ht (hm _ (by omega) (by omega))
   exact (h.one hx hz (by omega) q3 q4).elim
theorem zLB {h : zL} (hg : zAb h) {b : zm} (hb : b ∈ h.Berths) {d : Int} (h0 : 0 ≤ d) (h1 : d ≤ 8000) : YB h b d = need h b d := by
 obtain ⟨b0, b1, b2, b3⟩ := hg.bs b hb
 have := hg.k0; have := hg.k1
 unfold YB need
 rw [ZO (n := d + h.Keel) (by omega) (by omega), ZO (by omega) (by omega)]
theorem zKN {h : zL} (hg : zAb h) {c : zN} {x : zF} {t : zD} {b : zm} (ht : ix h.Tides x.Tide = some t) (hb : b ∈ h.Berths) (h0 : 0 ≤ c.Draught) (h1 : c.Draught ≤ 8000) (hF : 0 ≤ c.From) (hL : 1 ≤ c.Long) (hL2 : c.Long ≤ 1440) : Yt h c x b = some (qX h c t b) := by
 have htm : t ∈ h.Tides := by
  unfold ix at ht
  split at ht
  ·exact List.mem_of_getElem? ht
  ·cases ht
 obtain ⟨t0, t1, t2, t3⟩ := hg.ts t htm
 unfold Yt qX
 rw [ht, Option.bind_some]
 by_cases hc : min t.Hi c.To < max t.Lo c.From
 ·rw [if_pos (by simpa using hc), if_pos hc]
 ·rw [if_neg (by simpa using hc), if_neg hc, zLB hg hb h0 h1, Next_eq _ hg.lw _ _ _ (show (-9223372036854775808 : Int) ≤ c.Long ∧ c.Long ≤ 9223372036854775807 from ⟨by omega, by omega⟩), Option.bind_some]
  by_cases hn : (zD8 h.Water ⟨max t.Lo c.From, min t.Hi c.To⟩ (need h b c.Draught) c.Long).2 = 0
  ·rw [if_neg (by simp [hn]), if_pos hn]
   have hq : 0 ≤ (zD8 h.Water ⟨max t.Lo c.From, min t.Hi c.To⟩ (need h b c.Draught) c.Long).1.Lo ∧ (zD8 h.Water ⟨max t.Lo c.From, min t.Hi c.To⟩ (need h b c.Draught) c.Long).1.Lo ≤ 1048576 := by
    obtain ⟨w1, w2⟩ := zFA h.Water hg.lw ⟨max t.Lo c.From, min t.Hi c.To⟩ (need h b c.Draught)
    unfold zD8 at hn ⊢
    split at hn
    ·rename_i e1
     rw [if_pos e1]
     rw [if_neg (by omega)] at hn ⊢
     rcases zGF c.Long (QS h.Water ⟨max t.Lo c.From, min t.Hi c.To⟩ (need h b c.Draught)).1 with ⟨n1, n2, n3⟩ | ⟨n1, n2⟩
     ·have := w2 _ n2; omega
     ·rw [n1] at hn; cases hn
    ·rename_i e1; exact absurd hn e1
   rw [ZO (n := _ + c.Long) (by omega) (by omega), ZO (by omega) (by omega)]
  ·rw [if_pos (by simp [hn]), if_neg hn]
end Go.Mx
