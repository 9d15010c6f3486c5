/- TideLevelsHold: the plain law. Conditions: none. -/
import Derived.Test.YtphmekpaalfliaaLawH
set_option linter.unusedVariables false
namespace Go.Mx

theorem now_eq (w : api_Water) (hw : LenW w) (h0 : checkS w = 0) (level : Int) (h1 : -4000 ≤ level) (h2 : level ≤ 4000) (t : Int) (t0 : 0 ≤ t) (t1 : t ≤ 1048576) : tide_Height ⟨level, w.Cycles, w.Shifts⟩ t = some (level + rst w t, 0) := by
  rw [Height_eq (⟨level, w.Cycles, w.Shifts⟩ : api_Water) ⟨hw.c, hw.s, hw.h⟩]
  have hc : checkS ⟨level, w.Cycles, w.Shifts⟩ = 0 := by
    unfold checkS at h0 ⊢
    by_cases a : -4000 ≤ w.Level ∧ w.Level ≤ 4000
    · rw [if_pos a] at h0
      simp only
      rw [if_pos ⟨h1, h2⟩]; exact h0
    · rw [if_neg a] at h0; cases h0
  unfold heightS
  rw [if_pos hc, if_pos ⟨t0, t1⟩, hgt_rst]
  rfl

def fitG (w : api_Water) (n : Int) (g : api_Gauge) : Bool := decide (g.Read.Lo ≤ n + rst w g.Tick) && decide (n + rst w g.Tick ≤ g.Read.Hi)
theorem fitG_lev {w : api_Water} {n : Int} {g : api_Gauge} (h1 : -4000 ≤ n) (h2 : n ≤ 4000) : fitG w n g = true ↔ (lev w g).Lo ≤ n ∧ n ≤ (lev w g).Hi := by
  unfold fitG lev
  simp only [Bool.and_eq_true, decide_eq_true_eq]
  omega

/-- Whether a gauge stands in all clashes. -/
def hitB (i : Int) (q : Arr_2_int) : Bool := decide (q.a0 = i) || decide (q.a1 = i)
def inB (p : List Arr_2_int) (i : Int) : Bool := decide ((0 : Int) < p.length) && p.all (hitB i)
def susB (u : List Int) (i : Int) : Bool := u.any fun x => decide (x = i)

theorem j5_eq (i : Nat) (n : Nat) (hi : i < n) (hn : n ≤ 1000) (b c : Bool) : law02_TideLevelsHold_j5 (i : Int) b c = some (if b = c then .inl ((i + 1 : Nat) : Int) else .inr false) := by
  unfold law02_TideLevelsHold_j5
  rw [w64s' hi (by omega)]
  cases b <;> cases c <;> rfl

theorem j4_eq (l : List api_Gauge) (y4 : List Int × Int) (hu : Len y4.1) (i : Nat) (hi : i < l.length) (hl : l.length ≤ 1000) (b : Bool) : law02_TideLevelsHold_j4 l y4 (i : Int) b = some (if b = susB y4.1 l[i].ID then .inl ((i + 1 : Nat) : Int) else .inr false) := by
  unfold law02_TideLevelsHold_j4
  refine (lp_list y4.1 hu (fun (s : Bool) k => (s, k)) (fun s r => if b = (s || susB r l[i].ID) then (.inl ((i + 1 : Nat) : Int) : Int ⊕ Bool) else .inr false) (fun _ _ => True) (a := false) rfl trivial (fun s k hk _ => ?_) (fun s _ => ?_)).trans (by simp)
  · left
    unfold law02_TideLevelsHold_b6
    simp only
    rw [if_pos (by simpa using hk), w64s' hk hu]
    refine ⟨s || decide (y4.1[k] = l[i].ID), ?_, ?_, trivial⟩
    · cases s with
      | true => simp [gb]
      | false => simp [gb, ix_lt hk, ix_lt hi]
    · exact ite_congr (by simp only [susB, List.any_cons, Bool.or_assoc]) (fun _ => rfl) (fun _ => rfl)
  · unfold law02_TideLevelsHold_b6
    simp only
    rw [if_neg (by simp), j5_eq i l.length hi hl]
    simp [susB]

theorem b3_in (l : List api_Gauge) (y3 : List Arr_2_int × Int) (y4 : List Int × Int) (hp : Len y3.1) (hu : Len y4.1) (i : Nat) (hi : i < l.length) (hl : l.length ≤ 1000) :
    Lp (law02_TideLevelsHold_b7 l y3 y4 (i : Int)) fuel (decide ((0 : Int) < y3.1.length), 0) = some (if inB y3.1 l[i].ID = susB y4.1 l[i].ID then .inl ((i + 1 : Nat) : Int) else .inr false) := by
  refine (lp_list y3.1 hp (fun (s : Bool) k => (s, k)) (fun s r => if (s && r.all (hitB l[i].ID)) = susB y4.1 l[i].ID then (.inl ((i + 1 : Nat) : Int) : Int ⊕ Bool) else .inr false) (fun _ _ => True) (a := decide ((0 : Int) < y3.1.length)) rfl trivial (fun s k hk _ => ?_) (fun s _ => ?_))
  · left
    unfold law02_TideLevelsHold_b7
    simp only
    rw [if_pos (by simpa using hk), w64s' hk hp]
    refine ⟨s && hitB l[i].ID y3.1[k], ?_, ?_, trivial⟩
    · cases s with
      | false => simp [gb]
      | true =>
        simp only [gb, if_true, ix_lt hk, ix_lt hi, Option.bind_some, Bool.true_and, hitB]
        by_cases h : y3.1[k].a0 = l[i].ID
        · simp [h]
        · simp [h]
    · exact ite_congr (by simp only [List.all_cons, Bool.and_assoc]) (fun _ => rfl) (fun _ => rfl)
  · unfold law02_TideLevelsHold_b7
    simp only
    rw [if_neg (by simp), j4_eq l y4 hu i hi hl]
    simp

theorem mem_but {l : List api_Gauge} (hd : l.Pairwise fun a b => a.ID ≠ b.ID) {k : Nat} (hk : k < l.length) {x : api_Gauge} : x ∈ l.eraseIdx k ↔ x ∈ l ∧ x.ID ≠ l[k].ID := by
  rw [List.mem_eraseIdx_iff_getElem?]
  constructor
  · rintro ⟨j, hj, h⟩
    obtain ⟨hjl, rfl⟩ := List.getElem?_eq_some_iff.1 h
    refine ⟨List.getElem_mem hjl, ?_⟩
    rcases Nat.lt_or_gt_of_ne hj with h2 | h2
    · exact List.pairwise_iff_getElem.1 hd j k hjl hk h2
    · exact fun e => List.pairwise_iff_getElem.1 hd k j hk hjl h2 e.symm
  · rintro ⟨h, hne⟩
    obtain ⟨j, hj, rfl⟩ := List.mem_iff_getElem.1 h
    exact ⟨j, fun e => hne (by subst e; rfl), List.getElem?_eq_getElem hj⟩

theorem holds_TideLevelsHold {w : api_Water} {l : List api_Gauge} {level : Int} (h0 : ok_api_Water w) (h1 : ok_36 l) (h2 : OkI .i64 level) : law02_TideLevelsHold w l level = some true := by
  have hw := LenW.of h0
  unfold law02_TideLevelsHold
  obtain ⟨b, hb, _⟩ := few_spec w hw.c
  rw [hb, Option.bind_some]
  split
  · rw [sanity_true]; rfl
  · rename_i hcond
    have hlv : -4000 ≤ level ∧ level ≤ 4000 := by simp at hcond; omega
    rw [Levels_eq w hw, Option.bind_some, clashes_eq w hw, Option.bind_some, suspects_eq w hw, Option.bind_some]
    by_cases hq : gaugedS w l = 0
    case neg =>
      simp only [hq, if_false, decide_true, decide_false, Bool.not_true, Bool.not_false, Bool.false_and, Bool.or_false, Bool.false_eq_true, if_true]
      rw [sanity_true]
      simp only [Option.bind_some, Bool.true_and, Option.some.injEq, decide_eq_true_eq]
      unfold levelsS
      rw [if_neg hq]
    case pos =>
    obtain ⟨g0, g1, g2⟩ := gaugedS_len hq
    obtain ⟨q1, q2, _⟩ := (gaugeS_zero l []).1 g2
    simp only [hq, if_true, decide_true, Bool.not_true, Bool.true_and, Bool.false_or]
    have hL : levelsS w l = if (allLev w tide_every l).Hi < (allLev w tide_every l).Lo then (⟨0, 0⟩, 9) else (allLev w tide_every l, 0) := by unfold levelsS; rw [if_pos hq]
    have hperm := (srtF_spec lt_swo (l.map (kn w))).1
    have hmem : ∀ a, a ∈ srtF lt_known (l.map (kn w)) ↔ a ∈ l.map (kn w) := fun a => hperm.mem_iff
    have hcl := cl_len (srtF lt_known (l.map (kn w)))
    have hsl : (srtF lt_known (l.map (kn w))).length ≤ 40 := by rw [hperm.length_eq]; simpa using g0
    have hcl2 : (cl (srtF lt_known (l.map (kn w)))).length ≤ 1640 := Nat.le_trans hcl (Nat.le_trans (Nat.mul_le_mul hsl (Nat.succ_le_succ hsl)) (by decide))
    have hsu : (suspS w l).length ≤ 40 := by
      unfold suspS
      split
      · rw [(srtI_spec _).1.length_eq]; have := susL_len w l l 0; omega
      · simp
    have hnil : cl (srtF lt_known (l.map (kn w))) = [] ↔ (allLev w tide_every l).Lo ≤ (allLev w tide_every l).Hi := by
      rw [cl_nil, allLev_fit]
      simp only [hmem]
    have hin : ∀ (i : Nat) (hi : i < l.length), inB (cl (srtF lt_known (l.map (kn w)))) l[i].ID = susB (suspS w l) l[i].ID := by
      intro i hi
      have e1 : inB (cl (srtF lt_known (l.map (kn w)))) l[i].ID = true ↔ ¬ (allLev w tide_every l).Lo ≤ (allLev w tide_every l).Hi ∧ okBut w l i = true := by
        unfold inB
        rw [Bool.and_eq_true, decide_eq_true_eq, List.all_eq_true]
        have a1 : ((0 : Int) < ((cl (srtF lt_known (l.map (kn w)))).length : Int)) ↔ ¬ (allLev w tide_every l).Lo ≤ (allLev w tide_every l).Hi := by
          rw [← hnil]
          constructor
          · intro h e; rw [e] at h; simp at h
          · intro h
            have := List.length_pos_iff.2 h
            omega
        rw [a1]
        refine and_congr_right fun _ => ?_
        have a2 : (∀ q ∈ cl (srtF lt_known (l.map (kn w))), hitB l[i].ID q = true) ↔ ∀ q ∈ cl (srtF lt_known (l.map (kn w))), q.a0 = l[i].ID ∨ q.a1 = l[i].ID := by
          refine forall_congr' fun q => forall_congr' fun _ => ?_
          unfold hitB; simp
        rw [a2, cl_hit]
        have a3 : okBut w l i = true ↔ (allLev w tide_every (l.eraseIdx i)).Lo ≤ (allLev w tide_every (l.eraseIdx i)).Hi := by
          unfold okBut
          rw [Bool.not_eq_true', none_iff]
        rw [a3, allLev_fit]
        simp only [hmem]
        constructor
        · intro h a ha b hb
          obtain ⟨g, hg, rfl⟩ := List.mem_map.1 ha
          obtain ⟨k, hk, rfl⟩ := List.mem_map.1 hb
          obtain ⟨c1, c2⟩ := (mem_but q2 hi).1 hg
          obtain ⟨d1, d2⟩ := (mem_but q2 hi).1 hk
          exact h _ (List.mem_map.2 ⟨g, c1, rfl⟩) _ (List.mem_map.2 ⟨k, d1, rfl⟩) c2 d2
        · intro h a ha b hb h3 h4
          obtain ⟨g, hg, rfl⟩ := List.mem_map.1 ha
          obtain ⟨k, hk, rfl⟩ := List.mem_map.1 hb
          exact h _ (List.mem_map.2 ⟨g, (mem_but q2 hi).2 ⟨hg, h3⟩, rfl⟩) _ (List.mem_map.2 ⟨k, (mem_but q2 hi).2 ⟨hk, h4⟩, rfl⟩)
      have e2 : susB (suspS w l) l[i].ID = true ↔ ¬ (allLev w tide_every l).Lo ≤ (allLev w tide_every l).Hi ∧ okBut w l i = true := by
        unfold susB suspS
        rw [List.any_eq_true]
        cases hn : tide_none (allLev w tide_every l) with
        | false =>
          have := (none_iff _).1 hn
          simp [this]
        | true =>
          have h3 : ¬ (allLev w tide_every l).Lo ≤ (allLev w tide_every l).Hi := fun h => by rw [(none_iff _).2 h] at hn; cases hn
          simp only [if_true, decide_eq_true_eq]
          constructor
          · rintro ⟨x, hx, rfl⟩
            rw [(srtI_spec _).1.mem_iff, susL_mem] at hx
            obtain ⟨j, g, k1, k2, k3⟩ := hx
            obtain ⟨hj, rfl⟩ := List.getElem?_eq_some_iff.1 k1
            have hij : j = i := by
              rcases Nat.lt_trichotomy j i with h | h | h
              · exact absurd k2 (List.pairwise_iff_getElem.1 q2 j i hj hi h)
              · exact h
              · exact absurd k2.symm (List.pairwise_iff_getElem.1 q2 i j hi hj h)
            subst hij
            exact ⟨h3, by simpa using k3⟩
          · rintro ⟨_, k⟩
            refine ⟨l[i].ID, ?_, rfl⟩
            rw [(srtI_spec _).1.mem_iff, susL_mem]
            exact ⟨i, l[i], List.getElem?_eq_getElem hi, rfl, by simpa using k⟩
      cases h1 : inB (cl (srtF lt_known (l.map (kn w)))) l[i].ID with
      | true => exact (e2.2 (e1.1 h1)).symm
      | false =>
        cases h2 : susB (suspS w l) l[i].ID with
        | false => rfl
        | true => rw [e1.2 (e2.1 h2)] at h1; cases h1
    have hfits : (l.all (fitG w level)) = (((decide ((levelsS w l).2 = 0)) && (decide ((levelsS w l).1.Lo ≤ level))) && (decide (level ≤ (levelsS w l).1.Hi))) := by
      have e : l.all (fitG w level) = true ↔ (allLev w tide_every l).Lo ≤ level ∧ level ≤ (allLev w tide_every l).Hi := by
        rw [allLev_mem, List.all_eq_true]
        constructor
        · intro h; exact ⟨⟨hlv.1, hlv.2⟩, fun g hg => (fitG_lev hlv.1 hlv.2).1 (h g hg)⟩
        · rintro ⟨_, h⟩ g hg; exact (fitG_lev hlv.1 hlv.2).2 (h g hg)
      rw [hL]
      by_cases hlt : (allLev w tide_every l).Hi < (allLev w tide_every l).Lo
      · rw [if_pos hlt]
        cases hv : l.all (fitG w level) with
        | false => rfl
        | true => have := e.1 hv; omega
      · rw [if_neg hlt]
        cases hv : l.all (fitG w level) with
        | false =>
          have : ¬ ((allLev w tide_every l).Lo ≤ level ∧ level ≤ (allLev w tide_every l).Hi) := fun h => by rw [e.2 h] at hv; cases hv
          by_cases c1 : (allLev w tide_every l).Lo ≤ level
          · simp [c1]; omega
          · simp [c1]
        | true => have := e.1 hv; simp [this]
    have he : (((decide ((levelsS w l).2 = 0)) == (decide (((cl (srtF lt_known (l.map (kn w)))).length : Int) = 0)))) = true := by
      rw [hL]
      by_cases hlt : (allLev w tide_every l).Hi < (allLev w tide_every l).Lo
      · rw [if_pos hlt]
        have : cl (srtF lt_known (l.map (kn w))) ≠ [] := fun e => by have := hnil.1 e; omega
        have := List.length_pos_iff.2 this
        simp; omega
      · rw [if_neg hlt]
        have := hnil.2 (by omega)
        simp [this]
    have h9 : ((!decide ((levelsS w l).2 = 0)) && (!decide ((levelsS w l).2 = 9))) = false := by
      rw [hL]; split <;> rfl
    rw [if_neg (by rw [h9]; decide), if_neg (by decide)]
    refine lp_list l (by omega) (fun (s : Bool) i => (s, i)) (fun s r => if (s && r.all (fitG w level)) = l.all (fitG w level) then true else false) (fun i s => s = (l.take i).all (fitG w level)) (a := true) rfl (by simp) (fun s i hi hJ => ?_) (fun s hJ => ?_) |>.trans (by simp)
    · left
      unfold law02_TideLevelsHold_b8
      simp only
      have hg := gok_spec (q1 l[i] (List.getElem_mem hi))
      have hr := rst_bound (checkS_good hw g1) l[i].Tick
      rw [if_pos (by simpa using hi), ix_lt hi, Option.bind_some, now_eq w hw g1 level hlv.1 hlv.2 _ hg.2.2.1 hg.2.2.2.1, Option.bind_some, w64s' hi (by omega)]
      refine ⟨s && fitG w level l[i], ?_, ?_, ?_⟩
      · cases s with
        | false => simp [gb, fitG]
        | true =>
          simp only [gb, if_true, Option.bind_some, Bool.true_and, decide_true, Bool.not_true, Bool.false_eq_true, if_false, fitG]
          by_cases c : l[i].Read.Lo ≤ level + rst w l[i].Tick
          · simp [c]
          · simp [c]
      · exact ite_congr (by simp only [List.all_cons, Bool.and_assoc]) (fun _ => rfl) (fun _ => rfl)
      · rw [hJ, List.take_add_one, List.getElem?_eq_getElem hi, List.all_append]
        simp
    · unfold law02_TideLevelsHold_b8
      simp only
      rw [List.take_length] at hJ
      rw [if_neg (by simp)]
      unfold law02_TideLevelsHold_j1
      rw [hJ]
      simp only [List.all_nil, Bool.and_true, if_true]
      rw [← hfits, he]
      simp only [beq_self_eq_true, Bool.not_true, Bool.or_self, Bool.false_eq_true, if_false]
      have hlast : Lp (law02_TideLevelsHold_b3 l (cl (srtF lt_known (l.map (kn w))), 0) (suspS w l, 0)) fuel 0 = some true := by
        refine lp_list l (by omega) (fun (_ : Unit) i => i) (fun _ _ => true) (fun _ _ => True) (a := ()) rfl trivial (fun _ i hi _ => ?_) (fun _ _ => ?_)
        · left
          unfold law02_TideLevelsHold_b3
          simp only
          rw [if_pos (by simpa using hi), b3_in l _ _ (by unfold Len; simp only; omega) (by unfold Len; simp only; omega) i hi (by omega)]
          rw [if_pos (hin i hi)]
          exact ⟨(), rfl, trivial, trivial⟩
        · unfold law02_TideLevelsHold_b3
          simp only
          rw [if_neg (by simp)]
          unfold law02_TideLevelsHold_j2
          rw [sanity_true]; rfl
      rw [hlast]; rfl
end Go.Mx
