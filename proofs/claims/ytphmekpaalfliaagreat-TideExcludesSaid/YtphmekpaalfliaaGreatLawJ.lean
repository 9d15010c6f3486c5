/- Plain laws of water: what the specification says of gauges. Conditions: none. -/
import Derived.Test.YtphmekpaalfliaaGreatLawI
set_option linter.unusedVariables false
namespace Go.Mx

/-! ### The specification: right gauges, levels -/

theorem RGauged_eq (w : api_Water) (hw : LenW w) (l : List api_Gauge) (hl : Len l) : ref02_Gauged w l = some (gaugedS w l) := by
  unfold ref02_Gauged gaugedS
  rw [RCheck_eq w hw, Option.bind_some]
  by_cases hc : checkS w = 0
  · rw [if_pos hc, if_neg (by simp [hc])]
    by_cases h4 : 40 < l.length
    · rw [if_pos h4, if_pos (by simpa using (by omega : (40 : Int) < l.length))]
    · rw [if_neg h4, if_neg (by simpa using (by omega : ¬ (40 : Int) < l.length))]
      refine lp_list l hl (fun (_ : List api_Gauge) i => i) (fun pre r => gaugeS pre r) (fun i pre => pre = l.take i) (a := []) rfl rfl (fun pre i hi hJ => ?_) (fun pre hJ => ?_)
      · subst hJ
        have inner : Lp (ref02_Gauged_b4 l (i : Int)) fuel 0 = some (if ((l.take i).any fun x => decide (x.ID = l[i].ID)) = true then (.inr 6 : Int ⊕ Int) else .inl ((i + 1 : Nat) : Int)) := by
          have hlen : (l.take i).length = i := by rw [List.length_take]; omega
          refine lp_list (l.take i) (by omega) (fun (_ : Unit) k => k) (fun _ r => if (r.any fun x => decide (x.ID = l[i].ID)) = true then (.inr 6 : Int ⊕ Int) else .inl ((i + 1 : Nat) : Int)) (fun _ _ => True) (a := ()) rfl trivial (fun _ k hk _ => ?_) (fun _ _ => ?_)
          · have hk' : k < i := by omega
            have hkl : k < l.length := by omega
            unfold ref02_Gauged_b4
            simp only
            rw [if_pos (by simpa using hk'), ix_lt hkl, Option.bind_some, ix_lt hi, Option.bind_some]
            have e : (l.take i)[k] = l[k] := List.getElem_take
            rw [e]
            by_cases h : l[k].ID = l[i].ID
            · right
              rw [if_pos (by simpa using h)]
              simp [h]
            · left
              rw [if_neg (by simpa using h), w64s' hkl hl]
              refine ⟨(), rfl, ?_, trivial⟩
              simp [h]
          · unfold ref02_Gauged_b4
            simp only
            rw [if_neg (by simp [hlen])]
            unfold ref02_Gauged_j3
            rw [w64s' hi hl]
            rfl
        have hb : (((((!(tide_within l[i].ID 1 1099511627776)) || (!(tide_within l[i].Tick 0 1048576))) || (decide (l[i].Read.Lo < (-40000)))) || (decide (l[i].Read.Hi < l[i].Read.Lo))) || (decide (40000 < l[i].Read.Hi))) = !gok l[i] := by
          unfold gok tide_within
          rw [Bool.eq_iff_iff]
          simp only [Bool.or_eq_true, Bool.not_eq_true', Bool.and_eq_false_iff, decide_eq_false_iff_not, decide_eq_true_eq]
          omega
        have cases5 : (gb (!(((!(tide_within l[i].ID 1 1099511627776)) || (!(tide_within l[i].Tick 0 1048576))))) (some l[i]) fun x2 => gb (!((((!(tide_within l[i].ID 1 1099511627776)) || (!(tide_within l[i].Tick 0 1048576))) || (decide (x2.Read.Lo < (-40000)))))) (some l[i]) fun x3 => gb (!((((!(tide_within l[i].ID 1 1099511627776)) || (!(tide_within l[i].Tick 0 1048576))) || (decide (x2.Read.Lo < (-40000)))))) (some l[i]) fun x4 => gb (!(((((!(tide_within l[i].ID 1 1099511627776)) || (!(tide_within l[i].Tick 0 1048576))) || (decide (x2.Read.Lo < (-40000)))) || (decide (x4.Read.Hi < x3.Read.Lo))))) (some l[i]) fun x5 => if (((((!(tide_within l[i].ID 1 1099511627776)) || (!(tide_within l[i].Tick 0 1048576))) || (decide (x2.Read.Lo < (-40000)))) || (decide (x4.Read.Hi < x3.Read.Lo))) || (decide (40000 < x5.Read.Hi))) then some (.inr 1) else Lp (ref02_Gauged_b4 l (i : Int)) fuel 0) = if gok l[i] = true then Lp (ref02_Gauged_b4 l (i : Int)) fuel 0 else some (.inr 1) := by
          unfold gb
          by_cases a1 : (((!(tide_within l[i].ID 1 1099511627776)) || (!(tide_within l[i].Tick 0 1048576)))) = true
          · have hg : gok l[i] = false := by
              cases h : gok l[i] with
              | false => rfl
              | true => rw [h, a1] at hb; simp at hb
            simp [a1, hg]
          · have a1' : (((!(tide_within l[i].ID 1 1099511627776)) || (!(tide_within l[i].Tick 0 1048576)))) = false := by simpa using a1
            simp only [a1', Bool.not_false, if_true, Option.bind_some, Bool.false_or] at hb ⊢
            by_cases a2 : l[i].Read.Lo < -40000
            · have hg : gok l[i] = false := by
                cases h : gok l[i] with
                | false => rfl
                | true => rw [h] at hb; simp [a2] at hb
              simp [a2, hg]
            · by_cases a3 : l[i].Read.Hi < l[i].Read.Lo
              · have hg : gok l[i] = false := by
                  cases h : gok l[i] with
                  | false => rfl
                  | true => rw [h] at hb; simp [a3] at hb
                have b3 : ¬ l[i].Read.Lo ≤ l[i].Read.Hi := by omega
                simp [a2, a3, b3, hg]
              · have b3 : l[i].Read.Lo ≤ l[i].Read.Hi := by omega
                by_cases a4 : 40000 < l[i].Read.Hi
                · have hg : gok l[i] = false := by
                    cases h : gok l[i] with
                    | false => rfl
                    | true => rw [h] at hb; simp [a4] at hb
                  simp [a2, a3, b3, a4, hg]
                · have hg : gok l[i] = true := by
                    cases h : gok l[i] with
                    | true => rfl
                    | false => rw [h] at hb; simp [a2, a3, a4] at hb
                  simp [a2, a3, b3, a4, hg]
        have body : ref02_Gauged_b2 l (i : Int) = if gok l[i] = true then Lp (ref02_Gauged_b4 l (i : Int)) fuel 0 else some (.inr 1) := by
          unfold ref02_Gauged_b2
          simp only
          rw [if_pos (by simpa using hi), ix_lt hi]
          simp only [Option.bind_some, refwithin]
          exact cases5
        rw [body]
        by_cases hg : gok l[i] = true
        · rw [if_pos hg, inner]
          by_cases h6 : ((l.take i).any fun x => decide (x.ID = l[i].ID)) = true
          · right
            rw [if_pos h6]
            simp only [gaugeS]
            rw [if_pos hg, if_pos h6]
          · left
            rw [if_neg h6]
            refine ⟨l.take (i + 1), rfl, ?_, rfl⟩
            simp only [gaugeS]
            rw [if_pos hg, if_neg h6, List.take_add_one, List.getElem?_eq_getElem hi]
            rfl
        · right
          rw [if_neg hg]
          simp only [gaugeS]
          rw [if_neg hg]
      · unfold ref02_Gauged_b2
        simp only
        rw [if_neg (by simp)]
        rfl
  · rw [if_neg hc, if_pos (by simp [hc])]

theorem agreed_eq {w : api_Water} (hw : GoodW w) {g : api_Gauge} (hg : gok g = true) : ref02_agreed w g = some (lev w g) := by
  have h := gok_spec hg
  have hr := rst_bound hw g.Tick
  unfold ref02_agreed
  rw [rest_eq hw h.2.2.1 (by omega), Option.bind_some]
  have e : corr w.Shifts g.Tick + (w.Cycles.map fun c => val c g.Tick).sum = rst w g.Tick := rfl
  rw [e, w64_id (n := g.Read.Lo - rst w g.Tick) (by omega) (by omega), w64_id (n := g.Read.Hi - rst w g.Tick) (by omega) (by omega)]
  rfl
theorem agreedAll_eq {w : api_Water} (hw : GoodW w) (l : List api_Gauge) (hl : l.length ≤ 1000) (hg : ∀ g ∈ l, gok g = true) : ref02_agreedAll w l = some (allLev w tide_every l) := by
  unfold ref02_agreedAll
  refine lp_list l (by omega) (fun (s : api_Span) i => (i, s.Lo, s.Hi)) (fun s r => allLev w s r) (fun _ _ => True) (a := tide_every) rfl trivial (fun s i hi _ => ?_) (fun s _ => ?_)
  · left
    unfold ref02_agreedAll_b2
    simp only
    rw [if_pos (by simpa using hi), ix_lt hi, Option.bind_some, agreed_eq hw (hg _ (List.getElem_mem hi)), Option.bind_some, w64s' hi (by omega)]
    exact ⟨tide_both s (lev w l[i]), rfl, rfl, trivial⟩
  · unfold ref02_agreedAll_b2
    simp only
    rw [if_neg (by simp)]
    rfl
theorem RLevels_eq (w : api_Water) (hw : LenW w) (l : List api_Gauge) (hl : Len l) : ref02_Levels w l = some ⟨(levelsS w l).1, (levelsS w l).2⟩ := by
  unfold ref02_Levels levelsS
  rw [RGauged_eq w hw l hl, Option.bind_some]
  by_cases hq : gaugedS w l = 0
  · obtain ⟨g0, g1, g2⟩ := gaugedS_len hq
    rw [if_neg (by simp [hq]), agreedAll_eq (checkS_good hw g1) l (by omega) ((gaugeS_zero l []).1 g2).1, Option.bind_some]
    simp only [if_pos hq]
    by_cases h : (allLev w tide_every l).Hi < (allLev w tide_every l).Lo
    · rw [if_pos (by simpa using h)]; simp only [if_pos h]
    · rw [if_neg (by simpa using h)]; simp only [if_neg h]
  · rw [if_pos (by simp [hq])]
    simp only [if_neg hq]

/-! ### Insertion -/

def insB {α : Type} (p : α → Bool) (l : List α) (x : α) : List α := l.takeWhile p ++ x :: l.dropWhile p
theorem insB_perm {α : Type} (p : α → Bool) (l : List α) (x : α) : (insB p l x).Perm (x :: l) := by
  unfold insB
  refine List.perm_middle.trans ?_
  rw [List.takeWhile_append_dropWhile]
theorem tw_spec {α : Type} (p : α → Bool) : ∀ (l : List α), (∀ (j : Nat) (h : j < l.length), j < (l.takeWhile p).length → p l[j] = true) ∧ (∀ h : (l.takeWhile p).length < l.length, p l[(l.takeWhile p).length] = false) ∧ (l.takeWhile p).length ≤ l.length ∧ l.take (l.takeWhile p).length = l.takeWhile p ∧ l.drop (l.takeWhile p).length = l.dropWhile p
  | [] => by simp
  | a :: r => by
    obtain ⟨h1, h2, h3, h4, h5⟩ := tw_spec p r
    cases hp : p a with
    | false => simp [List.takeWhile, List.dropWhile, hp]
    | true =>
      simp only [List.takeWhile_cons, List.dropWhile_cons, hp, if_true, List.length_cons, List.take_succ_cons, List.drop_succ_cons]
      refine ⟨fun j hj hj2 => ?_, fun h => ?_, by omega, by rw [h4], h5⟩
      · cases j with
        | zero => simpa using hp
        | succ j => simpa using h1 j (by simpa using hj) (by omega)
      · simpa using h2 (by omega)
theorem ins_loop {α : Type} (p : α → Bool) (l : List α) (hl : l.length ≤ 1000000) {body : Int → Option (Int ⊕ List α)} (res : List α)
    (step : ∀ (i : Nat) (h : i < l.length), p l[i] = true → body (i : Int) = some (.inl ((i + 1 : Nat) : Int)))
    (stop : ∀ (i : Nat) (h : i < l.length), p l[i] = false → i = (l.takeWhile p).length → body (i : Int) = some (.inr res)) (last : (l.takeWhile p).length = l.length → body (l.length : Int) = some (.inr res)) : Lp body fuel 0 = some res := by
  obtain ⟨h1, h2, h3, h4, h5⟩ := tw_spec p l
  suffices h : ∃ r, Lp body fuel 0 = some r ∧ r = res by obtain ⟨r, h, rfl⟩ := h; exact h
  refine lp_inv' (fun (i : Nat) (s : Int) => s = (i : Int) ∧ i ≤ (l.takeWhile p).length) _ l.length (by omega) ⟨rfl, Nat.zero_le _⟩ fun i s hi hI => ?_
  obtain ⟨rfl, hk⟩ := hI
  by_cases hlt : i < l.length
  · by_cases hk2 : i < (l.takeWhile p).length
    · exact .inl ⟨hlt, _, step i hlt (h1 i hlt hk2), rfl, by omega⟩
    · have e : i = (l.takeWhile p).length := by omega
      refine .inr ⟨_, stop i hlt ?_ e, rfl⟩
      subst e; exact h2 hlt
  · have e : i = l.length := by omega
    subst e
    exact .inr ⟨_, last (by omega), rfl⟩
theorem app2 {α : Type} {l r : List α} (h : l.length + r.length ≤ 1000000) : app l r = some (l ++ r) := by unfold app; rw [if_pos (by omega)]
theorem sub_to {α : Type} {l : List α} {k : Nat} (h : k ≤ l.length) : sub l 0 (k : Int) = some (l.take k) := by unfold sub; rw [if_pos ⟨by omega, by omega, by omega⟩]; simp
theorem sub_from {α : Type} {l : List α} {k : Nat} (h : k ≤ l.length) : sub l (k : Int) (l.length : Int) = some (l.drop k) := by unfold sub; rw [if_pos ⟨by omega, by omega, by omega⟩]; simp

def ltB (n x : Int) : Bool := decide (x < n)
theorem add_eq (l : List Int) (hl : l.length ≤ 100000) (n : Int) : ref02_add l n = some (insB (ltB n) l n) := by
  obtain ⟨h1, h2, h3, h4, h5⟩ := tw_spec (ltB n) l
  have hj : ref02_add_j1 l n (((l.takeWhile (ltB n)).length : Nat) : Int) = some (insB (ltB n) l n) := by
    unfold ref02_add_j1
    rw [sub_to h3, Option.bind_some, app2 (by simp; omega), Option.bind_some, app2 (by simp; omega), Option.bind_some, sub_from h3, Option.bind_some, app2 (by simp; omega), Option.bind_some]
    unfold insB
    rw [h4, h5]; simp
  unfold ref02_add
  refine ins_loop (ltB n) l (by omega) _ (fun i hi hp => ?_) (fun i hi hp e => ?_) (fun e => ?_)
  · unfold ref02_add_b2
    have d : decide ((i : Int) < (l.length : Int)) = true := by simpa using hi
    have d2 : decide (l[i] < n) = true := hp
    simp only [d, gb, if_true, ix_lt hi, Option.bind_some, d2, Bool.and_self]
    rw [w64s' hi (by omega)]
  · unfold ref02_add_b2
    have d : decide ((i : Int) < (l.length : Int)) = true := by simpa using hi
    have d2 : decide (l[i] < n) = false := hp
    simp only [d, gb, if_true, ix_lt hi, Option.bind_some, d2, Bool.and_false, Bool.false_eq_true, if_false]
    rw [e, hj]; rfl
  · unfold ref02_add_b2
    simp only [Int.lt_irrefl, decide_false, gb, Bool.false_eq_true, if_false, Option.bind_some, Bool.false_and]
    rw [← e, hj]; rfl

/-- Pairs in order. -/
def lexB (p q : Arr_2_int) : Bool := decide (q.a0 < p.a0) || (decide (q.a0 = p.a0) && decide (q.a1 < p.a1))
theorem insB_sorted {α : Type} {le : α → α → Prop} {p : α → Bool} {x : α} (tr : ∀ a b c, le a b → le b c → le a c) (h1 : ∀ a, p a = true → le a x) (h2 : ∀ a, p a = false → le x a) : ∀ {l : List α}, l.Pairwise le → (insB p l x).Pairwise le
  | [], _ => by simp [insB]
  | a :: r, h => by
    unfold insB
    rw [List.pairwise_cons] at h
    cases hp : p a with
    | false =>
      simp only [List.takeWhile_cons, List.dropWhile_cons, hp, Bool.false_eq_true, if_false, List.nil_append]
      rw [List.pairwise_cons]
      refine ⟨fun b hb => ?_, List.pairwise_cons.2 h⟩
      rcases List.mem_cons.1 hb with rfl | hb
      · exact h2 _ hp
      · exact tr _ _ _ (h2 _ hp) (h.1 b hb)
    | true =>
      simp only [List.takeWhile_cons, List.dropWhile_cons, hp, if_true, List.cons_append]
      rw [List.pairwise_cons]
      refine ⟨fun b hb => ?_, insB_sorted tr h1 h2 h.2⟩
      have := (insB_perm p r x).mem_iff.1 hb
      rcases List.mem_cons.1 this with rfl | hb
      · exact h1 _ hp
      · exact h.1 b hb

end Go.Mx
