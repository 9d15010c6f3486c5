/- BerthLent: the plain law. Conditions: none. -/
import Derived.Test.YthfnbjoecocfaaaLawBe
set_option linter.unusedVariables false
set_option linter.unusedSimpArgs false
namespace Go.Mx
theorem lent_true : law06_lent = some true := by decide +kernel
theorem lent_b3 {l q : List api_Lease} (hl : l.length ≤ 20) (h : QOut l q) (hg : ∀ x ∈ l, GoodL x) (e : Int) : Lp (law06_BerthLent_b3 l (q, e)) fuel 0 = some true := by
  refine lp_list (body := law06_BerthLent_b3 l (q, e)) q (by rw [h.len]; omega) (fun (_ : Unit) i => i) (fun _ _ => true) (fun _ _ => True) (a := ()) rfl trivial (fun _ i hi _ => ?_) (fun _ _ => ?_)
  · left
    have hi2 : i < l.length := by rw [← h.len]; exact hi
    obtain ⟨s1, s2, s3⟩ := h.same i hi2
    have g := h.good _ (List.getElem_mem hi)
    have g2 := hg _ (List.getElem_mem hi2)
    rw [← gL_get hi] at g
    rw [← gL_get hi2] at g2
    have g3 := g.lo
    have g4 := g.lh
    have g5 := g.hi
    have g6 := g2.lo
    have g7 := g2.lh
    have g8 := g2.hi
    refine ⟨(), ?_, rfl, trivial⟩
    unfold law06_BerthLent_b3
    simp only
    rw [if_pos (by simpa using hi), ix_gL hi, ix_gL hi2]
    simp only [Option.bind_some]
    have d1 : decide ((gL q i).ID = (gL l i).ID) = true := by rw [decide_eq_true_eq]; exact s1
    have w1 : w64 ((gL q i).Span.Hi - (gL q i).Span.Lo) = (gL q i).Span.Hi - (gL q i).Span.Lo := w64_id (by omega) (by omega)
    have w2 : w64 ((gL l i).Span.Hi - (gL l i).Span.Lo) = (gL l i).Span.Hi - (gL l i).Span.Lo := w64_id (by omega) (by omega)
    have d2 : decide (w64 ((gL q i).Span.Hi - (gL q i).Span.Lo) = w64 ((gL l i).Span.Hi - (gL l i).Span.Lo)) = true := by rw [decide_eq_true_eq, w1, w2]; exact s2
    simp only [d1, gb, Bool.not_true, Bool.not_false, if_true, Option.bind_some, Bool.false_or, d2]
    rw [if_neg (by rw [decide_eq_true_eq]; omega), w64s' hi (by rw [h.len]; omega)]
  · unfold law06_BerthLent_b3
    simp only
    rw [if_neg (by simp)]
    unfold law06_BerthLent_j2
    rw [lent_true]; rfl
theorem holds_BerthLent {l : List api_Lease} {x : List Int} (h0 : ok_62 l) (h1 : ok_40 x) : law06_BerthLent l x = some true := by
  unfold law06_BerthLent
  split
  · rw [lent_true]; rfl
  · rename_i hc
    simp only [Bool.or_eq_true, decide_eq_true_eq, not_or] at hc
    have hl : l.length ≤ 20 := by omega
    have hL : Len l := by unfold Len; omega
    rw [blighters_eq l hl, bbus_eq l hl]
    simp only [Option.bind_some]
    by_cases hz : chk l = 0
    · have hg := (chk_good hz).2.1
      have hd := (chk_good hz).2.2
      simp only [hz, if_true]
      rw [if_neg (by simp), if_neg (by simp)]
      -- what stands behind the count
      have j1 : law06_BerthLent_j1 l x ((lits l).1, (lits l).2, 0) ((bus l).1, (bus l).2, 0) (cntL l (bus l).1 : Int) = some true := by
        unfold law06_BerthLent_j1
        have hcx := okX_spec (l := l) (x := x)
        have k1 : chkX l (lits l).1 = 0 := by unfold chkX; rw [if_pos hz, if_pos (lits_ok hl hg)]
        rw [bcheckl_eq l _ hL, bcheckl_eq l _ hL, k1, Option.bind_some]
        obtain ⟨d, hd1, hd2⟩ := different_eq x (by omega)
        rw [hd1]
        have d1 : decide ((lits l).2 = (bus l).2) = true := by rw [decide_eq_true_eq]; exact lits_bus hl hg
        have d2 : decide (((cntL l (bus l).1 : Nat) : Int) = (bus l).2) = true := by rw [decide_eq_true_eq]; exact (bus_cnt hg).symm
        simp only [decide_true, d1, d2, gb, Bool.not_true, Bool.not_false, Bool.or_false, Bool.false_or, if_true, Option.bind_some, Bool.true_and, Bool.or_self]
        have dd : ∀ m : Int, (decide (chkX l x = 0) = true → m = d) → (decide (chkX l x = 0) && decide (m < (lits l).2)) = false := fun m hm => by
          cases hk : decide (chkX l x = 0) with
          | false => rfl
          | true =>
            rw [hm hk]
            have hk2 := of_decide_eq_true hk
            have hox : okX l x = true := by
              unfold chkX at hk2
              rw [if_pos hz] at hk2
              cases hq : okX l x with
              | true => rfl
              | false => rw [hq] at hk2; cases hk2
            obtain ⟨x1, x2, x3⟩ := hcx hox
            have := hd2 _ (labels_nodup hox (bus l).1) fun v hv => by
              rw [List.mem_map] at hv
              obtain ⟨k, hk, rfl⟩ := hv
              rw [gI_get (show k < x.length by rw [x1]; exact (atT_mem.1 hk).1)]
              exact List.getElem_mem _
            rw [List.length_map, atT_len] at this
            have e1 := lits_bus hl hg
            have e2 := bus_cnt hg
            simp only [Bool.true_and, decide_eq_false_iff_not]
            omega
        have fin : ∀ m : Int, (decide (chkX l x = 0) = true → m = d) → (if (decide (chkX l x = 0) && decide (m < (lits l).2)) = true then some false else Option.bind (berth_Queue l) fun y7 => if (!decide (y7.2 = 0)) = true then Option.bind law06_lent fun y8 => some (y8 && decide (y7.2 = 2)) else Option.bind (berth_Clashes y7.1) fun y9 => Option.bind (berth_Queue y7.1) fun y10 => gb (!(((!decide (y9.2 = 0)) || decide (0 < (y9.1.length : Int))) || (!decide (y10.2 = 0)))) (ref06_SameLeases y10.1 y7.1) fun y11 => if (((((!decide (y9.2 = 0)) || decide (0 < (y9.1.length : Int))) || (!decide (y10.2 = 0))) || (!y11)) || (!decide ((y7.1.length : Int) = (l.length : Int)))) = true then some false else Lp (law06_BerthLent_b3 l y7) fuel 0) = some true := fun m hm => by
          rw [dd m hm, if_neg (by decide), bque_eq l hl, if_pos hz, Option.bind_some]
          rcases que_inv hg with hq | ⟨q, nx, hq, hinv⟩
          · rw [hq]
            simp [lent_true]
          · rw [hq]
            have ho := hinv.out hg
            have hql : q.length ≤ 20 := by rw [ho.len]; exact hl
            have hck := ho.chk hl hd
            simp only [decide_true, Bool.not_true, Bool.false_eq_true, if_false]
            rw [bclash_eq q (by omega), bque_eq q hql, hck]
            simp only [if_true, Option.bind_some]
            rw [calm_prA ho.calm q.length (Nat.le_refl _), srt_nil, calm_que ho.good ho.calm]
            simp only [decide_true, Bool.not_true, List.length_nil, Int.natCast_zero, Int.lt_irrefl, decide_false, Bool.or_self, Bool.not_false, gb, if_true]
            rw [sameL_eq q q (by unfold Len; omega)]
            simp only [decide_true, Option.bind_some, Bool.not_true, Bool.or_self, Bool.false_or]
            rw [if_neg (by simp [ho.len])]
            exact lent_b3 hl ho hg 0
        cases hk : decide (chkX l x = 0) with
        | false =>
          have := fin default (fun h => by rw [hk] at h; cases h)
          rw [hk] at this
          simpa [gb] using this
        | true =>
          have := fin d (fun _ => rfl)
          rw [hk] at this
          simpa [gb] using this
      refine lp_list (body := law06_BerthLent_b4 l x ((lits l).1, (lits l).2, 0) ((bus l).1, (bus l).2, 0)) l (by omega) (fun (n : Nat) i => ((n : Int), i)) (fun _ _ => true) (fun i n => n = cntL (l.take i) (bus l).1) (a := 0) rfl rfl (fun n i hi hJ => ?_) (fun n hJ => ?_)
      · left
        subst hJ
        have hcl2 := cntL_le (l.take i) (bus l).1
        rw [List.length_take] at hcl2
        refine ⟨_, ?_, rfl, rfl⟩
        unfold law06_BerthLent_b4
        simp only
        rw [if_pos (by simpa using hi), ix_lt hi, Option.bind_some]
        have e : cntL (l.take (i + 1)) (bus l).1 = cntL (l.take i) (bus l).1 + if (decide (l[i].Span.Lo ≤ (bus l).1) && decide ((bus l).1 ≤ l[i].Span.Hi)) = true then 1 else 0 := by
          unfold cntL
          rw [← List.take_append_getElem hi, List.countP_append, List.countP_singleton]
        rw [e]
        split
        · unfold law06_BerthLent_j5
          rw [w64s _ (by omega), w64s' hi (by omega)]
        · unfold law06_BerthLent_j5
          rw [w64s' hi (by omega)]; rfl
      · subst hJ
        unfold law06_BerthLent_b4
        simp only
        rw [if_neg (by simp), List.take_length, j1]; rfl
    · simp only [hz, if_false]
      rw [if_neg (by simp), if_pos (by simp [hz]), lent_true]; rfl
end Go.Mx
