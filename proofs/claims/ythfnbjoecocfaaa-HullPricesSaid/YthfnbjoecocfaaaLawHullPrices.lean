/- HullPrices: the plain law. Conditions: none. -/
import Derived.Test.YthfnbjoecocfaaaLawHn
set_option linter.unusedVariables false
namespace Go.Mx
theorem lsum_eq (w x : List Int) (h : w.length = x.length) (hl : Len w) : law03_sum w x = some (w64 (dot w x)) := by
  have hlx : Len x := by unfold Len at *; omega
  have q := lp_list (body := law03_sum_b2 w x) (s0 := (0, 0)) x hlx (fun (a : Int × List Int) i => (a.1, i)) (fun a xs => w64 (a.1 + dot a.2 xs)) (fun i a => a.2 = w.drop i ∧ w64 a.1 = a.1) (a := (0, w)) rfl ⟨rfl, rfl⟩ (fun a i hi hJ => ?_) (fun a hJ => ?_)
  · unfold law03_sum; rw [q]; simp
  · left
    have hix : i < w.length := by omega
    unfold law03_sum_b2
    simp only
    rw [if_pos (by simpa using hi), ix_lt hix, Option.bind_some, ix_lt hi, Option.bind_some, w64_add', w64s' hi hlx, hJ.1, List.drop_eq_getElem_cons hix]
    refine ⟨(w64 (a.1 + w[i] * x[i]), w.drop (i + 1)), rfl, ?_, rfl, w64_w _⟩
    simp only [dot]
    rw [w64_add]; congr 1; omega
  · unfold law03_sum_b2 law03_sum_j1
    simp only
    rw [if_neg (by simp)]; simp [dot_nil_r, hJ.2]
theorem dot_neg : ∀ (w x : List Int), dot (w.map fun a => -a) x = - dot w x
  | [], x => by simp [dot]
  | w :: ws, [] => by simp [dot]
  | w :: ws, x :: xs => by simp only [List.map_cons, dot, dot_neg ws xs, Int.neg_mul]; omega
theorem holds_HullPrices {s : api_Ship} {l : api_Load} {form by_ : List Int} {p : api_Price} (h0 : ok_api_Ship s) (h1 : ok_api_Load l) (h2 : ok_40 form) (h3 : ok_50 by_) (h4 : ok_api_Price p) : law03_HullPrices s l form by_ p = some true := by
  have hl : Len s.Holds := h0.2.2.2.2.1.1
  have hL : Len l.Holds := h1.1.1
  have hw := LoadW.ok h1
  have hwl : Len form := h2.1
  have hp : Len p.Loading := h4.2.1.1
  unfold law03_HullPrices
  rw [hload_eq s l hl hw]
  generalize hc : ((!law03_short s l) || decide (20 < (p.Loading.length : Int))) = c
  cases c with
  | true => simp [gb, sanity3_true]
  | false =>
    simp only [Bool.not_false, gb, if_true, Option.bind_some, Bool.false_or]
    by_cases hk : chkL s l = 0
    · rw [if_neg (by simp [hk])]
      have hg := GoodL.of hk
      obtain ⟨x, x1, x2⟩ := inside_spec hg by_ h3
      rw [x1, Option.bind_some, if_neg (by simp)]
      by_cases ha : askE s l form = 0
      · obtain ⟨q, q1, q2, _⟩ := Most_ok s l form hl hw hwl ha
        have hf : formB s form = true := by unfold askE at ha; rw [if_pos hk] at ha; split at ha; · assumption
                                            · omega
        obtain ⟨f1, hb⟩ := formB_of hf
        have hwn : form.length = l.Holds.length := by rw [f1, hg.len]
        have hn := hg.lenL
        rw [q1, Option.bind_some, if_neg (by simp)]
        -- the opposite form
        have hm : form.map (fun a => w64 (0 - a)) = form.map fun a => -a := List.map_congr_left fun a ha => by
          obtain ⟨j, hj, rfl⟩ := List.getElem_of_mem ha
          have := hb j hj
          rw [gI_get hj] at this
          rw [w64_u (by omega)]; omega
        have hf2 : formB s (form.map fun a => -a) = true := by
          unfold formB
          simp only [List.length_map, f1, decide_true, Bool.true_and, List.all_map, List.all_eq_true]
          intro a ha
          obtain ⟨j, hj, rfl⟩ := List.getElem_of_mem ha
          have := hb j hj
          rw [gI_get hj] at this
          simp only [Function.comp, Bool.and_eq_true, decide_eq_true_eq]
          omega
        have ha2 : askE s l (form.map fun a => -a) = 0 := by unfold askE; rw [if_pos hk, if_pos hf2]
        obtain ⟨r, r1, r2, _⟩ := Most_ok s l (form.map fun a => -a) hl hw (by unfold Len at *; simpa using hwl) ha2
        have hj : law03_HullPrices_j1 s l form p (x, true) (q, 0) (form.map fun a => -a) = some true := by
          unfold law03_HullPrices_j1
          have hd := dot_fit hg.spn hwn hb x2.ins
          rw [r1, Option.bind_some, lsum_eq form x (by rw [hwn, x2.len]) hwl, Option.bind_some, w64_u (by omega)]
          have m1 := q2.max hwn x2
          have m2 := r2.max (by simpa using hwn) x2
          rw [dot_neg] at m2
          have hdr : -1099511627776 ≤ r.Value ∧ r.Value ≤ 1099511627776 := by
            have := dot_fit hg.spn hwn hb r2.fit.ins
            rw [r2.val, dot_neg]; omega
          have hqx : Len q.Loading := by have := q2.fit.len; unfold Len at *; omega
          rw [hcm_eq s l form q hl hw hL hwl hqx, hcm_eq s l form p hl hw hL hwl hp, q2.cm ha, w64_u (a := 0 - r.Value) (by omega), sanity3_true, hFits_eq s l x hl hw hL (by have := x2.len; unfold Len at *; omega), hk, (fitB_iff hg x).2 x2]
          have e1 : decide (q.Value < dot form x) = false := by rw [decide_eq_false_iff_not]; omega
          have e2 : decide (dot form x < 0 - r.Value) = false := by rw [decide_eq_false_iff_not]; omega
          have e3 : cmE s l form p = 0 → p.Value = q.Value := fun he => by
            unfold cmE at he
            rw [if_pos ha] at he
            split at he
            · rename_i hcm
              unfold cmB at hcm
              simp only [Bool.and_eq_true, decide_eq_true_eq] at hcm
              have hpf := (fitB_iff hg _).1 hcm.1.1.1
              have n1 := q2.max hwn hpf
              have n2 := weakT (p := p.Price) hwn q2.fit.ins q2.fit.all.1 q2.fit.all.2
              have n3 := q2.val
              omega
            · omega
          by_cases he : cmE s l form p = 0
          · rw [Int.zero_sub] at e2 ⊢
            simp only [gb, e1, e2, he, e3 he, decide_true, Bool.not_true, Bool.not_false, Bool.or_false, Bool.false_eq_true, if_false, if_true, Option.bind_some, Bool.and_false, Bool.and_true, Bool.true_and]
          · rw [Int.zero_sub] at e2 ⊢
            simp only [gb, e1, e2, he, decide_true, decide_false, Bool.not_true, Bool.not_false, Bool.or_false, Bool.false_eq_true, if_false, if_true, Option.bind_some, Bool.and_false, Bool.and_true, Bool.true_and, Bool.false_and]
        refine (lp_app (body := law03_HullPrices_b2 s l form p (x, true) (q, 0)) form (by omega) (fun a => w64 (0 - a)) (fun acc i => (i, acc)) (fun _ => true) rfl (fun acc i hi hJ => ?_) ?_).trans rfl
        · unfold law03_HullPrices_b2
          simp only
          rw [if_pos (by simpa using hi), ix_lt hi, Option.bind_some, app_ok (by rw [hJ]; simp; omega), Option.bind_some, w64s' hi hwl]
        · unfold law03_HullPrices_b2
          simp only
          rw [if_neg (by simp), hm, hj]; rfl
      · rw [Most_err s l form hl hw hwl ha, Option.bind_some, if_pos (by simp [ha]), sanity3_true, hcm_eq s l form p hl hw hL hwl hp]
        have e : askE s l form = 1 := by unfold askE at ha ⊢; rw [if_pos hk] at ha ⊢; split; · rename_i h; rw [if_pos h] at ha; exact absurd rfl ha
                                         · rfl
        have e2 : cmE s l form p = 1 := by unfold cmE; rw [if_neg ha, e]
        simp [gb, e, e2]
    · rw [if_pos (by simp [hk]), sanity3_true]; rfl
end Go.Mx
