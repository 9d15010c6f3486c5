/- TideAgain: the plain law. Conditions: none. -/
import Derived.Test.YtphmekpaalfliaaLawU
set_option linter.unusedVariables false
namespace Go.Mx

theorem again_j1 (w : api_Water) (hw : LenW w) (tick more : Int) (hm : 0 ≤ more ∧ more ≤ 255) : law02_TideAgain_j1 w tick more = some true := by
  unfold law02_TideAgain_j1
  rw [w64_nat more hm.1 hm.2]
  obtain ⟨h, e, h1, h2⟩ := Height_spec w hw tick
  obtain ⟨h', e', h1', h2'⟩ := Height_spec ⟨w64 (w.Level + more), w.Cycles, w.Shifts⟩ ⟨hw.c, hw.s, hw.h⟩ tick
  rw [h1, h1', sanity_true]
  simp only [Option.bind_some, Bool.true_and, Option.some.injEq]
  by_cases he : e = 0
  · by_cases he' : e' = 0
    · obtain ⟨g, _, _, rfl⟩ := h2 he
      obtain ⟨g', _, _, rfl⟩ := h2' he'
      have l0 := g.l0
      have l1 := g.l1
      have e3 : w64 (w.Level + more) = w.Level + more := w64_id (by omega) (by omega)
      have b := hgt_bound g tick
      rw [w64_id (n := hgt w tick + more) (by omega) (by omega)]
      have : hgt ⟨w64 (w.Level + more), w.Cycles, w.Shifts⟩ tick = hgt w tick + more := by
        unfold hgt
        simp only [e3]
        omega
      rw [this]
      simp
    · simp [he']
  · simp [he]
theorem holds_TideAgain {w : api_Water} {c : api_Cycle} {tick times more : Int} (h0 : ok_api_Water w) (h1 : ok_api_Cycle c) (h2 : OkI .i64 tick) (h3 : OkI .u8 times) (h4 : OkI .u8 more) : law02_TideAgain w c tick times more = some true := by
  have hw := LenW.of h0
  have hl : Len c.Heights := h1.2.2.2.1.1
  have ht := h3.u8
  have hj := again_j1 w hw tick more h4.u8
  unfold law02_TideAgain
  obtain ⟨b, hb, _⟩ := few_spec w hw.c
  rw [hb, Option.bind_some]
  split
  · rw [sanity_true]; rfl
  · rcases Value_spec c hl tick with ⟨v, q1, rfl, hg, hr, ht0, ht1⟩ | ⟨q1, q2⟩
    · rw [q1, Option.bind_some, if_pos (by simp)]
      have g := hg
      obtain ⟨b0, b1, e0, e1, l0, l1, i0, i1, hs⟩ := g
      have m1 : times * c.Every ≤ 255 * 120 := Int.mul_le_mul ht.2 e1 (by omega) (by omega)
      have m0 : 0 ≤ times * c.Every := Int.mul_nonneg ht.1 (by omega)
      have m3 : times * c.Every * c.Heights.length ≤ 30600 * 60 := Int.mul_le_mul (by omega) (by omega) (by omega) (by omega)
      have m2 : 0 ≤ times * c.Every * c.Heights.length := Int.mul_nonneg m0 (by omega)
      rw [w64_nat times ht.1 ht.2, w64_id (n := times * c.Every) (by omega) (by omega), w64_id (n := times * c.Every * c.Heights.length) (by omega) (by omega), w64_id (n := tick + times * c.Every * c.Heights.length) (by omega) (by omega)]
      have hv := val_add c hg tick times
      generalize hT : tick + times * c.Every * c.Heights.length = T at *
      rcases Value_spec c hl T with ⟨v', p1, rfl, _⟩ | ⟨p1, p2⟩
      · rw [p1, Option.bind_some, if_neg]
        · exact hj
        · rw [hv]; simp
      · have hbig : ¬ T ≤ 1048576 := fun h => p2 ⟨hr, by omega, h⟩
        rw [p1, Option.bind_some, if_neg]
        · exact hj
        · simp [hbig]
    · rw [q1, Option.bind_some, if_neg (by simp)]
      exact hj
end Go.Mx
