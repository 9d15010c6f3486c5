/- Behind a piece of code: new blocks are forgotten or renumbered. Conditions: none. -/
import Derived.Test.YtphmekpaalfliaaNxt
set_option linter.unusedVariables false
set_option linter.unusedSimpArgs false
namespace Go.Am
open Go Go.Wk Go.RowKit

section
variable {m : Mem} {I I2 : Ij} {N : Nat} {keep : List Nat}

theorem RepL.back {f : V → Option V} (hf : ∀ v v1 u, f v = some v1 → Rep m v1 I u → Rep m v I2 u) : ∀ {l l1 : List V} {us : List Value}, mapO f l = some l1 → RepL m l1 I us → RepL m l I2 us
  | [], l1, us, h, hr => by
    simp only [mapO, Option.some.injEq] at h
    subst h
    unfold RepL at hr ⊢
    exact hr
  | v :: r, l1, us, h, hr => by
    simp only [mapO] at h
    cases h1 : f v with
    | none => rw [h1] at h; cases h
    | some v1 =>
      cases h2 : mapO f r with
      | none => rw [h1, h2] at h; cases h
      | some r1 =>
        rw [h1, h2] at h
        simp only [Option.some.injEq] at h
        subst h
        unfold RepL at hr ⊢
        obtain ⟨u, us', rfl, h3, h4⟩ := hr
        exact ⟨u, us', rfl, hf v v1 u h1 h3, RepL.back hf h2 h4⟩

theorem ren_sound (hI : ∀ id j, rid N keep id = some j → I2 id = I j) : ∀ (n : Nat) (v v1 : V) (u : Value), ren N keep n v = some v1 → Rep m v1 I u → Rep m v I2 u := by
  intro n
  induction n with
  | zero => intro v v1 u h _; cases h
  | succ n ih =>
    intro v v1 u h hr
    cases v with
    | lit w => simp only [ren, Option.some.injEq] at h; subst h; unfold Rep at hr ⊢; exact hr
    | agg l =>
      simp only [ren, Option.map_eq_some_iff] at h
      obtain ⟨l1, h1, rfl⟩ := h
      unfold Rep at hr ⊢
      obtain ⟨us, h2, h3, h4⟩ := hr
      exact ⟨us, h2, h3, RepL.back ih h1 h4⟩
    | tup l =>
      simp only [ren, Option.map_eq_some_iff] at h
      obtain ⟨l1, h1, rfl⟩ := h
      unfold Rep at hr ⊢
      obtain ⟨us, h2, h4⟩ := hr
      exact ⟨us, h2, RepL.back ih h1 h4⟩
    | fn f l =>
      simp only [ren, Option.map_eq_some_iff] at h
      obtain ⟨l1, h1, rfl⟩ := h
      unfold Rep at hr ⊢
      obtain ⟨us, h2, h4⟩ := hr
      exact ⟨us, h2, RepL.back ih h1 h4⟩
    | ptr id i off =>
      simp only [ren, Option.map_eq_some_iff] at h
      obtain ⟨j, h1, rfl⟩ := h
      unfold Rep at hr ⊢
      rw [hI id j h1]; exact hr
    | osl id off len =>
      simp only [ren, Option.map_eq_some_iff] at h
      obtain ⟨j, h1, rfl⟩ := h
      unfold Rep at hr ⊢
      rw [hI id j h1]; exact hr
    | map id =>
      simp only [ren, Option.map_eq_some_iff] at h
      obtain ⟨j, h1, rfl⟩ := h
      unfold Rep at hr ⊢
      rw [hI id j h1]; exact hr
    | yld id =>
      simp only [ren, Option.map_eq_some_iff] at h
      obtain ⟨j, h1, rfl⟩ := h
      unfold Rep at hr ⊢
      rw [hI id j h1]; exact hr
    | fptr a b c => simp only [ren, Option.some.injEq] at h; subst h; unfold Rep at hr ⊢; exact hr
    | sl a => simp only [ren, Option.some.injEq] at h; subst h; unfold Rep at hr ⊢; exact hr
    | fmap a b => simp only [ren, Option.some.injEq] at h; subst h; unfold Rep at hr ⊢; exact hr

def cutI (I : Ij) (N : Nat) (keep : List Nat) : Ij := fun id => match rid N keep id with
  | some j => I j
  | none => none

theorem cutI_rid {id j : Nat} (h : rid N keep id = some j) : cutI I N keep id = I j := by unfold cutI; rw [h]

theorem rid_low {id : Nat} (h : id < N) : rid N keep id = some id := by unfold rid; rw [if_pos h]
theorem rid_new {id j : Nat} (h : rid N keep id = some j) (hn : ¬ id < N) : keep[id - N]? = some j := by unfold rid at h; rw [if_neg hn, get_eq] at h; exact h

theorem mapO_all {f : V → Option V} : ∀ {l l1 : List V}, mapO f l = some l1 → l1.length = l.length ∧ ∀ (i : Nat) v, l[i]? = some v → ∃ v1, f v = some v1 ∧ l1[i]? = some v1
  | [], l1, h => by
    simp only [mapO, Option.some.injEq] at h
    subst h
    exact ⟨rfl, fun i v h => by simp at h⟩
  | x :: r, l1, h => by
    simp only [mapO] at h
    cases h1 : f x with
    | none => rw [h1] at h; cases h
    | some v1 =>
      cases h2 : mapO f r with
      | none => rw [h1, h2] at h; cases h
      | some r1 =>
        rw [h1, h2] at h
        simp only [Option.some.injEq] at h
        subst h
        obtain ⟨h3, h4⟩ := mapO_all h2
        refine ⟨by simp [h3], fun i v hv => ?_⟩
        cases i with
        | zero => simp only [List.getElem?_cons_zero, Option.some.injEq] at hv; subst hv; exact ⟨v1, h1, by simp⟩
        | succ i => simpa using h4 i v (by simpa using hv)

theorem blk_ren {w : World} {f : Inf} {n : Nat} {B B1 : Blk} (hI : ∀ id j, rid N keep id = some j → I2 id = I j) (h : renB N keep n B = some B1) (hb : BlkOK I m w f B1) : BlkOK I2 m w f B ∧ B1.live = B.live := by
  cases B with
  | dead => exact ⟨trivial, by simp only [renB, Option.some.injEq] at h; subst h; rfl⟩
  | free => cases h
  | loop r => cases h
  | iter ks vs left last => simp only [renB, Option.some.injEq] at h; subst h; exact ⟨hb, rfl⟩
  | rows es l =>
    simp only [renB, Option.map_eq_some_iff] at h
    obtain ⟨l1, h1, rfl⟩ := h
    obtain ⟨h0, c, ty, q1, q2, q3, q4, q5, q6⟩ := hb
    obtain ⟨g1, g2⟩ := mapO_all h1
    refine ⟨⟨h0, c, ty, q1, q2, by omega, q4, q5, fun i v hv => ?_⟩, rfl⟩
    obtain ⟨v1, g3, g4⟩ := g2 i v hv
    obtain ⟨u, g5, g6⟩ := q6 i v1 g4
    exact ⟨u, ren_sound hI _ _ _ _ g3 g5, g6⟩
  | map ks vs =>
    simp only [renB] at h
    split at h
    · rename_i a b ha hb'
      simp only [Option.some.injEq] at h
      subst h
      obtain ⟨es, cl, q1, es', q2, q3, q4, q5, q6⟩ := hb
      exact ⟨⟨es, cl, q1, es', q2, q3, RepL.back (ren_sound hI _) ha q4, RepL.back (ren_sound hI _) hb' q5, q6⟩, rfl⟩
    · cases h

theorem cut_ss {E : Env} {s s1 : St} {I0 I1 : Ij} {m0 m1 : Mem} {a0 a1 : Act} {w0 w1 : World} {K : List (Nat × V)} {H : List Blk} (h0 : SS E s I0 m0 a0 w0) (h1 : SS E s1 I1 m1 a1 w1) (hc : CutOK s.H.length s1 keep K H) : SS E ⟨K, H, s.lo, s.rnd, s.n⟩ (cutI I1 s.H.length keep) m1 a1 w1 := by
  have hI : ∀ id j, rid s.H.length keep id = some j → cutI I1 s.H.length keep id = I1 j := fun id j h => cutI_rid h
  have hN : E.H0.length ≤ s.H.length := h0.fx.len
  have hlo : s.lo ≤ s.H.length := by rw [h0.lo]; exact Nat.le_trans h0.lole hN
  -- a block that is there was there
  have hold : ∀ id B, Am.get H id = some B → B.live = true → ∃ j f, rid s.H.length keep id = some j ∧ Live s1.H j ∧ I1 j = some f ∧ BlkOK (cutI I1 s.H.length keep) m1 w1 f B := by
    intro id B hB hl
    obtain ⟨n, j, g1, g2⟩ := hc.blocks id B hB hl
    have hlive : (hget s1.H j).live = true := by
      cases hq : hget s1.H j <;> rw [hq] at g2 <;> first | rfl | (cases B <;> simp [renB] at g2 <;> first | (cases hl; done) | skip)
      all_goals (first | (split at g2 <;> cases g2) | skip)
    have hg := hget_of (B := hget s1.H j) rfl hlive
    obtain ⟨f, q1, q2⟩ := h1.sim.blk j _ hg hlive
    exact ⟨j, f, g1, ⟨_, hg, hlive⟩, q1, (blk_ren hI g2 q2).1⟩
  have hlow : ∀ id, id < s.H.length → cutI I1 s.H.length keep id = I1 id := fun id h => hI id id (rid_low h)
  have hlt : ∀ id B, Am.get H id = some B → id < s.H.length + keep.length := fun id B h => by have := get_lt h; have := hc.len; omega
  have hsim : Sim (cutI I1 s.H.length keep) m1 H w1 := ⟨h1.sim.sub, fun id B hB hl => by
      obtain ⟨j, f, g1, _, g3, g4⟩ := hold id B hB hl
      exact ⟨f, (hI id j g1).trans g3, g4⟩, fun id hid => by
      rcases hid with hid | hid
      · have := get_none.1 hid
        rw [hc.len] at this
        unfold cutI rid
        rw [if_neg (by omega), get_eq, List.getElem?_eq_none (by omega)]
      · exact absurd hid (hc.nofree id), fun id f ⟨B, hB, hl⟩ hf => by
      obtain ⟨j, f', g1, g2, g3, _⟩ := hold id B hB hl
      rw [hI id j g1] at hf
      exact h1.sim.off j f g2 hf, fun i j f g ⟨B, hB, hl⟩ ⟨B', hB', hl'⟩ hf hg he => by
      obtain ⟨i', _, g1, g2, _, _⟩ := hold i B hB hl
      obtain ⟨j', _, k1, k2, _, _⟩ := hold j B' hB' hl'
      rw [hI i i' g1] at hf
      rw [hI j j' k1] at hg
      have hij := h1.sim.inj i' j' f g g2 k2 hf hg he
      subst hij
      by_cases c1 : i < s.H.length
      · rw [rid_low c1] at g1
        cases g1
        by_cases c2 : j < s.H.length
        · rw [rid_low c2] at k1; cases k1; rfl
        · have := (hc.new _ (List.mem_of_getElem? (rid_new k1 c2))).1; omega
      · by_cases c2 : j < s.H.length
        · rw [rid_low c2] at k1
          cases k1
          have := (hc.new _ (List.mem_of_getElem? (rid_new g1 c1))).1; omega
        · have e1 := rid_new g1 c1
          have e2 := rid_new k1 c2
          have := (List.getElem?_inj (List.getElem?_eq_some_iff.1 e1).1 hc.nodup).1 (e1.trans e2.symm)
          omega⟩
  have hI0 : ∀ id f, E.I0 id = some f → id < s.H.length := fun id f h => by
    have h2 := h0.fx.ij id f h
    rcases Nat.lt_or_ge id s.H.length with h3 | h3
    · exact h3
    · rw [h0.sim.free id (.inl (get_none.2 h3))] at h2; cases h2
  refine { sim := hsim, slots := fun t v hv => ?_, size := h1.size, n := h0.n, lo := h0.lo, rnd := h0.rnd, fx := ?_, mem := h1.mem, fresh := h1.fresh, lole := h0.lole, dfr := ?_, rok := h0.rok }
  · obtain ⟨n, v1, g1, g2⟩ := hc.slots t v hv
    obtain ⟨u, g3, g4⟩ := h1.slots t v1 g2
    exact ⟨u, g3, ren_sound hI n v v1 u g1 g4⟩
  · refine ⟨h1.fx.st, h1.fx.same, fun id f h => ?_, fun id f h2 ⟨B, hB, hl⟩ h4 => ?_, fun id hid => ?_, by rw [hc.len]; omega⟩
    · rw [hlow id (hI0 id f h)]; exact h1.fx.ij id f h
    · obtain ⟨j, f', g1, g2, g3, _⟩ := hold id B hB hl
      rw [hI id j g1] at h4
      refine h1.fx.own j f ?_ g2 h4
      by_cases c1 : id < s.H.length
      · rw [rid_low c1] at g1; cases g1; exact h2
      · have := (hc.new _ (List.mem_of_getElem? (rid_new g1 c1))).1
        rw [← h0.lo]; omega
    · rw [hc.low id (by rw [h1.lo]; exact hid) (Nat.lt_of_lt_of_le hid (by rw [← h0.lo]; exact hlo))]; exact h1.fx.low id hid
  · obtain ⟨ds, g1, g2, g3, g4⟩ := h1.dfr
    refine ⟨ds, g1, g2, fun D hD => ?_, g4⟩
    obtain ⟨k1, k2, k3, k4⟩ := g3 D hD
    refine ⟨k1, k2, k3, fun id f ⟨B, hB, hl⟩ hf => ?_⟩
    obtain ⟨j, f', q1, q2, q3, _⟩ := hold id B hB hl
    rw [hI id j q1] at hf
    exact k4 j f q2 hf

theorem cut_step {C : Cfg} {E : Env} {s : St} {I : Ij} {m : Mem} {a : Act} {w : World} {c : Code} {k : List It} {Q : Ex → St → Prop} (hss : SS E s I m a w) {Q1 : Ex → St → Prop} {kp : Ex → St → List Nat} {K : Ex → St → List (Nat × V)} {H : Ex → St → List Blk}
    (IH1 : SA C.P E.ρ (QA E Q1) [.code c] .normal a w) (hc : ∀ e s1, Q1 e s1 → e ≠ .ret → CutOK s.H.length s1 (kp e s1) (K e s1) (H e s1)) (hr : ∀ s1, Q1 .ret s1 → Q .ret s1)
    (IH2 : ∀ s1, Q1 .normal s1 → ∀ (I : Ij) (m : Mem) (a : Act) (w : World), SS E ⟨K .normal s1, H .normal s1, s.lo, s.rnd, s.n⟩ I m a w → SA C.P E.ρ (QA E Q) k .normal a w)
    (IH3 : ∀ id k' s1, popTo id k = some k' → Q1 (.exit id) s1 → ∀ (I : Ij) (m : Mem) (a : Act) (w : World), SS E ⟨K (.exit id) s1, H (.exit id) s1, s.lo, s.rnd, s.n⟩ I m a w → SA C.P E.ρ (QA E Q) k' .normal a w)
    (hx : ∀ id s1, popTo id k = none → Q1 (.exit id) s1 → Q (.exit id) ⟨K (.exit id) s1, H (.exit id) s1, s.lo, s.rnd, s.n⟩) : SA C.P E.ρ (QA E Q) (.code c :: k) .normal a w := by
  refine Code.wpIn_mono ?_ (show c.wpIn (Wd E.ρ) 0 C.P (QA E Q1) a w from IH1)
  intro e a1 w1 he
  cases e with
  | normal =>
    obtain ⟨s1, I1, m1, hq, hs1⟩ := he
    exact IH2 s1 hq _ m1 a1 w1 (cut_ss hss hs1 (hc _ _ hq (by intro h; cases h)))
  | ret =>
    obtain ⟨s1, I1, m1, hq, hs1⟩ := he
    rw [SA_ret]
    exact ⟨s1, I1, m1, hr s1 hq, hs1⟩
  | exit id =>
    obtain ⟨s1, I1, m1, hq, hs1⟩ := he
    have h2 := cut_ss hss hs1 (hc _ _ hq (by intro h; cases h))
    rw [SA_exit]
    cases hp : popTo id k with
    | some k' => exact IH3 id k' s1 hp hq _ m1 a1 w1 h2
    | none => exact ⟨_, _, m1, hx id s1 hp hq, h2⟩
  | goto l => exact he.elim
  | panic ch => exact he.elim
  | outgrown => exact he.elim

end
end Go.Am
