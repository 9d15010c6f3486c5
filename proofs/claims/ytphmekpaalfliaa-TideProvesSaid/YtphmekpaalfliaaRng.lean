/- Loops over iterators: the abstract machine's are the model's. Conditions: none. -/
import Derived.Test.YtphmekpaalfliaaCut
set_option linter.unusedVariables false
set_option linter.unusedSimpArgs false
namespace Go.Am
open Go Go.Wk Go.RowKit

section
variable {C : Cfg} {E : Env} {s : St} {I I' : Ij} {m m' : Mem} {a : Act} {w w' : World} {H H' : List Blk}

theorem hput_end : ∀ (H : List Blk) (B : Blk), hput H H.length B = H ++ [B]
  | [], B => rfl
  | x :: r, B => by simp only [List.length_cons, hput, List.cons_append, hput_end r B]

theorem marks_inj : ∀ {x y : List Nat}, marks x = marks y → x = y
  | [], [], _ => rfl
  | [], _ :: _, h => by cases h
  | _ :: _, [], h => by cases h
  | a :: x, b :: y, h => by
    simp only [marks, List.map_cons, List.cons.injEq, Deferred.mk.injEq, Target.collected.injEq] at h
    rw [h.1.1, marks_inj h.2]

theorem endRange_spec {id : Nat} {e : Ex} {s' s : St} {k : List It} {p : List It × St} (h : endRange id e s' s k = some p) : ∃ r, hget s'.H id = .loop r ∧ r.st ≠ .busy ∧ p.2 = { s with H := hput s'.H id .dead } ∧ p.1 = (match r.pend with | none => k | some j => .code j :: k) := by
  unfold endRange at h
  cases ho : okEnd e with
  | false => rw [ho] at h; cases h
  | true =>
    rw [ho] at h
    simp only [cond_true] at h
    split at h
    · rename_i r hr
      split at h
      · cases h
      · rename_i hp hst
        simp only [Option.some.injEq] at h
        subst h
        exact ⟨r, hr, fun e => hst e, rfl, by rw [hp]⟩
      · rename_i j hp hst
        simp only [Option.some.injEq] at h
        subst h
        exact ⟨r, hr, fun e => hst e, rfl, by rw [hp]⟩
    · cases h

theorem range_step (hC : C.OK) (hss : SS E s I m a w) {g : Operand} {ps : Array Tmp} {assign body : Code} {k : List It} {f : Nat} {caps : List V} {c : Code} {fn : Func} {T : List It × St → Prop} {Q : Ex → St → Prop} (hg : kev s.K g = some (.fn f caps)) (hb : bodyOf C f (caps.length + 1) = some (c, fn)) (hro : rndOK s = true)
    (IH : ∀ (E : Env) (I : Ij) (m : Mem) (a : Act) (w : World), SS E (St.call fn (.yld s.H.length :: caps) (s.H ++ [.loop ⟨s.n, s.K, ps.toList, assign, body, .ready, none⟩]) s.lo) I m a w → SA C.P E.ρ (QA E (fun e s' => ∃ v p, finA C fn e s' = some v ∧ endRange s.H.length e s' s k = some p ∧ T p)) [.code c] .normal a w)
    (IHk : ∀ p, T p → ∀ (I : Ij) (m : Mem) (a : Act) (w : World), SS E p.2 I m a w → SA C.P E.ρ (QA E Q) p.1 .normal a w) : SA C.P E.ρ (QA E Q) (.code (.rangeFunc g ps assign body) :: k) .normal a w := by
  obtain ⟨_, _, _, hcall⟩ := bodyOf_spec hC hb
  have hgv := kev_rep hss.slots hg
  unfold Rep at hgv
  obtain ⟨cus, hgv, hcaps⟩ := hgv
  refine wpIn_rangeFunc fun fn0 _ => ?_
  have hlol : s.lo ≤ s.H.length := by rw [hss.lo]; exact Nat.le_trans hss.lole hss.fx.len
  have fresh0 : Fresh s.H s.H.length := .inl rfl
  have hI0 := fresh0.none hss.sim
  -- from the world with the record on
  have main : ∀ (l : Nat) (mk : List Nat) (w1 : World) (df : Nat), w.heap.size ≤ l → (Instr.enterLoop fn0 a.tmps ps assign body (Wd E.ρ).round).run C.P w = .ok (l, marks mk) w1 → Ext w w1 → w1.heap[l]? = some (.loop { state := .ready, pending := none, fn := fn0, tmps := a.tmps, params := ps, assign, body, defers := df }) →
      (∀ D ∈ mk, D ≠ l ∧ w.heap.size ≤ D ∧ w1.heap[D]? = some (.deferred (some []))) → mk.Nodup → (E.rnd ≠ none → mk = []) →
      ∃ (l : Nat) (mark : List Deferred) (w₁ : World) (d : Deferred) (w₁' : World) (f : FuncId) (args : Array Value) (w₂ : World),
      (Instr.enterLoop fn0 a.tmps ps assign body (Wd E.ρ).round).run C.P w = .ok (l, mark) w₁ ∧ (resolve a.eval (rangeCall g l) 0).run C.P w₁ = .ok d w₁' ∧ (∀ f', Target.leads C.P w₁' d.target d.args = some f' → (Wd E.ρ).fn f') ∧ (invoke d.target d.args).run C.P w₁' = .ok (.enter f args) w₂ ∧
      ((Wd E.ρ).depth.isSome = true → 1 ≤ 0) ∧ CallsIn (Wd E.ρ) (0 - 1) C.P f args w₂ (rangePost (Wd E.ρ) 0 C.P l (SA C.P E.ρ (QA E Q) k) { a with defers := mark ++ a.defers }) := by
    intro l mk w1 df hl hent hext hrow hmk hmkn hmkr
    let fl : Inf := ⟨l, 0, 0, 0⟩
    obtain ⟨y1, y2⟩ := hss.sim.new (lo := s.lo) (nid := s.H.length) fresh0 hlol hext (f := fl) hl (B := .loop ⟨s.n, s.K, ps.toList, assign, body, .ready, none⟩) ⟨_, hrow, rfl, rfl, hss.slots.mono (fun _ _ h => h) (Ij.le_put hI0), hss.size.trans hss.n.symm, rfl, rfl, rfl⟩ (by intro h; cases h)
    have hs1 := hss.step y1 y2 (fun _ _ h => h) (fun _ _ h => .inl h)
    let a1 : Act := { a with defers := marks mk ++ a.defers }
    have hs1' : SS E { s with H := hput s.H s.H.length (.loop ⟨s.n, s.K, ps.toList, assign, body, .ready, none⟩) } (I.put s.H.length fl) m a1 w1 := { hs1 with
      slots := hs1.slots
      size := hs1.size
      dfr := by
        obtain ⟨ds, h1, h2⟩ := hs1.dfr
        refine ⟨mk ++ ds, by show marks mk ++ a.defers = _; rw [h1]; simp [marks], ?_, fun D hD => ?_, fun hr => by rw [hmkr hr, h2.2.2 hr]; rfl⟩
        · refine List.nodup_append.2 ⟨hmkn, h2.1, fun x hx y hy he => ?_⟩
          subst he
          obtain ⟨ds0, g1, g2⟩ := hss.dfr
          have : ds0 = ds := marks_inj (g1.symm.trans h1)
          subst this
          have h3 := (g2.2.1 x hy).1
          have h4 := (Array.getElem?_eq_some_iff.1 h3).1
          have := (hmk x hx).2.1
          omega
        · rcases List.mem_append.1 hD with hD | hD
          · obtain ⟨h3, h4, h5⟩ := hmk D hD
            refine ⟨h5, Nat.le_trans hss.fx.st.size h4, ?_, fun id f hl hf he => ?_⟩
            · cases hm : m D with
              | none => rfl
              | some o => have := hss.sim.mlt hm; omega
            · rcases live_hput (Nat.le_refl _) hl with ⟨rfl, _⟩ | ⟨hne, h6⟩
              · rw [Ij.put_self] at hf
                cases hf
                exact h3 he.symm
              · unfold Ij.put at hf
                rw [if_neg hne] at hf
                have := hss.sim.lt h6 hf
                omega
          · exact h2.2.1 D hD }
    have hargs : RepL m (.yld s.H.length :: caps) (I.put s.H.length fl) (Value.func (.yield l) #[] #[] :: cus) := by
      unfold RepL
      refine ⟨_, _, rfl, ?_, RepL.mono (fun _ _ h => h) _ (Ij.le_put hI0) hcaps⟩
      unfold Rep
      exact ⟨fl, Ij.put_self, rfl⟩
    have hcv : a.eval (.const (Value.func (.yield l) #[] #[])) = Value.func (.yield l) #[] #[] := rfl
    refine ⟨l, marks mk, w1, { target := .fn (.func f) cus.toArray, args := #[.func (.yield l) #[] #[]] }, w1, f, (Value.func (.yield l) #[] #[] :: cus).toArray, w1, hent, ?_, fun _ _ => trivial, ?_, (fun h => by cases h), ?_⟩
    · simp [resolve, Deferred.ofValue, hgv, hcv]
    · have := hcall (Value.func (.yield l) #[] #[] :: cus).toArray w1
      simp [invoke, this]
    · have hc := call_sound (Q := fun e s' => ∃ v p, finA C fn e s' = some v ∧ endRange s.H.length e s' s k = some p ∧ T p) (H' := hput s.H s.H.length (.loop ⟨s.n, s.K, ps.toList, assign, body, .ready, none⟩)) (lo' := s.lo) hC hb (args := .yld s.H.length :: caps) (by simp) (by rw [hput_end]; exact IH) (by rintro e s1 ⟨v, _, h, _⟩; exact ⟨v, h⟩) y1 (by rw [hput_length _ _ _ (Nat.le_refl _)]; omega) hargs
      refine callsWd.2 (hc.mono ?_)
      rintro e w3 ⟨u, rfl, ex, s3, v, I3, m3, ⟨_, p, _, hp, hT⟩, h3, h4, h5, h6, h7, h8, h9⟩
      obtain ⟨r3, z1, z2, z3, z4⟩ := endRange_spec hp
      obtain ⟨f3, L3, x1, x2, x3, x4, x5⟩ := h5.loopRec z1
      have hf3 : I3 s.H.length = some fl := h6.ij _ _ Ij.put_self
      rw [hf3] at x1
      cases x1
      have hs3 := hs1'.step h5 h6 h7 h8
      have hlt : fl.b < w3.heap.size := (Array.getElem?_eq_some_iff.1 x2).1
      obtain ⟨y3, y4⟩ := h5.upd (lo := s.lo) (w' := { w3 with heap := w3.heap.setIfInBounds fl.b (.loop { L3 with state := .exhausted }) }) (B := .dead) ⟨_, hget_loop z1, rfl⟩ hlol hf3 ⟨rfl, rfl, rfl, by simp⟩ (fun k hk => by
        show (w3.heap.setIfInBounds fl.b _)[k]? = _
        rw [Array.getElem?_setIfInBounds_ne (fun e => hk e.symm)]) trivial (by intro h; cases h)
      have hs4 := hs3.step y3 y4 (fun _ _ h => h) (fun _ _ h => .inl h)
      refine ⟨L3.pending, _, run_endLoop x2 (by rw [x3]; exact z2), ?_⟩
      have hk := IHk p hT I3 m3 a1 _ (by rw [z3]; exact hs4)
      rw [z4] at hk
      show (match L3.pending with
       | none => SA C.P E.ρ (QA E Q) k .normal a1 _
       | some c => c.wpIn (Wd E.ρ) 0 C.P (SA C.P E.ρ (QA E Q) k) a1 _)
      generalize ({ w3 with heap := w3.heap.setIfInBounds fl.b (.loop { L3 with state := .exhausted }) } : World) = w4 at hk ⊢
      rw [x4]
      cases hpend : r3.pend with
      | none => rw [hpend] at hk; exact hk
      | some j => rw [hpend] at hk; exact hk
  cases hr : E.rnd with
  | none =>
    have hρ : E.ρ = none := by unfold Env.ρ; rw [hr]
    refine main (w.heap.size + 1) [w.heap.size] ((w.alloc (.deferred (some []))).alloc (.loop { state := .ready, pending := none, fn := fn0, tmps := a.tmps, params := ps, assign, body, defers := w.heap.size })) w.heap.size (by omega) ?_ ?_ ?_ ?_ (by simp) (fun h => absurd hr h)
    · rw [hρ]
      exact run_enterLoop
    · exact (Ext.of_alloc w _).tr (Ext.of_alloc _ _)
    · have : (w.alloc (.deferred (some []))).heap.size = w.heap.size + 1 := by show (w.heap.push _).size = _; simp
      rw [← this]; exact heap_alloc_new _ _
    · intro D hD
      simp only [List.mem_singleton] at hD
      subst hD
      refine ⟨by omega, Nat.le_refl _, ?_⟩
      rw [Below.heap_alloc _ _ _ (by show _ < (w.heap.push _).size; simp)]
      exact heap_alloc_new w _
  | some idr =>
    obtain ⟨fr, hfr⟩ := hss.rok idr hr
    have hρ : E.ρ = some fr.b := by unfold Env.ρ; rw [hr]; simp [hfr]
    have hrl : ∃ rr, hget s.H idr = .loop rr := by
      unfold rndOK at hro
      rw [hss.rnd, hr] at hro
      simp only at hro
      split at hro
      · rename_i rr h; exact ⟨rr, h⟩
      · cases hro
    obtain ⟨rr, hrr⟩ := hrl
    obtain ⟨f', Lr, x1, x2, _⟩ := hss.sim.loopRec hrr
    have := hss.fx.ij _ _ hfr
    rw [x1] at this
    cases this
    refine main w.heap.size [] (w.alloc (.loop { state := .ready, pending := none, fn := fn0, tmps := a.tmps, params := ps, assign, body, defers := Lr.defers })) Lr.defers (Nat.le_refl _) ?_ (Ext.of_alloc w _) (heap_alloc_new _ _) (fun D hD => by cases hD) List.nodup_nil (fun _ => rfl)
    rw [hρ]
    exact run_enterLoop' x2

end
end Go.Am
