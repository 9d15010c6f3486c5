/- Rounds of loops over iterators: the abstract machine's are the model's. Conditions: none. -/
import Derived.Test.YtphmekpaalfliaaRul
import Derived.RangeFuncIn
set_option linter.unusedVariables false
set_option linter.unusedSimpArgs false
namespace Go.Am
open Go Go.Wk Go.RowKit

theorem run_enterLoop {P : Program} {fn : FuncId} {tmps : Array Value} {ps : Array Tmp} {assign body : Code} {w : World} : (Instr.enterLoop fn tmps ps assign body none).run P w =
    .ok (w.heap.size + 1, [{ target := .collected w.heap.size, args := #[] }]) ((w.alloc (.deferred (some []))).alloc (.loop { state := .ready, pending := none, fn, tmps, params := ps, assign, body, defers := w.heap.size })) := by
  simp [Instr.enterLoop]
theorem run_getLoop {P : Program} {l : Nat} {r : Loop} {w : World} (h : w.heap[l]? = some (.loop r)) : (Instr.getLoop l).run P w = .ok r w := by
  simp [Instr.getLoop, getObj, Sem.run, h]
theorem run_enterLoop' {P : Program} {fn : FuncId} {tmps : Array Value} {ps : Array Tmp} {assign body : Code} {w : World} {l : Nat} {r : Loop} (h : w.heap[l]? = some (.loop r)) : (Instr.enterLoop fn tmps ps assign body (some l)).run P w =
    .ok (w.heap.size, []) (w.alloc (.loop { state := .ready, pending := none, fn, tmps, params := ps, assign, body, defers := r.defers })) := by
  simp [Instr.enterLoop, run_getLoop h]
theorem run_setLoop {P : Program} {l : Nat} {r : Loop} {w : World} (h : w.heap[l]? = some (.loop r)) (r' : Loop) : (setObj l (.loop r')).run P w = .ok () { w with heap := w.heap.setIfInBounds l (.loop r') } := by
  simp [setObj, Sem.run, h]
theorem run_beginRound {P : Program} {l : Nat} {r : Loop} {w : World} (h : w.heap[l]? = some (.loop r)) (hr : r.state = .ready) : (Instr.beginRound l).run P w = .ok () { w with heap := w.heap.setIfInBounds l (.loop { r with state := .busy }) } := by
  simp only [Instr.beginRound, Sem.run_bind, run_getLoop h, Result.andThen_ok, run_setLoop h, hr, Sem.run_pure]
theorem run_endRound {P : Program} {l : Nat} {r : Loop} {w : World} (h : w.heap[l]? = some (.loop r)) (j : Option Code) : (Instr.endRound l j).run P w = .ok (.bool j.isNone) { w with heap := w.heap.setIfInBounds l (.loop { r with state := if j.isNone then .ready else .done, pending := j }) } := by
  simp only [Instr.endRound, Sem.run_bind, run_getLoop h, Result.andThen_ok, run_setLoop h, Sem.run_pure]
theorem run_endLoop {P : Program} {l : Nat} {r : Loop} {w : World} (h : w.heap[l]? = some (.loop r)) (hr : r.state ≠ .busy) : (Instr.endLoop l).run P w = .ok r.pending { w with heap := w.heap.setIfInBounds l (.loop { r with state := .exhausted }) } := by
  simp [Instr.endLoop, run_getLoop h, run_setLoop h]
  exact fun h => absurd h hr

section
variable {C : Cfg} {E : Env} {s : St} {I I' : Ij} {m m' : Mem} {a : Act} {w w' : World} {H H' : List Blk} {P : Program} {ρ : Option Nat} {Q : Exit → Act → World → Prop} {all os : List Oper} {o : Oper}

theorem hget_loop {id : Nat} {r : LoopR} (h : hget H id = .loop r) : Am.get H id = some (.loop r) := hget_of h rfl

/-- A loop's record, in the world. -/
theorem Sim.loopRec (hs : Sim I m H w) {id : Nat} {r : LoopR} (h : hget H id = .loop r) : ∃ f L, I id = some f ∧ w.heap[f.b]? = some (.loop L) ∧ L.state = r.st ∧ L.pending = r.pend ∧ Slots m I r.K L.tmps ∧ L.tmps.size = r.n ∧ L.params.toList = r.ps ∧ L.assign = r.assign ∧ L.body = r.body := by
  obtain ⟨f, hf, L, h1⟩ := hs.blk id _ (hget_loop h) rfl
  exact ⟨f, L, hf, h1⟩

/-- A loop's record is turned. -/
theorem Sim.setRec (hs : Sim I m H w) {lo id : Nat} {r : LoopR} {f : Inf} {L : Loop} (h : hget H id = .loop r) (hlo : lo ≤ id) (hf : I id = some f) (hw : w.heap[f.b]? = some (.loop L)) (h4 : Slots m I r.K L.tmps) (h5 : L.tmps.size = r.n) (h6 : L.params.toList = r.ps) (h7 : L.assign = r.assign) (h8 : L.body = r.body) (st : LoopState) (pend : Option Code) :
    Sim I m (hput H id (.loop { r with st := st, pend := pend })) { w with heap := w.heap.setIfInBounds f.b (.loop { L with state := st, pending := pend }) } ∧ Fx I H lo w I (hput H id (.loop { r with st := st, pend := pend })) { w with heap := w.heap.setIfInBounds f.b (.loop { L with state := st, pending := pend }) } := by
  have hlt : f.b < w.heap.size := (Array.getElem?_eq_some_iff.1 hw).1
  refine hs.upd (w' := { w with heap := w.heap.setIfInBounds f.b (.loop { L with state := st, pending := pend }) }) (B := .loop { r with st := st, pend := pend }) ⟨_, hget_loop h, rfl⟩ hlo hf ⟨rfl, rfl, rfl, by simp⟩ (fun k hk => ?_) ⟨{ L with state := st, pending := pend }, by simp [hlt], rfl, rfl, h4, h5, h6, h7, h8⟩ (by intro h; cases h)
  show (w.heap.setIfInBounds f.b _)[k]? = _
  rw [Array.getElem?_setIfInBounds_ne (fun e => hk e.symm)]

theorem kputs_sound : ∀ {ps : List Nat} {args : List V} {K K' : List (Nat × V)} {tmps : Array Value} {us : List Value}, kputs K ps args = some K' → Slots m I K tmps → RepL m args I us → (∀ p ∈ ps, p < tmps.size) →
    ps.length = us.length ∧ Slots m I K' ((ps.zip us).foldl (fun tmps p => tmps.setIfInBounds p.1 p.2) tmps) ∧ ((ps.zip us).foldl (fun tmps p => tmps.setIfInBounds p.1 p.2) tmps).size = tmps.size
  | [], [], K, K', tmps, us, h, hs, hr, _ => by
    simp only [kputs, Option.some.injEq] at h
    subst h
    unfold RepL at hr
    subst hr
    exact ⟨rfl, hs, rfl⟩
  | d :: ds, v :: vs, K, K', tmps, us, h, hs, hr, hp => by
    simp only [kputs] at h
    unfold RepL at hr
    obtain ⟨u, us', rfl, h1, h2⟩ := hr
    have hd := hp d List.mem_cons_self
    have hs' : Slots m I (kput K d v) (tmps.setIfInBounds d u) := fun t x hx => by
      rw [kget_put] at hx
      split at hx
      · rename_i he
        subst he
        simp only [Option.some.injEq] at hx
        subst hx
        exact ⟨u, by simp [hd], h1⟩
      · rename_i he
        obtain ⟨u', q1, q2⟩ := hs t x hx
        exact ⟨u', by rw [Array.getElem?_setIfInBounds_ne he]; exact q1, q2⟩
    obtain ⟨q1, q2, q3⟩ := kputs_sound h hs' h2 (fun p hp' => by simpa using hp p (List.mem_cons_of_mem _ hp'))
    exact ⟨by simp [q1], by simpa using q2, by simpa using q3⟩
  | [], _ :: _, K, K', tmps, us, h, _, _, _ => by cases h
  | _ :: _, [], K, K', tmps, us, h, _, _, _ => by cases h

theorem yld_step (hC : C.OK) (hss : SS E s I m a w) {id : Nat} {args : List V} {r : LoopR} {K' : List (Nat × V)} {us : List Value} {f : Inf} {T1 T2 : St → Prop} {d : Option Nat} (hf : I id = some f) (hr : RepL m args I us) (hg : hget s.H id = .loop r) (hK : kputs r.K r.ps args = some K') (hps : r.ps.all (fun p => Nat.blt p r.n) = true) (hlo : s.lo ≤ id)
    (IH1 : ∀ (E : Env) (I : Ij) (m : Mem) (a : Act) (w : World), SS E ⟨K', s.H, s.lo, some id, r.n⟩ I m a w → SA C.P E.ρ (QA E (fun e s1 => ∃ s1', beginA id e s1 = some s1' ∧ T1 s1')) [.code r.assign] .normal a w)
    (IH2 : ∀ s1', T1 s1' → ∀ (E : Env) (I : Ij) (m : Mem) (a : Act) (w : World), SS E s1' I m a w → SA C.P E.ρ (QA E (fun e s2 => ∃ s3, endRound id e s2 s d = some s3 ∧ T2 s3)) [.code r.body] .normal a w) :
    ∃ fn tmps, (Instr.yield f.b us.toArray).run C.P w = .ok (.round f.b fn tmps r.assign r.body) w ∧
      RoundIn (Wd ρ) 0 C.P f.b fn tmps r.assign r.body w (fun e w' => ∃ u, e = .returned u ∧ ∃ s3 I' m', T2 s3 ∧ SS E s3 I' m' (a.put d u) w') := by
  obtain ⟨f', L, hf', hw, l1, l2, l3, l4, l5, l6, l7⟩ := hss.sim.loopRec hg
  rw [hf] at hf'
  cases hf'
  have hpl : ∀ p ∈ r.ps, p < L.tmps.size := fun p hp => by
    have := List.all_eq_true.1 hps p hp
    rw [l4]; simpa using this
  obtain ⟨q1, q2, q3⟩ := kputs_sound hK l3 hr hpl
  let tm : Array Value := (r.ps.zip us).foldl (fun tmps p => tmps.setIfInBounds p.1 p.2) L.tmps
  refine ⟨L.fn, tm, ?_, ?_⟩
  · have hsz : us.toArray.size = L.params.size := by rw [← Array.length_toList (xs := L.params), l5]; simp [q1]
    have hfold : (L.params.zip us.toArray).foldl (fun tmps x => tmps.setIfInBounds x.1 x.2) L.tmps = tm := by
      rw [← Array.foldl_toList]
      simp [tm, ← l5]
    simp only [Instr.yield, Sem.run_bind, run_getLoop hw, Result.andThen_ok]
    simp only [hsz, ne_eq, not_true_eq_false, if_false, Sem.run_pure]
    rw [← l6, ← l7]
    congr 2
  · let E' : Env := ⟨I, m, s.H, w, s.lo, some id, r.n⟩
    have hρ : E'.ρ = some f.b := by show (I id).map (·.b) = _; rw [hf]; rfl
    have hlol : s.lo ≤ s.H.length := by rw [hss.lo]; exact Nat.le_trans hss.lole hss.fx.len
    have h0 : SS E' ⟨K', s.H, s.lo, some id, r.n⟩ I m { tmps := tm, defers := [] } w := {
      sim := hss.sim, slots := q2, size := q3.trans l4, n := rfl, lo := rfl, rnd := rfl, fx := Fx.rfl' _ _ _ _, mem := fun _ _ h => h, fresh := fun _ _ h => .inl h, lole := hlol
      dfr := ⟨[], rfl, List.nodup_nil, (fun D hD => by cases hD), fun _ => rfl⟩
      rok := fun i hi => by cases hi; exact ⟨f, hf⟩ }
    refine roundIn_of_wpIn (F := Wd ρ) (n := 0) trivial ?_
    have g1 := IH1 E' I m _ w h0
    rw [hρ] at g1
    refine Code.wpIn_mono (F := Wd (some f.b)) ?_ g1
    intro e a1 w1 he
    have nojump : ∀ {e : Ex} {s1 : St}, (∃ s1', beginA id e s1 = some s1' ∧ T1 s1') → e = .normal := by
      rintro e s1 ⟨s1', h, _⟩
      cases e <;> first | rfl | cases h
    cases e with
    | normal =>
      obtain ⟨s1, I1, m1, ⟨s1', hb, hT1⟩, hs1⟩ := he
      unfold beginA at hb
      simp only at hb
      split at hb
      · rename_i r1 hr1
        split at hb
        · rename_i hst
          simp only [Option.some.injEq] at hb
          obtain ⟨f1, L1, z1, z2, z3, z4, z5, z6, z7, z8, z9⟩ := hs1.sim.loopRec hr1
          have hf1 : I1 id = some f := hs1.fx.ij _ _ hf
          rw [hf1] at z1
          cases z1
          rw [hst] at z3
          have hlo1 : s1.lo ≤ id := by rw [hs1.lo]; exact hlo
          obtain ⟨y1, y2⟩ := hs1.sim.setRec (lo := s1.lo) hr1 hlo1 hf1 z2 z5 z6 z7 z8 z9 .busy r1.pend
          have e2 : ({ L1 with state := .busy, pending := r1.pend } : Loop) = { L1 with state := .busy } := by rw [← z4]
          rw [e2] at y1 y2
          have hs2 := hs1.step y1 y2 (fun _ _ h => h) (fun _ _ h => .inl h)
          refine ⟨_, run_beginRound (P := C.P) z2 z3, ?_⟩
          have e1 : { s1 with H := hput s1.H id (.loop { r1 with st := .busy, pend := r1.pend }) } = s1' := hb
          rw [e1] at hs2
          have g2 := IH2 s1' hT1 E' I1 m1 a1 _ hs2
          rw [hρ] at g2
          refine Code.wpIn_mono (F := Wd (some f.b)) ?_ g2
          have fin : ∀ {e : Ex} {s2 : St} {I2 : Ij} {m2 : Mem} {a2 : Act} {w2 : World}, (∃ s3, endRound id e s2 s d = some s3 ∧ T2 s3) → SS E' s2 I2 m2 a2 w2 →
              ∃ v w3, (Instr.endRound f.b (jumpOf e)).run C.P w2 = .ok v w3 ∧ ∃ u, Ending.returned v = .returned u ∧ ∃ s3 I' m', T2 s3 ∧ SS E s3 I' m' (a.put d u) w3 := by
            rintro e s2 I2 m2 a2 w2 ⟨s3, h3, hT2⟩ hs2
            unfold endRound at h3
            split at h3
            · rename_i r2 hr2
              simp only [Option.some.injEq] at h3
              obtain ⟨f2, L2, x1, x2, x3, x4, x5, x6, x7, x8, x9⟩ := hs2.sim.loopRec hr2
              have hf2 : I2 id = some f := hs2.fx.ij _ _ hf
              rw [hf2] at x1
              cases x1
              obtain ⟨y3, y4⟩ := hs2.sim.setRec (lo := s.lo) hr2 hlo hf2 x2 x5 x6 x7 x8 x9 (cond (jumpOf e).isNone .ready .done) (jumpOf e)
              have hfx : Fx I s.H s.lo w I2 s2.H w2 := hs2.fx
              have hs3 := hss.step y3 (hfx.tr y4) hs2.mem hs2.fresh
              refine ⟨_, _, run_endRound x2 (jumpOf e), _, rfl, s3, I2, m2, hT2, ?_⟩
              rw [← h3]
              have hcond : (if (jumpOf e).isNone = true then LoopState.ready else LoopState.done) = cond (jumpOf e).isNone .ready .done := by cases (jumpOf e).isNone <;> rfl
              rw [hcond]
              exact hs3.put Rep.bool
            · cases h3
          intro e a2 w2 he
          cases e with
          | normal => obtain ⟨s2, I2, m2, h1, h2⟩ := he; exact fin h1 h2
          | ret => obtain ⟨s2, I2, m2, h1, h2⟩ := he; exact fin h1 h2
          | exit i => obtain ⟨s2, I2, m2, h1, h2⟩ := he; exact fin h1 h2
          | goto l => exact he.elim
          | panic ch => exact he.elim
          | outgrown => exact he.elim
        · cases hb
      · cases hb
    | ret => obtain ⟨s1, I1, m1, h1, h2⟩ := he; cases nojump h1
    | exit i => obtain ⟨s1, I1, m1, h1, h2⟩ := he; cases nojump h1
    | goto l => exact he.elim
    | panic ch => exact he.elim
    | outgrown => exact he.elim

end
end Go.Am
