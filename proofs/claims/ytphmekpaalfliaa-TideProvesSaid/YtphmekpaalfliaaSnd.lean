/- The judgement over the abstract machine holds of the model: states, calls. Conditions: none. -/
import Derived.Test.YtphmekpaalfliaaFrz
set_option linter.unusedVariables false
set_option linter.unusedSimpArgs false
namespace Go.Am
open Go Go.Wk Go.RowKit

/-! ### A stack of code in the model -/

def inLoopP (P : Program) (ρ : Option Nat) (c : Code) (Q : Exit → Act → World → Prop) (a : Act) (w : World) : Prop :=
  ∀ (b : Frame) (k : List Item) (cs : List Frame), b.roundOf = (Wd ρ).round → (Wd ρ).fn b.fn → (Wd ρ).room (cs.length + 1 + 0) →
    ∃ e a' w', Q e a' w' ∧ ArrivesIn (Machine.fenced P (Wd ρ)) P (lone (b.atR a (.inLoop c :: k)) cs w) b k cs e a' w'

theorem round_pass {P : Program} {ρ : Option Nat} {c : Code} {Q : Exit → Act → World → Prop} {a : Act} {w : World} (h : c.wpIn (Wd ρ) 0 P (Exit.then (inLoopP P ρ c Q) Q) a w) (b : Frame) (k : List Item) (cs : List Frame) (hro : b.roundOf = (Wd ρ).round) (hb : (Wd ρ).fn b.fn) (hr : (Wd ρ).room (cs.length + 1 + 0)) :
    ∃ e a' w', Q e a' w' ∧ ArrivesIn (Machine.fenced P (Wd ρ)) P (lone (b.atR a (.code c :: .inLoop c :: k)) cs w) b k cs e a' w' := by
  obtain ⟨e, a₁, w₁, hq, harr⟩ := h b (.inLoop c :: k) cs hro hb hr
  cases e with
  | normal =>
    obtain ⟨e₂, a₂, w₂, hq₂, harr₂⟩ := hq b k cs hro hb hr
    exact ⟨e₂, a₂, w₂, hq₂, .of_steps harr harr₂⟩
  | exit id => exact ⟨_, a₁, w₁, hq, .pass (x := .inLoop c) rfl (fun _ _ => .inl (by simp)) harr⟩
  | goto l => exact ⟨_, a₁, w₁, hq, .pass (x := .inLoop c) rfl (fun _ _ => .inl (by simp)) harr⟩
  | ret => exact ⟨_, a₁, w₁, hq, .pass (x := .inLoop c) rfl (fun _ _ => .inl (by simp)) harr⟩
  | panic ch => exact ⟨_, a₁, w₁, hq, .pass (x := .inLoop c) rfl (fun _ _ => .inl (by simp)) harr⟩
  | outgrown => exact ⟨_, a₁, w₁, hq, .pass (x := .inLoop c) rfl (fun _ _ => .inl (by simp)) harr⟩

theorem inLoopP_of {P : Program} {ρ : Option Nat} {c : Code} {Q : Exit → Act → World → Prop} {a : Act} {w : World} (h : c.wpIn (Wd ρ) 0 P (Exit.then (inLoopP P ρ c Q) Q) a w) : inLoopP P ρ c Q a w := by
  intro b k cs hro hb hr
  obtain ⟨e, a', w', hq, harr⟩ := round_pass h b k cs hro hb hr
  exact ⟨e, a', w', hq, .of_steps (.one (fenced_calm hb hr rfl) stepR_inLoop) harr⟩

theorem wpIn_loop_of {P : Program} {ρ : Option Nat} {c : Code} {Q : Exit → Act → World → Prop} {a : Act} {w : World} (h : c.wpIn (Wd ρ) 0 P (Exit.then (inLoopP P ρ c Q) Q) a w) : (Code.loop c).wpIn (Wd ρ) 0 P Q a w := by
  intro b k cs hro hb hr
  obtain ⟨e, a', w', hq, harr⟩ := round_pass h b k cs hro hb hr
  exact ⟨e, a', w', hq, .of_steps (.one (fenced_calm hb hr rfl) stepR_loop) harr⟩

def SA (P : Program) (ρ : Option Nat) (Q : Exit → Act → World → Prop) : List It → Exit → Act → World → Prop
  | [] => Q
  | .code c :: k => Exit.then (c.wpIn (Wd ρ) 0 P (SA P ρ Q k)) (SA P ρ Q k)
  | .endB id :: k => Exit.inBlock id (SA P ρ Q k)
  | .inLoop c :: k => Exit.then (inLoopP P ρ c (SA P ρ Q k)) (SA P ρ Q k)
  | .ops all l :: k => Exit.then (wpListIn (Wd ρ) 0 P all.toArray (SA P ρ Q k) l) (SA P ρ Q k)
  | .drw _ _ _ _ _ :: k => Exit.then (fun _ _ => False) (SA P ρ Q k)

section
variable {P : Program} {ρ : Option Nat} {Q : Exit → Act → World → Prop}

theorem SA_ret : ∀ (k : List It) (a : Act) (w : World), SA P ρ Q k .ret a w = Q .ret a w
  | [], _, _ => rfl
  | .code _ :: k, a, w => SA_ret k a w
  | .endB _ :: k, a, w => SA_ret k a w
  | .inLoop _ :: k, a, w => SA_ret k a w
  | .ops _ _ :: k, a, w => SA_ret k a w
  | .drw _ _ _ _ _ :: k, a, w => SA_ret k a w

theorem SA_exit {id : Nat} : ∀ (k : List It) (a : Act) (w : World), SA P ρ Q k (.exit id) a w = match popTo id k with
    | some k' => SA P ρ Q k' .normal a w
    | none => Q (.exit id) a w
  | [], _, _ => rfl
  | .endB i :: k, a, w => by
    simp only [popTo]
    cases hb : Nat.beq i id with
    | true =>
      have := Nat.eq_of_beq_eq_true hb
      subst this
      simp [SA, Exit.inBlock]
    | false =>
      have hne : id ≠ i := fun e => Nat.ne_of_beq_eq_false hb e.symm
      simp only [cond_false, SA, Exit.inBlock, if_neg hne]
      exact SA_exit k a w
  | .code _ :: k, a, w => SA_exit k a w
  | .inLoop _ :: k, a, w => SA_exit k a w
  | .ops _ _ :: k, a, w => SA_exit k a w
  | .drw _ _ _ _ _ :: k, a, w => SA_exit k a w
end

/-! ### States -/

structure Env where
  I0 : Ij
  m0 : Mem
  H0 : List Blk
  w0 : World
  lo : Nat
  rnd : Option Nat
  n : Nat

def Env.ρ (E : Env) : Option Nat := match E.rnd with
  | none => none
  | some id => (E.I0 id).map (·.b)

def marks (ds : List Nat) : List Deferred := ds.map fun D => { target := .collected D, args := #[] }

def Dfr (E : Env) (I : Ij) (m : Mem) (H : List Blk) (w : World) (ds : List Nat) : Prop := ds.Nodup ∧ (∀ D ∈ ds, w.heap[D]? = some (.deferred (some [])) ∧ E.w0.heap.size ≤ D ∧ m D = none ∧ ∀ id f, Live H id → I id = some f → f.b ≠ D) ∧ (E.rnd ≠ none → ds = [])

structure SS (E : Env) (s : St) (I : Ij) (m : Mem) (a : Act) (w : World) : Prop where
  sim : Sim I m s.H w
  slots : Slots m I s.K a.tmps
  size : a.tmps.size = E.n
  n : s.n = E.n
  lo : s.lo = E.lo
  rnd : s.rnd = E.rnd
  fx : Fx E.I0 E.H0 E.lo E.w0 I s.H w
  mem : E.m0.Le m
  fresh : ∀ k o, m k = some o → E.m0 k = some o ∨ E.w0.heap.size ≤ k
  lole : E.lo ≤ E.H0.length
  dfr : ∃ ds, a.defers = marks ds ∧ Dfr E I m s.H w ds
  rok : ∀ id, E.rnd = some id → ∃ f, E.I0 id = some f

def QA (E : Env) (Q : Ex → St → Prop) : Exit → Act → World → Prop
  | .normal, a, w => ∃ s I m, Q .normal s ∧ SS E s I m a w
  | .ret, a, w => ∃ s I m, Q .ret s ∧ SS E s I m a w
  | .exit id, a, w => ∃ s I m, Q (.exit id) s ∧ SS E s I m a w
  | _, _, _ => False

section
variable {C : Cfg} {E : Env} {s : St} {I I' : Ij} {m m' : Mem} {a : Act} {w w' : World} {H' : List Blk}

theorem Dfr.step {H : List Blk} {ds : List Nat} {lo : Nat} (h : Dfr E I m H w ds) (hsim0 : Sim I m H w) (hfx : Fx I H lo w I' H' w') (hfr : ∀ k o, m' k = some o → m k = some o ∨ w.heap.size ≤ k) (hsim : Sim I' m' H' w') : Dfr E I' m' H' w' ds := by
  refine ⟨h.1, fun D hD => ?_, h.2.2⟩
  obtain ⟨h1, h2, h3, h4⟩ := h.2.1 D hD
  have hlt : D < w.heap.size := (Array.getElem?_eq_some_iff.1 h1).1
  refine ⟨by rw [hfx.same D hlt fun id f _ hl hf => h4 id f hl hf]; exact h1, h2, ?_, fun id f hl hf => ?_⟩
  · cases hm : m' D with
    | none => rfl
    | some o =>
      rcases hfr D o hm with h | h
      · rw [h3] at h; cases h
      · omega
  · by_cases hid : lo ≤ id
    · rcases hfx.own id f hid hl hf with h | ⟨i0, f0, _, h5, h6, h7⟩
      · omega
      · rw [← h7]; exact h4 i0 f0 h5 h6
    · obtain ⟨B, hB, hlv⟩ := hl
      rw [hfx.low id (by omega)] at hB
      obtain ⟨f0, h5, _⟩ := hsim0.blk id B hB hlv
      have := hfx.ij _ _ h5
      rw [hf] at this
      cases this
      exact h4 id f ⟨B, hB, hlv⟩ h5

theorem SS.step (h : SS E s I m a w) (hsim : Sim I' m' H' w') (hfx : Fx I s.H s.lo w I' H' w') (hm : m.Le m') (hfr : ∀ k o, m' k = some o → m k = some o ∨ w.heap.size ≤ k) : SS E { s with H := H' } I' m' a w' where
  sim := hsim
  slots := h.slots.mono hm hfx.ij
  size := h.size
  n := h.n
  lo := h.lo
  rnd := h.rnd
  fx := h.fx.tr (by rw [← h.lo]; exact hfx)
  mem := fun k o hk => hm k o (h.mem k o hk)
  fresh := fun k o hk => by
    rcases hfr k o hk with h1 | h1
    · exact h.fresh k o h1
    · exact .inr (Nat.le_trans h.fx.st.size h1)
  lole := h.lole
  dfr := by
    obtain ⟨ds, h1, h2⟩ := h.dfr
    exact ⟨ds, h1, h2.step h.sim hfx hfr hsim⟩
  rok := h.rok

theorem SS.put (h : SS E s I m a w) {d : Option Nat} {v : V} {u : Value} (hv : Rep m v I u) : SS E (s.put d v) I m (a.put d u) w := by
  cases d with
  | none => exact h
  | some d =>
    cases hb : Nat.blt d s.n with
    | true =>
      have e : s.put (some d) v = { s with K := kput s.K d v } := by
        unfold St.put
        simp only
        rw [hb]; rfl
      rw [e]
      have hd : d < a.tmps.size := by rw [h.size, ← h.n]; simpa using hb
      exact { h with
        slots := fun t x hx => by
          simp only [kget_put] at hx
          split at hx
          · rename_i he
            subst he
            simp only [Option.some.injEq] at hx
            subst hx
            exact ⟨u, by simp [Act.put, hd], hv⟩
          · rename_i he
            obtain ⟨u', h1, h2⟩ := h.slots t x hx
            exact ⟨u', by simp only [Act.put]; rw [Array.getElem?_setIfInBounds_ne he]; exact h1, h2⟩
        size := by simp [Act.put, h.size]
        dfr := h.dfr }
    | false =>
      have e : s.put (some d) v = s := by
        unfold St.put
        simp only
        rw [hb]; rfl
      rw [e]
      have hd : a.tmps.size ≤ d := by
        rw [h.size, ← h.n]
        rcases Nat.lt_or_ge d s.n with h1 | h1
        · exfalso
          have : Nat.blt d s.n = true := by simpa using h1
          rw [hb] at this; cases this
        · exact h1
      exact { h with
        slots := fun t x hx => by
          obtain ⟨u', h1, h2⟩ := h.slots t x hx
          refine ⟨u', ?_, h2⟩
          have hne : d ≠ t := by rintro rfl; have := (Array.getElem?_eq_some_iff.1 h1).1; omega
          simp only [Act.put]
          rw [Array.getElem?_setIfInBounds_ne hne]; exact h1
        size := by simp [Act.put, h.size]
        dfr := h.dfr }

theorem opEff_opnd {K : List (Nat × V)} {H : List Blk} {lo nid : Nat} {op : Op} {e : Eff} (h : opEff C K H lo nid op = some e) : Opnd op = true := by
  cases op <;> first | rfl | (simp [opEff] at h; done)

theorem wants_sound (hs : Slots m I s.K a.tmps) {all : List Oper} {o : Oper} {b : Bool} (h : wants all s.K o.guard = some b) : Region.wanted o (yielded all.toArray a.tmps) = b := by
  unfold Region.wanted
  unfold wants at h
  split at h
  · rename_i hg
    rw [hg]
    simp only [Option.some.injEq] at h
    exact h
  · rename_i j want hg
    rw [hg]
    simp only
    split at h
    · rename_i o' ho
      rw [get_eq] at ho
      split at h
      · rename_i t ht
        split at h
        · rename_i b' hk
          simp only [Option.some.injEq] at h
          obtain ⟨u, h1, h2⟩ := hs t _ hk
          have hu := h2.lit
          subst hu
          have : yielded all.toArray a.tmps j = some b' := by simp [yielded, ho, ht, h1]
          rw [this, ← h]
          simp
        · rename_i vs hk
          simp only [Option.some.injEq] at h
          obtain ⟨u, h1, h2⟩ := hs t _ hk
          have hu := h2.lit
          subst hu
          have : yielded all.toArray a.tmps j = none := by simp [yielded, ho, ht, h1]
          rw [this, ← h]
          simp
        · cases h
      · cases h
    · cases h

theorem bodyOf_spec (hC : C.OK) {f N : Nat} {c : Code} {fn : Func} (h : bodyOf C f N = some (c, fn)) : C.P.funcs[f]? = some fn ∧ fn.body = some c ∧ N ≤ fn.ntmps ∧ ∀ (args : Array Value) (w : World), (callFunc f args).run C.P w = .ok (.enter f args) w := by
  unfold bodyOf at h
  split at h
  · rename_i fn' hf
    split at h
    · rename_i c' hb
      cases hn : Nat.ble N fn'.ntmps with
      | false => rw [hn] at h; cases h
      | true =>
        rw [hn] at h
        simp only [cond_true, Option.some.injEq, Prod.mk.injEq] at h
        obtain ⟨rfl, rfl⟩ := h
        exact ⟨(hC.fn _ _ hf).1, hb, Nat.le_of_ble_eq_true hn, (hC.fn _ _ hf).2⟩
    · cases h
  · cases h

theorem kargs_get : ∀ (l : List V) (i t : Nat) (v : V), kget (kargs i l) t = some v → i ≤ t ∧ l[t - i]? = some v
  | [], _, _, _, h => by cases h
  | x :: r, i, t, v, h => by
    simp only [kargs, kget] at h
    cases hb : Nat.beq i t with
    | true =>
      rw [hb] at h
      have := Nat.eq_of_beq_eq_true hb
      subst this
      simpa using h
    | false =>
      rw [hb] at h
      have hne := Nat.ne_of_beq_eq_false hb
      obtain ⟨h1, h2⟩ := kargs_get r (i + 1) t v h
      refine ⟨by omega, ?_⟩
      rw [show t - i = (t - (i + 1)) + 1 by omega]
      simpa using h2

theorem resA_sound (hC : C.OK) (h : SS E s I m a w) {r : ResultVar} {v : V} (hr : resA C s r = some v) : ∃ u, (rdR a.tmps r).run C.P w = .ok u w ∧ Rep m v I u := by
  unfold resA at hr
  split at hr
  · rename_i t
    obtain ⟨u, h1, h2⟩ := h.slots t v hr
    exact ⟨u, by simp [rdR, Array.getD_eq_getD_getElem?, h1], h2⟩
  · rename_i c t
    split at hr
    · rename_i T av hT hk
      simp only [Option.map_eq_some_iff] at hr
      obtain ⟨p, h1, rfl⟩ := hr
      obtain ⟨u, h2, h3⟩ := h.slots c _ hk
      obtain ⟨ad, u', h4, h5, h6⟩ := loadA_sound (hC.ty _ _ hT) h.sim h3 h1
      subst h4
      exact ⟨u', by simp [rdR, Array.getD_eq_getD_getElem?, h2, asAddr, h5], h6⟩
    · cases hr

theorem resL_sound (hC : C.OK) (h : SS E s I m a w) : ∀ {rs : List ResultVar} {vs : List V}, mapO (resA C s) rs = some vs → ∃ us, (rs.mapM (rdR a.tmps)).run C.P w = .ok us w ∧ RepL m vs I us
  | [], vs, hr => by
    simp only [mapO, Option.some.injEq] at hr
    subst hr
    exact ⟨[], by simp, by unfold RepL; rfl⟩
  | r :: rs, vs, hr => by
    simp only [mapO] at hr
    cases hx : resA C s r with
    | none => rw [hx] at hr; cases hr
    | some v =>
      cases hl : mapO (resA C s) rs with
      | none => rw [hx, hl] at hr; cases hr
      | some vs' =>
        rw [hx, hl] at hr
        simp only [Option.some.injEq] at hr
        subst hr
        obtain ⟨u, h1, h2⟩ := resA_sound hC h hx
        obtain ⟨us, h3, h4⟩ := resL_sound hC h hl
        refine ⟨u :: us, by simp [List.mapM_cons, h1, h3], ?_⟩
        unfold RepL
        exact ⟨u, us, rfl, h2, h4⟩

theorem results_sound (hC : C.OK) (h : SS E s I m a w) {fn : Func} {v : V} (hr : resultsA C fn s = some v) : ∃ u, (results fn a.tmps).run C.P w = .ok u w ∧ Rep m v I u := by
  unfold resultsA at hr
  have hm : ∀ {us : List Value}, (fn.results.toList.mapM (rdR a.tmps)).run C.P w = .ok us w → (fn.results.mapM (rdR a.tmps)).run C.P w = .ok us.toArray w := fun h => by
    rw [Array.mapM_eq_mapM_toList]
    simp [h]
  split at hr
  · rename_i v' hl
    simp only [Option.some.injEq] at hr
    subst hr
    obtain ⟨us, h1, h2⟩ := resL_sound hC h hl
    obtain ⟨u, rfl, h3⟩ := h2.one'
    exact ⟨u, by rw [results_eq]; simp [hm h1], h3⟩
  · rename_i l hne hl
    simp only [Option.some.injEq] at hr
    subst hr
    obtain ⟨us, h1, h2⟩ := resL_sound hC h hl
    have hsz : us.length ≠ 1 := by
      rw [h2.len]
      intro e
      obtain ⟨x, hx⟩ := List.length_eq_one_iff.1 e
      exact hne x hx
    refine ⟨.tuple us.toArray, by rw [results_eq]; simp [hm h1, hsz], ?_⟩
    unfold Rep
    exact ⟨us, rfl, h2⟩
  · cases hr

theorem leavesDs' {fn : Func} {tmps : Array Value} {R : Ending → World → Prop} {P : Program} {B : World} : ∀ (ds : List Nat) (w : World), Stays B w → ds.Nodup → (∀ D ∈ ds, w.heap[D]? = some (.deferred (some []))) →
    (∀ w', Stays B w' → w'.heap.size = w.heap.size → (∀ k, k ∉ ds → w'.heap[k]? = w.heap[k]?) → ∃ v, (results fn tmps).run P w' = .ok v w' ∧ R (.returned v) w') →
    LeavesInM (Wd none) 0 P fn tmps R (marks ds) .returning w
  | [], w, hs, _, _, h => by
    obtain ⟨v, h1, h2⟩ := h w hs rfl fun _ _ => rfl
    exact ⟨v, h1, h2⟩
  | D :: ds, w, hs, hnd, hD, h => by
    have h1 := hD D List.mem_cons_self
    have hlt : D < w.heap.size := (Array.getElem?_eq_some_iff.1 h1).1
    rw [List.nodup_cons] at hnd
    refine ⟨by simp, .inl ⟨D, _, rfl, takeD h1, leavesDs' ds _ ⟨hs.os, hs.tape, hs.output, by simpa using hs.size⟩ hnd.2 (fun D' hD' => ?_) fun w' hs' hsz hk => ?_⟩⟩
    · show (w.heap.setIfInBounds D _)[D']? = _
      rw [Array.getElem?_setIfInBounds_ne (by rintro rfl; exact hnd.1 hD')]
      exact hD D' (List.mem_cons_of_mem _ hD')
    · refine h w' hs' (hsz.trans (by simp)) fun k hk' => ?_
      rw [List.mem_cons, not_or] at hk'
      rw [hk k hk'.2]
      show (w.heap.setIfInBounds D _)[k]? = _
      rw [Array.getElem?_setIfInBounds_ne (fun e => hk'.1 e.symm)]

/-- A call, from its body. -/
theorem call_sound (hC : C.OK) {f N lo' : Nat} {c : Code} {fn : Func} (hb : bodyOf C f N = some (c, fn)) {args : List V} (hN : args.length = N) {Q : Ex → St → Prop}
    (IH : ∀ (E : Env) (I : Ij) (m : Mem) (a : Act) (w : World), SS E (St.call fn args H' lo') I m a w → SA C.P E.ρ (QA E Q) [.code c] .normal a w) (hQ : ∀ e s1, Q e s1 → ∃ v, finA C fn e s1 = some v) {us : List Value} (hs : Sim I m H' w) (hlo : lo' ≤ H'.length) (hr : RepL m args I us) :
    Calls C.P f us.toArray w (fun e w' => ∃ u, e = .returned u ∧ ∃ ex s1 v I1 m1, Q ex s1 ∧ finA C fn ex s1 = some v ∧ Rep m1 v I1 u ∧ Sim I1 m1 s1.H w' ∧ Fx I H' lo' w I1 s1.H w' ∧ m.Le m1 ∧ (∀ k o, m1 k = some o → m k = some o ∨ w.heap.size ≤ k) ∧ s1.lo = lo') := by
  obtain ⟨hf, hbody, hn, _⟩ := bodyOf_spec hC hb
  let E : Env := ⟨I, m, H', w, lo', none, fn.ntmps⟩
  have hus := hr.len
  have h0 : SS E (St.call fn args H' lo') I m { tmps := us.toArray ++ Array.replicate (fn.ntmps - us.toArray.size) undef, defers := [] } w := {
    sim := hs
    slots := fun t v hv => by
      obtain ⟨_, h2⟩ := kargs_get args 0 t v hv
      simp only [Nat.sub_zero] at h2
      obtain ⟨u, h3, h4⟩ := hr.get h2
      have hlt := (List.getElem?_eq_some_iff.1 h3).1
      have h5 : us[t] = u := (List.getElem?_eq_some_iff.1 h3).2
      exact ⟨u, by simp [Array.getElem?_append, hlt, h5], h4⟩
    size := by simp; show _ = fn.ntmps; omega
    n := rfl
    lo := rfl
    rnd := rfl
    fx := Fx.rfl' _ _ _ _
    mem := fun _ _ h => h
    fresh := fun _ _ h => .inl h
    lole := hlo
    dfr := ⟨[], rfl, List.nodup_nil, (fun D hD => by cases hD), fun _ => rfl⟩
    rok := fun id h => by cases h }
  refine (callsWd (ρ := none) (n := 0)).1 (callsIn_of_wp_marks hf hbody trivial ?_ rfl)
  have h1 := IH E I m _ w h0
  refine Code.wpIn_mono ?_ h1
  have fin : ∀ {e : Ex} {s1 : St} {I1 : Ij} {m1 : Mem} {a1 : Act} {w1 : World}, Q e s1 → SS E s1 I1 m1 a1 w1 → LeavesInM (Wd none) 0 C.P fn a1.tmps (fun e w' => ∃ u, e = .returned u ∧ ∃ ex s1 v I1 m1, Q ex s1 ∧ finA C fn ex s1 = some v ∧ Rep m1 v I1 u ∧ Sim I1 m1 s1.H w' ∧ Fx I H' lo' w I1 s1.H w' ∧ m.Le m1 ∧ (∀ k o, m1 k = some o → m k = some o ∨ w.heap.size ≤ k) ∧ s1.lo = lo') a1.defers .returning w1 := by
    intro e s1 I1 m1 a1 w1 hq hss
    obtain ⟨v, hv⟩ := hQ e s1 hq
    obtain ⟨ds, hds, hd⟩ := hss.dfr
    have hres : resultsA C fn s1 = some v := by
      unfold finA at hv
      cases ho : okEnd e with
      | true => rw [ho] at hv; exact hv
      | false => rw [ho] at hv; cases hv
    have hDlt : ∀ D ∈ ds, D < w1.heap.size := fun D hD => (Array.getElem?_eq_some_iff.1 (hd.2.1 D hD).1).1
    -- the blocks of deferred calls are shut
    have hsim' : ∀ w', Stays w w' → (∀ k, k ∉ ds → w'.heap[k]? = w1.heap[k]?) → Stays w1 w' → Sim I1 m1 s1.H w' := fun w' _ hk _ => hss.sim.world (fun _ _ h => h) (fun k o hko => by
        show w'.heap[k]? = some o
        rw [hk k (fun hD => by rw [(hd.2.1 k hD).2.2.1] at hko; cases hko)]; exact hss.sim.sub k o hko) (fun id f hl hf => ⟨hk _ (fun hD => (hd.2.1 _ hD).2.2.2 id f hl hf rfl), hss.sim.off id f hl hf⟩)
    have key : ∀ w', Stays w w' → w'.heap.size = w1.heap.size → (∀ k, k ∉ ds → w'.heap[k]? = w1.heap[k]?) → ∃ u, (results fn a1.tmps).run C.P w' = .ok u w' ∧ Rep m1 v I1 u := by
      intro w' hst hsz hk
      have hst1 : Stays w1 w' := ⟨hst.os.trans hss.fx.st.os.symm, hst.tape.trans hss.fx.st.tape.symm, hst.output.trans hss.fx.st.output.symm, Nat.le_of_eq hsz.symm⟩
      have hss' : SS E s1 I1 m1 { a1 with defers := [] } w' := { hss with
        sim := hsim' w' hst hk hst1
        fx := { hss.fx with
          st := hst
          same := fun k hk' hn => by
            have hk'' : k < w.heap.size := hk'
            rw [hk k (fun hD => by have h1 : w.heap.size ≤ k := (hd.2.1 k hD).2.1; omega)]
            exact hss.fx.same k hk' hn }
        dfr := ⟨[], rfl, List.nodup_nil, (fun D hD => by cases hD), fun _ => rfl⟩ }
      exact results_sound hC hss' hres
    rw [hds]
    refine leavesDs' (B := w) ds w1 hss.fx.st hd.1 (fun D hD => (hd.2.1 D hD).1) fun w' hst hsz hk => ?_
    obtain ⟨u, hu1, hu2⟩ := key w' hst hsz hk
    have hst1 : Stays w1 w' := ⟨hst.os.trans hss.fx.st.os.symm, hst.tape.trans hss.fx.st.tape.symm, hst.output.trans hss.fx.st.output.symm, Nat.le_of_eq hsz.symm⟩
    refine ⟨u, hu1, u, rfl, e, s1, v, I1, m1, hq, hv, hu2, hsim' w' hst hk hst1, ?_, hss.mem, hss.fresh, hss.lo⟩
    have hfx : Fx I H' lo' w I1 s1.H w1 := hss.fx
    exact { hfx with
      st := hst
      same := fun k hk' hn => by
        rw [hk k (fun hD => by have h1 : w.heap.size ≤ k := (hd.2.1 k hD).2.1; omega)]
        exact hfx.same k hk' hn }
  intro e a1 w1 he
  cases e with
  | normal => obtain ⟨s1, I1, m1, h2, h3⟩ := he; exact fin h2 h3
  | ret => obtain ⟨s1, I1, m1, h2, h3⟩ := he; exact fin h2 h3
  | exit id =>
    obtain ⟨s1, I1, m1, h2, h3⟩ := he
    obtain ⟨v, hv⟩ := hQ _ _ h2
    cases hv
  | goto l => exact he.elim
  | panic ch => exact he.elim
  | outgrown => exact he.elim

end
end Go.Am
