/- The judgement over the abstract machine holds of the model: its rules. Conditions: none. -/
import Derived.Test.YtphmekpaalfliaaSnd
set_option linter.unusedVariables false
set_option linter.unusedSimpArgs false
namespace Go.Am
open Go Go.Wk Go.RowKit

section
variable {C : Cfg} {E : Env} {s : St} {I I' : Ij} {m m' : Mem} {a : Act} {w w' : World} {H' : List Blk} {P : Program} {ρ : Option Nat} {Q : Exit → Act → World → Prop} {all os : List Oper} {o : Oper}

theorem ops_skip (hw : Region.wanted o (yielded all.toArray a.tmps) = false) (h : wpListIn (Wd ρ) 0 P all.toArray Q os (a.put o.dst undef) w) : wpListIn (Wd ρ) 0 P all.toArray Q (o :: os) a w := by
  unfold wpListIn
  rw [hw]
  exact ⟨fun _ _ => trivial, h⟩

theorem ops_val (hw : Region.wanted o (yielded all.toArray a.tmps) = true) (hn : Opnd o.op = true) {r : Next} {u : Value} (hr : (execOp a.eval o).run P w = .ok r w') (hu : r = .value u ∨ (r = .skip ∧ u = undef)) (h : wpListIn (Wd ρ) 0 P all.toArray Q os (a.put o.dst u) w') : wpListIn (Wd ρ) 0 P all.toArray Q (o :: os) a w := by
  unfold wpListIn
  rw [hw]
  simp only [if_true]
  refine uponWd hn ?_
  rw [hr]
  rcases hu with rfl | ⟨rfl, rfl⟩
  · exact h
  · exact h

theorem ops_call (hw : Region.wanted o (yielded all.toArray a.tmps) = true) (hn : Opnd o.op = true) {f : FuncId} {args : Array Value} (hr : (execOp a.eval o).run P w = .ok (.enter f args) w) (h : Calls P f args w (fun e w' => ∃ u, e = .returned u ∧ wpListIn (Wd ρ) 0 P all.toArray Q os (a.put o.dst u) w')) : wpListIn (Wd ρ) 0 P all.toArray Q (o :: os) a w := by
  unfold wpListIn
  rw [hw]
  simp only [if_true]
  refine uponWd hn ?_
  rw [hr]
  refine ⟨(fun h => by cases h), callsWd.2 (h.mono ?_)⟩
  rintro e w' ⟨u, rfl, h⟩
  exact h

theorem ops_round (hw : Region.wanted o (yielded all.toArray a.tmps) = true) (hn : Opnd o.op = true) {l f : Nat} {tmps : Array Value} {x y : Code} (hr : (execOp a.eval o).run P w = .ok (.round l f tmps x y) w) (h : RoundIn (Wd ρ) 0 P l f tmps x y w (fun e w' => ∃ u, e = .returned u ∧ wpListIn (Wd ρ) 0 P all.toArray Q os (a.put o.dst u) w')) : wpListIn (Wd ρ) 0 P all.toArray Q (o :: os) a w := by
  unfold wpListIn
  rw [hw]
  simp only [if_true]
  refine uponWd hn ?_
  rw [hr]
  refine ⟨(fun h => by cases h), h.mono ?_⟩
  rintro e w' ⟨u, rfl, h⟩
  exact h

theorem callee_fn (hk : Slots m I s.K a.tmps) {f : Nat} {args : List V} (h : callee s.K o.op = some (.fn f args)) : Opnd o.op = true ∧ ∃ us, RepL m args I us ∧ ∀ w, (execOp a.eval o).run P w = (callFunc f us.toArray).run P w := by
  obtain ⟨dst, op, ty, pos, after, g⟩ := o
  simp only at h
  unfold callee at h
  split at h
  · rename_i g xs ats
    refine ⟨rfl, ?_⟩
    split at h
    · rename_i f' caps vs hf hvs
      simp only [Option.some.injEq, Cl.fn.injEq] at h
      obtain ⟨rfl, rfl⟩ := h
      have h1 := kev_rep hk hf
      have h2 := kevs_rep hk hvs
      unfold Rep at h1
      obtain ⟨us, h3, h4⟩ := h1
      refine ⟨_, h2.append h4, fun w => ?_⟩
      have hargs : xs.map a.eval = (xs.toList.map a.eval).toArray := by rw [← Array.toList_map, Array.toArray_toList]
      simp [execOp, resolve, Deferred.ofValue, h3, invoke, hargs]
    · cases h
    · cases h
  · cases h

theorem callee_yld (hk : Slots m I s.K a.tmps) {id : Nat} {args : List V} (h : callee s.K o.op = some (.yld id args)) : Opnd o.op = true ∧ ∃ f us, I id = some f ∧ RepL m args I us ∧ ∀ w, (execOp a.eval o).run P w = (Instr.yield f.b us.toArray).run P w := by
  obtain ⟨dst, op, ty, pos, after, g⟩ := o
  simp only at h
  unfold callee at h
  split at h
  · rename_i g xs ats
    refine ⟨rfl, ?_⟩
    split at h
    · cases h
    · rename_i id' vs hf hvs
      simp only [Option.some.injEq, Cl.yld.injEq] at h
      obtain ⟨rfl, rfl⟩ := h
      have h1 := kev_rep hk hf
      have h2 := kevs_rep hk hvs
      unfold Rep at h1
      obtain ⟨f, h3, h4⟩ := h1
      refine ⟨f, _, h3, h2, fun w => ?_⟩
      have hargs : xs.map a.eval = (xs.toList.map a.eval).toArray := by rw [← Array.toList_map, Array.toArray_toList]
      simp [execOp, resolve, Deferred.ofValue, h4, invoke, hargs]
    · cases h
  · cases h

/-- A world in which only new blocks have come. -/
theorem SS.ro (h : SS E s I m a w) (hst : Stays w w') (hsame : ∀ k, k < w.heap.size → w'.heap[k]? = w.heap[k]?) (hm : m.Le m') (hm' : m'.Le (wmem w')) (hfr : ∀ k o, m' k = some o → m k = some o ∨ w.heap.size ≤ k) : SS E s I m' a w' := by
  have hsim : Sim I m' s.H w' := h.sim.world hm hm' fun id f hl hf => by
    have hlt := h.sim.lt hl hf
    refine ⟨hsame _ hlt, ?_⟩
    cases hq : m' f.b with
    | none => rfl
    | some o =>
      rcases hfr _ _ hq with h1 | h1
      · rw [h.sim.off id f hl hf] at h1; cases h1
      · omega
  exact h.step hsim ⟨hst, fun k hk _ => hsame k hk, Ij.Le.rfl' _, fun id f h1 h2 h3 => .inr ⟨id, f, h1, h2, h3, rfl⟩, fun _ _ => rfl, Nat.le_refl _⟩ hm hfr

theorem Sim.sub' (h : Sim I m s.H w) (hsub : SubH H' s.H) : Sim I m H' w where
  sub := h.sub
  blk := fun id B hB hl => h.blk id B (hsub.2.1 id B hB hl) hl
  free := fun id hid => by
    rcases hid with h1 | h1
    · exact h.free id (.inl (get_none.2 (by rw [← hsub.1]; exact get_none.1 h1)))
    · exact h.free id (.inr (hsub.2.2 id h1))
  off := fun id f ⟨B, hB, hl⟩ hf => h.off id f ⟨B, hsub.2.1 id B hB hl, hl⟩ hf
  inj := fun i j f g ⟨B, hB, hl⟩ ⟨B', hB', hl'⟩ => h.inj i j f g ⟨B, hsub.2.1 i B hB hl, hl⟩ ⟨B', hsub.2.1 j B' hB' hl', hl'⟩

theorem cloArgs_len {H : List Blk} {fl : Bool} : ∀ {l l' : List V}, CloArgs H fl l l' → l'.length = l.length
  | _, _, .nil => rfl
  | _, _, .cons _ h => by simp [cloArgs_len h]

theorem cloMem (hs : Sim I m s.H w) {fl : Bool} : m.Le (if fl then frzMem I m s.H 0 w else m) ∧ (if fl then frzMem I m s.H 0 w else m).Le (wmem w) := by
  cases fl with
  | true => exact ⟨frzMem_le, frzMem_sub hs⟩
  | false => exact ⟨fun _ _ h => h, hs.sub⟩

/-- Behind a call that has handed back a frozen value. -/
theorem frz_ro {H0 : List Blk} {lo' : Nat} {m0 : Mem} {I0 I1 : Ij} {m1 : Mem} {s1 : St} {v v' : V} {u : Value} (hlo : s1.lo = lo') (hnl : ∀ id, lo' ≤ id → ¬ Live H0 id) (hfx : Fx I0 H0 lo' w I1 s1.H w') (hsim : Sim I1 m1 s1.H w') (hfr : ∀ k o, m1 k = some o → m0 k = some o ∨ w.heap.size ≤ k) (hz : FrzTo s1 v v') (hv : Rep m1 v I1 u) :
    ∃ m', m1.Le m' ∧ m'.Le (wmem w') ∧ (∀ k o, m' k = some o → m0 k = some o ∨ w.heap.size ≤ k) ∧ Rep m' v' Ij.none u := by
  obtain ⟨n, hz⟩ := hz
  rw [hlo] at hz
  refine ⟨frzMem I1 m1 s1.H lo' w', frzMem_le, frzMem_sub hsim, fun k o hk => ?_, frz_sound hsim n _ _ _ hz hv⟩
  rcases frzMem_new hk with h | ⟨id, f, h1, h2, h3, rfl⟩
  · exact hfr k o h
  · rcases hfx.own id f h1 h2 h3 with h4 | ⟨i0, f0, h4, h5, _⟩
    · exact .inr h4
    · exact absurd h5 (hnl i0 h4)

/-- A call over frozen arguments: the state behind it. -/
theorem clo_step (hC : C.OK) (hss : SS E s I m a w) {f N : Nat} {args args' : List V} {fl : Bool} {c : Code} {fn : Func} {us : List Value} (hb : bodyOf C f N = some (c, fn)) (hN : args.length = N) (hca : CloArgs s.H fl args args') (hr : RepL m args I us) {T : V → Prop}
    (IH : ∀ (E : Env) (I : Ij) (m : Mem) (a : Act) (w : World), SS E (St.call fn args' [] 0) I m a w → SA C.P E.ρ (QA E (fun e s1 => ∃ v v', finA C fn e s1 = some v ∧ FrzTo s1 v v' ∧ (fl = true → ∃ n, flat n v' = true) ∧ T v')) [.code c] .normal a w) :
    Calls C.P f us.toArray w (fun e w' => ∃ u, e = .returned u ∧ ∃ v' m', T v' ∧ Rep m' v' I u ∧ SS E s I m' a w') := by
  have hm := cloMem (fl := fl) hss.sim
  have h1 := cloArgs_sound hss.sim hca hr
  have h2 := call_sound (H' := []) (lo' := 0) hC hb (by rw [cloArgs_len hca]; exact hN) IH (fun e s1 ⟨v, v', h, _⟩ => ⟨v, h⟩) (Sim.nil _ w hm.2) (Nat.zero_le _) h1
  refine h2.mono ?_
  rintro e w' ⟨u, rfl, ex, s1, v, I1, m1, ⟨v2, v', q1, q2, q3, q4⟩, h3, h4, h5, h6, h7, h8, h9⟩
  rw [h3] at q1
  cases q1
  have hnl : ∀ id, 0 ≤ id → ¬ Live ([] : List Blk) id := fun id _ ⟨B, hB, _⟩ => by simp [Am.get] at hB
  obtain ⟨m', z1, z2, z3, z4⟩ := frz_ro (H0 := []) h9 hnl h6 h5 h8 q2 h4
  have hsame : ∀ k, k < w.heap.size → w'.heap[k]? = w.heap[k]? := fun k hk => h6.same k hk fun id f h hl => absurd hl (hnl id h)
  cases fl with
  | true =>
    obtain ⟨n, hn⟩ := q3 rfl
    refine ⟨u, rfl, v', m, q4, flat_sound n v' u hn z4, hss.ro h6.st hsame (fun _ _ h => h) (fun k o hk => ?_) (fun _ _ h => .inl h)⟩
    have := hss.sim.sub k o hk
    show w'.heap[k]? = some o
    rw [hsame k (Array.getElem?_eq_some_iff.1 this).1]; exact this
  | false =>
    exact ⟨u, rfl, v', m', q4, Rep.mono (fun _ _ h => h) _ (Ij.none_le I) z4, hss.ro h6.st hsame (fun k o hk => z1 k o (h7 k o hk)) z2 z3⟩

theorem sub_step (hC : C.OK) (hss : SS E s I m a w) {f N : Nat} {args : List V} {c : Code} {fn : Func} {us : List Value} (hb : bodyOf C f N = some (c, fn)) (hN : args.length = N) (hsub : SubH H' s.H) (hr : RepL m args I us) {T : V → Prop}
    (IH : ∀ (E : Env) (I : Ij) (m : Mem) (a : Act) (w : World), SS E (St.call fn args H' H'.length) I m a w → SA C.P E.ρ (QA E (fun e s1 => ∃ v v', finA C fn e s1 = some v ∧ FrzTo s1 v v' ∧ T v')) [.code c] .normal a w) :
    Calls C.P f us.toArray w (fun e w' => ∃ u, e = .returned u ∧ ∃ v' m', T v' ∧ Rep m' v' I u ∧ SS E s I m' a w') := by
  have h2 := call_sound (H' := H') (lo' := H'.length) hC hb hN IH (fun e s1 ⟨v, v', h, _⟩ => ⟨v, h⟩) (hss.sim.sub' hsub) (Nat.le_refl _) hr
  refine h2.mono ?_
  rintro e w' ⟨u, rfl, ex, s1, v, I1, m1, ⟨v2, v', q1, q2, q4⟩, h3, h4, h5, h6, h7, h8, h9⟩
  rw [h3] at q1
  cases q1
  have hnl : ∀ id, H'.length ≤ id → ¬ Live H' id := fun id hid ⟨B, hB, _⟩ => by have := get_lt hB; omega
  obtain ⟨m', z1, z2, z3, z4⟩ := frz_ro (H0 := H') h9 hnl h6 h5 h8 q2 h4
  have hsame : ∀ k, k < w.heap.size → w'.heap[k]? = w.heap[k]? := fun k hk => h6.same k hk fun id f h hl => absurd hl (hnl id h)
  exact ⟨u, rfl, v', m', q4, Rep.mono (fun _ _ h => h) _ (Ij.none_le I) z4, hss.ro h6.st hsame (fun k o hk => z1 k o (h7 k o hk)) z2 z3⟩

theorem ext_step (hC : C.OK) (hss : SS E s I m a w) {f : Nat} {args args' : List V} {fl : Bool} {us : List Value} {v : V} (hca : CloArgs s.H fl args args') (hr : RepL m args I us) (hX : C.X f args' v) (hfl : fl = true → ∃ n, flat n v = true) :
    Calls C.P f us.toArray w (fun e w' => ∃ u, e = .returned u ∧ ∃ m', Rep m' v I u ∧ SS E s I m' a w') := by
  have hm := cloMem (fl := fl) hss.sim
  have h1 := cloArgs_sound hss.sim hca hr
  refine ((hC.X f args' v hX).1 _ w us hm.2 h1).mono ?_
  rintro e w' ⟨u, m', rfl, hx, h2, h3, h4, h5⟩
  have hsame : ∀ k, k < w.heap.size → w'.heap[k]? = w.heap[k]? := fun k hk => hx.block k hk
  cases fl with
  | true =>
    obtain ⟨n, hn⟩ := hfl rfl
    refine ⟨u, rfl, m, flat_sound n v u hn h5, hss.ro hx.stays hsame (fun _ _ h => h) (fun k o hk => ?_) (fun _ _ h => .inl h)⟩
    have := hss.sim.sub k o hk
    show w'.heap[k]? = some o
    rw [hsame k (Array.getElem?_eq_some_iff.1 this).1]; exact this
  | false => exact ⟨u, rfl, m', Rep.mono (fun _ _ h => h) _ (Ij.none_le I) h5, hss.ro hx.stays hsame h2 h3 h4⟩

theorem im_step (hC : C.OK) (hss : SS E s I m a w) {f N : Nat} {args : List V} {c : Code} {fn : Func} {us : List Value} (hb : bodyOf C f N = some (c, fn)) (hN : args.length = N) (hr : RepL m args I us) {T : V → List Blk → Prop}
    (IH : ∀ (E : Env) (I : Ij) (m : Mem) (a : Act) (w : World), SS E (St.call fn args s.H s.lo) I m a w → SA C.P E.ρ (QA E (fun e s1 => ∃ v, finA C fn e s1 = some v ∧ T v s1.H)) [.code c] .normal a w) :
    Calls C.P f us.toArray w (fun e w' => ∃ u, e = .returned u ∧ ∃ v H' I' m', T v H' ∧ Rep m' v I' u ∧ SS E { s with H := H' } I' m' a w') := by
  have hlo : s.lo ≤ s.H.length := by rw [hss.lo]; exact Nat.le_trans hss.lole hss.fx.len
  have h2 := call_sound (H' := s.H) (lo' := s.lo) hC hb hN IH (fun e s1 ⟨v, h, _⟩ => ⟨v, h⟩) hss.sim hlo hr
  refine h2.mono ?_
  rintro e w' ⟨u, rfl, ex, s1, v, I1, m1, ⟨v2, q1, q2⟩, h3, h4, h5, h6, h7, h8, h9⟩
  rw [h3] at q1
  cases q1
  exact ⟨u, rfl, v, s1.H, I1, m1, q2, h4, hss.step h5 h6 h7 h8⟩

end
end Go.Am
