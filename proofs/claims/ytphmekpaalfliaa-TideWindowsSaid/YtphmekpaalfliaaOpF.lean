/- Built-in functions without memory, structs that are written out: as in the model. Conditions: none. -/
import Derived.Test.YtphmekpaalfliaaOpE
set_option linter.unusedVariables false
set_option linter.unusedSimpArgs false
namespace Go.Am
open Go Go.Wk

section
variable {C : Cfg} {I : Ij} {m : Mem} {H : List Blk} {w : World} {K : List (Nat × V)} {a : Act} {lo nid : Nat} {dst : Option Tmp} {ty : TypeId} {pos : String} {after : Array Edge} {g : Option (Nat × Bool)} {e : Eff}

theorem run_builtin {P : Program} {b : Builtin} {args : Array Operand} {ats : Array TypeId} {us : List Value} (hu : args.toList.map a.eval = us) :
    ∃ cs : Array Bool, (execOp a.eval ⟨dst, .call ⟨.builtin b, args, ats⟩, ty, pos, after, g⟩).run P w = (builtin b ats ty cs us.toArray).run P w := by
  have : args.map a.eval = us.toArray := by rw [← hu, ← Array.toList_map, Array.toArray_toList]
  exact ⟨_, by simp [execOp, resolve, invoke, this]; rfl⟩

theorem arr1 {α : Type} {x : Array α} {t : α} (h : x.toList = [t]) : x = #[t] := by
  rw [← Array.toArray_toList (xs := x), h]
theorem arr2 {α : Type} {x : Array α} {t u : α} (h : x.toList = [t, u]) : x = #[t, u] := by
  rw [← Array.toArray_toList (xs := x), h]

theorem RepL.one' {v : V} {us : List Value} (h : RepL m [v] I us) : ∃ u, us = [u] ∧ Rep m v I u := by
  unfold RepL at h
  obtain ⟨u, us', h1, h2, h3⟩ := h
  unfold RepL at h3
  subst h3
  exact ⟨u, h1, h2⟩
theorem RepL.two {v v' : V} {us : List Value} (h : RepL m [v, v'] I us) : ∃ u u', us = [u, u'] ∧ Rep m v I u ∧ Rep m v' I u' := by
  unfold RepL at h
  obtain ⟨u, us', h1, h2, h3⟩ := h
  obtain ⟨u', h4, h5⟩ := h3.one'
  subst h4
  exact ⟨u, u', h1, h2, h5⟩

theorem Rep.slice_len {v : V} {u : Value} {n : Nat} (h : Rep m v I u) (hn : lenS v = some n) : ∃ ad cap, u = .slice ad n cap := by
  unfold lenS at hn
  split at hn
  · simp only [Option.some.injEq] at hn; subst hn; exact ⟨_, _, h.lit⟩
  · simp only [Option.some.injEq] at hn; subst hn; unfold Rep at h; obtain ⟨ad, cap, es, h1, _⟩ := h; exact ⟨_, _, h1⟩
  · simp only [Option.some.injEq] at hn; subst hn; unfold Rep at h; obtain ⟨f, ad, _, h1, _⟩ := h; exact ⟨_, _, h1⟩
  · cases hn

theorem MapIn.len {ks vs : List V} {es : List MapEntry} {cl : Nat} (h : MapIn m I ks vs es cl) : es.length = ks.length := by
  obtain ⟨es', h1, h2, h3, h4, h5⟩ := h
  have := h3.len
  rw [List.length_map] at this
  rw [h1.length_eq, this]

theorem bi_len (hC : C.OK) (hs : Sim I m H w) {ats : Array TypeId} {vs : List V} {us : List Value} {cs : Array Bool} (hv : RepL m vs I us) (h : biLen C H ats.toList vs = some e) :
    ∃ u, (builtin .len ats ty cs us.toArray).run C.P w = .ok (.value u) w ∧ Rep m e.v I u ∧ e.wr = [] := by
  unfold biLen at h
  split at h
  · rename_i t x hat
    obtain ⟨u, rfl, hu⟩ := hv.one'
    have := arr1 hat
    subst this
    split at h
    · rename_i T hT
      have hkd := (hC.ty _ _ hT).kd
      split at h
      · rename_i el es hk
        rw [hk] at hkd
        split at h
        · rename_i n hn
          simp only [Option.some.injEq] at h
          subst h
          obtain ⟨ad, cap, rfl⟩ := hu.slice_len hn
          exact ⟨_, by simp [builtin, Builtin.len_, run_underlying hkd.1, goInt], Rep.int, rfl⟩
        · cases h
      · rename_i kt el hk
        rw [hk] at hkd
        split at h
        · rename_i p hp
          simp only [Option.some.injEq] at h
          subst h
          unfold lenM at hp
          split at hp
          · simp only [Option.some.injEq] at hp; subst hp
            rw [hu.lit]
            exact ⟨_, by simp [builtin, Builtin.len_, run_underlying hkd, goInt], Rep.int, rfl⟩
          · rename_i ks' vs'
            simp only [Option.some.injEq] at hp; subst hp
            unfold Rep at hu
            obtain ⟨b, es, es', c, rfl, h1, h2, h3, h4, h5⟩ := hu
            have h6 : es.length = ks'.length := MapIn.len ⟨es', h2, h3, h4, h5⟩
            have := getObj_map (P := C.P) (show w.heap[b]? = some (.map es.toArray c) from hs.sub _ _ h1)
            exact ⟨.int .i64 (ks'.length : Nat), by simp [builtin, Builtin.len_, run_underlying hkd, goInt, this, h6], Rep.int, rfl⟩
          · rename_i id
            split at hp
            · rename_i ks' vs' hb
              simp only [Option.some.injEq] at hp; subst hp
              obtain ⟨f, h1, es, cl, h2, h3⟩ := hs.blk id _ (hget_of hb rfl) rfl
              unfold Rep at hu
              obtain ⟨f', h4, rfl⟩ := hu
              rw [h1] at h4
              cases h4
              have := getObj_map (P := C.P) h2
              exact ⟨.int .i64 (ks'.length : Nat), by simp [builtin, Builtin.len_, run_underlying hkd, goInt, this, h3.len], Rep.int, rfl⟩
            · cases hp
          · cases hp
        · cases h
      · cases h
    · cases h
  · cases h

theorem minR_sound {P : Program} : ∀ {r : List V} {x : V} {v : V} {u : Value} {us : List Value}, minR x r = some v → Rep m x I u → RepL m r I us → ∃ u', (us.foldlM Builtin.min2 u).run P w = .ok u' w ∧ Rep m v I u'
  | [], x, v, u, us, h, hx, hr => by
    simp only [minR, Option.some.injEq] at h
    subst h
    unfold RepL at hr
    subst hr
    exact ⟨u, by simp, hx⟩
  | y :: r, x, v, u, us, h, hx, hr => by
    unfold minR at h
    split at h
    · rename_i h1; cases h1
    · rename_i k p k' q r' h1
      cases h1
      split at h
      · rename_i he
        rw [kindEq_iff] at he
        subst he
        unfold RepL at hr
        obtain ⟨u2, us', rfl, hy, hr'⟩ := hr
        obtain ⟨u', h2, h3⟩ := minR_sound (P := P) h (u := .int k (if q < p then q else p)) Rep.int hr'
        refine ⟨u', ?_, h3⟩
        have e2 : Builtin.min2 (.int k p) (.int k q) = pure (.int k (if q < p then q else p)) := rfl
        simp only [List.foldlM_cons, hx.lit, hy.lit, e2]
        simpa using h2
      · cases h
    · cases h

theorem maxR_sound {P : Program} : ∀ {r : List V} {x : V} {v : V} {u : Value} {us : List Value}, maxR x r = some v → Rep m x I u → RepL m r I us → ∃ u', (us.foldlM Builtin.max2 u).run P w = .ok u' w ∧ Rep m v I u'
  | [], x, v, u, us, h, hx, hr => by
    simp only [maxR, Option.some.injEq] at h
    subst h
    unfold RepL at hr
    subst hr
    exact ⟨u, by simp, hx⟩
  | y :: r, x, v, u, us, h, hx, hr => by
    unfold maxR at h
    split at h
    · rename_i h1; cases h1
    · rename_i k p k' q r' h1
      cases h1
      split at h
      · rename_i he
        rw [kindEq_iff] at he
        subst he
        unfold RepL at hr
        obtain ⟨u2, us', rfl, hy, hr'⟩ := hr
        obtain ⟨u', h2, h3⟩ := maxR_sound (P := P) h (u := .int k (if p < q then q else p)) Rep.int hr'
        refine ⟨u', ?_, h3⟩
        have e2 : Builtin.max2 (.int k p) (.int k q) = pure (.int k (if q > p then q else p)) := rfl
        simp only [List.foldlM_cons, hx.lit, hy.lit, e2]
        simpa using h2
      · cases h
    · cases h

theorem bi_min {vs : List V} {us : List Value} {ats : Array TypeId} {cs : Array Bool} (hv : RepL m vs I us) (h : biMin vs = some e) : ∃ u, (builtin .min ats ty cs us.toArray).run C.P w = .ok (.value u) w ∧ Rep m e.v I u ∧ e.wr = [] := by
  unfold biMin at h
  split at h
  · rename_i x r
    obtain ⟨h1, h2⟩ := pureO_eq h
    unfold RepL at hv
    obtain ⟨u, us', rfl, hx, hr⟩ := hv
    obtain ⟨u', h3, h4⟩ := minR_sound (P := C.P) (w := w) h1 hx hr
    exact ⟨u', by simp [builtin, Builtin.min_, h3], h4, h2⟩
  · cases h

theorem bi_max {vs : List V} {us : List Value} {ats : Array TypeId} {cs : Array Bool} (hv : RepL m vs I us) (h : biMax vs = some e) : ∃ u, (builtin .max ats ty cs us.toArray).run C.P w = .ok (.value u) w ∧ Rep m e.v I u ∧ e.wr = [] := by
  unfold biMax at h
  split at h
  · rename_i x r
    obtain ⟨h1, h2⟩ := pureO_eq h
    unfold RepL at hv
    obtain ⟨u, us', rfl, hx, hr⟩ := hv
    obtain ⟨u', h3, h4⟩ := maxR_sound (P := C.P) (w := w) h1 hx hr
    exact ⟨u', by simp [builtin, Builtin.max_, h3], h4, h2⟩
  · cases h

/-! ### Structs and arrays that are written out -/

theorem setAt_ok {α : Type} : ∀ (r c : List α) (off : Nat), off + r.length ≤ c.length → ∃ c', setAt c off r = some c'
  | [], c, off, _ => ⟨c, rfl⟩
  | v :: r, c, off, h => by
    simp only [List.length_cons] at h
    have hlt : off < c.length := by omega
    simp only [setAt, get_eq, List.getElem?_eq_getElem hlt]
    exact setAt_ok r (set c off v) (off + 1) (by rw [set_eq, List.length_set]; omega)

theorem CellsRep.setAt {cs r cs' : List V} {c d c' : List Value} {off : Nat} (h : CellsRep m I cs c) (hr : CellsRep m I r d) (h1 : Am.setAt cs off r = some cs') (h2 : Am.setAt c off d = some c') : CellsRep m I cs' c' := by
  obtain ⟨a1, a2, a3⟩ := setAt_eq _ _ _ _ h1
  obtain ⟨b1, b2, b3⟩ := setAt_eq _ _ _ _ h2
  have hl := hr.1.len
  refine ⟨RepL.mk (by rw [b1, a1]; exact h.1.len) fun i v u hv hu => ?_, fun x hx => ?_⟩
  · rw [a3] at hv
    rw [b3] at hu
    rw [hl] at hu
    split at hv
    · rename_i hc
      rw [if_pos hc] at hu
      obtain ⟨u', h3, h4⟩ := hr.1.get hv
      rw [hu] at h3; cases h3; exact h4
    · rename_i hc
      rw [if_neg hc] at hu
      obtain ⟨u', h3, h4⟩ := h.1.get hv
      rw [hu] at h3; cases h3; exact h4
  · obtain ⟨i, hi⟩ := List.mem_iff_getElem?.1 hx
    rw [b3] at hi
    split at hi
    · exact hr.2 x (List.mem_of_getElem? hi)
    · exact h.2 x (List.mem_of_getElem? hi)

theorem foldl_setAt : ∀ (vs : List Value) (k : Nat) (c c' : List Value) (off : Nat), Am.setAt c (off + k) vs = some c' → ((vs.zipIdx k).foldl (fun (cs : Array Value) (p : Value × Nat) => cs.setIfInBounds (off + p.2) p.1) c.toArray) = c'.toArray
  | [], _, c, c', _, h => by simp only [Am.setAt, Option.some.injEq] at h; subst h; simp
  | v :: r, k, c, c', off, h => by
    simp only [Am.setAt] at h
    split at h
    · simp only [List.zipIdx_cons, List.foldl_cons]
      rw [set_eq] at h
      have := foldl_setAt r (k + 1) (c.set (off + k) v) c' off (by rw [show off + (k + 1) = off + k + 1 by omega]; exact h)
      rw [← this]
      simp
    · cases h

/-- Parts of a literal, abstract and concrete. -/
inductive PartsRep (m : Mem) (I : Ij) : List (Nat × V) → List (Nat × Value) → Prop where
  | nil : PartsRep m I [] []
  | cons {i : Nat} {v : V} {u : Value} {l : List (Nat × V)} {r : List (Nat × Value)} : Rep m v I u → PartsRep m I l r → PartsRep m I ((i, v) :: l) ((i, u) :: r)

theorem kparts_rep (hs : Slots m I K a.tmps) : ∀ {xs : List (Nat × Operand)} {vs : List (Nat × V)}, kparts K xs = some vs → PartsRep m I vs (xs.map fun p => (p.1, a.eval p.2))
  | [], vs, h => by simp only [kparts, Option.some.injEq] at h; subst h; exact .nil
  | (i, x) :: r, vs, h => by
    simp only [kparts] at h
    cases hx : kev K x with
    | none => rw [hx] at h; cases h
    | some v =>
      cases hr : kparts K r with
      | none => rw [hx, hr] at h; cases h
      | some vs' =>
        rw [hx, hr] at h
        simp only [Option.some.injEq] at h
        subst h
        exact .cons (kev_rep hs hx) (kparts_rep hs hr)

theorem fillA_sound {place fplace : Nat → Option (Nat × Nat)} (hp : ∀ i p, place i = some p → fplace i = some p ∧ p.2 ≠ 0) : ∀ {l : List (Nat × V)} {us : List (Nat × Value)} {cs : List V} {c : List Value} {cs' : List V}, PartsRep m I l us → CellsRep m I cs c → fillA place cs l = some cs' →
    ∃ c', Instr.fill fplace c.toArray us = some c'.toArray ∧ CellsRep m I cs' c'
  | [], us, cs, c, cs', hl, hc, h => by
    cases hl
    simp only [fillA, Option.some.injEq] at h
    subst h
    exact ⟨c, rfl, hc⟩
  | (i, v) :: l, us, cs, c, cs', hl, hc, h => by
    cases hl
    rename_i u us hu hl
    simp only [fillA] at h
    cases hpi : place i with
    | none => rw [hpi] at h; cases h
    | some p =>
      obtain ⟨off, size⟩ := p
      rw [hpi] at h
      simp only at h
      split at h
      · rename_i hb
        rw [Bool.and_eq_true] at hb
        have hsz := Nat.eq_of_beq_eq_true hb.1
        split at h
        · rename_i cs1 hset
          obtain ⟨hfp, hne⟩ := hp i _ hpi
          simp only at hne
          have hcell := hu.cellsRep hb.2
          obtain ⟨_, h2, _⟩ := setAt_eq _ _ _ _ hset
          have hne' : v.cells ≠ [] := by intro e; rw [e] at hsz; exact hne hsz.symm
          have h3 := h2 hne'
          have hul : u.cells.size = size := by rw [hu.size, hsz]
          have hcl := hc.1.len
          obtain ⟨c1, hc1⟩ := setAt_ok u.cells.toList c off (by simp; omega)
          obtain ⟨c', h4, h5⟩ := fillA_sound hp hl (hc.setAt hcell hset hc1) h
          refine ⟨c', ?_, h5⟩
          simp only [Instr.fill, hfp]
          rw [if_neg (by simp; omega), ← h4]
          congr 1
          have := foldl_setAt u.cells.toList 0 c c1 off (by simpa using hc1)
          rw [← this, ← Array.foldl_toList]
          simp
        · cases h
      · cases h

theorem FldsOK.places {P : Program} : ∀ {ps : List Fld} {fs : List Field}, FldsOK P ps fs → ∀ w, (fs.mapM fun f => Functor.map (Prod.mk f.offset) (Go.sizeOf f.type)).run P w = .ok (ps.map fun p => (p.off, p.size)) w
  | [], [], _, w => by simp
  | o :: os, f :: fs, hf, w => by
    have ih := FldsOK.places hf.2.2.2.2.2 w
    simp [List.mapM_cons, hf.2.2.1 w, ih, hf.1]
  | _ :: _, [], hf, _ => hf.elim
  | [], _ :: _, hf, _ => hf.elim

theorem TI.zeroCells {P : Program} {t : Nat} {T : TI} (hT : TIOK P t T) : CellsRep m I (T.zs.map .lit) T.zs :=
  ⟨RepL.lits _ hT.zone, fun x hx => List.all_eq_true.1 hT.zone x hx⟩

theorem op_build (hC : C.OK) (hs : Sim I m H w) (hk : Slots m I K a.tmps) {t : Nat} {ps : Array (Nat × Operand)} (h : effBuild C K t ps.toList = some e) : OpOut C.P ⟨dst, .build t ps, ty, pos, after, g⟩ a I m H lo w e.v (puts H e.wr) := by
  unfold effBuild at h
  split at h
  · rename_i T l hT hl
    have hTI := hC.ty _ _ hT
    have hkd := hTI.kd
    have hpr := kparts_rep hk hl
    have hz := TI.zeroCells (m := m) (I := I) hTI
    have hm : (ps.map fun (p : Nat × Operand) => (p.1, a.eval p.2)).toList = ps.toList.map fun p => (p.1, a.eval p.2) := by simp
    have fin : ∀ {cs : List V} {c' : List Value}, CellsRep m I cs c' → (execOp a.eval ⟨dst, .build t ps, ty, pos, after, g⟩).run C.P w = .ok (.value (.agg c'.toArray)) w → OpOut C.P ⟨dst, .build t ps, ty, pos, after, g⟩ a I m H lo w (.agg cs) H := by
      intro cs c' h1 h2
      refine OpOut.pure hs h2 ?_
      unfold Rep
      exact ⟨c', rfl, h1.2, h1.1⟩
    split at h
    · rename_i fs hk'
      rw [hk'] at hkd
      obtain ⟨fs', hu, hf, _⟩ := hkd
      unfold aggO at h
      split at h
      · rename_i cs hcs
        simp only [Option.some.injEq] at h
        subst h
        have hpl := FldsOK.places hf w
        obtain ⟨c', h1, h2⟩ := fillA_sound (place := fldPlace fs) (fplace := fun i => (fs.map fun p => (p.off, p.size))[i]?) (fun i p hp => by
          unfold fldPlace at hp
          split at hp
          · rename_i q hq
            simp only [Option.some.injEq] at hp
            subst hp
            obtain ⟨_, _, _, h3, _⟩ := hf.get hq
            rw [get_eq] at hq
            exact ⟨by simp [hq], h3⟩
          · cases hp) hpr hz hcs
        have hmm : (fs'.mapM fun f => Functor.map (Prod.mk f.offset) (Go.sizeOf f.type)).run C.P w = .ok (fs.map fun p => (p.off, p.size)).toArray w := by
          rw [Array.mapM_eq_mapM_toList]
          simp [hpl]
        have h1' : Instr.fill (fun x => Option.map (fun p => (p.off, p.size)) fs[x]?) T.zs.toArray (List.map (fun p => (p.fst, a.eval p.snd)) ps.toList) = some c'.toArray := by
          rw [← h1]
          congr 1
          funext i
          simp
        exact fin h2 (by simp [execOp, Instr.build, hTI.zero, TI.zero_cells hTI, run_underlying hu, hmm, h1'])
      · cases h
    · rename_i n el es hk'
      rw [hk'] at hkd
      obtain ⟨hu, hsz, _⟩ := hkd
      split at h
      · cases h
      rename_i hes
      unfold aggO at h
      split at h
      · rename_i cs hcs
        simp only [Option.some.injEq] at h
        subst h
        obtain ⟨c', h1, h2⟩ := fillA_sound (place := fun i => some (i * es, es)) (fplace := fun i => some (i * es, es)) (fun i p hp => ⟨hp, by simp only [Option.some.injEq] at hp; subst hp; exact hes⟩) hpr hz hcs
        exact fin h2 (by simp [execOp, Instr.build, hTI.zero, TI.zero_cells hTI, run_underlying hu, hsz, h1])
      · cases h
    · cases h
  · cases h

end
end Go.Am
