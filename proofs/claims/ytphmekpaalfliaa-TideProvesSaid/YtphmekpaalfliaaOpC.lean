/- Operators, comparing and lengths of the abstract machine are those of the model. Conditions: none. -/
import Derived.Test.YtphmekpaalfliaaOpB
import Derived.ChangeKeysEq
import Derived.Laws.StructEq
set_option linter.unusedVariables false
set_option linter.unusedSimpArgs false
namespace Go.Am
open Go Go.Wk

section
variable {C : Cfg} {I : Ij} {m : Mem} {H : List Blk} {w : World} {K : List (Nat × V)} {a : Act} {lo nid : Nat} {dst : Option Tmp} {ty : TypeId} {pos : String} {after : Array Edge} {g : Option (Nat × Bool)} {e : Eff}

theorem eqParts_sound (hC : C.OK) {f : Nat → V → V → Option Bool} {D : Nat} {xs ys : List V} {us us' : List Value} (hx : CellsRep m I xs us) (hy : CellsRep m I ys us')
    (IH : ∀ t x y b u u', f t x y = some b → Rep m x I u → Rep m y I u' → (Op.equalIn D t u u').run C.P w = .ok b w) :
    ∀ {ps : List Fld} {fs : List Field} {b : Bool}, FldsOK C.P ps fs → eqParts f (fun t off cs => match C.ty t with | some T => partA T off cs | none => none) xs ys ps = some b → (Op.eqFields D us.toArray us'.toArray fs).run C.P w = .ok b w
  | [], [], b, _, h => by simp only [eqParts, Option.some.injEq] at h; subst h; simp [Op.eqFields]
  | p :: ps, fd :: fs, b, hf, h => by
    simp only [eqParts] at h
    obtain ⟨h1, h2, h3, h4, h5, h6⟩ := hf
    cases hT : C.ty p.ty with
    | none => rw [hT] at h; cases h
    | some T =>
      rw [hT] at h
      simp only at h
      cases hpx : partA T p.off xs with
      | none => rw [hpx] at h; cases h
      | some x =>
        cases hpy : partA T p.off ys with
        | none => rw [hpx, hpy] at h; cases h
        | some y =>
          rw [hpx, hpy] at h
          simp only at h
          have hTI := hC.ty _ _ hT
          obtain ⟨u, h7, h8⟩ := partA_rep hTI hx hpx
          obtain ⟨u', h9, h10⟩ := partA_rep hTI hy hpy
          have r1 := run_part hTI h8 w
          have r2 := run_part hTI h10 w
          rw [← h4, ← h1] at r1 r2
          cases hfe : f p.ty x y with
          | none => rw [hfe] at h; cases h
          | some r =>
            rw [hfe] at h
            have r3 := IH _ _ _ _ _ _ hfe h7 h9
            rw [← h4] at r3
            simp only [Op.eqFields, h5, ne_eq, not_false_eq_true, if_true, Sem.run_bind, r1, r2, r3, Result.andThen_ok]
            cases r with
            | true => simpa using eqParts_sound hC hx hy IH h6 h
            | false => simp only [Option.some.injEq] at h; subst h; simp
  | [], _ :: _, _, hf, _ => hf.elim
  | _ :: _, [], _, hf, _ => hf.elim

theorem eqElems_sound {f : V → V → Option Bool} {P : Program} {t es : Nat} {T : TI} (hT : TIOK P t T) {D : Nat} {xs ys : List V} {us us' : List Value} (hx : CellsRep m I xs us) (hy : CellsRep m I ys us')
    (IH : ∀ x y b u u', f x y = some b → Rep m x I u → Rep m y I u' → (Op.equalIn D t u u').run P w = .ok b w) :
    ∀ {n i : Nat} {b : Bool}, eqElems f (fun off cs => partA T off cs) es xs ys n i = some b → (Op.eqItems D t es us.toArray us'.toArray (List.range' i n)).run P w = .ok b w
  | 0, i, b, h => by simp only [eqElems, Option.some.injEq] at h; subst h; simp [Op.eqItems]
  | n + 1, i, b, h => by
    simp only [eqElems] at h
    cases hpx : partA T (i * es) xs with
    | none => rw [hpx] at h; cases h
    | some x =>
      cases hpy : partA T (i * es) ys with
      | none => rw [hpx, hpy] at h; cases h
      | some y =>
        rw [hpx, hpy] at h
        simp only at h
        obtain ⟨u, h7, h8⟩ := partA_rep hT hx hpx
        obtain ⟨u', h9, h10⟩ := partA_rep hT hy hpy
        have r1 := run_part hT h8 w
        have r2 := run_part hT h10 w
        cases hfe : f x y with
        | none => rw [hfe] at h; cases h
        | some r =>
          rw [hfe] at h
          have r3 := IH _ _ _ _ _ hfe h7 h9
          simp only [List.range'_succ, Op.eqItems, Sem.run_bind, r1, r2, r3, Result.andThen_ok]
          cases r with
          | true => simpa using eqElems_sound hT hx hy IH h
          | false => simp only [Option.some.injEq] at h; subst h; simp

theorem eqT_sound (hC : C.OK) : ∀ (d : Nat) (t : Nat) (x y : V) (b : Bool) (u u' : Value), eqT C.ty d t x y = some b → Rep m x I u → Rep m y I u' → ∀ D, (Op.equalIn (D + d) t u u').run C.P w = .ok b w
  | 0, t, x, y, b, u, u', h, _, _, _ => by cases h
  | d + 1, t, x, y, b, u, u', h, hx, hy, D => by
    simp only [eqT] at h
    cases hT : C.ty t with
    | none => rw [hT] at h; cases h
    | some T =>
      rw [hT] at h
      simp only at h
      have hTI := hC.ty _ _ hT
      have hkd := hTI.kd
      split at h
      · rename_i hk
        rw [hk] at hkd
        split at h
        · rename_i he
          rw [kindEq_iff] at he
          subst he
          simp only [Option.some.injEq] at h
          subst h
          rw [hx.lit, hy.lit, show D + (d + 1) = (D + d) + 1 from rfl, run_equalIn_int _ _ _ _ _ _ _ hkd]; rfl
        · cases h
      · rename_i hk
        rw [hk] at hkd
        simp only [Option.some.injEq] at h
        subst h
        rw [hx.lit, hy.lit, show D + (d + 1) = (D + d) + 1 from rfl, run_equalIn_bool' _ _ _ _ _ hkd]
      · rename_i ps xs ys hk
        rw [hk] at hkd
        obtain ⟨fs, hu, hf, hst, _⟩ := hkd
        unfold Rep at hx hy
        obtain ⟨us, rfl, h1, h2⟩ := hx
        obtain ⟨us', rfl, h3, h4⟩ := hy
        have hfs : C.P.fieldsOf t = fs := by simp [Program.fieldsOf, hu]
        rw [show D + (d + 1) = (D + d) + 1 from rfl, run_equalIn_struct _ _ _ _ _ (by rw [hfs]; exact hu) hst, hfs]
        exact eqParts_sound hC (f := eqT C.ty d) ⟨h2, h1⟩ ⟨h4, h3⟩ (fun t x y b u u' hq hx hy => eqT_sound hC d t x y b u u' hq hx hy D) hf h
      · rename_i n el es xs ys hk
        rw [hk] at hkd
        obtain ⟨hu, hes, _⟩ := hkd
        unfold Rep at hx hy
        obtain ⟨us, rfl, h1, h2⟩ := hx
        obtain ⟨us', rfl, h3, h4⟩ := hy
        cases hTe : C.ty el with
        | none =>
          rw [hTe] at h
          cases n with
          | zero =>
            simp only [eqElems, Option.some.injEq] at h
            subst h
            have : ∃ i, C.P.info? el = some i := by
              have := hes w
              unfold Go.sizeOf typeInfo at this
              cases hq : C.P.info? el with
              | some i => exact ⟨i, rfl⟩
              | none => simp [hq, Sem.run, program, stuck] at this
            obtain ⟨i, hi⟩ := this
            rw [show D + (d + 1) = (D + d) + 1 from rfl, run_equalIn_array _ _ _ _ hu hi]
            simp [Op.eqItems]
          | succ n => simp only [eqElems] at h; cases h
        | some Te =>
          rw [hTe] at h
          have hTe' := hC.ty _ _ hTe
          obtain ⟨i, hi, _, hsz, _⟩ := hTe'.get
          have hce : C.P.cellsOf el = es := by
            have h5 := hes w
            have h6 := hTe'.size w
            rw [h5] at h6
            simp only [Result.ok.injEq, and_true] at h6
            unfold Program.cellsOf
            rw [hi]
            simp [hsz, h6]
          rw [show D + (d + 1) = (D + d) + 1 from rfl, run_equalIn_array _ _ _ _ hu hi, hce, List.range_eq_range']
          exact eqElems_sound (f := eqT C.ty d el) hTe' ⟨h2, h1⟩ ⟨h4, h3⟩ (fun x y b u u' hq hx hy => eqT_sound hC d el x y b u u' hq hx hy D) h
      · cases h

theorem Rep.ptr_some {v : V} {u : Value} (h : Rep m v I u) (hv : (∃ a b c, v = .ptr a b c) ∨ (∃ a b c, v = .fptr a b c)) : ∃ ad, u = .pointer (some ad) := by
  rcases hv with ⟨x, y, z, rfl⟩ | ⟨x, y, z, rfl⟩
  · unfold Rep at h; obtain ⟨f, _, rfl⟩ := h; exact ⟨_, rfl⟩
  · unfold Rep at h; obtain ⟨b, o, es, rfl, _⟩ := h; exact ⟨_, rfl⟩

theorem Rep.map_some {v : V} {u : Value} (h : Rep m v I u) (hv : (∃ a, v = .map a) ∨ (∃ a b, v = .fmap a b)) : ∃ b, u = .map (some b) := by
  rcases hv with ⟨x, rfl⟩ | ⟨x, y, rfl⟩
  · unfold Rep at h; obtain ⟨f, _, rfl⟩ := h; exact ⟨_, rfl⟩
  · unfold Rep at h; obtain ⟨b, es, es', c, rfl, _⟩ := h; exact ⟨_, rfl⟩

theorem eq_ptr1D {P : Program} (d : Nat) {t el : Nat} (hu : P.underlying t = some (.pointer el)) (p : Option Addr) : (Op.equalIn (d + 1) t (.pointer none) (.pointer p)).run P w = .ok p.isNone w := by
  simp [Op.equalIn, run_underlying hu]
theorem eq_ptr1 {P : Program} {t el : Nat} (hu : P.underlying t = some (.pointer el)) (p : Option Addr) : (Op.equal t (.pointer none) (.pointer p)).run P w = .ok p.isNone w := eq_ptr1D 9999 hu p
theorem eq_ptr2D {P : Program} (d : Nat) {t el : Nat} (hu : P.underlying t = some (.pointer el)) (p : Addr) : (Op.equalIn (d + 1) t (.pointer (some p)) (.pointer none)).run P w = .ok false w := by
  simp [Op.equalIn, run_underlying hu]
theorem eq_ptr2 {P : Program} {t el : Nat} (hu : P.underlying t = some (.pointer el)) (p : Addr) : (Op.equal t (.pointer (some p)) (.pointer none)).run P w = .ok false w := eq_ptr2D 9999 hu p
theorem eq_map1D {P : Program} (d : Nat) {t k el : Nat} (hu : P.underlying t = some (.map k el)) (p : Option Nat) : (Op.equalIn (d + 1) t (.map none) (.map p)).run P w = .ok p.isNone w := by
  simp [Op.equalIn, run_underlying hu]
theorem eq_map1 {P : Program} {t k el : Nat} (hu : P.underlying t = some (.map k el)) (p : Option Nat) : (Op.equal t (.map none) (.map p)).run P w = .ok p.isNone w := eq_map1D 9999 hu p
theorem eq_map2D {P : Program} (d : Nat) {t k el : Nat} (hu : P.underlying t = some (.map k el)) (p : Nat) : (Op.equalIn (d + 1) t (.map (some p)) (.map none)).run P w = .ok false w := by
  simp [Op.equalIn, run_underlying hu]
theorem eq_map2 {P : Program} {t k el : Nat} (hu : P.underlying t = some (.map k el)) (p : Nat) : (Op.equal t (.map (some p)) (.map none)).run P w = .ok false w := eq_map2D 9999 hu p
theorem eq_fn0D {P : Program} (d : Nat) {t : Nat} {x y z} (hu : P.underlying t = some (.func x y z)) : (Op.equalIn (d + 1) t .nilFunc .nilFunc).run P w = .ok true w := by
  simp [Op.equalIn, run_underlying hu]
theorem eq_fn0 {P : Program} {t : Nat} {x y z} (hu : P.underlying t = some (.func x y z)) : (Op.equal t .nilFunc .nilFunc).run P w = .ok true w := eq_fn0D 9999 hu
theorem eq_fn1D {P : Program} (d : Nat) {t : Nat} {x y z} (hu : P.underlying t = some (.func x y z)) {f : Fn} {l c : Array Value} : (Op.equalIn (d + 1) t .nilFunc (.func f l c)).run P w = .ok false w := by
  simp [Op.equalIn, run_underlying hu]
theorem eq_fn1 {P : Program} {t : Nat} {x y z} (hu : P.underlying t = some (.func x y z)) {f : Fn} {l c : Array Value} : (Op.equal t .nilFunc (.func f l c)).run P w = .ok false w := eq_fn1D 9999 hu
theorem eq_fn2D {P : Program} (d : Nat) {t : Nat} {x y z} (hu : P.underlying t = some (.func x y z)) {f : Fn} {l c : Array Value} : (Op.equalIn (d + 1) t (.func f l c) .nilFunc).run P w = .ok false w := by
  simp [Op.equalIn, run_underlying hu]
theorem eq_fn2 {P : Program} {t : Nat} {x y z} (hu : P.underlying t = some (.func x y z)) {f : Fn} {l c : Array Value} : (Op.equal t (.func f l c) .nilFunc).run P w = .ok false w := eq_fn2D 9999 hu

/-- == of two values of a type. -/
theorem eqA_sound (hC : C.OK) {t : Nat} {x y : V} {b : Bool} {u u' : Value} (h : eqA C.ty t x y = some b) (hx : Rep m x I u) (hy : Rep m y I u') : (Op.equal t u u').run C.P w = .ok b w := by
  unfold eqA at h
  cases hT : C.ty t with
  | none => rw [hT] at h; cases h
  | some T =>
    rw [hT] at h
    simp only at h
    have hkd := (hC.ty _ _ hT).kd
    split at h
    · rename_i hk
      rw [hk] at hkd
      obtain ⟨el, hu⟩ := hkd
      unfold eqPtr at h
      split at h
      · simp only [Option.some.injEq] at h; subst h
        rw [hx.lit, hy.lit]; exact eq_ptr1 hu none
      · simp only [Option.some.injEq] at h; subst h
        obtain ⟨ad, rfl⟩ := hy.ptr_some (.inl ⟨_, _, _, rfl⟩)
        rw [hx.lit]; exact eq_ptr1 hu _
      · simp only [Option.some.injEq] at h; subst h
        obtain ⟨ad, rfl⟩ := hy.ptr_some (.inr ⟨_, _, _, rfl⟩)
        rw [hx.lit]; exact eq_ptr1 hu _
      · simp only [Option.some.injEq] at h; subst h
        obtain ⟨ad, rfl⟩ := hx.ptr_some (.inl ⟨_, _, _, rfl⟩)
        rw [hy.lit]; exact eq_ptr2 hu _
      · simp only [Option.some.injEq] at h; subst h
        obtain ⟨ad, rfl⟩ := hx.ptr_some (.inr ⟨_, _, _, rfl⟩)
        rw [hy.lit]; exact eq_ptr2 hu _
      · cases h
    · rename_i k' e' hk
      rw [hk] at hkd
      unfold eqMap at h
      split at h
      · simp only [Option.some.injEq] at h; subst h
        rw [hx.lit, hy.lit]; exact eq_map1 hkd none
      · simp only [Option.some.injEq] at h; subst h
        obtain ⟨ad, rfl⟩ := hy.map_some (.inl ⟨_, rfl⟩)
        rw [hx.lit]; exact eq_map1 hkd _
      · simp only [Option.some.injEq] at h; subst h
        obtain ⟨ad, rfl⟩ := hy.map_some (.inr ⟨_, _, rfl⟩)
        rw [hx.lit]; exact eq_map1 hkd _
      · simp only [Option.some.injEq] at h; subst h
        obtain ⟨ad, rfl⟩ := hx.map_some (.inl ⟨_, rfl⟩)
        rw [hy.lit]; exact eq_map2 hkd _
      · simp only [Option.some.injEq] at h; subst h
        obtain ⟨ad, rfl⟩ := hx.map_some (.inr ⟨_, _, rfl⟩)
        rw [hy.lit]; exact eq_map2 hkd _
      · cases h
    · rename_i hk
      rw [hk] at hkd
      obtain ⟨q1, q2, q3, hu⟩ := hkd
      unfold eqFn at h
      split at h
      · simp only [Option.some.injEq] at h; subst h
        rw [hx.lit, hy.lit]; exact eq_fn0 hu
      · simp only [Option.some.injEq] at h; subst h
        unfold Rep at hy
        obtain ⟨us, rfl, _⟩ := hy
        rw [hx.lit]; exact eq_fn1 hu
      · simp only [Option.some.injEq] at h; subst h
        unfold Rep at hx
        obtain ⟨us, rfl, _⟩ := hx
        rw [hy.lit]; exact eq_fn2 hu
      · cases h
    · exact eqT_sound hC 6 t x y b u u' h hx hy 9994

theorem run_shift {P : Program} {op : BinOp} {t : Nat} {k k' : IntKind} {p q : Int} {v : V} (hop : op = .shl ∨ op = .shr) (h : shiftA op k p q = some v) : ∃ u, v = .lit u ∧ (∀ c, u ≠ .agg c) ∧ (binOp op t (.int k p) (.int k' q)).run P w = .ok u w := by
  unfold shiftA at h
  split at h
  · cases h
  · rename_i hq
    rcases hop with rfl | rfl
    · simp only [Option.some.injEq] at h
      refine ⟨_, h.symm, ?_, ?_⟩
      · intro c hc; cases hc
      · simp [binOp, Op.shift, hq]
    · simp only [Option.some.injEq] at h
      refine ⟨_, h.symm, ?_, ?_⟩
      · intro c hc; cases hc
      · simp [binOp, Op.shift, hq]


/-- The guard of == and != lets every comparing by that passes the tests here. -/
theorem eqGuard_ok (hC : C.OK) {op : BinOp} {t : Nat} {x y : Operand} {u u' : Value} {p q : V} (hx : Rep m p I u) (hy : Rep m q I u') (h : ∀ b, eqA C.ty t p q = some b → True) (hq : op = .eql ∨ op = .neq → ∃ b, eqA C.ty t p q = some b ∨ ∃ k n, u = .int k n) :
    (eqGuard op t x y u u').run C.P w = .ok () w := by
  by_cases hop : op = .eql ∨ op = .neq
  · obtain ⟨b, hb⟩ := hq hop
    have hagg : ∀ cs cs', u = .agg cs → u' = .agg cs' → C.P.eqGuardType C.P.depth t = false := by
      rintro cs cs' rfl rfl
      rcases hb with hb | ⟨k, n, hb⟩
      · unfold eqA at hb
        cases hT : C.ty t with
        | none => rw [hT] at hb; cases hb
        | some T =>
          rw [hT] at hb
          have hkd := (hC.ty _ _ hT).kd
          simp only [eqT, hT] at hb
          split at hb
          · unfold eqPtr at hb; split at hb <;> first | (have := hx.lit; cases this; done) | (have := hy.lit; cases this; done) | cases hb
          · unfold eqMap at hb; split at hb <;> first | (have := hx.lit; cases this; done) | (have := hy.lit; cases this; done) | cases hb
          · unfold eqFn at hb; split at hb <;> first | (have := hx.lit; cases this; done) | (have := hy.lit; cases this; done) | cases hb
          · split at hb
            · have := hx.lit; cases this
            · have := hx.lit; cases this
            · rename_i hk; rw [hk] at hkd; obtain ⟨_, _, _, _, h5⟩ := hkd; exact h5
            · rename_i hk; rw [hk] at hkd; exact hkd.2.2
            · cases hb
      · cases hb
    have hni : ∀ b', u = .nilIface → u' = .nilIface → b' = b → False := by
      rintro b' rfl rfl _
      rcases hb with hb | ⟨k, n, hb⟩
      · unfold eqA at hb
        cases hT : C.ty t with
        | none => rw [hT] at hb; cases hb
        | some T =>
          rw [hT] at hb
          simp only [eqT, hT] at hb
          split at hb
          · unfold eqPtr at hb; split at hb <;> first | (have := hx.lit; cases this; done) | (have := hy.lit; cases this; done) | cases hb
          · unfold eqMap at hb; split at hb <;> first | (have := hx.lit; cases this; done) | (have := hy.lit; cases this; done) | cases hb
          · unfold eqFn at hb; split at hb <;> first | (have := hx.lit; cases this; done) | (have := hy.lit; cases this; done) | cases hb
          · split at hb
            · have := hx.lit; cases this
            · have := hx.lit; cases this
            · unfold Rep at hx; obtain ⟨us, h1, _⟩ := hx; cases h1
            · unfold Rep at hx; obtain ⟨us, h1, _⟩ := hx; cases h1
            · cases hb
      · cases hb
    have hop' : (!(match op with | .eql => true | .neq => true | _ => false)) = false := by rcases hop with rfl | rfl <;> rfl
    unfold eqGuard
    rcases hop with rfl | rfl
    all_goals
      simp only [Bool.not_true, Bool.false_eq_true, if_false]
      split
      · exact (hni b rfl rfl rfl).elim
      · simp [run_program, hagg _ _ rfl rfl]
      · simp
  · cases op <;> first | (exact absurd (.inl rfl) hop) | (exact absurd (.inr rfl) hop) | simp [eqGuard]

end
end Go.Am
