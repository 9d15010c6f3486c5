/- Operations of the abstract machine are those of the model: what types are, values of operands, pure operations. Conditions: none. -/
import Derived.Test.YtphmekpaalfliaaSim
set_option linter.unusedVariables false
set_option linter.unusedSimpArgs false
namespace Go.Am
open Go Go.Wk

def TI.zeroC (T : TI) : Value := if T.agg then .agg T.zs.toArray else T.zs.headD undef

def FldsOK (P : Program) : List Fld → List Field → Prop
  | [], [] => True
  | p :: ps, f :: fs => f.offset = p.off ∧ p.size ≠ 0 ∧ (∀ w, (Go.sizeOf f.type).run P w = .ok p.size w) ∧ f.type = p.ty ∧ f.name ≠ "_" ∧ FldsOK P ps fs
  | _, _ => False

structure TIOK (P : Program) (t : Nat) (T : TI) : Prop where
  agg : ∀ w, (isAgg t).run P w = .ok T.agg w
  size : ∀ w, (Go.sizeOf t).run P w = .ok T.size w
  zero : ∀ w, (zeroValue t).run P w = .ok T.zeroC w
  zlen : T.zs.length = T.size
  zone : T.zs.all (·.oneCell') = true
  sagg : T.agg = false → T.size = 1
  pos : 0 < T.size
  info : (P.info? t).map (fun i => (i.zero, i.size, i.bytes)) = some (some T.zeroC, T.size, T.bytes)
  kd : match T.kd with
    | .plain => True
    | .int k => P.underlying t = some (.int k)
    | .bool => P.underlying t = some .bool
    | .ptr => ∃ e, P.underlying t = some (.pointer e)
    | .func => ∃ a b c, P.underlying t = some (.func a b c)
    | .struct ps => ∃ fs : Array Field, P.underlying t = some (.struct fs) ∧ FldsOK P ps fs.toList ∧ P.stoodInHeld t = false ∧ P.eqGuardType P.depth t = false
    | .slice e es => P.underlying t = some (.slice e) ∧ ∀ w, (Go.sizeOf e).run P w = .ok es w
    | .arr len e es => P.underlying t = some (.array len e) ∧ (∀ w, (Go.sizeOf e).run P w = .ok es w) ∧ P.eqGuardType P.depth t = false
    | .map k e => P.underlying t = some (.map k e)

theorem TIOK.get {P : Program} {t : Nat} {T : TI} (h : TIOK P t T) : ∃ i, P.info? t = some i ∧ i.zero = some T.zeroC ∧ i.size = T.size ∧ i.bytes = T.bytes := by
  have := h.info
  cases hi : P.info? t with
  | none => rw [hi] at this; cases this
  | some i =>
    rw [hi] at this
    simp only [Option.map_some, Option.some.injEq, Prod.mk.injEq] at this
    exact ⟨i, rfl, this⟩

theorem TI.zero_cells {P : Program} {t : Nat} {T : TI} (h : TIOK P t T) : T.zeroC.cells = T.zs.toArray := by
  unfold TI.zeroC
  split
  · rfl
  · rename_i hb
    have h1 := h.sagg (by simpa using hb)
    have h2 := h.zlen
    rw [h1] at h2
    obtain ⟨z, hz⟩ := List.length_eq_one_iff.1 h2
    have h3 := h.zone
    rw [hz] at h3 ⊢
    simp only [List.all_cons, List.all_nil, Bool.and_true] at h3
    cases z <;> first | rfl | (simp [Value.oneCell'] at h3; done)

theorem FldsOK.get {P : Program} : ∀ {ps : List Fld} {fs : List Field}, FldsOK P ps fs → ∀ {i : Nat} {p : Fld}, get ps i = some p → ∃ f, fs[i]? = some f ∧ f.offset = p.off ∧ p.size ≠ 0 ∧ (∀ w, (Go.sizeOf f.type).run P w = .ok p.size w) ∧ f.type = p.ty ∧ f.name ≠ "_"
  | [], [], _, _, _, h => by cases h
  | q :: ps, f :: fs, hf, i, p, h => by
    cases i with
    | zero =>
      simp only [Am.get, Option.some.injEq] at h
      subst h
      exact ⟨f, by simp, hf.1, hf.2.1, hf.2.2.1, hf.2.2.2.1, hf.2.2.2.2.1⟩
    | succ i =>
      obtain ⟨g, h1, h2⟩ := FldsOK.get hf.2.2.2.2.2 (i := i) (p := p) h
      exact ⟨g, by simpa using h1, h2⟩
  | [], _ :: _, hf, _, _, _ => hf.elim
  | _ :: _, [], hf, _, _, _ => hf.elim

/-- Contracts of functions that were shown elsewhere: over frozen arguments, in whatever world. -/
def ExtOK (P : Program) (f : Nat) (args : List V) (v : V) : Prop :=
  ∀ (m : Mem) (w : World) (us : List Value), m.Le (wmem w) → RepL m args Ij.none us → Calls P f us.toArray w (fun e w' => ∃ u m', e = .returned u ∧ Ext w w' ∧ m.Le m' ∧ m'.Le (wmem w') ∧ (∀ k o, m' k = some o → m k = some o ∨ w.heap.size ≤ k) ∧ Rep m' v Ij.none u)

structure Cfg.OK (C : Cfg) : Prop where
  mixed : C.P.follows .mixedOrders = true
  ty : ∀ t T, C.ty t = some T → TIOK C.P t T
  fn : ∀ f fn, C.fn f = some fn → C.P.funcs[f]? = some fn ∧ ∀ (args : Array Value) (w : World), (callFunc f args).run C.P w = .ok (.enter f args) w
  X : ∀ f args v, C.X f args v → ExtOK C.P f args v ∧ ∀ (args : Array Value) (w : World), (callFunc f args).run C.P w = .ok (.enter f args) w

section
variable {C : Cfg} {I : Ij} {m : Mem} {H : List Blk} {w : World} {K : List (Nat × V)} {a : Act} {lo nid : Nat}

theorem RepL.lits {m : Mem} {I : Ij} : ∀ (l : List Value), l.all (·.oneCell') = true → RepL m (l.map .lit) I l
  | [], _ => by simp only [List.map_nil]; unfold RepL; rfl
  | x :: r, h => by
    simp only [List.all_cons, Bool.and_eq_true] at h
    simp only [List.map_cons]
    unfold RepL
    refine ⟨x, r, rfl, ?_, RepL.lits r h.2⟩
    unfold Rep
    refine ⟨rfl, fun c hc => ?_⟩
    rw [hc] at h
    cases h.1

theorem kev_rep (hs : Slots m I K a.tmps) : ∀ {x : Operand} {v : V}, kev K x = some v → Rep m v I (a.eval x)
  | .tmp t, v, h => by
    obtain ⟨u, h1, h2⟩ := hs t v h
    have : a.eval (.tmp t) = u := by simp [Act.eval, Array.getD_eq_getD_getElem?, h1]
    rw [this]; exact h2
  | .const c, v, h => by
    show Rep m v I c
    cases c with
    | agg cs =>
      simp only [kev] at h
      split at h
      · rename_i hall
        simp only [Option.some.injEq] at h
        subst h
        unfold Rep
        exact ⟨cs.toList, by simp, fun x hx => List.all_eq_true.1 hall x hx, RepL.lits _ hall⟩
      · cases h
    | _ => simp only [kev, Option.some.injEq] at h; subst h; unfold Rep; exact ⟨rfl, fun c hc => by cases hc⟩
  | .func f, v, h => by
    simp only [kev, Option.some.injEq] at h
    subst h
    unfold Rep
    exact ⟨[], rfl, by unfold RepL; rfl⟩
  | .global g, v, h => by cases h

theorem kevs_rep (hs : Slots m I K a.tmps) : ∀ {xs : List Operand} {vs : List V}, kevs K xs = some vs → RepL m vs I (xs.map a.eval)
  | [], vs, h => by simp only [kevs, Option.some.injEq] at h; subst h; unfold RepL; rfl
  | x :: r, vs, h => by
    simp only [kevs] at h
    cases hx : kev K x with
    | none => rw [hx] at h; cases h
    | some v =>
      cases hr : kevs K r with
      | none => rw [hx, hr] at h; cases h
      | some vs' =>
        rw [hx, hr] at h
        simp only [Option.some.injEq] at h
        subst h
        simp only [List.map_cons]
        unfold RepL
        exact ⟨_, _, rfl, kev_rep hs hx, kevs_rep hs hr⟩

theorem Rep.lit {m : Mem} {v : Value} {I : Ij} {u : Value} (h : Rep m (.lit v) I u) : u = v := by unfold Rep at h; exact h.1
theorem Rep.of_lit {m : Mem} {v : Value} {I : Ij} (h : ∀ c, v ≠ .agg c) : Rep m (.lit v) I v := by unfold Rep; exact ⟨rfl, h⟩
theorem Rep.int {m : Mem} {k : IntKind} {n : Int} {I : Ij} : Rep m (.lit (.int k n)) I (.int k n) := Rep.of_lit fun c h => by cases h
theorem Rep.bool {m : Mem} {b : Bool} {I : Ij} : Rep m (.lit (.bool b)) I (.bool b) := Rep.of_lit fun c h => by cases h
theorem Rep.undef {m : Mem} {I : Ij} : Rep m undefV I undef := Rep.of_lit fun c h => by cases h

/-- The concrete cells of a value. -/
theorem Rep.size {m : Mem} : ∀ {v : V} {I : Ij} {u : Value}, Rep m v I u → u.cells.size = v.cells.length
  | .lit v, I, u, h => by
    unfold Rep at h
    obtain ⟨rfl, h2⟩ := h
    cases u <;> first | rfl | exact absurd rfl (h2 _)
  | .agg l, I, u, h => by unfold Rep at h; obtain ⟨us, rfl, _, h2⟩ := h; simpa [Value.cells, V.cells] using h2.len
  | .tup l, I, u, h => by unfold Rep at h; obtain ⟨us, rfl, h2⟩ := h; rfl
  | .ptr _ _ _, I, u, h => by unfold Rep at h; obtain ⟨f, _, rfl⟩ := h; rfl
  | .fptr _ _ _, I, u, h => by unfold Rep at h; obtain ⟨b, o, es, rfl, _⟩ := h; rfl
  | .sl _, I, u, h => by unfold Rep at h; obtain ⟨ad, cap, es, rfl, _⟩ := h; rfl
  | .osl _ _ _, I, u, h => by unfold Rep at h; obtain ⟨f, ad, _, rfl, _⟩ := h; rfl
  | .fn _ _, I, u, h => by unfold Rep at h; obtain ⟨us, rfl, _⟩ := h; rfl
  | .yld _, I, u, h => by unfold Rep at h; obtain ⟨f, _, rfl⟩ := h; rfl
  | .map _, I, u, h => by unfold Rep at h; obtain ⟨f, _, rfl⟩ := h; rfl
  | .fmap _ _, I, u, h => by unfold Rep at h; obtain ⟨b, es, es', c, rfl, _⟩ := h; rfl

/-- A value of one cell, or a row of such. -/
theorem Rep.one {m : Mem} : ∀ {v : V} {I : Ij} {u : Value}, Rep m v I u → v.one = true → u.oneCell' = true ∧ u.cells = #[u]
  | .lit v, I, u, h, ho => by
    unfold Rep at h
    obtain ⟨rfl, h2⟩ := h
    cases u <;> first | exact ⟨rfl, rfl⟩ | cases ho
  | .agg l, I, u, h, ho => by cases ho
  | .tup l, I, u, h, ho => by cases ho
  | .ptr _ _ _, I, u, h, ho => by unfold Rep at h; obtain ⟨f, _, rfl⟩ := h; exact ⟨rfl, rfl⟩
  | .fptr _ _ _, I, u, h, ho => by unfold Rep at h; obtain ⟨b, o, es, rfl, _⟩ := h; exact ⟨rfl, rfl⟩
  | .sl _, I, u, h, ho => by unfold Rep at h; obtain ⟨ad, cap, es, rfl, _⟩ := h; exact ⟨rfl, rfl⟩
  | .osl _ _ _, I, u, h, ho => by unfold Rep at h; obtain ⟨f, ad, _, rfl, _⟩ := h; exact ⟨rfl, rfl⟩
  | .fn _ _, I, u, h, ho => by unfold Rep at h; obtain ⟨us, rfl, _⟩ := h; exact ⟨rfl, rfl⟩
  | .yld _, I, u, h, ho => by unfold Rep at h; obtain ⟨f, _, rfl⟩ := h; exact ⟨rfl, rfl⟩
  | .map _, I, u, h, ho => by unfold Rep at h; obtain ⟨f, _, rfl⟩ := h; exact ⟨rfl, rfl⟩
  | .fmap _ _, I, u, h, ho => by unfold Rep at h; obtain ⟨b, es, es', c, rfl, _⟩ := h; exact ⟨rfl, rfl⟩

/-- Cells of the value, abstract and concrete. -/
def CellsRep (m : Mem) (I : Ij) (l : List V) (us : List Value) : Prop := RepL m l I us ∧ ∀ x ∈ us, x.oneCell' = true

theorem V.cells_of_one {v : V} (h : v.one = true) : v.cells = [v] := by cases v <;> first | rfl | cases h

theorem Rep.cellsRep {m : Mem} {v : V} {I : Ij} {u : Value} (h : Rep m v I u) (ho : v.ok = true) : CellsRep m I v.cells u.cells.toList := by
  cases hv : v.one with
  | true =>
    obtain ⟨h1, h2⟩ := h.one hv
    rw [h2, V.cells_of_one hv]
    refine ⟨?_, fun x hx => by simp at hx; rw [hx]; exact h1⟩
    unfold RepL
    exact ⟨u, [], rfl, h, by unfold RepL; rfl⟩
  | false =>
    cases v with
    | agg l =>
      unfold Rep at h
      obtain ⟨us, rfl, h1, h2⟩ := h
      exact ⟨by simpa [V.cells, Value.cells] using h2, by simpa [Value.cells] using h1⟩
    | _ => simp only [V.ok, hv] at ho; cases ho

theorem CellsAt.of {c : Array Value} {p es : Nat} {u : Value} (h1 : u.cells.size = es) (h2 : ∀ x ∈ u.cells, x.oneCell' = true) (h3 : ∀ j x, u.cells[j]? = some x → c[p + j]? = some x) : CellsAt c p es u :=
  ⟨h1, fun j x hx => ⟨h2 x (Array.mem_of_getElem? hx), h3 j x hx⟩⟩

theorem RepL.sub {m : Mem} {I : Ij} {l : List V} {us : List Value} (h : RepL m l I us) {off n : Nat} (hn : off + n ≤ l.length) : RepL m ((l.drop off).take n) I ((us.drop off).take n) := by
  have hl := h.len
  refine RepL.mk (by simp only [List.length_take, List.length_drop]; omega) fun i v u h1 h2 => ?_
  rw [List.getElem?_take] at h1 h2
  split at h1
  · rename_i hi
    rw [if_pos hi] at h2
    rw [List.getElem?_drop] at h1 h2
    obtain ⟨u', h3, h4⟩ := h.get h1
    rw [h2] at h3
    cases h3
    exact h4
  · cases h1

/-- A part of a row of cells: abstract and concrete. -/
theorem partA_rep {P : Program} {t : Nat} {T : TI} (hT : TIOK P t T) {l : List V} {us : List Value} (h : CellsRep m I l us) {off : Nat} {v : V} (hp : partA T off l = some v) :
    ∃ u, Rep m v I u ∧ (if T.agg then u = .agg ((us.drop off).take T.size).toArray ∧ off + T.size ≤ us.length else us[off]? = some u) := by
  unfold partA at hp
  split at hp
  · rename_i ha
    simp only [Option.map_eq_some_iff] at hp
    obtain ⟨r, h1, rfl⟩ := hp
    obtain ⟨h2, h3, h4⟩ := takeAt_eq _ _ _ _ h1
    have hpos := hT.pos
    have h5 : off + T.size ≤ l.length := by omega
    refine ⟨.agg ((us.drop off).take T.size).toArray, ?_, by rw [if_pos ha]; exact ⟨rfl, by rw [h.1.len]; exact h5⟩⟩
    unfold Rep
    refine ⟨_, rfl, fun x hx => h.2 x (List.mem_of_mem_drop (List.mem_of_mem_take hx)), ?_⟩
    rw [h4]; exact h.1.sub h5
  · rename_i ha
    rw [get_eq] at hp
    obtain ⟨u, h1, h2⟩ := h.1.get hp
    exact ⟨u, h2, by rw [if_neg ha]; exact h1⟩

/-- What an operation's run has to be. -/
def OpOut (P : Program) (o : Oper) (a : Act) (I : Ij) (m : Mem) (H : List Blk) (lo : Nat) (w : World) (v : V) (H' : List Blk) : Prop :=
  ∃ r w' I' u, (execOp a.eval o).run P w = .ok r w' ∧ (r = .value u ∨ (r = .skip ∧ u = Go.undef)) ∧ Sim I' m H' w' ∧ Rep m v I' u ∧ Fx I H lo w I' H' w'

theorem OpOut.pure {P : Program} {o : Oper} {v : V} {u : Value} (hs : Sim I m H w) (hr : (execOp a.eval o).run P w = .ok (.value u) w) (hv : Rep m v I u) : OpOut P o a I m H lo w v H :=
  ⟨_, w, I, u, hr, .inl rfl, hs, hv, Fx.rfl' _ _ _ _⟩

end
end Go.Am
