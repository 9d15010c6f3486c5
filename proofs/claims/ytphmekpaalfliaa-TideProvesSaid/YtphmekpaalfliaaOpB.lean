/- Pure operations of the abstract machine are those of the model. Conditions: none. -/
import Derived.Test.YtphmekpaalfliaaOpA
set_option linter.unusedVariables false
set_option linter.unusedSimpArgs false
namespace Go.Am
open Go Go.Wk

section
variable {C : Cfg} {I : Ij} {m : Mem} {H : List Blk} {w : World} {K : List (Nat × V)} {a : Act} {lo nid : Nat} {dst : Option Tmp} {ty : TypeId} {pos : String} {after : Array Edge} {g : Option (Nat × Bool)} {e : Eff}

theorem pureO_eq {o : Option V} (h : pureO o = some e) : o = some e.v ∧ e.wr = [] := by
  cases o with
  | none => cases h
  | some v => simp only [pureO, Option.some.injEq] at h; subst h; exact ⟨rfl, rfl⟩

theorem op_move (hs : Sim I m H w) (hk : Slots m I K a.tmps) {x : Operand} (h : pureO (kev K x) = some e) : OpOut C.P ⟨dst, .move x, ty, pos, after, g⟩ a I m H lo w e.v (puts H e.wr) := by
  obtain ⟨h1, h2⟩ := pureO_eq h
  rw [h2]
  exact OpOut.pure (u := a.eval x) hs (by simp [execOp]) (kev_rep hk h1)

theorem op_assign (hs : Sim I m H w) (hk : Slots m I K a.tmps) {x : Operand} (h : pureO (kev K x) = some e) : OpOut C.P ⟨dst, .assign x, ty, pos, after, g⟩ a I m H lo w e.v (puts H e.wr) := by
  obtain ⟨h1, h2⟩ := pureO_eq h
  rw [h2]
  exact OpOut.pure (u := a.eval x) hs (by simp [execOp]) (kev_rep hk h1)

theorem op_pick (hs : Sim I m H w) (hk : Slots m I K a.tmps) {c x y : Operand} (h : effPick K c x y = some e) : OpOut C.P ⟨dst, .pick c x y, ty, pos, after, g⟩ a I m H lo w e.v (puts H e.wr) := by
  unfold effPick at h
  split at h
  · rename_i hc
    have h0 := (kev_rep hk hc).lit
    obtain ⟨h1, h2⟩ := pureO_eq h
    rw [h2]
    exact OpOut.pure (u := a.eval x) hs (by simp [execOp, h0, asBool]) (kev_rep hk h1)
  · rename_i hc
    have h0 := (kev_rep hk hc).lit
    obtain ⟨h1, h2⟩ := pureO_eq h
    rw [h2]
    exact OpOut.pure (u := a.eval y) hs (by simp [execOp, h0, asBool]) (kev_rep hk h1)
  · cases h

theorem op_extract (hs : Sim I m H w) (hk : Slots m I K a.tmps) {x : Operand} {i : Nat} (h : effExtract K x i = some e) : OpOut C.P ⟨dst, .extract x i, ty, pos, after, g⟩ a I m H lo w e.v (puts H e.wr) := by
  unfold effExtract at h
  split at h
  · rename_i l hx
    have h0 := kev_rep hk hx
    unfold Rep at h0
    obtain ⟨us, h3, h4⟩ := h0
    obtain ⟨h1, h2⟩ := pureO_eq h
    rw [h2]
    rw [get_eq] at h1
    obtain ⟨u, h5, h6⟩ := h4.get h1
    exact OpOut.pure (u := u) hs (by simp [execOp, h3, Instr.extract, h5]) h6
  · cases h

theorem op_fieldAddr (hC : C.OK) (hs : Sim I m H w) (hk : Slots m I K a.tmps) {t : Nat} {x : Operand} {f : Nat} (h : effFieldAddr C K t x f = some e) : OpOut C.P ⟨dst, .fieldAddr t x f, ty, pos, after, g⟩ a I m H lo w e.v (puts H e.wr) := by
  unfold effFieldAddr at h
  split at h
  · rename_i T v hT hx
    split at h
    · rename_i ps hkd
      have hTI := hC.ty t T hT
      have h1 := hTI.kd
      rw [hkd] at h1
      obtain ⟨fs, hu, hf, _, _⟩ := h1
      have hr := kev_rep hk hx
      have key : ∀ (p : Fld) (b off : Nat), get ps f = some p → a.eval x = .pointer (some ⟨b, off, none⟩) → (execOp a.eval ⟨dst, .fieldAddr t x f, ty, pos, after, g⟩).run C.P w = .ok (.value (.pointer (some ⟨b, off + p.off, none⟩))) w := by
        intro p b off hp hv
        obtain ⟨fd, h2, h3, h4, h5, _⟩ := hf.get hp
        have h2' : fs[f]? = some fd := by simpa using h2
        simp [execOp, hv, Instr.fieldAt, run_underlying hu, h2', Instr.sureAddr, fieldPlace, h5, h4, Addr.add_n, h3]
      unfold fieldPtr at h
      split at h
      · rename_i id i off
        split at h
        · rename_i p hp
          simp only [Option.some.injEq] at h
          subst h
          unfold Rep at hr
          obtain ⟨ff, h6, h7⟩ := hr
          refine OpOut.pure hs (key p _ _ hp h7) ?_
          unfold Rep
          exact ⟨ff, h6, by rw [Nat.add_assoc]⟩
        · cases h
      · rename_i l i off
        split at h
        · rename_i p hp
          simp only [Option.some.injEq] at h
          subst h
          unfold Rep at hr
          obtain ⟨b, o, es, h6, h7⟩ := hr
          refine OpOut.pure hs (key p _ _ hp h6) ?_
          unfold Rep
          exact ⟨b, o, es, by rw [Nat.add_assoc], h7⟩
        · cases h
      · cases h
    · cases h
  · cases h

theorem run_part {P : Program} {t : Nat} {T : TI} (hT : TIOK P t T) {us : List Value} {off : Nat} {u : Value} (h : if T.agg then u = .agg ((us.drop off).take T.size).toArray ∧ off + T.size ≤ us.length else us[off]? = some u) (w : World) :
    (part t us.toArray off).run P w = .ok u w := by
  unfold part
  split at h
  · rename_i ha
    obtain ⟨rfl, h2⟩ := h
    simp [hT.agg, ha, hT.size, List.extract_eq_take_drop]
  · rename_i ha
    simp [hT.agg, ha, h]

theorem op_field (hC : C.OK) (hs : Sim I m H w) (hk : Slots m I K a.tmps) {t : Nat} {x : Operand} {f : Nat} (h : effField C K t x f = some e) : OpOut C.P ⟨dst, .field t x f, ty, pos, after, g⟩ a I m H lo w e.v (puts H e.wr) := by
  unfold effField at h
  split at h
  · rename_i T cs hT hx
    split at h
    · rename_i ps hkd
      have hTI := hC.ty t T hT
      have h1 := hTI.kd
      rw [hkd] at h1
      obtain ⟨fs, hu, hf, _, _⟩ := h1
      have hr := kev_rep hk hx
      split at h
      · rename_i p hp
        split at h
        · rename_i Tf hTf
          obtain ⟨h1, h2⟩ := pureO_eq h
          rw [h2]
          obtain ⟨fd, h2', h3, h4, h5, h6, _⟩ := hf.get hp
          have h2' : fs[f]? = some fd := by simpa using h2'
          unfold Rep at hr
          obtain ⟨us, h7, h8, h9⟩ := hr
          obtain ⟨u, h10, h11⟩ := partA_rep (hC.ty _ _ hTf) ⟨h9, h8⟩ h1
          have hp := run_part (hC.ty _ _ hTf) h11 w
          rw [← h6] at hp
          exact OpOut.pure hs (u := u) (by simp [execOp, h7, Instr.field, run_underlying hu, h2', asAgg, h3, hp]) h10
        · cases h
      · cases h
    · cases h
  · cases h

theorem op_index (hC : C.OK) (hs : Sim I m H w) (hk : Slots m I K a.tmps) {t : Nat} {x i : Operand} (h : effIndex C K t x i = some e) : OpOut C.P ⟨dst, .index t x i, ty, pos, after, g⟩ a I m H lo w e.v (puts H e.wr) := by
  unfold effIndex at h
  split at h
  · rename_i T cs ik n hT hx hi
    split at h
    · rename_i k el es hkd
      have h1 := (hC.ty t T hT).kd
      rw [hkd] at h1
      have hr := kev_rep hk hx
      have hi' := (kev_rep hk hi).lit
      split at h
      · rename_i Te hTe
        split at h
        · rename_i hn
          obtain ⟨h3, h2⟩ := pureO_eq h
          rw [h2]
          unfold Rep at hr
          obtain ⟨us, h7, h8, h9⟩ := hr
          obtain ⟨u, h10, h11⟩ := partA_rep (hC.ty _ _ hTe) ⟨h9, h8⟩ h3
          have hp := run_part (hC.ty _ _ hTe) h11 w
          exact OpOut.pure hs (u := u) (by simp [execOp, h7, hi', Instr.index, asIntOf, run_underlying h1.1, hn.1, hn.2, h1.2.1, hp]) h10
        · cases h
      · cases h
    · cases h
  · cases h

theorem op_makeFunc (hs : Sim I m H w) (hk : Slots m I K a.tmps) {f : Fn} {first caps : Array Operand} (h : effFunc K f first.toList caps.toList = some e) : OpOut C.P ⟨dst, .makeFunc f first caps, ty, pos, after, g⟩ a I m H lo w e.v (puts H e.wr) := by
  unfold effFunc at h
  split at h
  · rename_i f vs hfirst hvs
    simp only [Option.some.injEq] at h
    subst h
    have h1 := kevs_rep hk hvs
    have h2 : first = #[] := by simpa using hfirst
    subst h2
    refine OpOut.pure hs (u := .func (.func f) #[] (caps.toList.map a.eval).toArray) ?_ ?_
    · have : Array.map a.eval caps = (List.map a.eval caps.toList).toArray := by rw [← Array.toList_map, Array.toArray_toList]
      simp [execOp, Instr.makeFunc, this]
    · unfold Rep; exact ⟨_, rfl, h1⟩
  · cases h

theorem op_convert (hC : C.OK) (hs : Sim I m H w) (hk : Slots m I K a.tmps) {s d : Nat} {x : Operand} (h : effConvert C K s d x = some e) : OpOut C.P ⟨dst, .convert s d x, ty, pos, after, g⟩ a I m H lo w e.v (puts H e.wr) := by
  unfold effConvert at h
  split at h
  · rename_i S D k n hS hD hx
    split at h
    · rename_i k' hkd
      simp only [Option.some.injEq] at h
      subst h
      have h1 := (hC.ty d D hD).kd
      rw [hkd] at h1
      have h0 := (kev_rep hk hx).lit
      obtain ⟨i, hi, _⟩ := (hC.ty s S hS).get
      have hu : ∃ u, C.P.underlying s = some u := by
        have := (hC.ty s S hS).agg w
        unfold isAgg underlying at this
        cases hq : C.P.underlying s with
        | some u => exact ⟨u, rfl⟩
        | none => simp [hq, Sem.run, program, stuck] at this
      obtain ⟨u, hu⟩ := hu
      refine OpOut.pure hs (u := .int k' (k'.wrap n)) ?_ Rep.int
      simp [execOp, convert, run_underlying hu, run_underlying h1, h0, Conv.intToInt]
    · cases h
  · cases h

theorem op_nilCheck (hs : Sim I m H w) (hk : Slots m I K a.tmps) {x : Operand} (h : effNil K x = some e) : OpOut C.P ⟨dst, .nilCheck x, ty, pos, after, g⟩ a I m H lo w e.v (puts H e.wr) := by
  unfold effNil at h
  split at h
  · rename_i v hx
    cases hn : nilOK v with
    | false => rw [hn] at h; cases h
    | true =>
      rw [hn] at h
      simp only [cond_true, Option.some.injEq] at h
      subst h
      have hr := kev_rep hk hx
      refine OpOut.pure hs (u := a.eval x) ?_ hr
      cases v with
      | lit v =>
        have := hr.lit
        cases v <;> first | (simp [execOp, this]; done) | cases hn
      | ptr id i off => unfold Rep at hr; obtain ⟨f, _, h2⟩ := hr; simp [execOp, h2]
      | fptr l i off => unfold Rep at hr; obtain ⟨b, o, es, h2, _⟩ := hr; simp [execOp, h2]
      | fn f l => unfold Rep at hr; obtain ⟨us, h2, _⟩ := hr; simp [execOp, h2]
      | yld id => unfold Rep at hr; obtain ⟨f, _, h2⟩ := hr; simp [execOp, h2]
      | osl id i off => unfold Rep at hr; obtain ⟨f, ad, _, h2, _⟩ := hr; simp [execOp, h2]
      | sl l => unfold Rep at hr; obtain ⟨ad, cap, es, h2, _⟩ := hr; simp [execOp, h2]
      | _ => cases hn
  · cases h

theorem kindEq_iff {k k' : IntKind} : kindEq k k' = true ↔ k = k' := by cases k <;> cases k' <;> simp [kindEq]

theorem run_binOp_int {P : Program} {t : Nat} {op : BinOp} {k : IntKind} {p q : Int} {v : V} (h : intA op k p q = some v) (hns : op ≠ .shl ∧ op ≠ .shr) (w : World) : ∃ u, v = .lit u ∧ (∀ c, u ≠ .agg c) ∧ (binOp op t (.int k p) (.int k q)).run P w = .ok u w := by
  have key : ∀ u : Value, v = .lit u → (∀ c, u ≠ .agg c) → (binOp op t (.int k p) (.int k q)).run P w = .ok u w → ∃ u, v = .lit u ∧ (∀ c, u ≠ .agg c) ∧ (binOp op t (.int k p) (.int k q)).run P w = .ok u w := fun u h1 h2 h3 => ⟨u, h1, h2, h3⟩
  cases op
  case shl => exact absurd rfl hns.1
  case shr => exact absurd rfl hns.2
  case quo =>
    simp only [intA] at h
    by_cases h0 : q = 0
    · rw [if_pos h0] at h; cases h
    · rw [if_neg h0] at h
      simp only [Option.some.injEq] at h
      exact key _ h.symm (fun c hc => by cases hc) (by simp [binOp, Op.intDiv, h0])
  case rem =>
    simp only [intA] at h
    by_cases h0 : q = 0
    · rw [if_pos h0] at h; cases h
    · rw [if_neg h0] at h
      simp only [Option.some.injEq] at h
      exact key _ h.symm (fun c hc => by cases hc) (by simp [binOp, Op.intDiv, h0])
  all_goals
    simp only [intA, Option.some.injEq] at h
    refine key _ h.symm (fun c hc => by cases hc) ?_
    simp [binOp, Op.intArith, Op.intBits, Op.intCmp, BEq.beq, bne]

end
end Go.Am
