/- Operators, lengths, loads, slices of the abstract machine are those of the model. Conditions: none. -/
import Derived.Test.YtphmekpaalfliaaOpC
set_option linter.unusedVariables false
set_option linter.unusedSimpArgs false
namespace Go.Am
open Go Go.Wk

section
variable {C : Cfg} {I : Ij} {m : Mem} {H : List Blk} {w : World} {K : List (Nat × V)} {a : Act} {lo nid : Nat} {dst : Option Tmp} {ty : TypeId} {pos : String} {after : Array Edge} {g : Option (Nat × Bool)} {e : Eff}

theorem eqGuard_int {P : Program} {op : BinOp} {t : Nat} {x y : Operand} {k k' : IntKind} {p q : Int} : (eqGuard op t x y (.int k p) (.int k' q)).run P w = .ok () w := by
  cases op <;> simp [eqGuard]

def eqForm : Value → Bool
  | .agg _ => true
  | .pointer _ => true
  | .map _ => true
  | .func .. => true
  | .nilFunc => true
  | .bool _ => true
  | _ => false

theorem binOp_eql {t : Nat} {u u' : Value} (h : eqForm u = true) : binOp .eql t u u' = (do pure (.bool (← Op.equal t u u'))) := by
  cases u <;> first | (cases u' <;> rfl) | cases h
theorem binOp_neq {t : Nat} {u u' : Value} (h : eqForm u = true) : binOp .neq t u u' = (do pure (.bool (!(← Op.equal t u u')))) := by
  cases u <;> first | (cases u' <;> rfl) | cases h

theorem eqA_form {t : Nat} {p q : V} {b : Bool} {u : Value} (h : eqA C.ty t p q = some b) (hx : Rep m p I u) (hn : ∀ k i k' j, p = .lit (.int k i) → q = .lit (.int k' j) → False) : eqForm u = true := by
  unfold eqA at h
  cases hT : C.ty t with
  | none => rw [hT] at h; cases h
  | some T =>
    rw [hT] at h
    simp only [eqT, hT] at h
    have hp : (∃ a b c, p = .ptr a b c) ∨ (∃ a b c, p = .fptr a b c) → eqForm u = true := fun hv => by obtain ⟨ad, rfl⟩ := hx.ptr_some hv; rfl
    have hm : (∃ a, p = .map a) ∨ (∃ a b, p = .fmap a b) → eqForm u = true := fun hv => by obtain ⟨ad, rfl⟩ := hx.map_some hv; rfl
    split at h
    · unfold eqPtr at h
      split at h <;> first | (rw [hx.lit]; rfl) | exact hp (.inl ⟨_, _, _, rfl⟩) | exact hp (.inr ⟨_, _, _, rfl⟩) | cases h
    · unfold eqMap at h
      split at h <;> first | (rw [hx.lit]; rfl) | exact hm (.inl ⟨_, rfl⟩) | exact hm (.inr ⟨_, _, rfl⟩) | cases h
    · unfold eqFn at h
      split at h <;> first | (rw [hx.lit]; rfl) | (unfold Rep at hx; obtain ⟨us, rfl, _⟩ := hx; rfl) | cases h
    · split at h
      · exact (hn _ _ _ _ rfl rfl).elim
      · rw [hx.lit]; rfl
      · unfold Rep at hx; obtain ⟨us, rfl, _⟩ := hx; rfl
      · unfold Rep at hx; obtain ⟨us, rfl, _⟩ := hx; rfl
      · cases h

theorem op_bin (hC : C.OK) (hs : Sim I m H w) (hk : Slots m I K a.tmps) {op : BinOp} {t t2 : Nat} {x y : Operand} (h : effBin C K op t x y = some e) : OpOut C.P ⟨dst, .binOp op t x y t2, ty, pos, after, g⟩ a I m H lo w e.v (puts H e.wr) := by
  unfold effBin at h
  split at h
  · rename_i p q hp hq
    obtain ⟨h1, h2⟩ := pureO_eq h
    rw [h2]
    have hx := kev_rep hk hp
    have hy := kev_rep hk hq
    have key : ∀ {k k' : IntKind} {i j : Int}, a.eval x = .int k i → a.eval y = .int k' j → (∃ u, e.v = .lit u ∧ (∀ c, u ≠ .agg c) ∧ (binOp op t (.int k i) (.int k' j)).run C.P w = .ok u w) → OpOut C.P ⟨dst, .binOp op t x y t2, ty, pos, after, g⟩ a I m H lo w e.v (puts H []) := by
      rintro k k' i j e1 e2 ⟨u, e3, e4, e5⟩
      refine OpOut.pure hs (u := u) ?_ (by rw [e3]; exact Rep.of_lit e4)
      simp [execOp, e1, e2, eqGuard_int, e5]
    unfold binA at h1
    split at h1
    · exact key hx.lit hy.lit (run_shift (.inl rfl) h1)
    · exact key hx.lit hy.lit (run_shift (.inr rfl) h1)
    · rename_i hns1 hns2
      split at h1
      · rename_i he
        rw [kindEq_iff] at he
        subst he
        refine key hx.lit hy.lit (run_binOp_int h1 ⟨?_, ?_⟩ w)
        · rintro rfl; exact hns1 rfl
        · rintro rfl; exact hns2 rfl
      · cases h1
    · rename_i hni
      simp only [Option.map_eq_some_iff] at h1
      obtain ⟨b, h3, h4⟩ := h1
      have r := eqA_sound (w := w) hC h3 hx hy
      refine OpOut.pure hs (u := .bool b) ?_ (by rw [← h4]; exact Rep.bool)
      have gg := eqGuard_ok (w := w) (x := x) (y := y) hC hx hy (fun _ _ => trivial) (fun _ => ⟨b, .inl h3⟩) (op := .eql)
      have hf := eqA_form h3 hx (fun k i k' j h1 h2 => hni k i k' j h1 h2)
      simp [execOp, gg, binOp_eql hf, r]
    · rename_i hni
      simp only [Option.map_eq_some_iff] at h1
      obtain ⟨b, h3, h4⟩ := h1
      have r := eqA_sound (w := w) hC h3 hx hy
      refine OpOut.pure hs (u := .bool (!b)) ?_ (by rw [← h4]; exact Rep.bool)
      have gg := eqGuard_ok (w := w) (x := x) (y := y) hC hx hy (fun _ _ => trivial) (fun _ => ⟨b, .inl h3⟩) (op := .neq)
      have hf := eqA_form h3 hx (fun k i k' j h1 h2 => hni k i k' j h1 h2)
      simp [execOp, gg, binOp_neq hf, r]
    · cases h1
  · cases h

theorem op_un (hs : Sim I m H w) (hk : Slots m I K a.tmps) {op : UnOp} {t : Nat} {x : Operand} (h : effUn K op x = some e) : OpOut C.P ⟨dst, .unOp op t x, ty, pos, after, g⟩ a I m H lo w e.v (puts H e.wr) := by
  unfold effUn at h
  split at h
  · rename_i p hp
    obtain ⟨h1, h2⟩ := pureO_eq h
    rw [h2]
    have hx := kev_rep hk hp
    unfold unA at h1
    split at h1
    · simp only [Option.some.injEq] at h1
      rw [← h1]
      exact OpOut.pure hs (by simp [execOp, hx.lit, Op.unary, Op.intArith]) Rep.int
    · simp only [Option.some.injEq] at h1
      rw [← h1]
      exact OpOut.pure hs (by simp [execOp, hx.lit, Op.unary, Op.intBits]) Rep.int
    · simp only [Option.some.injEq] at h1
      rw [← h1]
      exact OpOut.pure hs (by simp [execOp, hx.lit, Op.unary]) Rep.bool
    · cases h1
  · cases h

/-! ### Reading -/

theorem hget_rows {id : Nat} {es : Nat} {l : List V} (h : hget H id = .rows es l) : Am.get H id = some (.rows es l) := by
  unfold hget at h
  cases hq : Am.get H id with
  | none => rw [hq] at h; cases h
  | some B => rw [hq] at h; simp only at h; rw [h]

theorem hget_of {id : Nat} {B : Blk} (h : hget H id = B) (hl : B.live = true) : Am.get H id = some B := by
  unfold hget at h
  cases hq : Am.get H id with
  | none => rw [hq] at h; subst h; cases hl
  | some B' => rw [hq] at h; simp only at h; rw [h]

/-- A row of an own block in the world. -/
theorem Sim.row (hs : Sim I m H w) {id es i : Nat} {l : List V} {v : V} (h : Am.get H id = some (.rows es l)) (hv : l[i]? = some v) :
    ∃ f c ty u, I id = some f ∧ f.es = es ∧ w.heap[f.b]? = some (.cells c ty (0, 0)) ∧ Rep m v I u ∧ CellsAt c (f.o + i * es) es u := by
  obtain ⟨f, h1, h0, c, ty, h2, h3, h4, h5, h6, h7⟩ := hs.blk id _ h rfl
  obtain ⟨u, h8, h9⟩ := h7 i v hv
  exact ⟨f, c, ty, u, h1, h0, h2, h8, h9⟩

theorem cellsAt_cell {c : Array Value} {ty' : TypeId} {fz : Nat × Nat} {p es b : Nat} {u : Value} (hw : w.heap[b]? = some (.cells c ty' fz)) (h : CellsAt c p es u) : ∀ j x, u.cells[j]? = some x → w.cell? ⟨b, p + j, none⟩ = some x := by
  intro j x hx
  rw [cell_none]
  unfold Mem.cell wmem
  rw [hw]
  exact (h.2 j x hx).2

theorem at_cell (hm : m.Le (wmem w)) {p es b : Nat} {u : Value} (h : At m b p es u) : ∀ j x, u.cells[j]? = some x → w.cell? ⟨b, p + j, none⟩ = some x := by
  intro j x hx
  rw [cell_none]
  exact hm.cell (h.2 j x hx).2

theorem Rep.cellsRep' {v : V} {u : Value} (h : Rep m v I u) (hone : ∀ x ∈ u.cells, x.oneCell' = true) : CellsRep m I v.cells u.cells.toList := by
  refine ⟨?_, fun x hx => hone x (by simpa using hx)⟩
  cases v with
  | agg l => unfold Rep at h; obtain ⟨us, rfl, _, h2⟩ := h; simpa [V.cells, Value.cells] using h2
  | tup l =>
    unfold Rep at h
    obtain ⟨us, rfl, h2⟩ := h
    have := hone (.tuple us.toArray) (by simp [Value.cells])
    cases this
  | lit v =>
    cases hv : (V.lit v).one with
    | true => exact (h.cellsRep (by simp [V.ok, hv])).1
    | false =>
      have h1 := h
      unfold Rep at h1
      obtain ⟨rfl, h2⟩ := h1
      cases u <;> first | (cases hv; done) | skip
      · exact absurd rfl (h2 _)
      · rename_i vs
        have := hone (.tuple vs) (by simp [Value.cells])
        cases this
  | _ => exact (h.cellsRep (by rfl)).1

/-- A load of a part of a row that lies in the world. -/
theorem run_loadPart {P : Program} {t : Nat} {T : TI} (hT : TIOK P t T) {b p off : Nat} {u u' : Value} (hcell : ∀ j x, u.cells[j]? = some x → w.cell? ⟨b, p + j, none⟩ = some x)
    (h : if T.agg then u' = .agg ((u.cells.toList.drop off).take T.size).toArray ∧ off + T.size ≤ u.cells.toList.length else u.cells.toList[off]? = some u') :
    (loadVar t ⟨b, p + off, none⟩).run P w = .ok u' w := by
  split at h
  · rename_i ha
    obtain ⟨rfl, h2⟩ := h
    have := run_loadCells_list (P := P) w ⟨b, p + off, none⟩ ((u.cells.toList.drop off).take T.size) (fun j v hj => by
      rw [List.getElem?_take] at hj
      split at hj
      · rw [List.getElem?_drop] at hj
        rw [Addr.add_n, Nat.add_assoc]
        exact hcell _ _ (by simpa using hj)
      · cases hj)
    have hl : ((u.cells.toList.drop off).take T.size).length = T.size := by simp at h2 ⊢; omega
    rw [hl] at this
    simp [loadVar, hT.agg, ha, hT.size, this]
  · rename_i ha
    have := hcell off u' (by simpa using h)
    simp [loadVar, hT.agg, ha, run_load, this]

theorem loadA_sound {P : Program} {t : Nat} {T : TI} (hT : TIOK P t T) (hs : Sim I m H w) {x : V} {u : Value} {p : V × List Nat} (hx : Rep m x I u) (h : loadA H T x = some p) :
    ∃ ad u', u = .pointer (some ad) ∧ (loadVar t ad).run P w = .ok u' w ∧ Rep m p.1 I u' := by
  unfold loadA at h
  split at h
  · rename_i id i off
    split at h
    · rename_i es l hb
      split at h
      · rename_i r hr
        simp only [Option.map_eq_some_iff] at h
        obtain ⟨v, h1, rfl⟩ := h
        rw [get_eq] at hr
        obtain ⟨f, c, ty', ur, e1, e2, e3, e4, e5⟩ := hs.row (hget_rows hb) hr
        have hone : ∀ x ∈ ur.cells, x.oneCell' = true := fun x hx => by
          obtain ⟨j, hj⟩ := Array.mem_iff_getElem?.1 hx
          exact (e5.2 j x hj).1
        obtain ⟨u', h2, h3⟩ := partA_rep hT (e4.cellsRep' hone) h1
        unfold Rep at hx
        obtain ⟨f', h4, rfl⟩ := hx
        rw [e1] at h4
        cases h4
        exact ⟨_, u', rfl, by rw [e2]; exact run_loadPart hT (cellsAt_cell e3 e5) h3, h2⟩
      · cases h
    · cases h
  · rename_i l i off
    split at h
    · rename_i r hr
      simp only [Option.map_eq_some_iff] at h
      obtain ⟨v, h1, rfl⟩ := h
      rw [get_eq] at hr
      unfold Rep at hx
      obtain ⟨b, o, es, rfl, h4⟩ := hx
      obtain ⟨ur, e4, e5⟩ := h4.get hr
      have hone : ∀ x ∈ ur.cells, x.oneCell' = true := fun x hx => by
        obtain ⟨j, hj⟩ := Array.mem_iff_getElem?.1 hx
        exact (e5.2 j x hj).1
      obtain ⟨u', h2, h3⟩ := partA_rep hT (e4.cellsRep' hone) h1
      exact ⟨_, u', rfl, run_loadPart hT (at_cell hs.sub e5) h3, Rep.mono (fun _ _ h => h) _ (Ij.none_le I) h2⟩
    · cases h
  · cases h

theorem op_load (hC : C.OK) (hs : Sim I m H w) (hk : Slots m I K a.tmps) {t : Nat} {x : Operand} (h : effLoad C K H t x = some e) : OpOut C.P ⟨dst, .load t x, ty, pos, after, g⟩ a I m H lo w e.v (puts H e.wr) := by
  unfold effLoad at h
  split at h
  · rename_i T v hT hx
    split at h
    · rename_i p hp
      simp only [Option.some.injEq] at h
      subst h
      obtain ⟨ad, u', h1, h2, h3⟩ := loadA_sound (hC.ty _ _ hT) hs (kev_rep hk hx) hp
      exact OpOut.pure hs (u := u') (by simp [execOp, h1, Instr.loadAt, Instr.sureAddr, h2]) h3
    · cases h
  · cases h

end
end Go.Am
