/- Stores, maps: as in the model. Conditions: none. -/
import Derived.Test.YtphmekpaalfliaaOpG
set_option linter.unusedVariables false
set_option linter.unusedSimpArgs false
namespace Go.Am
open Go Go.Wk Go.RowKit

section
variable {C : Cfg} {I : Ij} {m : Mem} {H : List Blk} {w w' : World} {K : List (Nat × V)} {a : Act} {lo nid : Nat} {dst : Option Tmp} {ty : TypeId} {pos : String} {after : Array Edge} {g : Option (Nat × Bool)} {e : Eff}

def putC (c : Array Value) : Nat → List Value → Array Value
  | _, [] => c
  | o, v :: r => putC (c.setIfInBounds o v) (o + 1) r

theorem putC_spec : ∀ (vs : List Value) (c : Array Value) (o : Nat), o + vs.length ≤ c.size → (putC c o vs).size = c.size ∧ ∀ j, (putC c o vs)[j]? = if o ≤ j ∧ j < o + vs.length then vs[j - o]? else c[j]?
  | [], c, o, _ => ⟨rfl, fun j => by rw [if_neg (by simp)]; rfl⟩
  | v :: r, c, o, h => by
    simp only [List.length_cons] at h
    obtain ⟨h1, h2⟩ := putC_spec r (c.setIfInBounds o v) (o + 1) (by simp; omega)
    refine ⟨by rw [putC, h1]; simp, fun j => ?_⟩
    rw [putC, h2]
    simp only [List.length_cons]
    by_cases h4 : o + 1 ≤ j ∧ j < o + 1 + r.length
    · rw [if_pos h4, if_pos ⟨by omega, by omega⟩, show j - o = (j - (o + 1)) + 1 by omega]; simp
    · rw [if_neg h4]
      by_cases h5 : j = o
      · subst h5
        have hjc : j < c.size := by omega
        rw [if_pos ⟨by omega, by omega⟩]
        simp [hjc]
      · rw [if_neg (by omega), Array.getElem?_setIfInBounds_ne (fun e => h5 e.symm)]

theorem setCells_spec {b : Nat} {t : TypeId} {fz : Nat × Nat} : ∀ (vs : List Value) (o : Nat) (w : World) (c : Array Value), w.heap[b]? = some (.cells c t fz) →
    Stays w (w.setCells b o vs) ∧ (∀ k, k ≠ b → (w.setCells b o vs).heap[k]? = w.heap[k]?) ∧ (w.setCells b o vs).heap[b]? = some (.cells (putC c o vs) t fz)
  | [], o, w, c, h => ⟨Stays.rfl' w, fun _ _ => rfl, h⟩
  | v :: r, o, w, c, h => by
    have h1 : (w.setCell ⟨b, o, none⟩ v).heap[b]? = some (.cells (c.setIfInBounds o v) t fz) := by
      simp [World.setCell, Array.getElem?_modify, h]
    have h2 : ∀ k, k ≠ b → (w.setCell ⟨b, o, none⟩ v).heap[k]? = w.heap[k]? := fun k hk => by
      have hbk : b ≠ k := fun e => hk e.symm
      simp [World.setCell, Array.getElem?_modify, hbk]
    have h3 : Stays w (w.setCell ⟨b, o, none⟩ v) := ⟨rfl, rfl, rfl, by simp [World.setCell]⟩
    obtain ⟨q1, q2, q3⟩ := setCells_spec r (o + 1) (w.setCell ⟨b, o, none⟩ v) _ h1
    exact ⟨h3.tr q1, fun k hk => (q2 k hk).trans (h2 k hk), q3⟩

theorem run_storeOwn {P : Program} {b o : Nat} {t : TypeId} {c : Array Value} {vs : List Value} (h : w.heap[b]? = some (.cells c t (0, 0))) (hl : o + vs.length ≤ c.size) (h1 : ∀ v ∈ vs, v.oneCell' = true) :
    ∃ w', (storeCells ⟨b, o, none⟩ vs 0).run P w = .ok () w' ∧ Stays w w' ∧ (∀ k, k ≠ b → w'.heap[k]? = w.heap[k]?) ∧ w'.heap[b]? = some (.cells (putC c o vs) t (0, 0)) := by
  have hr := run_storeCells_cells (P := P) b o vs 0 w (fun j hj => by
    rw [cell_none]
    unfold Mem.cell wmem
    rw [h]
    have : o + j < c.size := by omega
    simp [this]) (fun j hj => by unfold World.frozen?; rw [h]; simp) h1
  rw [Nat.add_zero] at hr
  obtain ⟨q1, q2, q3⟩ := setCells_spec vs o w c h
  exact ⟨_, hr, q1, q2, q3⟩

theorem rowSet_sound {r r' v : V} {ur u : Value} {off : Nat} (hr : CellsRep m I r.cells ur.cells.toList) (hrr : Rep m r I ur) (hv : CellsRep m I v.cells u.cells.toList) (hne : v.cells ≠ []) (h : rowSet r off v.cells = some r') :
    ∃ ur', Rep m r' I ur' ∧ off + u.cells.size ≤ ur.cells.size ∧ ur'.cells.size = ur.cells.size ∧ (∀ x ∈ ur'.cells, x.oneCell' = true) ∧ ∀ j, ur'.cells[j]? = if off ≤ j ∧ j < off + u.cells.size then u.cells[j - off]? else ur.cells[j]? := by
  have hvl : u.cells.size = v.cells.length := by have := hv.1.len; simpa using this
  have hrl : ur.cells.size = r.cells.length := by have := hr.1.len; simpa using this
  unfold rowSet at h
  split at h
  · rename_i l
    simp only [Option.map_eq_some_iff] at h
    obtain ⟨l', h1, rfl⟩ := h
    obtain ⟨a1, a2, a3⟩ := setAt_eq _ _ _ _ h1
    have hb := a2 hne
    obtain ⟨c', hc'⟩ := setAt_ok u.cells.toList ur.cells.toList off (by simp [V.cells] at *; omega)
    obtain ⟨b1, b2, b3⟩ := setAt_eq _ _ _ _ hc'
    have hcr := hr.setAt hv h1 hc'
    refine ⟨.agg c'.toArray, ?_, by simp [V.cells] at *; omega, by simp [Value.cells, b1], fun x hx => hcr.2 x (by simpa [Value.cells] using hx), fun j => ?_⟩
    · unfold Rep; exact ⟨c', rfl, hcr.2, hcr.1⟩
    · have := b3 j
      have e1 : (Value.agg c'.toArray).cells = c'.toArray := rfl
      rw [e1]
      simpa only [List.getElem?_toArray, Array.getElem?_toList, Array.length_toList] using this
  · rename_i hnag
    split at h
    · rename_i cs c hc
      simp only [Option.some.injEq] at h
      subst h
      rw [hc] at hv hvl
      obtain ⟨x, hx1, hx2⟩ := hv.1.one'
      have hx3 := hv.2 x (by rw [hx1]; simp)
      have hr1 : r.cells.length = 1 := by cases r <;> first | rfl | exact absurd rfl (hnag _)
      have hxc : x.cells = #[x] := by cases x <;> first | rfl | cases hx3
      simp only [List.length_cons, List.length_nil] at hvl
      refine ⟨x, hx2, by omega, by rw [hxc]; simp; omega, fun y hy => ?_, fun j => ?_⟩
      · rw [hxc] at hy; simp at hy; rw [hy]; exact hx3
      · have hu : u.cells = #[x] := by rw [← Array.toArray_toList (xs := u.cells), hx1]
        rw [hxc, hu]
        cases j with
        | zero => simp
        | succ j =>
          simp only [List.size_toArray, List.length_cons, List.length_nil]
          rw [if_neg (by omega)]
          have : ur.cells.size ≤ j + 1 := by omega
          simp [this]
    · cases h

theorem op_store (hC : C.OK) (hs : Sim I m H w) (hk : Slots m I K a.tmps) {t : Nat} {x y : Operand} (h : effStore C K H lo t x y = some e) : OpOut C.P ⟨dst, .store t x y, ty, pos, after, g⟩ a I m H lo w e.v (puts H e.wr) := by
  unfold effStore at h
  split at h
  · rename_i T av v hT hx hy
    have hTI := hC.ty _ _ hT
    have hxr := kev_rep hk hx
    have hyr := kev_rep hk hy
    unfold storeA at h
    split at h
    · rename_i id i off
      split at h
      · cases h
      rename_i hlo
      split at h
      · rename_i hsz
        have hz := sizeOK_spec hsz
        split at h
        · rename_i es l hb
          split at h
          · rename_i r hr
            simp only [Option.map_eq_some_iff] at h
            obtain ⟨r', h1, rfl⟩ := h
            have hb' := hget_rows hb
            rw [get_eq] at hr
            have hi := (List.getElem?_eq_some_iff.1 hr).1
            obtain ⟨f, hf, hes, c, ty', hw, hc1, hc2, hc3, hc4, hc5⟩ := hs.blk id _ hb' rfl
            obtain ⟨ur, g1, g2⟩ := hc5 i r hr
            have hone : ∀ x ∈ ur.cells, x.oneCell' = true := fun x hx => by
              obtain ⟨j, hj⟩ := Array.mem_iff_getElem?.1 hx
              exact (g2.2 j x hj).1
            have hne : v.cells ≠ [] := by intro e; have := hTI.pos; rw [e] at hz; simp at hz; omega
            have hyc := hyr.cellsRep hz.1
            obtain ⟨ur', k1, k2, k3, k4, k5⟩ := rowSet_sound (g1.cellsRep' hone) g1 hyc hne h1
            have hus : (a.eval y).cells.size = T.size := by rw [hyr.size, hz.2]
            have hurs : ur.cells.size = es := g2.1
            have hbound : f.o + i * es + es ≤ c.size := by
              have : (i + 1) * es ≤ f.cap * es := Nat.mul_le_mul_right _ (by omega)
              rw [Nat.add_mul] at this; omega
            unfold Rep at hxr
            obtain ⟨f', hf', hxv⟩ := hxr
            rw [hf] at hf'
            cases hf'
            obtain ⟨w', q1, q2, q3, q4⟩ := run_storeOwn (P := C.P) (w := w) (o := f.o + i * f.es + off) (vs := (a.eval y).cells.toList) hw (by rw [hes]; simp; omega) hyc.2
            obtain ⟨p1, p2⟩ := putC_spec (a.eval y).cells.toList c (f.o + i * f.es + off) (by rw [hes]; simp; omega)
            have hB : BlkOK I m w' f (.rows es (Am.set l i r')) := by
              refine ⟨hes, _, ty', q4, by rw [p1]; exact hc1, by rw [set_eq, List.length_set]; exact hc2, hc3, hc4, fun k x hxk => ?_⟩
              rw [set_eq] at hxk
              by_cases hki : k = i
              · subst hki
                rw [List.getElem?_set_self hi, Option.some.injEq] at hxk
                subst hxk
                refine ⟨ur', k1, by rw [k3, hurs], fun j x hj => ?_⟩
                have hjl : j < es := by rw [← hurs, ← k3]; exact (Array.getElem?_eq_some_iff.1 hj).1
                refine ⟨k4 x (Array.mem_of_getElem? hj), ?_⟩
                rw [k5] at hj
                rw [p2, hes]
                split at hj
                · rename_i hcc
                  rw [if_pos ⟨by omega, by simp; omega⟩, show f.o + k * es + j - (f.o + k * es + off) = j - off by omega]
                  simpa using hj
                · rename_i hcc
                  rw [if_neg (by simp; omega)]
                  exact (g2.2 j x hj).2
              · rw [List.getElem?_set_ne (fun e => hki e.symm)] at hxk
                obtain ⟨u2, z1, z2⟩ := hc5 k x hxk
                refine ⟨u2, z1, z2.1, fun j y hj => ⟨(z2.2 j y hj).1, ?_⟩⟩
                have hjl : j < es := by rw [← z2.1]; exact (Array.getElem?_eq_some_iff.1 hj).1
                rw [p2, if_neg, (z2.2 j y hj).2]
                rintro ⟨h1, h2⟩
                simp only [Array.length_toList] at h2
                rw [hes] at h1 h2
                rcases Nat.lt_or_gt_of_ne hki with h | h
                · have : (k + 1) * es ≤ i * es := Nat.mul_le_mul_right _ h
                  rw [Nat.add_mul] at this; omega
                · have : (i + 1) * es ≤ k * es := Nat.mul_le_mul_right _ h
                  rw [Nat.add_mul] at this; omega
            obtain ⟨s1, s2⟩ := hs.upd (lo := lo) ⟨_, hb', rfl⟩ (by omega) hf q2 q3 hB (by intro h; cases h)
            refine ⟨.skip, w', I, Go.undef, ?_, .inr ⟨rfl, rfl⟩, s1, Rep.undef, s2⟩
            have hsz' : (a.eval y).cells.size = T.size := hus
            simp [execOp, Instr.storeAt, Instr.sureAddr, hxv, storeVar, hTI.size, hsz', q1]
          · cases h
        · cases h
      · cases h
    · cases h
  · cases h

end
end Go.Am
