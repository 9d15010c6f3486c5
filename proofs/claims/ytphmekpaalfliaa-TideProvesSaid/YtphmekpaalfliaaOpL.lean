/- Every operation of the abstract machine is that of the model. Conditions: none. -/
import Derived.Laws.IdiomRangeMap
import Derived.Test.YtphmekpaalfliaaOpK
set_option linter.unusedVariables false
set_option linter.unusedSimpArgs false
namespace Go.Am
open Go Go.Wk Go.RowKit

section
variable {C : Cfg} {I : Ij} {m : Mem} {H : List Blk} {w w' : World} {K : List (Nat × V)} {a : Act} {lo nid : Nat} {dst : Option Tmp} {ty : TypeId} {pos : String} {after : Array Edge} {g : Option (Nat × Bool)} {e : Eff}

theorem BiOut.of {P : Program} {s : Sem Next} {v : V} (h : ∃ u, s.run P w = .ok (.value u) w ∧ Rep m v I u ∧ e.wr = []) (hs : Sim I m H w) : BiOut P s I m H lo w v (puts H e.wr) := by
  obtain ⟨u, h1, h2, h3⟩ := h
  rw [h3]
  exact ⟨u, w, I, h1, hs, h2, Fx.rfl' _ _ _ _⟩

theorem op_builtin (hC : C.OK) (hs : Sim I m H w) (hk : Slots m I K a.tmps) {c : Call} (hn : allocs (.call c) = true → Fresh H nid ∧ lo ≤ nid) (h : effBuiltin C K H lo nid c = some e) : OpOut C.P ⟨dst, .call c, ty, pos, after, g⟩ a I m H lo w e.v (puts H e.wr) := by
  obtain ⟨cal, args, ats⟩ := c
  unfold effBuiltin at h
  split at h
  · rename_i b vs hb hvs
    simp only at hb hvs
    subst hb
    have hv := kevs_rep hk hvs
    obtain ⟨cs, hr⟩ := run_builtin (P := C.P) (w := w) (b := b) (ats := ats) (dst := dst) (ty := ty) (pos := pos) (after := after) (g := g) (args := args) (rfl : args.toList.map a.eval = args.toList.map a.eval)
    have fin : BiOut C.P (builtin b ats ty cs (args.toList.map a.eval).toArray) I m H lo w e.v (puts H e.wr) → OpOut C.P ⟨dst, .call ⟨.builtin b, args, ats⟩, ty, pos, after, g⟩ a I m H lo w e.v (puts H e.wr) := by
      rintro ⟨u, w', I', h1, h2, h3, h4⟩
      exact ⟨.value u, w', I', u, by rw [hr]; exact h1, .inl rfl, h2, h3, h4⟩
    apply fin
    unfold builtinA at h
    split at h
    · exact BiOut.of (bi_len hC hs hv h) hs
    · simp only at h
      unfold biAppend at h
      split at h
      · rename_i t t2 x y hat
        cases htt : Nat.beq t t2 with
        | false => rw [htt] at h; cases h
        | true =>
          rw [htt] at h
          simp only [cond_true] at h
          have := Nat.eq_of_beq_eq_true htt
          subst this
          split at h
          · rename_i Te hTe
            obtain ⟨el, hu, hTel, hT⟩ := sliceElem_spec hC hTe
            obtain ⟨ux, uy, huu, hx, hy⟩ := hv.two
            have := arr2 hat
            subst this
            rw [huu]
            obtain ⟨hf, hlo⟩ := hn rfl
            exact append_sound hs hf hlo hu hT hx hy h
          · cases h
      · cases h
    · exact BiOut.of (bi_min hv h) hs
    · exact BiOut.of (bi_max hv h) hs
    · simp only at h
      unfold biCopy at h
      split at h
      · rename_i t r x y hat
        split at h
        · rename_i Te hTe
          obtain ⟨el, hu, hTel, hT⟩ := sliceElem_spec hC hTe
          obtain ⟨ux, uy, huu, hx, hy⟩ := hv.two
          have hat0 : ats[0]? = some t := by rw [← Array.getElem?_toList, hat]; rfl
          rw [huu]
          exact copy_sound hs hat0 hu hT hx hy h
        · cases h
      · cases h
    · simp only at h
      unfold biClear at h
      split at h
      · rename_i t r x hat
        split at h
        · rename_i Te hTe
          obtain ⟨el, hu, hTel, hT⟩ := sliceElem_spec hC hTe
          obtain ⟨ux, huu, hx⟩ := hv.one'
          have hat0 : ats[0]? = some t := by rw [← Array.getElem?_toList, hat]; rfl
          rw [huu]
          exact clear_sound hs hat0 hu hT hx h
        · cases h
      · cases h
    · cases h
  · cases h

theorem idxs_mem : ∀ (n i k : Nat), k ∈ idxs i n ↔ i ≤ k ∧ k < i + n
  | 0, i, k => by simp only [idxs, List.not_mem_nil, false_iff]; omega
  | n + 1, i, k => by
    simp only [idxs, List.mem_cons, idxs_mem n (i + 1) k]
    omega

theorem op_range (hC : C.OK) (hs : Sim I m H w) (hk : Slots m I K a.tmps) (hn : Fresh H nid) (hlo : lo ≤ nid) {t : Nat} {x : Operand} (h : effRange C K nid t x = some e) : OpOut C.P ⟨dst, .range t x, ty, pos, after, g⟩ a I m H lo w e.v (puts H e.wr) := by
  unfold effRange at h
  split at h
  · rename_i T ks vs hT hx
    split at h
    · rename_i kt el hkd
      simp only [Option.some.injEq] at h
      subst h
      have hr := kev_rep hk hx
      unfold Rep at hr
      obtain ⟨b, es, es', c, hu, hb, hp, hnd, hks, hvs, huni, hborn⟩ := hr
      have hki := (hC.ty _ _ hT).kd
      rw [hkd] at hki
      have hw := hs.sub _ _ hb
      have hrun := run_range_map (P := C.P) w t kt el b es.toArray c hki hw
      have hlen : es'.length = ks.length := by have := hks.len; simpa using this
      have h1 := hs.new (lo := lo) hn hlo (Ext.of_alloc w (.mapIter (some b) c #[] c)) (f := ⟨w.heap.size, 0, 0, 0⟩) (Nat.le_refl _) (B := .iter ks vs (idxs 0 ks.length) none) ⟨rfl, rfl, b, es, es', c, #[], heap_alloc_new w _, hb, hp, hks, hvs, hborn, fun i e hi => by
        have hlt := (List.getElem?_eq_some_iff.1 hi).1
        rw [idxs_mem]
        simp
        omega, fun i hi => by rw [idxs_mem] at hi; omega, fun j hj => by cases hj⟩ (by intro h; cases h)
      refine ⟨.value (.pointer (some ⟨w.heap.size, 0, none⟩)), _, _, _, ?_, .inl rfl, h1.1, ?_, h1.2⟩
      · simp [execOp, hu, hrun]
      · unfold Rep
        exact ⟨_, Ij.put_self, rfl⟩
    · cases h
  · cases h

theorem op_sound (hC : C.OK) (hs : Sim I m H w) (hk : Slots m I K a.tmps) {o : Oper} (hn : allocs o.op = true → Fresh H nid ∧ lo ≤ nid) (h : opEff C K H lo nid o.op = some e) : OpOut C.P o a I m H lo w e.v (puts H e.wr) := by
  obtain ⟨dst, op, ty, pos, after, g⟩ := o
  simp only at h hn
  unfold opEff at h
  split at h
  · exact op_move hs hk h
  · exact op_assign hs hk h
  · exact op_pick hs hk h
  · exact op_alloc hC hs hk (hn rfl).1 (hn rfl).2 h
  · exact op_box hC hs hk (hn rfl).1 (hn rfl).2 h
  · exact op_build hC hs hk h
  · exact op_buildSlice hC hs hk (hn rfl).1 (hn rfl).2 h
  · exact op_load hC hs hk h
  · exact op_store hC hs hk h
  · exact op_nilCheck hs hk h
  · exact op_bin hC hs hk h
  · exact op_un hs hk h
  · exact op_convert hC hs hk h
  · exact op_makeFunc hs hk h
  · exact op_makeMap hs (hn rfl).1 (hn rfl).2 h
  · exact op_makeSlice hC hs hk (hn rfl).1 (hn rfl).2 h
  · exact op_slice hC hs hk h
  · exact op_fieldAddr hC hs hk h
  · exact op_field hC hs hk h
  · exact op_indexAddr hC hs hk h
  · exact op_index hC hs hk h
  · exact op_lookup hC hs hk h
  · exact op_mapPut hC hs hk (.inl rfl) h
  · exact op_mapPut hC hs hk (.inr rfl) h
  · exact op_extract hs hk h
  · exact op_range hC hs hk (hn rfl).1 (hn rfl).2 h
  · exact op_builtin hC hs hk hn h
  · cases h

end
end Go.Am
