/- The next entry of a map: in whatever order. Conditions: none. -/
import Derived.Test.YtphmekpaalfliaaYld
import Derived.Laws.IdiomRangeMap
set_option linter.unusedVariables false
set_option linter.unusedSimpArgs false
namespace Go.Am
open Go Go.Wk Go.RowKit

theorem run_next_at {P : Program} (w : World) (ty : TypeId) (r bm since c0 : Nat) (seen : Array Nat) (es : Array MapEntry) (clock : Nat) (hr : w.heap[r]? = some (.mapIter (some bm) since seen c0)) (hb : w.heap[bm]? = some (.map es clock)) (hold : ∀ x ∈ es.toList, x.born < since) (hsc : since ≤ c0) :
    ((leftOf es seen).size = 0 ∧ (Instr.next (.pointer (some ⟨r, 0, none⟩)) false ty).run P w = .ok (.tuple #[.bool false]) w) ∨
    ∃ e ∈ (leftOf es seen).toList, ∃ w1 : World, Ext w w1 ∧ w1.heap = w.heap ∧ (Instr.next (.pointer (some ⟨r, 0, none⟩)) false ty).run P w = .ok (.tuple #[.bool true, e.key, e.val]) { w1 with heap := w1.heap.setIfInBounds r (.mapIter (some bm) since (seen.push e.born) clock) } := by
  have hrl : r < w.heap.size := (Array.getElem?_eq_some_iff.1 hr).1
  simp only [Instr.next, getObj, Sem.run_bind, Sem.run, hr, hb, Result.andThen, next_test_false seen es since c0 hold hsc, Bool.false_eq_true, if_false]
  unfold leftOf
  have hmem : ∀ x ∈ (Array.filter (fun e => !seen.contains e.born) es).toList, x.born < since := fun x hx => hold x (by simp at hx ⊢; exact hx.1)
  generalize Array.filter (fun e => !seen.contains e.born) es = L at hmem ⊢
  have e1 : L.filter (fun x => decide (x.born < since)) = L := Array.filter_eq_self.2 (fun x hx => by simpa using hmem x (by simpa using hx))
  have e2 : L.filter (fun x => decide (x.born ≥ since)) = #[] := by
    rw [Array.filter_eq_empty_iff]
    intro x hx
    have := hmem x (by simpa using hx)
    simp
    omega
  simp only [e1, e2, Array.append_empty]
  by_cases h0 : L.size = 0
  · left
    have : L = #[] := Array.eq_empty_of_size_eq_zero h0
    subst this
    refine ⟨rfl, ?_⟩
    simp [choose, Sem.run, Question.forced]
  · right
    have hne : L.isEmpty = false := by simp [Array.isEmpty, h0]
    simp only [hne, Bool.false_eq_true, if_false, Array.empty_append, Array.size_map]
    have hch : ∃ (j : Nat) (w1 : World), j < L.size ∧ Ext w w1 ∧ w1.heap = w.heap ∧ (choose (Question.mapNext L.size)).run P w = .ok j w1 := by
      by_cases hf : L.size ≤ 1
      · exact ⟨0, w, by omega, Ext.rfl' w, rfl, by simp [choose, Sem.run, Question.forced, hf]⟩
      · exact ⟨_, w.drew, Nat.mod_lt _ (by omega), Below.drew (Below.refl _ _), rfl, by
          simp only [choose, Sem.run, Question.forced, decide_eq_true_eq, hf, if_false, Question.cut]
          rfl⟩
    obtain ⟨j, w1, hj, hal, hh, hrun⟩ := hch
    refine ⟨L[j], by simp, w1, hal, hh, ?_⟩
    have hset : ∀ (o' : Obj), (setObj r o').run P w1 = .ok () { w1 with heap := w1.heap.setIfInBounds r o' } := fun o' => by
      have : w1.heap[r]? = some (.mapIter (some bm) since seen c0) := by rw [hh]; exact hr
      simp only [setObj, Sem.run, this]
    simp only [hrun, Array.getElem?_map, Array.getElem?_eq_getElem hj, Option.map_some, Sem.run_bind, hset, Result.andThen]
    rfl

section
variable {C : Cfg} {E : Env} {s : St} {I I' : Ij} {m m' : Mem} {a : Act} {w w' : World} {Q : Exit → Act → World → Prop} {all os : List Oper} {o : Oper}

theorem next_step (hC : C.OK) (hss : SS E s I m a w) {x : Operand} {id : Nat} {ks vs : List V} {left : List Nat} {last : Option Nat} (hop : o.op = .next x false) (hw : wants all s.K o.guard = some true) (hx : kev s.K x = some (.ptr id 0 0)) (hg : hget s.H id = .iter ks vs left last) (hlo : s.lo ≤ id)
    (h0 : left = [] → ∀ I' m' a' w', SS E (s.put o.dst (.tup [.b false])) I' m' a' w' → wpListIn (Wd E.ρ) 0 C.P all.toArray Q os a' w')
    (h1 : ∀ j kv vv, j ∈ left → get ks j = some kv → get vs j = some vv → ∀ I' m' a' w', SS E (St.put { s with H := hput s.H id (.iter ks vs (left.filter (· ≠ j)) (some j)) } o.dst (.tup [.b true, kv, vv])) I' m' a' w' → wpListIn (Wd E.ρ) 0 C.P all.toArray Q os a' w') :
    wpListIn (Wd E.ρ) 0 C.P all.toArray Q (o :: os) a w := by
  obtain ⟨dst, op, ty, pos, after, g⟩ := o
  simp only at hop
  subst hop
  obtain ⟨f, hf, g1, g2, bm, es, es', cl, seen, q1, q2, q3, q4, q5, q6, q7, q8, q9⟩ := hss.sim.blk id _ (hget_of hg rfl) rfl
  have hr := kev_rep hss.slots hx
  unfold Rep at hr
  obtain ⟨f', hf', hu⟩ := hr
  rw [hf] at hf'
  cases hf'
  have hu' : a.eval x = .pointer (some ⟨f.b, 0, none⟩) := by rw [hu, g1, g2]
  have hb := hss.sim.sub _ _ q2
  have hmem : ∀ e : MapEntry, e ∈ (leftOf es.toArray seen).toList ↔ e ∈ es ∧ e.born ∉ seen := fun e => by simp [leftOf]
  have hnd' : (es'.map (·.born)).Nodup := (q3.map _).nodup_iff.1 q6.2
  rcases run_next_at (P := C.P) w ty f.b bm cl cl seen es.toArray cl q1 hb (by simpa using q6.1) (Nat.le_refl _) with ⟨hz, hrun⟩ | ⟨e, he, w1, hext, hheap, hrun⟩
  · have hl : left = [] := by
      cases hleft : left with
      | nil => rfl
      | cons i r =>
        have hi : i ∈ left := by rw [hleft]; exact List.mem_cons_self
        have hlt := q8 i hi
        have hei : es'[i]? = some es'[i] := List.getElem?_eq_getElem hlt
        have hns := (q7 i _ hei).1 hi
        have : es'[i] ∈ (leftOf es.toArray seen).toList := (hmem _).2 ⟨q3.mem_iff.2 (List.getElem_mem hlt), hns⟩
        rw [Array.eq_empty_of_size_eq_zero hz] at this
        simp at this
    refine ops_val (wants_sound hss.slots hw) rfl (r := .value (.tuple #[.bool false])) (w' := w) (by simp [execOp, hu', hrun]) (.inl rfl) (h0 hl I m _ w (hss.put ?_))
    unfold Rep
    refine ⟨[.bool false], rfl, ?_⟩
    unfold RepL
    exact ⟨_, [], rfl, Rep.bool, by unfold RepL; rfl⟩
  · obtain ⟨he1, he2⟩ := (hmem e).1 he
    obtain ⟨j, hj, hej⟩ := List.getElem_of_mem (q3.mem_iff.1 he1)
    have hej' : es'[j]? = some e := by rw [List.getElem?_eq_getElem hj, hej]
    have hjl : j ∈ left := (q7 j e hej').2 he2
    have hkl : ks.length = es'.length := by have := q4.len; simpa using this.symm
    have hvl : vs.length = es'.length := by have := q5.len; simpa using this.symm
    have hk : ks[j]? = some ks[j] := List.getElem?_eq_getElem (by omega)
    have hv : vs[j]? = some vs[j] := List.getElem?_eq_getElem (by omega)
    obtain ⟨uk, k1, k2⟩ := q4.get hk
    obtain ⟨uv, v1, v2⟩ := q5.get hv
    rw [List.getElem?_map, hej'] at k1 v1
    simp only [Option.map_some, Option.some.injEq] at k1 v1
    subst k1
    subst v1
    have hlt : f.b < w.heap.size := (Array.getElem?_eq_some_iff.1 q1).1
    have hst : Stays w { w1 with heap := w1.heap.setIfInBounds f.b (.mapIter (some bm) cl (seen.push e.born) cl) } := ⟨hext.stays.os, hext.stays.tape, hext.stays.output, by rw [hheap]; simp⟩
    obtain ⟨s1, s2⟩ := hss.sim.upd (lo := s.lo) (w' := { w1 with heap := w1.heap.setIfInBounds f.b (.mapIter (some bm) cl (seen.push e.born) cl) }) (B := .iter ks vs (left.filter (· ≠ j)) (some j)) ⟨_, hget_of hg rfl, rfl⟩ hlo hf hst (fun k hk => by
      show (w1.heap.setIfInBounds f.b _)[k]? = _
      rw [Array.getElem?_setIfInBounds_ne (fun e => hk e.symm), hheap]) ⟨g1, g2, bm, es, es', cl, seen.push e.born, by
        show (w1.heap.setIfInBounds f.b _)[f.b]? = _
        rw [hheap]; simp [hlt], q2, q3, q4, q5, q6, fun i e' hi => by
          rw [List.mem_filter, q7 i e' hi]
          simp only [decide_eq_true_eq, Array.mem_push, not_or]
          constructor
          · rintro ⟨h1, h2⟩
            refine ⟨h1, fun hb => h2 ?_⟩
            have h3 : (es'.map (·.born))[i]? = some e'.born := by simp [hi]
            have h4 : (es'.map (·.born))[j]? = some e.born := by simp [hej']
            rw [← hb] at h4
            exact (List.getElem?_inj (List.getElem?_eq_some_iff.1 h3).1 hnd').1 (h3.trans h4.symm)
          · rintro ⟨h1, h2⟩
            refine ⟨h1, fun hij => h2 ?_⟩
            subst hij
            rw [hi] at hej'
            cases hej'
            rfl, fun i hi => q8 i (List.mem_filter.1 hi).1, fun i hi => by
            cases hi
            exact ⟨e, hej', by simp⟩⟩ (by intro h; cases h)
    have hs1 := hss.step s1 s2 (fun _ _ h => h) (fun _ _ h => .inl h)
    refine ops_val (wants_sound hss.slots hw) rfl (r := .value (.tuple #[.bool true, e.key, e.val])) (w' := { w1 with heap := w1.heap.setIfInBounds f.b (.mapIter (some bm) cl (seen.push e.born) cl) }) (by simp [execOp, hu', hrun]) (.inl rfl) (h1 j ks[j] vs[j] hjl (by rw [get_eq]; exact hk) (by rw [get_eq]; exact hv) I m _ _ (hs1.put ?_))
    unfold Rep
    refine ⟨[.bool true, e.key, e.val], rfl, ?_⟩
    unfold RepL
    refine ⟨_, _, rfl, Rep.bool, ?_⟩
    unfold RepL
    refine ⟨_, _, rfl, Rep.mono (fun _ _ h => h) _ (Ij.none_le _) k2, ?_⟩
    unfold RepL
    exact ⟨_, [], rfl, Rep.mono (fun _ _ h => h) _ (Ij.none_le _) v2, by unfold RepL; rfl⟩

theorem run_entry_at {P : Program} (w : World) (r bm since : Nat) (seen : Array Nat) (es : Array MapEntry) (clock : Nat) (e : MapEntry) (hr : w.heap[r]? = some (.mapIter (some bm) since seen clock)) (hs : seen.back? = some e.born) (hb : w.heap[bm]? = some (.map es clock)) (he : e ∈ es.toList) (hn : (es.toList.map (·.born)).Nodup) :
    (Instr.entry (.pointer (some ⟨r, 0, none⟩))).run P w = .ok (.tuple #[e.key, e.val]) w := by
  have hf : es.find? (·.born == e.born) = some e := by rw [← Array.find?_toList]; exact find_born e es.toList hn he
  simp only [Instr.entry, getObj, Sem.run_bind, Sem.run, hr, hb, Result.andThen, hs, bne_self_eq_false, Bool.false_eq_true, if_false, hf]
  rfl

theorem entry_step (hC : C.OK) (hss : SS E s I m a w) {x : Operand} {id : Nat} {ks vs : List V} {left : List Nat} {j : Nat} {kv vv : V} (hop : o.op = .entry x) (hw : wants all s.K o.guard = some true) (hx : kev s.K x = some (.ptr id 0 0)) (hg : hget s.H id = .iter ks vs left (some j)) (hk : get ks j = some kv) (hv : get vs j = some vv)
    (h1 : ∀ I' m' a' w', SS E (s.put o.dst (.tup [kv, vv])) I' m' a' w' → wpListIn (Wd E.ρ) 0 C.P all.toArray Q os a' w') :
    wpListIn (Wd E.ρ) 0 C.P all.toArray Q (o :: os) a w := by
  obtain ⟨dst, op, ty, pos, after, g⟩ := o
  simp only at hop
  subst hop
  obtain ⟨f, hf, g1, g2, bm, es, es', cl, seen, q1, q2, q3, q4, q5, q6, q7, q8, q9⟩ := hss.sim.blk id _ (hget_of hg rfl) rfl
  have hr := kev_rep hss.slots hx
  unfold Rep at hr
  obtain ⟨f', hf', hu⟩ := hr
  rw [hf] at hf'
  cases hf'
  have hu' : a.eval x = .pointer (some ⟨f.b, 0, none⟩) := by rw [hu, g1, g2]
  have hb := hss.sim.sub _ _ q2
  obtain ⟨e, e1, e2⟩ := q9 j rfl
  have hem : e ∈ es := q3.mem_iff.2 (List.mem_of_getElem? e1)
  have hrun := run_entry_at (P := C.P) w f.b bm cl seen es.toArray cl e q1 e2 hb (by simpa using hem) (by simpa using q6.2)
  rw [get_eq] at hk hv
  obtain ⟨uk, k1, k2⟩ := q4.get hk
  obtain ⟨uv, v1, v2⟩ := q5.get hv
  rw [List.getElem?_map, e1] at k1 v1
  simp only [Option.map_some, Option.some.injEq] at k1 v1
  subst k1
  subst v1
  refine ops_val (wants_sound hss.slots hw) rfl (r := .value (.tuple #[e.key, e.val])) (w' := w) (by simp [execOp, hu', hrun]) (.inl rfl) (h1 I m _ w (hss.put ?_))
  unfold Rep
  refine ⟨[e.key, e.val], rfl, ?_⟩
  unfold RepL
  refine ⟨_, _, rfl, Rep.mono (fun _ _ h => h) _ (Ij.none_le _) k2, ?_⟩
  unfold RepL
  exact ⟨_, [], rfl, Rep.mono (fun _ _ h => h) _ (Ij.none_le _) v2, by unfold RepL; rfl⟩

end
end Go.Am
