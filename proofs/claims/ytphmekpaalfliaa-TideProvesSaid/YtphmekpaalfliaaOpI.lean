/- append, copy, clear: as in the model. Conditions: none. -/
import Derived.Test.YtphmekpaalfliaaOpH
set_option linter.unusedVariables false
set_option linter.unusedSimpArgs false
namespace Go.Am
open Go Go.Wk Go.RowKit

section
variable {C : Cfg} {I : Ij} {m : Mem} {H : List Blk} {w w' : World} {K : List (Nat × V)} {a : Act} {lo nid : Nat} {dst : Option Tmp} {ty : TypeId} {pos : String} {after : Array Edge} {g : Option (Nat × Bool)} {e : Eff}

/-- Rows that lie somewhere. -/
def Src (m : Mem) (I : Ij) (es : Nat) (l : List V) (get : Nat → Option Value) (o : Nat) : Prop := ∀ (i : Nat) v, l[i]? = some v → ∃ u, Rep m v I u ∧ u.cells.size = es ∧ ∀ j x, u.cells[j]? = some x → x.oneCell' = true ∧ get (o + i * es + j) = some x

theorem Src.flat {es : Nat} {get : Nat → Option Value} : ∀ {l : List V} {o : Nat}, Src m I es l get o → ∃ fs, RowsFlat m I es l fs ∧ ∀ (j : Nat) x, fs[j]? = some x → get (o + j) = some x
  | [], o, _ => ⟨[], ⟨by simp, fun i v h => by simp at h⟩, fun j x h => by simp at h⟩
  | v :: l, o, h => by
    obtain ⟨u, h1, h2, h3⟩ := h 0 v rfl
    have hr : Src m I es l get (o + es) := fun i x hx => by
      obtain ⟨u', q1, q2, q3⟩ := h (i + 1) x (by simpa using hx)
      refine ⟨u', q1, q2, fun j y hy => ?_⟩
      have := q3 j y hy
      rwa [show o + (i + 1) * es + j = o + es + i * es + j by rw [Nat.add_mul]; omega] at this
    obtain ⟨fs, ⟨f1, f2⟩, f3⟩ := Src.flat hr
    refine ⟨u.cells.toList ++ fs, ⟨by simp [f1, h2, Nat.add_mul]; omega, fun i x hx => ?_⟩, fun j x hj => ?_⟩
    · cases i with
      | zero =>
        simp only [List.getElem?_cons_zero, Option.some.injEq] at hx
        subst hx
        refine ⟨u, h1, h2, fun j y hy => ⟨(h3 j y hy).1, ?_⟩⟩
        have hj := (Array.getElem?_eq_some_iff.1 hy).1
        rw [List.getElem?_append_left (by simp; omega)]
        simpa using hy
      | succ i =>
        obtain ⟨u', q1, q2, q3⟩ := f2 i x (by simpa using hx)
        refine ⟨u', q1, q2, fun j y hy => ⟨(q3 j y hy).1, ?_⟩⟩
        rw [List.getElem?_append_right (by simp [Nat.add_mul, h2]; omega)]
        rw [show (i + 1) * es + j - u.cells.toList.length = i * es + j by simp [Nat.add_mul, h2]; omega]
        exact (q3 j y hy).2
    · by_cases hlt : j < u.cells.size
      · rw [List.getElem?_append_left (by simpa using hlt)] at hj
        have := (h3 j x (by simpa using hj)).2
        simpa using this
      · rw [List.getElem?_append_right (by simpa using hlt)] at hj
        have := f3 _ _ hj
        simp only [Array.length_toList, h2] at this
        rwa [show o + es + (j - es) = o + j by omega] at this

theorem RowsFlat.src {es : Nat} {l : List V} {fs : List Value} (h : RowsFlat m I es l fs) : Src m I es l (fun j => fs[j]?) 0 := fun i v hv => by
  obtain ⟨u, q1, q2, q3⟩ := h.2 i v hv
  exact ⟨u, q1, q2, fun j x hj => ⟨(q3 j x hj).1, by simpa using (q3 j x hj).2⟩⟩

theorem RowsFlat.one {es : Nat} {l : List V} {fs : List Value} (h : RowsFlat m I es l fs) (hes : 0 < es) : ∀ x ∈ fs, x.oneCell' = true := by
  intro x hx
  obtain ⟨p, hp⟩ := List.mem_iff_getElem?.1 hx
  have hlt : p < l.length * es := by rw [← h.1]; exact (List.getElem?_eq_some_iff.1 hp).1
  have hi : p / es < l.length := (Nat.div_lt_iff_lt_mul hes).2 hlt
  obtain ⟨u, q1, q2, q3⟩ := h.2 (p / es) _ (List.getElem?_eq_getElem hi)
  have hj : p % es < u.cells.size := by rw [q2]; exact Nat.mod_lt _ hes
  have := q3 (p % es) _ (Array.getElem?_eq_getElem hj)
  rw [Nat.div_add_mod' p es, hp] at this
  rw [Option.some.inj this.2]; exact this.1

/-- What an appended or copied slice shows. -/
theorem rowsOf_sound (hs : Sim I m H w) {P : Program} {t : Nat} {T : TI} (hT : TIOK P t T) {y : V} {u : Value} {new : List V} {rd : List Nat} (hy : Rep m y I u) (h : rowsOf H y = some (new, rd)) (hn : newOK T new = true) :
    ∃ ad cap fs, u = .slice ad new.length cap ∧ RowsFlat m I T.size new fs ∧ (new ≠ [] → ∃ b o, ad = some ⟨b, o, none⟩ ∧ ∀ (j : Nat) x, fs[j]? = some x → w.cell? ⟨b, o + j, none⟩ = some x) := by
  unfold rowsOf at h
  split at h
  · simp only [Option.some.injEq, Prod.mk.injEq] at h
    obtain ⟨rfl, rfl⟩ := h
    exact ⟨_, _, [], hy.lit, ⟨by simp, fun i v h => by simp at h⟩, fun h => absurd rfl h⟩
  · rename_i l
    simp only [Option.some.injEq, Prod.mk.injEq] at h
    obtain ⟨rfl, rfl⟩ := h
    unfold Rep at hy
    obtain ⟨ad, cap, es, rfl, h1, h2⟩ := hy
    cases l with
    | nil => exact ⟨ad, cap, [], rfl, ⟨by simp, fun i v h => by simp at h⟩, fun h => absurd rfl h⟩
    | cons r l =>
      obtain ⟨b, o, rfl, h3⟩ := h2 (by simp)
      obtain ⟨ur, h4, h5⟩ := h3.get (i := 0) rfl
      have hes : es = T.size := by rw [← h5.1, h4.size]; exact (sizeOK_spec hn).2
      subst hes
      obtain ⟨fs, f1, f2⟩ := Src.flat (m := m) (I := I) (l := r :: l) (es := T.size) (get := fun j => m.cell b j) (o := o) (fun i v hv => by
        obtain ⟨u', q1, q2⟩ := h3.get hv
        exact ⟨u', Rep.mono (fun _ _ h => h) _ (Ij.none_le I) q1, q2.1, q2.2⟩)
      exact ⟨_, cap, fs, rfl, f1, fun _ => ⟨b, o, rfl, fun j x hj => by rw [cell_none]; exact hs.sub.cell (f2 j x hj)⟩⟩
  · rename_i id off len
    split at h
    · rename_i es l hb
      simp only [Option.map_eq_some_iff, Prod.mk.injEq] at h
      obtain ⟨r, h1, rfl, rfl⟩ := h
      obtain ⟨f, hf, hes, c, ty', hw, hc1, hc2, hc3, hc4, hc5⟩ := hs.blk id _ (hget_rows hb) rfl
      unfold Rep at hy
      obtain ⟨f', ad, hf', rfl, g1, g2, g3⟩ := hy
      rw [hf] at hf'
      cases hf'
      have hlen := (takeAt_eq _ _ _ _ h1).1
      cases r with
      | nil =>
        simp only [List.length_nil] at hlen
        subst hlen
        exact ⟨ad, _, [], rfl, ⟨by simp, fun i v h => by simp at h⟩, fun h => absurd rfl h⟩
      | cons r0 r =>
        have hr0 := takeAt_get h1 0 r0 rfl
        obtain ⟨ur, q1, q2⟩ := hc5 _ _ hr0
        have hes2 : es = T.size := by rw [← q2.1, q1.size]; exact (sizeOK_spec hn).2
        subst hes2
        have had := g2 (by simp at hlen; omega)
        subst had
        obtain ⟨fs, f1, f2⟩ := Src.flat (m := m) (I := I) (l := r0 :: r) (es := T.size) (get := fun j => c[j]?) (o := f.o + off * T.size) (fun i v hv => by
          obtain ⟨u', z1, z2⟩ := hc5 _ _ (takeAt_get h1 i v hv)
          refine ⟨u', z1, z2.1, fun j x hj => ⟨(z2.2 j x hj).1, ?_⟩⟩
          have := (z2.2 j x hj).2
          rwa [show f.o + (off + i) * T.size + j = f.o + off * T.size + i * T.size + j by rw [Nat.add_mul]; omega] at this)
        refine ⟨_, _, fs, by rw [hlen], f1, fun _ => ⟨f.b, f.o + off * f.es, rfl, fun j x hj => ?_⟩⟩
        rw [cell_none]
        unfold Mem.cell wmem
        rw [hw, hes]
        exact f2 j x hj
    · cases h
  · cases h

/-- Rows are written over rows, or behind them. -/
theorem RowsIn.put {c : Array Value} {o es p : Nat} {l l' news : List V} {fs : List Value} (h : RowsIn m I c o es l) (hf : RowsFlat m I es news fs) (hb : o + p * es + fs.length ≤ c.size) 
    (hl : ∀ (i : Nat) v, l'[i]? = some v → if p ≤ i ∧ i < p + news.length then news[i - p]? = some v else l[i]? = some v) : RowsIn m I (putC c (o + p * es) fs) o es l' := by
  intro i v hv
  obtain ⟨p1, p2⟩ := putC_spec fs c (o + p * es) hb
  have h1 := hl i v hv
  have hfl := hf.1
  split at h1
  · rename_i hc
    obtain ⟨u, q1, q2, q3⟩ := hf.2 _ _ h1
    refine ⟨u, q1, q2, fun j x hj => ⟨(q3 j x hj).1, ?_⟩⟩
    have hjl : j < es := by rw [← q2]; exact (Array.getElem?_eq_some_iff.1 hj).1
    have e1 : o + i * es + j - (o + p * es) = (i - p) * es + j := by
      obtain ⟨d, rfl⟩ := Nat.exists_eq_add_of_le hc.1
      rw [Nat.add_mul, Nat.add_sub_cancel_left]; omega
    have e2 : p * es ≤ i * es := Nat.mul_le_mul_right _ hc.1
    have e3 : (i + 1) * es ≤ (p + news.length) * es := Nat.mul_le_mul_right _ hc.2
    rw [Nat.add_mul, Nat.add_mul] at e3
    rw [p2, if_pos ⟨by omega, by omega⟩, e1]
    exact (q3 j x hj).2
  · rename_i hc
    obtain ⟨u, q1, q2⟩ := h _ _ h1
    refine ⟨u, q1, q2.1, fun j x hj => ⟨(q2.2 j x hj).1, ?_⟩⟩
    have hjl : j < es := by rw [← q2.1]; exact (Array.getElem?_eq_some_iff.1 hj).1
    rw [p2, if_neg, (q2.2 j x hj).2]
    rintro ⟨h3, h4⟩
    rw [hfl] at h4
    rcases Nat.lt_or_ge i p with h | h
    · have : (i + 1) * es ≤ p * es := Nat.mul_le_mul_right _ h
      rw [Nat.add_mul] at this; omega
    · have h5 : p + news.length ≤ i := by
        rcases Nat.lt_or_ge i (p + news.length) with h6 | h6
        · exact absurd ⟨h, h6⟩ hc
        · exact h6
      have : (p + news.length) * es ≤ i * es := Nat.mul_le_mul_right _ h5
      rw [Nat.add_mul] at this; omega

/-- A block gets another number. -/
theorem Sim.move (hs : Sim I m H w) {id : Nat} {B0 : Blk} (h0 : Am.get H id = some B0) (hl0 : B0.live = true) (hlo : lo ≤ id) (hlo2 : lo ≤ nid) {f f' : Inf} (hf : I id = some f) (hn : Fresh H nid) (hst : Stays w w') (hk : ∀ k, k ≠ f.b → w'.heap[k]? = w.heap[k]?) (hb : f'.b = f.b) {B : Blk}
    (hB : BlkOK (I.put nid f') m w' f' B) (hnf : B ≠ .free) : Sim (I.put nid f') m (hput (hput H id .dead) nid B) w' ∧ Fx I H lo w (I.put nid f') (hput (hput H id .dead) nid B) w' := by
  have hid := get_lt h0
  have hI := hn.none hs
  have hne : id ≠ nid := by rintro rfl; rw [hf] at hI; cases hI
  have hle : nid ≤ (hput H id .dead).length := by rw [hput_length _ _ _ (Nat.le_of_lt hid)]; have := hn.le; omega
  have hoff := hs.off id f ⟨B0, h0, hl0⟩ hf
  have hnb : ∀ j g, Live (hput H id .dead) j → I j = some g → g.b ≠ f.b := fun j g hj hg he => by
    rcases live_hput (Nat.le_of_lt hid) hj with ⟨_, h⟩ | ⟨hn', h⟩
    · cases h
    · exact hn' (hs.inj j id g f h ⟨B0, h0, hl0⟩ hg hf he)
  have h1 := (hs.kill hid).world (m' := m) (w' := w') (fun _ _ h => h) (fun k o hko => by
      show w'.heap[k]? = some o
      rw [hk k (by rintro rfl; rw [hoff] at hko; cases hko)]; exact hs.sub k o hko) (fun j g hj hg => ⟨hk _ (hnb j g hj hg), (hs.kill hid).off j g hj hg⟩)
  have h2 := h1.map f' hle hI
  have h3 := h2.set (id := nid) (f := f') (B := B) (hput_lt_length hle) Ij.put_self hB hnf (by rw [hb]; exact hoff) (fun j g hj hlj hg => by
    rcases live_hput hle hlj with ⟨h, _⟩ | ⟨_, h⟩
    · exact absurd h hj
    · unfold Ij.put at hg
      rw [if_neg hj] at hg
      rw [hb]; exact hnb j g h hg)
  rw [hput_hput _ _ _ _ hle] at h3
  refine ⟨h3, hst, fun k hk' hn' => hk k (fun e => hn' id f hlo ⟨B0, h0, hl0⟩ hf e.symm), Ij.le_put hI, fun j g h4 h5 h6 => ?_, fun j hj => ?_, ?_⟩
  · rcases live_hput hle h5 with ⟨rfl, _⟩ | ⟨hnj, h7⟩
    · rw [Ij.put_self] at h6
      cases h6
      exact .inr ⟨id, f, hlo, ⟨B0, h0, hl0⟩, hf, hb.symm⟩
    · unfold Ij.put at h6
      rw [if_neg hnj] at h6
      rcases live_hput (Nat.le_of_lt hid) h7 with ⟨_, h8⟩ | ⟨_, h8⟩
      · cases h8
      · exact .inr ⟨j, g, h4, h8, h6, rfl⟩
  · rw [get_hput _ _ _ _ hle, if_neg (by omega), get_hput _ _ _ _ (Nat.le_of_lt hid), if_neg (by omega)]
  · rw [hput_length _ _ _ hle, hput_length _ _ _ (Nat.le_of_lt hid)]; omega

theorem Sim.killFx (hs : Sim I m H w) {id : Nat} (hid : id < H.length) (hlo : lo ≤ id) : Fx I H lo w I (hput H id .dead) w := by
  refine ⟨Stays.rfl' w, fun _ _ _ => rfl, Ij.Le.rfl' _, fun j g h1 h2 h3 => ?_, fun j hj => ?_, ?_⟩
  · rcases live_hput (Nat.le_of_lt hid) h2 with ⟨_, h⟩ | ⟨_, h⟩
    · cases h
    · exact .inr ⟨j, g, h1, h, h3, rfl⟩
  · rw [get_hput _ _ _ _ (Nat.le_of_lt hid), if_neg (by omega)]
  · rw [hput_length _ _ _ (Nat.le_of_lt hid)]; omega

theorem Fresh.kill (hn : Fresh H nid) {id : Nat} {B0 : Blk} (h0 : Am.get H id = some B0) (hl0 : B0.live = true) : Fresh (hput H id .dead) nid := by
  have hid := get_lt h0
  rcases hn with h | h
  · exact .inl (by rw [hput_length _ _ _ (Nat.le_of_lt hid)]; omega)
  · refine .inr ?_
    rw [get_hput _ _ _ _ (Nat.le_of_lt hid), if_neg]
    · exact h
    · rintro rfl
      rw [h0] at h
      cases h
      cases hl0

theorem grownBy_ext {w w' : World} (h : w.grownBy w' none) : Ext w w' := ⟨h.os, h.tape, h.output, h.size, fun k hk => h.block k hk (by simp)⟩

/-- A new row of the append's making. -/
theorem owns_blk {w' : World} {base size n : Nat} {el : TypeId} {v' : Value} {fs : List Value} {rows : List V} (h : w'.ownsRow base el size v' n fs) (hn : n ≠ 0) (hpos : 0 < size) (hr : RowsFlat m I size rows fs) (hnl : rows.length = n) :
    ∃ g cap, base ≤ g ∧ v' = .slice (some ⟨g, 0, none⟩) n cap ∧ n ≤ cap ∧ BlkOK I m w' ⟨g, 0, size, cap⟩ (.rows size rows) := by
  obtain ⟨h1, h2⟩ := h
  rcases h2 with ⟨_, h2⟩ | ⟨g, cap, cur, h2, h3, h4, h5, h6, h7, h8⟩
  · exact absurd h2 hn
  · refine ⟨g, cap, h3, h2, h5, rfl, cur, el, h4, by simp [h7], by simp [hnl, h5], h6, hpos, fun i v hv => ?_⟩
    obtain ⟨u, q1, q2, q3⟩ := hr.2 i v hv
    refine ⟨u, q1, q2, fun j x hj => ⟨(q3 j x hj).1, ?_⟩⟩
    have := (q3 j x hj).2
    rw [← h8, List.getElem?_take] at this
    split at this
    · simpa using this
    · cases this

end
end Go.Am
