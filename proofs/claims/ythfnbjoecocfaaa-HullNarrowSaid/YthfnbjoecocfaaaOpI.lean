/- append, copy, clear: as in the model. Conditions: none. -/
import Derived.Test.YthfnbjoecocfaaaOpE
import Derived.Laws.IdiomRangeMap
set_option linter.unusedVariables false
set_option linter.unusedSimpArgs false
namespace Go.Am
open Go Go.Wk Go.RowKit

section
variable {C : Cfg} {I : Ij} {m : Mem} {H : List Blk} {w w' : World} {K : List (Nat × V)} {a : Act} {lo nid : Nat} {dst : Option Tmp} {ty : TypeId} {pos : String} {after : Array Edge} {g : Option (Nat × Bool)} {e : Eff}

/-- Rows that lie somewhere. -/
def Src (m : Mem) (I : Ij) (es : Nat) (l : List V) (get : Nat → Option Value) (o : Nat) : Prop := ∀ (i : Nat) v, l[i]? = some v → ∃ u, Rep m v I u ∧ u.cells.size = es ∧ ∀ j x, u.cells[j]? = some x → x.oneCell' = true ∧ get (o + i * es + j) = some x

theorem Src.flat {es : Nat} {get : Nat → Option Value} : ∀ {l : List V} {o : Nat}, Src m I es l get o → ∃ fs, RowsFlat m I es l fs ∧ ∀ (j : Nat) x, fs[j]? = some x → get (o + j) = some x
 | [], o, _ => ⟨[], ⟨by simp, fun i v h => by simp at h⟩, fun j x h => by simp at h⟩
 | v :: l, o, h => by
  obtain ⟨u, h1, h2, h3⟩ := h 0 v rfl
  have hr : Src m I es l get (o + es) := fun i x hx => by
   obtain ⟨u', q1, q2, q3⟩ := h (i + 1) x (by simpa using hx)
   refine ⟨u', q1, q2, fun j y hy => ?_⟩
   have := q3 j y hy
   rwa [show o + (i + 1) * es + j = o + es + i * es + j by rw [Nat.add_mul]; omega] at this
  obtain ⟨fs, ⟨f1, f2⟩, f3⟩ := Src.flat hr
  refine ⟨u.cells.toList ++ fs, ⟨by simp [f1, h2, Nat.add_mul]; omega, fun i x hx => ?_⟩, fun j x hj => ?_⟩
  ·cases i with
   | zero =>
    simp only [List.getElem?_cons_zero, Option.some.injEq] at hx
    subst hx
    refine ⟨u, h1, h2, fun j y hy => ⟨(h3 j y hy).1, ?_⟩⟩
    have hj := (Array.getElem?_eq_some_iff.1 hy).1
    rw [List.getElem?_append_left (by simp; omega)]
    simpa using hy
   | succ i =>
    obtain ⟨u', q1, q2, q3⟩ := f2 i x (by simpa using hx)
    refine ⟨u', q1, q2, fun j y hy => ⟨(q3 j y hy).1, ?_⟩⟩
    rw [List.getElem?_append_right (by simp [Nat.add_mul, h2]; omega)]
    rw [show (i + 1) * es + j - u.cells.toList.length = i * es + j by simp [Nat.add_mul, h2]; omega]
    exact (q3 j y hy).2
  ·by_cases hlt : j < u.cells.size
   ·rw [List.getElem?_append_left (by simpa using hlt)] at hj
    have := (h3 j x (by simpa using hj)).2
    simpa using this
   ·rw [List.getElem?_append_right (by simpa using hlt)] at hj
    have := f3 _ _ hj
    simp only [Array.length_toList, h2] at this
    rwa [show o + es + (j - es) = o + j by omega] at this

theorem RowsFlat.src {es : Nat} {l : List V} {fs : List Value} (h : RowsFlat m I es l fs) : Src m I es l (fun j => fs[j]?) 0 := fun i v hv => by
 obtain ⟨u, q1, q2, q3⟩ := h.2 i v hv
 exact ⟨u, q1, q2, fun j x hj => ⟨(q3 j x hj).1, by simpa using (q3 j x hj).2⟩⟩

theorem RowsFlat.one {es : Nat} {l : List V} {fs : List Value} (h : RowsFlat m I es l fs) (hes : 0 < es) : ∀ x ∈ fs, x.oneCell' = true := by
 intro x hx
 obtain ⟨p, hp⟩ := List.mem_iff_getElem?.1 hx
 have hlt : p < l.length * es := by rw [← h.1]; exact (List.getElem?_eq_some_iff.1 hp).1
 have hi : p / es < l.length := (Nat.div_lt_iff_lt_mul hes).2 hlt
 obtain ⟨u, q1, q2, q3⟩ := h.2 (p / es) _ (List.getElem?_eq_getElem hi)
 have hj : p % es < u.cells.size := by rw [q2]; exact Nat.mod_lt _ hes
 have := q3 (p % es) _ (Array.getElem?_eq_getElem hj)
 rw [Nat.div_add_mod' p es, hp] at this
 rw [Option.some.inj this.2]; exact this.1

/-- What an appended or copied slice shows. -/
theorem rowsOf_sound (hs : Sim I m H w) {P : Program} {t : Nat} {T : TI} (hT : TIOK P t T) {y : V} {u : Value} {new : List V} {rd : List Nat} (hy : Rep m y I u) (h : rowsOf H y = some (new, rd)) (hn : newOK T new = true) :
  ∃ ad cap fs, u = .slice ad new.length cap ∧ RowsFlat m I T.size new fs ∧ (new ≠ [] → ∃ b o, ad = some ⟨b, o, none⟩ ∧ ∀ (j : Nat) x, fs[j]? = some x → w.cell? ⟨b, o + j, none⟩ = some x) := by
 unfold rowsOf at h
 split at h
 ·simp only [Option.some.injEq, Prod.mk.injEq] at h
  obtain ⟨rfl, rfl⟩ := h
  exact ⟨_, _, [], hy.lit, ⟨by simp, fun i v h => by simp at h⟩, fun h => absurd rfl h⟩
 ·rename_i l
  simp only [Option.some.injEq, Prod.mk.injEq] at h
  obtain ⟨rfl, rfl⟩ := h
  unfold Rep at hy
  obtain ⟨ad, cap, es, rfl, h1, h2⟩ := hy
  cases l with
  | nil => exact ⟨ad, cap, [], rfl, ⟨by simp, fun i v h => by simp at h⟩, fun h => absurd rfl h⟩
  | cons r l =>
   obtain ⟨b, o, rfl, h3⟩ := h2 (by simp)
   obtain ⟨ur, h4, h5⟩ := h3.get (i := 0) rfl
   have hes : es = T.size := by rw [← h5.1, h4.size]; exact (sizeOK_spec hn).2
   subst hes
   obtain ⟨fs, f1, f2⟩ := Src.flat (m := m) (I := I) (l := r :: l) (es := T.size) (get := fun j => m.cell b j) (o := o) (fun i v hv => by
    obtain ⟨u', q1, q2⟩ := h3.get hv
    exact ⟨u', Rep.mono (fun _ _ h => h) _ (Ij.none_le I) q1, q2.1, q2.2⟩)
   exact ⟨_, cap, fs, rfl, f1, fun _ => ⟨b, o, rfl, fun j x hj => by rw [cell_none]; exact hs.sub.cell (f2 j x hj)⟩⟩
 ·rename_i id off len
  split at h
  ·rename_i es l hb
   simp only [Option.map_eq_some_iff, Prod.mk.injEq] at h
   obtain ⟨r, h1, rfl, rfl⟩ := h
   obtain ⟨f, hf, hes, c, ty', hw, hc1, hc2, hc3, hc4, hc5⟩ := hs.blk id _ (hget_rows hb) rfl
   unfold Rep at hy
   obtain ⟨f', ad, hf', rfl, g1, g2, g3⟩ := hy
   rw [hf] at hf'
   cases hf'
   have hlen := (takeAt_eq _ _ _ _ h1).1
   cases r with
   | nil =>
    simp only [List.length_nil] at hlen
    subst hlen
    exact ⟨ad, _, [], rfl, ⟨by simp, fun i v h => by simp at h⟩, fun h => absurd rfl h⟩
   | cons r0 r =>
    have hr0 := takeAt_get h1 0 r0 rfl
    obtain ⟨ur, q1, q2⟩ := hc5 _ _ hr0
    have hes2 : es = T.size := by rw [← q2.1, q1.size]; exact (sizeOK_spec hn).2
    subst hes2
    have had := g2 (by simp at hlen; omega)
    subst had
    obtain ⟨fs, f1, f2⟩ := Src.flat (m := m) (I := I) (l := r0 :: r) (es := T.size) (get := fun j => c[j]?) (o := f.o + off * T.size) (fun i v hv => by
     obtain ⟨u', z1, z2⟩ := hc5 _ _ (takeAt_get h1 i v hv)
     refine ⟨u', z1, z2.1, fun j x hj => ⟨(z2.2 j x hj).1, ?_⟩⟩
     have := (z2.2 j x hj).2
     rwa [show f.o + (off + i) * T.size + j = f.o + off * T.size + i * T.size + j by rw [Nat.add_mul]; omega] at this)
    refine ⟨_, _, fs, by rw [hlen], f1, fun _ => ⟨f.b, f.o + off * f.es, rfl, fun j x hj => ?_⟩⟩
    rw [cell_none]
    unfold Mem.cell wmem
    rw [hw, hes]
    exact f2 j x hj
  ·cases h
 ·cases h

/-- Rows are written over rows, or behind them. -/
theorem RowsIn.put {c : Array Value} {o es p : Nat} {l l' news : List V} {fs : List Value} (h : RowsIn m I c o es l) (hf : RowsFlat m I es news fs) (hb : o + p * es + fs.length ≤ c.size) 
  (hl : ∀ (i : Nat) v, l'[i]? = some v → if p ≤ i ∧ i < p + news.length then news[i - p]? = some v else l[i]? = some v) : RowsIn m I (putC c (o + p * es) fs) o es l' := by
 intro i v hv
 obtain ⟨p1, p2⟩ := putC_spec fs c (o + p * es) hb
 have h1 := hl i v hv
 have hfl := hf.1
 split at h1
 ·rename_i hc
  obtain ⟨u, q1, q2, q3⟩ := hf.2 _ _ h1
  refine ⟨u, q1, q2, fun j x hj => ⟨(q3 j x hj).1, ?_⟩⟩
  have hjl : j < es := by rw [← q2]; exact (Array.getElem?_eq_some_iff.1 hj).1
  have e1 : o + i * es + j - (o + p * es) = (i - p) * es + j := by
   obtain ⟨d, rfl⟩ := Nat.exists_eq_add_of_le hc.1
   rw [Nat.add_mul, Nat.add_sub_cancel_left]; omega
  have e2 : p * es ≤ i * es := Nat.mul_le_mul_right _ hc.1
  have e3 : (i + 1) * es ≤ (p + news.length) * es := Nat.mul_le_mul_right _ hc.2
  rw [Nat.add_mul, Nat.add_mul] at e3
  rw [p2, if_pos ⟨by omega, by omega⟩, e1]
  exact (q3 j x hj).2
 ·rename_i hc
  obtain ⟨u, q1, q2⟩ := h _ _ h1
  refine ⟨u, q1, q2.1, fun j x hj => ⟨(q2.2 j x hj).1, ?_⟩⟩
  have hjl : j < es := by rw [← q2.1]; exact (Array.getElem?_eq_some_iff.1 hj).1
  rw [p2, if_neg, (q2.2 j x hj).2]
  rintro ⟨h3, h4⟩
  rw [hfl] at h4
  rcases Nat.lt_or_ge i p with h | h
  ·have : (i + 1) * es ≤ p * es := Nat.mul_le_mul_right _ h
   rw [Nat.add_mul] at this; omega
  ·have h5 : p + news.length ≤ i := by
    rcases Nat.lt_or_ge i (p + news.length) with h6 | h6
    ·exact absurd ⟨h, h6⟩ hc
    ·exact h6
   have : (p + news.length) * es ≤ i * es := Nat.mul_le_mul_right _ h5
   rw [Nat.add_mul] at this; omega

/-- A block gets another number. -/
theorem Sim.move (hs : Sim I m H w) {id : Nat} {B0 : Blk} (h0 : Am.get H id = some B0) (hl0 : B0.live = true) (hlo : lo ≤ id) (hlo2 : lo ≤ nid) {f f' : Inf} (hf : I id = some f) (hn : Fresh H nid) (hst : Stays w w') (hk : ∀ k, k ≠ f.b → w'.heap[k]? = w.heap[k]?) (hb : f'.b = f.b) {B : Blk}
  (hB : BlkOK (I.put nid f') m w' f' B) (hnf : B ≠ .free) : Sim (I.put nid f') m (hput (hput H id .dead) nid B) w' ∧ Fx I H lo w (I.put nid f') (hput (hput H id .dead) nid B) w' := by
 have hid := get_lt h0
 have hI := hn.none hs
 have hne : id ≠ nid := by rintro rfl; rw [hf] at hI; cases hI
 have hle : nid ≤ (hput H id .dead).length := by rw [hput_length _ _ _ (Nat.le_of_lt hid)]; have := hn.le; omega
 have hoff := hs.off id f ⟨B0, h0, hl0⟩ hf
 have hnb : ∀ j g, Live (hput H id .dead) j → I j = some g → g.b ≠ f.b := fun j g hj hg he => by
  rcases live_hput (Nat.le_of_lt hid) hj with ⟨_, h⟩ | ⟨hn', h⟩
  ·cases h
  ·exact hn' (hs.inj j id g f h ⟨B0, h0, hl0⟩ hg hf he)
 have h1 := (hs.kill hid).world (m' := m) (w' := w') (fun _ _ h => h) (fun k o hko => by
   show w'.heap[k]? = some o
   rw [hk k (by rintro rfl; rw [hoff] at hko; cases hko)]; exact hs.sub k o hko) (fun j g hj hg => ⟨hk _ (hnb j g hj hg), (hs.kill hid).off j g hj hg⟩)
 have h2 := h1.map f' hle hI
 have h3 := h2.set (id := nid) (f := f') (B := B) (hput_lt_length hle) Ij.put_self hB hnf (by rw [hb]; exact hoff) (fun j g hj hlj hg => by
  rcases live_hput hle hlj with ⟨h, _⟩ | ⟨_, h⟩
  ·exact absurd h hj
  ·unfold Ij.put at hg
   rw [if_neg hj] at hg
   rw [hb]; exact hnb j g h hg)
 rw [hput_hput _ _ _ _ hle] at h3
 refine ⟨h3, hst, fun k hk' hn' => hk k (fun e => hn' id f hlo ⟨B0, h0, hl0⟩ hf e.symm), Ij.le_put hI, fun j g h4 h5 h6 => ?_, fun j hj => ?_, ?_⟩
 ·rcases live_hput hle h5 with ⟨rfl, _⟩ | ⟨hnj, h7⟩
  ·rw [Ij.put_self] at h6
   cases h6
   exact .inr ⟨id, f, hlo, ⟨B0, h0, hl0⟩, hf, hb.symm⟩
  ·unfold Ij.put at h6
   rw [if_neg hnj] at h6
   rcases live_hput (Nat.le_of_lt hid) h7 with ⟨_, h8⟩ | ⟨_, h8⟩
   ·cases h8
   ·exact .inr ⟨j, g, h4, h8, h6, rfl⟩
 ·rw [get_hput _ _ _ _ hle, if_neg (by omega), get_hput _ _ _ _ (Nat.le_of_lt hid), if_neg (by omega)]
 ·rw [hput_length _ _ _ hle, hput_length _ _ _ (Nat.le_of_lt hid)]; omega

theorem Sim.killFx (hs : Sim I m H w) {id : Nat} (hid : id < H.length) (hlo : lo ≤ id) : Fx I H lo w I (hput H id .dead) w := by
 refine ⟨Stays.rfl' w, fun _ _ _ => rfl, Ij.Le.rfl' _, fun j g h1 h2 h3 => ?_, fun j hj => ?_, ?_⟩
 ·rcases live_hput (Nat.le_of_lt hid) h2 with ⟨_, h⟩ | ⟨_, h⟩
  ·cases h
  ·exact .inr ⟨j, g, h1, h, h3, rfl⟩
 ·rw [get_hput _ _ _ _ (Nat.le_of_lt hid), if_neg (by omega)]
 ·rw [hput_length _ _ _ (Nat.le_of_lt hid)]; omega

theorem Fresh.kill (hn : Fresh H nid) {id : Nat} {B0 : Blk} (h0 : Am.get H id = some B0) (hl0 : B0.live = true) : Fresh (hput H id .dead) nid := by
 have hid := get_lt h0
 rcases hn with h | h
 ·exact .inl (by rw [hput_length _ _ _ (Nat.le_of_lt hid)]; omega)
 ·refine .inr ?_
  rw [get_hput _ _ _ _ (Nat.le_of_lt hid), if_neg]
  ·exact h
  ·rintro rfl
   rw [h0] at h
   cases h
   cases hl0

theorem grownBy_ext {w w' : World} (h : w.grownBy w' none) : Ext w w' := ⟨h.os, h.tape, h.output, h.size, fun k hk => h.block k hk (by simp)⟩

/-- A new row of the append's making. -/
theorem owns_blk {w' : World} {base size n : Nat} {el : TypeId} {v' : Value} {fs : List Value} {rows : List V} (h : w'.ownsRow base el size v' n fs) (hn : n ≠ 0) (hpos : 0 < size) (hr : RowsFlat m I size rows fs) (hnl : rows.length = n) :
  ∃ g cap, base ≤ g ∧ v' = .slice (some ⟨g, 0, none⟩) n cap ∧ n ≤ cap ∧ BlkOK I m w' ⟨g, 0, size, cap⟩ (.rows size rows) := by
 obtain ⟨h1, h2⟩ := h
 rcases h2 with ⟨_, h2⟩ | ⟨g, cap, cur, h2, h3, h4, h5, h6, h7, h8⟩
 ·exact absurd h2 hn
 ·refine ⟨g, cap, h3, h2, h5, rfl, cur, el, h4, by simp [h7], by simp [hnl, h5], h6, hpos, fun i v hv => ?_⟩
  obtain ⟨u, q1, q2, q3⟩ := hr.2 i v hv
  refine ⟨u, q1, q2, fun j x hj => ⟨(q3 j x hj).1, ?_⟩⟩
  have := (q3 j x hj).2
  rw [← h8, List.getElem?_take] at this
  split at this
  ·simpa using this
  ·cases this

end
end Go.Am

namespace Go.Am
open Go Go.Wk Go.RowKit

section
variable {C : Cfg} {I : Ij} {m : Mem} {H : List Blk} {w w' : World} {K : List (Nat × V)} {a : Act} {lo nid : Nat} {dst : Option Tmp} {ty : TypeId} {pos : String} {after : Array Edge} {g : Option (Nat × Bool)} {e : Eff}

/-- What a built-in function's run has to be. -/
def BiOut (P : Program) (s : Sem Next) (I : Ij) (m : Mem) (H : List Blk) (lo : Nat) (w : World) (v : V) (H' : List Blk) : Prop :=
 ∃ u w' I', s.run P w = .ok (.value u) w' ∧ Sim I' m H' w' ∧ Rep m v I' u ∧ Fx I H lo w I' H' w'

theorem run_append0 {P : Program} {t el cap sLen sCap : Nat} {T : TI} (hu : P.underlying t = some (.slice el)) (hT : TIOK P el T) {ad base : Option Addr} (hle : sLen ≤ sCap) :
  (Builtin.append_ #[t, t] ty #[.slice base sLen sCap, .slice ad 0 cap]).run P w = .ok (.slice base sLen sCap) w := by
 have hfc : ∀ w : World, (Builtin.firstCells T.size 0 (.slice ad 0 cap)).run P w = .ok #[] w := fun w => by
  cases ad <;> simp [Builtin.firstCells, loadCells, loadCellsFrom]
 cases base <;> simp [Builtin.append_, run_underlying hu, hT.size, Builtin.lenOf, hle, hfc, storeCells]

theorem bytes_ok {n b : Nat} (h1 : n ≤ maxRows) (h2 : b ≤ 4096) : n * b ≤ 140737488355328 := by
 have : n * b ≤ maxRows * 4096 := Nat.mul_le_mul h1 h2
 unfold maxRows at this; omega

theorem append_sound {P : Program} (hs : Sim I m H w) (hn : Fresh H nid) (hlo : lo ≤ nid) {t el : Nat} {T : TI} (hu : P.underlying t = some (.slice el)) (hT : TIOK P el T) {x y : V} {ux uy : Value} (hx : Rep m x I ux) (hy : Rep m y I uy)
  (h : appendA T H lo nid x y = some e) : BiOut P (do pure (.value (← Builtin.append_ #[t, t] ty #[ux, uy]))) I m H lo w e.v (puts H e.wr) := by
 have key : ∀ {u : Value} {w' : World} {I' : Ij} {v : V} {H' : List Blk}, (Builtin.append_ #[t, t] ty #[ux, uy]).run P w = .ok u w' → Sim I' m H' w' → Rep m v I' u → Fx I H lo w I' H' w' → BiOut P (do pure (.value (← Builtin.append_ #[t, t] ty #[ux, uy]))) I m H lo w v H' :=
  fun {u w' I' v H'} h1 h2 h3 h4 => ⟨u, w', I', by simp [h1], h2, h3, h4⟩
 obtain ⟨ti, hi, hz, hsz, hby⟩ := hT.get
 have hzs : T.zeroC.cells.size = T.size := by rw [TI.zero_cells hT]; simp [hT.zlen]
 unfold appendA at h
 split at h
 ·cases h
 ·rename_i new rd hrows
  cases hno : newOK T new with
  | false => rw [hno] at h; cases h
  | true =>
   rw [hno] at h
   simp only [cond_true] at h
   obtain ⟨ad, cap, fs, rfl, hflat, hsrc⟩ := rowsOf_sound hs hT hy hrows hno
   have hone := hflat.one hT.pos
   have hfl := hflat.1
   split at h
   ·have hux := hx.lit
    subst hux
    split at h
    ·simp only [Option.some.injEq] at h
     subst h
     exact key (run_append0 hu hT (Nat.le_refl 0)) hs (Rep.of_lit fun c h => by cases h) (Fx.rfl' _ _ _ _)
    ·rename_i hne
     split at h
     ·rename_i hbd
      simp only [Option.some.injEq] at h
      subst h
      have hne' : new ≠ [] := fun e => hne e
      have hpos : 0 < new.length := List.length_pos_iff.2 hne'
      obtain ⟨b2, o2, rfl, hc⟩ := hsrc hne'
      obtain ⟨v', w', hr, r1, r2, r3⟩ := run_append_own (P := P) (w := w) w.heap.size t ty el ti T.zeroC T.size T.bytes hu hi hz hsz hby hzs hT.pos (.slice none 0 0) 0 [] (World.ownsRow_nil w _ el T.size) ⟨b2, o2, none⟩ new.length cap fs hfl
       (fun j u hj => by rw [Addr.add_n]; exact hc j u hj) hone (by rw [Nat.zero_add]; have := hbd.1; unfold maxRows at this; unfold maxLen; omega) (by rw [Nat.zero_add]; exact bytes_ok hbd.1 hbd.2) (Nat.le_refl _)
      rw [Nat.zero_add, List.nil_append] at r1
      have hext := grownBy_ext r2
      obtain ⟨g', cap', q1, rfl, q3, q4⟩ := owns_blk r1 (by omega) hT.pos hflat rfl
      have hI := hn.none hs
      obtain ⟨s1, s2⟩ := hs.new (lo := lo) hn hlo hext (f := ⟨g', 0, T.size, cap'⟩) q1 (B := .rows T.size new) (q4.mono (fun _ _ h => h) (Ij.le_put hI) rfl) (by intro h; cases h)
      refine key hr s1 ?_ s2
      unfold Rep
      exact ⟨_, _, Ij.put_self, rfl, by simpa using q3, fun _ => by simp, fun _ => ⟨_, _, rfl⟩⟩
     ·cases h
   ·rename_i id off len
    split at h
    ·cases h
    rename_i hlt
    split at h
    ·rename_i es l hb
     cases hes' : Nat.beq es T.size with
     | false => rw [hes'] at h; cases h
     | true =>
      rw [hes'] at h
      simp only [cond_true] at h
      have := Nat.eq_of_beq_eq_true hes'
      subst this
      have hb' := hget_rows hb
      have hlive : Live H id := ⟨_, hb', rfl⟩
      have hid := get_lt hb'
      obtain ⟨f, hf, hes, c, ty', hw, hc1, hc2, hc3, hc4, hc5⟩ := hs.blk id _ hb' rfl
      unfold Rep at hx
      obtain ⟨f', ad1, hf', rfl, g1, g2, g3⟩ := hx
      rw [hf] at hf'
      cases hf'
      have had1 : ∃ b o, ad1 = some ⟨b, o, none⟩ := by
       rcases Nat.lt_or_ge off f.cap with h | h
       ·exact ⟨_, _, g2 h⟩
       ·exact g3 h
      unfold appendTo at h
      split at h
      ·rename_i hfull
       split at h
       ·rename_i hbd
        simp only [Option.some.injEq] at h
        subst h
        have hI := hn.none hs
        have hsize : f.o + (off + len) * T.size ≤ c.size := by
         have : (off + len) * T.size ≤ f.cap * T.size := Nat.mul_le_mul_right _ g1
         omega
        by_cases hroom : len + new.length ≤ f.cap - off
        · -- in place
         have hnew : ∀ (cc : Array Value), cc.size = c.size → RowsIn m I cc f.o T.size (l ++ new) → ∀ w' : World, w'.heap[f.b]? = some (.cells cc ty' (0, 0)) → BlkOK (I.put nid ⟨f.b, f.o + off * T.size, T.size, f.cap - off⟩) m w' ⟨f.b, f.o + off * T.size, T.size, f.cap - off⟩ (.rows T.size (l.drop off ++ new)) := by
          intro cc hcs hri w' hw'
          refine ⟨rfl, cc, ty', hw', ?_, ?_, by show f.cap - off ≤ maxLen; omega, hc4, fun i v hv => ?_⟩
          ·show f.o + off * T.size + (f.cap - off) * T.size ≤ cc.size
           rw [Nat.add_assoc, ← Nat.add_mul, show off + (f.cap - off) = f.cap by omega, hcs]; exact hc1
          ·show (l.drop off ++ new).length ≤ f.cap - off
           simp; omega
          ·have hv' : (l ++ new)[off + i]? = some v := by
            have hd : l.drop off ++ new = (l ++ new).drop off := by rw [List.drop_append_of_le_length (by omega)]
            rw [hd, List.getElem?_drop] at hv
            exact hv
           obtain ⟨u, q1, q2⟩ := hri _ _ hv'
           refine ⟨u, Rep.mono (fun _ _ h => h) _ (Ij.le_put hI) q1, ?_⟩
           rwa [show f.o + (off + i) * T.size = f.o + off * T.size + i * T.size by rw [Nat.add_mul]; omega] at q2
         have hrep : Rep m (.osl nid 0 (len + new.length)) (I.put nid ⟨f.b, f.o + off * T.size, T.size, f.cap - off⟩) (.slice ad1 (len + new.length) (f.cap - off)) := by
          unfold Rep
          refine ⟨_, ad1, Ij.put_self, rfl, by simpa using hroom, fun h => ?_, fun h => had1⟩
          have h : 0 < f.cap - off := h
          rw [g2 (by omega), hes]
          simp
         by_cases h0 : new = []
         ·subst h0
          have hB := hnew c rfl (by rw [List.append_nil]; exact hc5) w hw
          obtain ⟨s1, s2⟩ := hs.move (lo := lo) (f' := ⟨f.b, f.o + off * T.size, T.size, f.cap - off⟩) hb' rfl (by omega) hlo hf hn (Stays.rfl' w) (fun _ _ => rfl) rfl hB (by intro h; cases h)
          refine key (run_append0 hu hT (by simp at hroom; omega)) s1 ?_ s2
          simpa using hrep
         ·obtain ⟨b2, o2, rfl, hc⟩ := hsrc h0
          have hpos : 0 < new.length := List.length_pos_iff.2 h0
          have hoff : off < f.cap := by omega
          have had := g2 hoff
          subst had
          have hcsz : f.o + (off + len) * T.size + fs.length ≤ c.size := by
           rw [hfl]
           have : (off + (len + new.length)) * T.size ≤ f.cap * T.size := Nat.mul_le_mul_right _ (by omega)
           rw [Nat.add_mul, Nat.add_mul] at this
           rw [Nat.add_mul]
           omega
          have hadr : f.o + off * f.es + len * ti.size = f.o + (off + len) * T.size := by rw [hes, hsz, Nat.add_mul]; omega
          have hr := run_append_room_cells (P := P) w t ty el ti hu hi f.b (f.o + off * f.es) len (f.cap - off) ⟨b2, o2, none⟩ new.length cap fs (by rw [hsz]; exact hfl) (fun j u hj => by rw [Addr.add_n]; exact hc j u hj) hone hroom
           (fun j hj => by
            rw [hadr, cell_none]
            unfold Mem.cell wmem
            rw [hw]
            have : f.o + (off + len) * T.size + j < c.size := by omega
            simp [this]) (fun j hj => by unfold World.frozen?; rw [hw]; simp)
          rw [hadr] at hr
          obtain ⟨z1, z2, z3⟩ := setCells_spec fs (f.o + (off + len) * T.size) w c hw
          have hri : RowsIn m I (putC c (f.o + (off + len) * T.size) fs) f.o T.size (l ++ new) := by
           refine RowsIn.put hc5 hflat hcsz fun i v hv => ?_
           by_cases hil : i < l.length
           ·rw [if_neg (by omega)]
            rwa [List.getElem?_append_left hil] at hv
           ·rw [List.getElem?_append_right (by omega)] at hv
            have := (List.getElem?_eq_some_iff.1 hv).1
            rw [if_pos ⟨by omega, by omega⟩, hfull]; exact hv
          have hB := hnew _ (putC_spec fs c _ hcsz).1 hri _ z3
          obtain ⟨s1, s2⟩ := hs.move (lo := lo) (f' := ⟨f.b, f.o + off * T.size, T.size, f.cap - off⟩) hb' rfl (by omega) hlo hf hn z1 z2 rfl hB (by intro h; cases h)
          exact key hr s1 hrep s2
        · -- a new row
         have h0 : new ≠ [] := by rintro rfl; simp at hroom; omega
         obtain ⟨b2, o2, rfl, hc⟩ := hsrc h0
         have hpos : 0 < new.length := List.length_pos_iff.2 h0
         obtain ⟨b1, o1, rfl⟩ := had1
         obtain ⟨olds, ho1, ho2⟩ := Src.flat (m := m) (I := I) (l := l.drop off) (es := T.size) (get := fun j => c[j]?) (o := f.o + off * T.size) (fun i v hv => by
          rw [List.getElem?_drop] at hv
          obtain ⟨u, q1, q2⟩ := hc5 _ _ hv
          refine ⟨u, q1, q2.1, fun j x hj => ⟨(q2.2 j x hj).1, ?_⟩⟩
          have := (q2.2 j x hj).2
          rwa [show f.o + (off + i) * T.size + j = f.o + off * T.size + i * T.size + j by rw [Nat.add_mul]; omega] at this)
         have hol : olds.length = len * T.size := by rw [ho1.1, List.length_drop]; congr 1; omega
         obtain ⟨v', w', hr, r1, r2⟩ := run_append_arg_grows (P := P) w t ty el ti T.zeroC T.size T.bytes hu hi hz hsz hby hzs hT.pos ⟨b1, o1, none⟩ len (f.cap - off) olds hol (fun j u hj => by
           have hl0 : 0 < len := by
            rcases Nat.eq_zero_or_pos len with h | h
            ·subst h
             have := (List.getElem?_eq_some_iff.1 hj).1
             omega
            ·exact h
           have had := g2 (by omega)
           cases had
           rw [Addr.add_n, cell_none]
           unfold Mem.cell wmem
           rw [hw, hes]
           exact ho2 j u hj) ⟨b2, o2, none⟩ new.length cap fs hfl (fun j u hj => by rw [Addr.add_n]; exact hc j u hj) (by omega) (by have := hbd.1; unfold maxRows at this; unfold maxLen; omega) (bytes_ok (by omega) hbd.2)
         have hext := grownBy_ext r2
         have hflat2 : RowsFlat m I T.size (l.drop off ++ new) (olds ++ fs) := by
          refine ⟨by simp [ho1.1, hfl, Nat.add_mul], fun i v hv => ?_⟩
          by_cases hil : i < (l.drop off).length
          ·rw [List.getElem?_append_left hil] at hv
           obtain ⟨u, q1, q2, q3⟩ := ho1.2 i v hv
           refine ⟨u, q1, q2, fun j x hj => ⟨(q3 j x hj).1, ?_⟩⟩
           have := (q3 j x hj).2
           rw [List.getElem?_append_left (List.getElem?_eq_some_iff.1 this).1]; exact this
          ·rw [List.getElem?_append_right (by omega)] at hv
           obtain ⟨u, q1, q2, q3⟩ := hflat.2 _ v hv
           refine ⟨u, q1, q2, fun j x hj => ⟨(q3 j x hj).1, ?_⟩⟩
           have hk : olds.length ≤ i * T.size := by rw [ho1.1]; exact Nat.mul_le_mul_right _ (by omega)
           rw [List.getElem?_append_right (by omega), show i * T.size + j - olds.length = (i - (l.drop off).length) * T.size + j by rw [Nat.sub_mul, ho1.1]; rw [ho1.1] at hk; omega]
           exact (q3 j x hj).2
         obtain ⟨g', cap', q1, rfl, q3, q4⟩ := owns_blk r1 (by omega) hT.pos hflat2 (by simp; omega)
         obtain ⟨s1, s2⟩ := (hs.kill hid).new (lo := lo) (hn.kill hb' rfl) hlo hext (f := ⟨g', 0, T.size, cap'⟩) q1 (B := .rows T.size (l.drop off ++ new)) (q4.mono (fun _ _ h => h) (Ij.le_put hI) rfl) (by intro h; cases h)
         refine key hr s1 ?_ ((hs.killFx hid (by omega)).tr s2)
         unfold Rep
         exact ⟨_, _, Ij.put_self, rfl, by simpa using q3, fun _ => by simp, fun _ => ⟨_, _, rfl⟩⟩
       ·cases h
      ·rename_i hnf
       split at h
       ·rename_i hfit
        split at h
        ·rename_i l' hset
         simp only [Option.some.injEq] at h
         subst h
         obtain ⟨a1, a2, a3⟩ := setAt_eq _ _ _ _ hset
         have hrep : Rep m (.osl id off (len + new.length)) I (.slice ad1 (len + new.length) (f.cap - off)) := by
          unfold Rep
          exact ⟨f, ad1, hf, rfl, by omega, g2, g3⟩
         by_cases h0 : new = []
         ·subst h0
          simp only [setAt, Option.some.injEq] at hset
          subst hset
          have hB : BlkOK I m w f (.rows T.size l) := ⟨hes, c, ty', hw, hc1, hc2, hc3, hc4, hc5⟩
          obtain ⟨s1, s2⟩ := hs.upd (lo := lo) hlive (by omega) hf (Stays.rfl' w) (fun _ _ => rfl) hB (by intro h; cases h)
          refine key (run_append0 hu hT (by omega)) s1 ?_ s2
          simpa using hrep
         ·obtain ⟨b2, o2, rfl, hc⟩ := hsrc h0
          have hpos : 0 < new.length := List.length_pos_iff.2 h0
          have hoff : off < f.cap := by omega
          have had := g2 hoff
          subst had
          have hcsz : f.o + (off + len) * T.size + fs.length ≤ c.size := by
           rw [hfl]
           have : (off + (len + new.length)) * T.size ≤ f.cap * T.size := Nat.mul_le_mul_right _ (by omega)
           rw [Nat.add_mul, Nat.add_mul] at this
           rw [Nat.add_mul]
           omega
          have hadr : f.o + off * f.es + len * ti.size = f.o + (off + len) * T.size := by rw [hes, hsz, Nat.add_mul]; omega
          have hr := run_append_room_cells (P := P) w t ty el ti hu hi f.b (f.o + off * f.es) len (f.cap - off) ⟨b2, o2, none⟩ new.length cap fs (by rw [hsz]; exact hfl) (fun j u hj => by rw [Addr.add_n]; exact hc j u hj) hone (by omega)
           (fun j hj => by
            rw [hadr, cell_none]
            unfold Mem.cell wmem
            rw [hw]
            have : f.o + (off + len) * T.size + j < c.size := by omega
            simp [this]) (fun j hj => by unfold World.frozen?; rw [hw]; simp)
          rw [hadr] at hr
          obtain ⟨z1, z2, z3⟩ := setCells_spec fs (f.o + (off + len) * T.size) w c hw
          have hri : RowsIn m I (putC c (f.o + (off + len) * T.size) fs) f.o T.size l' := by
           refine RowsIn.put hc5 hflat hcsz fun i v hv => ?_
           rw [a3] at hv
           split at hv
           ·rename_i hcc; rw [if_pos hcc]; exact hv
           ·rename_i hcc; rw [if_neg hcc]; exact hv
          have hB : BlkOK I m (w.setCells f.b (f.o + (off + len) * T.size) fs) f (.rows T.size l') := ⟨hes, _, ty', z3, by rw [(putC_spec fs c _ hcsz).1]; exact hc1, by rw [a1]; exact hc2, hc3, hc4, hri⟩
          obtain ⟨s1, s2⟩ := hs.upd (lo := lo) hlive (by omega) hf z1 z2 hB (by intro h; cases h)
          exact key hr s1 hrep s2
        ·cases h
       ·cases h
    ·cases h
   ·cases h

end
end Go.Am

namespace Go.Am
open Go Go.Wk Go.RowKit

section
variable {C : Cfg} {I : Ij} {m : Mem} {H : List Blk} {w w' : World} {K : List (Nat × V)} {a : Act} {lo nid : Nat} {dst : Option Tmp} {ty : TypeId} {pos : String} {after : Array Edge} {g : Option (Nat × Bool)} {e : Eff}

theorem RowsFlat.take {es : Nat} {l : List V} {fs : List Value} (h : RowsFlat m I es l fs) (n : Nat) : RowsFlat m I es (l.take n) (fs.take ((l.take n).length * es)) := by
 have hle : (l.take n).length * es ≤ fs.length := by rw [h.1]; exact Nat.mul_le_mul_right _ (by simp; omega)
 refine ⟨by rw [List.length_take]; omega, fun i v hv => ?_⟩
 have hi := (List.getElem?_eq_some_iff.1 hv).1
 rw [List.getElem?_take] at hv
 split at hv
 ·obtain ⟨u, q1, q2, q3⟩ := h.2 i v hv
  refine ⟨u, q1, q2, fun j x hj => ⟨(q3 j x hj).1, ?_⟩⟩
  have hjl : j < es := by rw [← q2]; exact (Array.getElem?_eq_some_iff.1 hj).1
  have : (i + 1) * es ≤ (l.take n).length * es := Nat.mul_le_mul_right _ hi
  rw [Nat.add_mul] at this
  rw [List.getElem?_take, if_pos (by omega)]
  exact (q3 j x hj).2
 ·cases hv

/-- Rows are written over rows of a block of its own. -/
theorem Sim.over (hs : Sim I m H w) {P : Program} {id off len es : Nat} {l l' news : List V} {fs : List Value} {ad : Option Addr} {f : Inf} (hb' : Am.get H id = some (.rows es l)) (hlo : lo ≤ id) (hf : I id = some f) (g1 : off + len ≤ f.cap) (g2 : off < f.cap → ad = some ⟨f.b, f.o + off * f.es, none⟩) (hne : news ≠ [])
  (hnl : news.length ≤ len) (hset : setAt l off news = some l') (hflat : RowsFlat m I es news fs) :
  ∃ a' w', ad = some a' ∧ (storeCells a' fs 0).run P w = .ok () w' ∧ Sim I m (hput H id (.rows es l')) w' ∧ Fx I H lo w I (hput H id (.rows es l')) w' := by
 obtain ⟨f', hf', hes, c, ty', hw, hc1, hc2, hc3, hc4, hc5⟩ := hs.blk id _ hb' rfl
 rw [hf] at hf'
 cases hf'
 obtain ⟨a1, a2, a3⟩ := setAt_eq _ _ _ _ hset
 have hpos : 0 < news.length := List.length_pos_iff.2 hne
 have had := g2 (by omega)
 have hcsz : f.o + off * es + fs.length ≤ c.size := by
  rw [hflat.1]
  have : (off + news.length) * es ≤ f.cap * es := Nat.mul_le_mul_right _ (by omega)
  rw [Nat.add_mul] at this
  omega
 obtain ⟨w', q1, q2, q3, q4⟩ := run_storeOwn (P := P) (w := w) (o := f.o + off * es) (vs := fs) hw hcsz (hflat.one hc4)
 have hri : RowsIn m I (putC c (f.o + off * es) fs) f.o es l' := by
  refine RowsIn.put hc5 hflat hcsz fun i v hv => ?_
  rw [a3] at hv
  split at hv
  ·rename_i hcc; rw [if_pos hcc]; exact hv
  ·rename_i hcc; rw [if_neg hcc]; exact hv
 have hB : BlkOK I m w' f (.rows es l') := ⟨hes, _, ty', q4, by rw [(putC_spec fs c _ hcsz).1]; exact hc1, by rw [a1]; exact hc2, hc3, hc4, hri⟩
 obtain ⟨s1, s2⟩ := hs.upd (lo := lo) ⟨_, hb', rfl⟩ hlo hf q2 q3 hB (by intro h; cases h)
 exact ⟨_, w', had, by rw [hes]; exact q1, s1, s2⟩

theorem copy_sound {P : Program} (hs : Sim I m H w) {t el : Nat} {ats : Array TypeId} (hat : ats[0]? = some t) {T : TI} (hu : P.underlying t = some (.slice el)) (hT : TIOK P el T) {x y : V} {ux uy : Value} (hx : Rep m x I ux) (hy : Rep m y I uy)
  (h : copyA T H lo x y = some e) : BiOut P (do pure (.value (← Builtin.copy_ ats ty #[ux, uy]))) I m H lo w e.v (puts H e.wr) := by
 unfold copyA at h
 split at h
 ·cases h
 ·rename_i src rd hrows
  cases hno : newOK T src with
  | false => rw [hno] at h; cases h
  | true =>
   rw [hno] at h
   simp only [cond_true] at h
   obtain ⟨ad, cap, fs, rfl, hflat, hsrc⟩ := rowsOf_sound hs hT hy hrows hno
   split at h
   ·rename_i id off len
    split at h
    ·cases h
    rename_i hlt
    split at h
    ·rename_i es l hb
     cases hes' : Nat.beq es T.size with
     | false => rw [hes'] at h; cases h
     | true =>
      rw [hes'] at h
      simp only [cond_true] at h
      have := Nat.eq_of_beq_eq_true hes'
      subst this
      have hb' := hget_rows hb
      split at h
      ·rename_i l' hset
       simp only [Option.some.injEq] at h
       subst h
       unfold Rep at hx
       obtain ⟨f, ad1, hf, rfl, g1, g2, g3⟩ := hx
       have hmin : Nat.min src.length len = (src.take len).length := by simp [Nat.min_comm]
       have hfl := (hflat.take len).1
       have hfc : (Builtin.firstCells T.size (src.take len).length (.slice ad src.length cap)).run P w = .ok (fs.take ((src.take len).length * T.size)).toArray w := by
        by_cases h0 : src.take len = []
        ·rw [h0]
         simp only [List.length_nil, Nat.zero_mul, List.take_zero]
         cases ad <;> simp [Builtin.firstCells, loadCells, loadCellsFrom]
        ·obtain ⟨b2, o2, rfl, hc⟩ := hsrc (by intro e; rw [e] at h0; simp at h0)
         exact run_firstCells_some w T.size _ ⟨b2, o2, none⟩ src.length cap _ hfl (fun j v hj => by
          rw [Addr.add_n]
          rw [List.getElem?_take] at hj
          split at hj
          ·exact hc j v hj
          ·cases hj)
       by_cases h0 : src.take len = []
       ·rw [h0] at hset hfc hmin ⊢
        simp only [setAt, Option.some.injEq] at hset
        subst hset
        have hes := (hs.es hb' hf).1
        obtain ⟨f', hf', hB⟩ := hs.blk id _ hb' rfl
        rw [hf] at hf'
        cases hf'
        obtain ⟨s1, s2⟩ := hs.upd (lo := lo) ⟨_, hb', rfl⟩ (by omega) hf (Stays.rfl' w) (fun _ _ => rfl) hB (by intro h; cases h)
        refine ⟨.int .i64 0, w, I, ?_, s1, Rep.int, s2⟩
        simp only [List.length_nil, Nat.zero_mul, List.take_zero] at hfc hmin
        have hmin' : Nat.min src.length len = 0 := hmin
        cases ad1 <;> simp [Builtin.copy_, hat, run_underlying hu, Builtin.lenOf, hT.size, hmin', hfc, storeCells, goInt]
       ·obtain ⟨a', w', rfl, q1, s1, s2⟩ := hs.over (lo := lo) (P := P) hb' (by omega) hf g1 g2 h0 (by simp; omega) hset (hflat.take len)
        refine ⟨.int .i64 ((src.take len).length : Nat), w', I, ?_, s1, Rep.int, s2⟩
        generalize (src.take len).length = N at hmin hfc q1 ⊢
        simp [Builtin.copy_, hat, run_underlying hu, Builtin.lenOf, hT.size, hmin, hfc, q1, goInt]
      ·cases h
    ·cases h
   ·cases h

theorem clear_sound {P : Program} (hs : Sim I m H w) {t el : Nat} {ats : Array TypeId} (hat : ats[0]? = some t) {T : TI} (hu : P.underlying t = some (.slice el)) (hT : TIOK P el T) {x : V} {ux : Value} (hx : Rep m x I ux)
  (h : clearA T H lo x = some e) : BiOut P (do pure (.value (← Builtin.clear_ ats ty #[ux]))) I m H lo w e.v (puts H e.wr) := by
 unfold clearA at h
 split at h
 ·rename_i id off len
  split at h
  ·cases h
  rename_i hlt
  split at h
  ·rename_i es l hb
   cases hes' : Nat.beq es T.size with
   | false => rw [hes'] at h; cases h
   | true =>
    rw [hes'] at h
    simp only [cond_true] at h
    have := Nat.eq_of_beq_eq_true hes'
    subst this
    have hb' := hget_rows hb
    split at h
    ·rename_i l' hset
     simp only [Option.some.injEq] at h
     subst h
     unfold Rep at hx
     obtain ⟨f, ad1, hf, rfl, g1, g2, g3⟩ := hx
     have hflat := RowsFlat.zero (m := m) (I := I) hT len
     by_cases h0 : len = 0
     ·subst h0
      simp only [List.replicate_zero, setAt, Option.some.injEq] at hset
      subst hset
      obtain ⟨f', hf', hB⟩ := hs.blk id _ hb' rfl
      rw [hf] at hf'
      cases hf'
      obtain ⟨s1, s2⟩ := hs.upd (lo := lo) ⟨_, hb', rfl⟩ (by omega) hf (Stays.rfl' w) (fun _ _ => rfl) hB (by intro h; cases h)
      refine ⟨.tuple #[], w, I, ?_, s1, Rep.undef, s2⟩
      cases ad1 <;> simp [Builtin.clear_, hat, run_underlying hu]
     ·obtain ⟨a', w', rfl, q1, s1, s2⟩ := hs.over (lo := lo) (P := P) hb' (by omega) hf g1 g2 (by simp [h0]) (by simp) hset hflat
      refine ⟨.tuple #[], w', I, ?_, s1, Rep.undef, s2⟩
      have hz := zeros_arr hT (len * T.size)
      have hzc : (Builtin.zeroCells T.zeroC.cells len).toList = (List.range (len * T.size)).map fun k => (T.zs[k % T.size]?).getD default := by
       unfold Builtin.zeroCells
       rw [TI.zero_cells hT]
       have hq : (Array.range (len * T.zs.toArray.size)).map (fun i => T.zs.toArray[i % T.zs.toArray.size]!) = ((List.range (len * T.size)).map fun k => (T.zs[k % T.size]?).getD default).toArray := by
        rw [← hz]
        simp [hT.zlen]
       rw [hq]
      cases len with
      | zero => exact absurd rfl h0
      | succ len => simp [Builtin.clear_, hat, run_underlying hu, hT.zero, hzc, q1]
    ·cases h
  ·cases h
 ·cases h

/-! ### Maps -/

theorem mapTI_spec (hC : C.OK) {t : Nat} {kd : Kd} {Te : TI} (h : mapTI C t = some (kd, Te)) : ∃ kt el Tk, C.P.underlying t = some (.map kt el) ∧ Tk.kd = kd ∧ C.ty kt = some Tk ∧ TIOK C.P el Te := by
 unfold mapTI at h
 split at h
 ·rename_i T hT
  split at h
  ·rename_i kt el hk
   have hkd := (hC.ty _ _ hT).kd
   rw [hk] at hkd
   split at h
   ·rename_i Tk Te' hTk hTe
    simp only [Option.some.injEq, Prod.mk.injEq] at h
    obtain ⟨rfl, rfl⟩ := h
    exact ⟨kt, el, Tk, hkd, rfl, hTk, hC.ty _ _ hTe⟩
   ·cases h
  ·cases h
 ·cases h

theorem run_findKey {P : Program} {kt : Nat} {ik : IntKind} (hu : P.underlying kt = some (.int ik)) {n : Int} {es : List MapEntry} {r : Option (Nat × Value)} (h : findE ik n es 0 = some r) : (Instr.findKey kt (.int ik n) es).run P w = .ok r w := by
 unfold findE at h
 simp [Instr.findKey, run_underlying hu, h]

/-! ### Keys: numbers, and cells that are numbers -/

theorem intsOf_rep : ∀ {xs : List V} {is : List (IntKind × Int)} {us : List Value}, intsOf xs = some is → RepL m xs I us → us = is.map (fun p => Value.int p.1 p.2) ∧ xs = is.map fun p => V.lit (.int p.1 p.2)
 | [], is, us, h, hr => by
  simp only [intsOf, Option.some.injEq] at h
  subst h
  unfold RepL at hr
  exact ⟨hr, rfl⟩
 | x :: r, is, us, h, hr => by
  unfold RepL at hr
  obtain ⟨u, us', rfl, h1, h2⟩ := hr
  unfold intsOf at h
  split at h
  ·rename_i e; cases e
  ·rename_i k n r' e
   cases e
   split at h
   ·rename_i s hs
    simp only [Option.some.injEq] at h
    subst h
    obtain ⟨e1, e2⟩ := intsOf_rep hs h2
    rw [h1.lit, e1]
    exact ⟨rfl, by rw [List.map_cons, ← e2]⟩
   ·cases h
  ·cases h

theorem kindsEq_iff : ∀ {a b : List IntKind}, kindsEq a b = true ↔ a = b
 | [], [] => by simp [kindsEq]
 | [], _ :: _ => by simp [kindsEq]
 | _ :: _, [] => by simp [kindsEq]
 | x :: a, y :: b => by
  simp only [kindsEq, Bool.and_eq_true, kindEq_iff, kindsEq_iff, List.cons.injEq]

theorem ints_inj : ∀ {a b : List (IntKind × Int)}, a.map (fun p => Value.int p.1 p.2) = b.map (fun p => Value.int p.1 p.2) → a = b
 | [], [], _ => rfl
 | [], _ :: _, h => by simp at h
 | _ :: _, [], h => by simp at h
 | (k, n) :: a, (k', n') :: b, h => by
  simp only [List.map_cons, List.cons.injEq, Value.int.injEq] at h
  obtain ⟨⟨rfl, rfl⟩, h⟩ := h
  rw [ints_inj h]

theorem KeyS.inj {b b' : Bool} {ks ks' : List IntKind} {u : Value} (h : KeyS b ks u) (h' : KeyS b' ks' u) : b = b' ∧ ks = ks' := by
 cases b <;> cases b'
 ·obtain ⟨k, n, rfl, rfl⟩ := h
  obtain ⟨k', n', rfl, e⟩ := h'
  cases e
  exact ⟨rfl, rfl⟩
 ·obtain ⟨k, n, rfl, rfl⟩ := h
  obtain ⟨is, _, e⟩ := h'
  cases e
 ·obtain ⟨is, _, rfl⟩ := h
  obtain ⟨k, n, _, e⟩ := h'
  cases e
 ·obtain ⟨is, rfl, rfl⟩ := h
  obtain ⟨is', rfl, e⟩ := h'
  have e1 : is.map (fun p => Value.int p.1 p.2) = is'.map (fun p => Value.int p.1 p.2) := by
   have := Value.agg.inj e
   simpa using congrArg Array.toList this
  rw [ints_inj e1]
  exact ⟨rfl, rfl⟩

/-- What keys say when they are compared. -/
theorem keyEq_spec {k x : V} {uk ux : Value} {b : Bool} {ks : List IntKind} {c : Bool} (hk : Rep m k I uk) (hK : KeyS b ks uk) (hx : Rep m x I ux) (h : keyEq k x = some c) : KeyS b ks ux ∧ (c = true ↔ ux = uk) := by
 unfold keyEq at h
 split at h
 ·rename_i k1 n1 k2 n2
  have e1 := hk.lit
  have e2 := hx.lit
  subst e1; subst e2
  split at h
  ·rename_i he
   rw [kindEq_iff] at he
   subst he
   simp only [Option.some.injEq] at h
   subst h
   cases b with
   | false =>
    obtain ⟨k, n, rfl, e⟩ := hK
    cases e
    refine ⟨⟨_, _, rfl, rfl⟩, ?_⟩
    rw [decide_eq_true_eq]
    exact ⟨fun e => by rw [e], fun e => by cases e; rfl⟩
   | true => obtain ⟨is, _, e⟩ := hK; cases e
  ·cases h
 ·have e1 := hk.lit
  subst e1
  cases b with
  | false => obtain ⟨k, n, _, e⟩ := hK; cases e
  | true => obtain ⟨is, _, e⟩ := hK; cases e
 ·rename_i xs ys
  split at h
  ·rename_i a1 a2 h1 h2
   split at h
   ·rename_i he
    rw [kindsEq_iff] at he
    simp only [Option.some.injEq] at h
    subst h
    unfold Rep at hk hx
    obtain ⟨us, rfl, _, r1⟩ := hk
    obtain ⟨us', rfl, _, r2⟩ := hx
    obtain ⟨rfl, _⟩ := intsOf_rep h1 r1
    obtain ⟨rfl, _⟩ := intsOf_rep h2 r2
    cases b with
    | false => obtain ⟨k, n, _, e⟩ := hK; cases e
    | true =>
     obtain ⟨is, rfl, e⟩ := hK
     have e1 : a1 = is := by
      have := Value.agg.inj e
      exact ints_inj (by simpa using congrArg Array.toList this)
     subst e1
     refine ⟨⟨a2, he.symm, rfl⟩, ?_⟩
     rw [decide_eq_true_eq]
     refine ⟨fun e => by rw [e], fun e => ?_⟩
     have := Value.agg.inj e
     exact (ints_inj (by simpa using congrArg Array.toList this)).symm
   ·cases h
  ·cases h
 ·cases h

theorem findA_spec {k : V} {uk : Value} {b : Bool} {kk : List IntKind} (hk : Rep m k I uk) (hK : KeyS b kk uk) : ∀ {ks : List V} {us : List Value} {i : Nat} {r : Option Nat}, RepL m ks I us → findA k ks i = some r →
  match r with
  | some j => i ≤ j ∧ us[j - i]? = some uk
  | none => ∀ x ∈ us, KeyS b kk x ∧ x ≠ uk
 | [], us, i, r, hr, h => by
  simp only [findA, Option.some.injEq] at h
  subst h
  unfold RepL at hr
  subst hr
  intro x hx; cases hx
 | x :: ks, us, i, r, hr, h => by
  unfold RepL at hr
  obtain ⟨u, us', rfl, h1, h2⟩ := hr
  simp only [findA] at h
  cases hc : keyEq k x with
  | none => rw [hc] at h; cases h
  | some c =>
   rw [hc] at h
   obtain ⟨q1, q2⟩ := keyEq_spec hk hK h1 hc
   cases c with
   | true =>
    simp only [Option.some.injEq] at h
    subst h
    exact ⟨Nat.le_refl _, by simp [q2.1 rfl]⟩
   | false =>
    have hne : u ≠ uk := fun e => by have := q2.2 e; cases this
    have ih := findA_spec hk hK h2 h
    cases r with
    | some j =>
     obtain ⟨h3, h4⟩ := ih
     refine ⟨by omega, ?_⟩
     rw [show j - i = (j - (i + 1)) + 1 by omega]
     simpa using h4
    | none =>
     intro y hy
     rcases List.mem_cons.1 hy with rfl | hy
     ·exact ⟨q1, hne⟩
     ·exact ih y hy

/-- What a program does with keys of a type. -/
structure KT (P : Program) (kt : Nat) (b : Bool) (ks : List IntKind) : Prop where
 find : ∀ (w : World) (u : Value) (es : List MapEntry), KeyS b ks u → (∀ e ∈ es, KeyS b ks e.key) → (∀ (j : Nat) en, es[j]? = some en → en.key = u → (∀ (k : Nat) e, k < j → es[k]? = some e → e.key ≠ u) → (Instr.findKey kt u es).run P w = .ok (some (j, en.val)) w) ∧ ((∀ e ∈ es, e.key ≠ u) → (Instr.findKey kt u es).run P w = .ok none w)
 check : ∀ (w : World) (e : Bool) (u : Value), KeyS b ks u → (Instr.checkKey e 10000 kt u).run P w = .ok () w

theorem sameBits_key {b : Bool} {ks : List IntKind} {u : Value} (h : KeyS b ks u) : Instr.sameBits 10000 u u = true := by
 cases b with
 | false => obtain ⟨k, n, _, rfl⟩ := h; simp [Instr.sameBits]
 | true =>
  obtain ⟨is, _, rfl⟩ := h
  show Instr.sameBits (9999 + 1) _ _ = true
  simp only [Instr.sameBits, beq_self_eq_true, Bool.true_and, List.all_eq_true]
  intro p hp
  obtain ⟨x, y⟩ := p
  have hxy : x = y ∧ x ∈ is.map fun p => Value.int p.1 p.2 := by
   have hz : ∀ (l : List Value) (x y : Value), (x, y) ∈ l.zip l → x = y ∧ x ∈ l := by
    intro l
    induction l with
    | nil => intro x y h; cases h
    | cons a r ih =>
     intro x y h
     rw [List.zip_cons_cons] at h
     rcases List.mem_cons.1 h with h | h
     ·cases h; exact ⟨rfl, List.mem_cons_self⟩
     ·obtain ⟨h1, h2⟩ := ih x y h; exact ⟨h1, List.mem_cons_of_mem _ h2⟩
   exact hz _ _ _ (by simpa using hp)
  obtain ⟨rfl, hx⟩ := hxy
  obtain ⟨q, _, rfl⟩ := List.mem_map.1 hx
  show Instr.sameBits (9998 + 1) _ _ = true
  simp [Instr.sameBits]

theorem kt_int {P : Program} {kt : Nat} {k : IntKind} (hu : P.underlying kt = some (.int k)) : KT P kt false [k] := by
 refine ⟨fun w u es hK hes => ?_, fun w e u hK => ?_⟩
 ·obtain ⟨k', n, e, rfl⟩ := hK
  cases e
  have key : ∀ e ∈ es, ∃ n', e.key = .int k n' := fun e he => by
   obtain ⟨k', n', e1, e2⟩ := hes e he
   cases e1
   exact ⟨n', e2⟩
  refine ⟨fun j en hj hen hbef => ?_, fun hne => ?_⟩
  ·obtain ⟨ek, ev, eb⟩ := en
   simp only at hen
   subst hen
   have := findE_some (ik := k) (n := n) (v := ev) (b := eb) (es := es) (j := j) (i := 0) (fun i e hi he => by
    obtain ⟨n', h⟩ := key e (List.mem_of_getElem? he)
    exact ⟨n', h, fun e' => hbef i e hi he (by rw [h, e'])⟩) hj
   rw [Nat.zero_add] at this
   exact run_findKey hu this
  ·exact run_findKey hu (findE_none fun e he => by
    obtain ⟨n', h⟩ := key e he
    exact ⟨n', h, fun e' => hne e he (by rw [h, e'])⟩)
 ·obtain ⟨k', n, e1, rfl⟩ := hK
  cases e1
  exact checkKey_int hu w

theorem run_asking {P : Program} {kt : Nat} {ks : List IntKind} (heq : ∀ (w : World) (u u' : Value), KeyS true ks u → KeyS true ks u' → ∃ r, (Op.equal kt u u').run P w = .ok r w ∧ (r = true ↔ u = u')) (w : World) {u : Value} (hK : KeyS true ks u) : ∀ (es : List MapEntry) (i : Nat), (∀ e ∈ es, KeyS true ks e.key) →
  (∀ (j : Nat) en, es[j]? = some en → en.key = u → (∀ (k : Nat) e, k < j → es[k]? = some e → e.key ≠ u) → (Instr.findAsking kt u es i).run P w = .ok (some (i + j, en.val)) w) ∧ ((∀ e ∈ es, e.key ≠ u) → (Instr.findAsking kt u es i).run P w = .ok none w)
 | [], i, _ => ⟨fun j en h => by simp at h, fun _ => by simp [Instr.findAsking]⟩
 | e :: es, i, hes => by
  obtain ⟨r, h1, h2⟩ := heq w u e.key hK (hes e List.mem_cons_self)
  have ih := run_asking heq w hK es (i + 1) fun e he => hes e (List.mem_cons_of_mem _ he)
  refine ⟨fun j en hj hen hbef => ?_, fun hne => ?_⟩
  ·cases j with
   | zero =>
    simp only [List.getElem?_cons_zero, Option.some.injEq] at hj
    subst hj
    have hr : r = true := h2.2 hen.symm
    subst hr
    simp [Instr.findAsking, h1]
   | succ j =>
    have hr : r = false := by
     cases r with
     | false => rfl
     | true => exact absurd (h2.1 rfl).symm (hbef 0 e (by omega) rfl)
    subst hr
    have := ih.1 j en (by simpa using hj) hen (fun k e' hk he' => hbef (k + 1) e' (by omega) (by simpa using he'))
    simp only [Instr.findAsking, Sem.run_bind, h1, Result.andThen_ok, Bool.false_eq_true, if_false, this]
    congr 3; omega
  ·have hr : r = false := by
    cases r with
    | false => rfl
    | true => exact absurd (h2.1 rfl).symm (hne e List.mem_cons_self)
   subst hr
   have := ih.2 fun e' he' => hne e' (List.mem_cons_of_mem _ he')
   simp only [Instr.findAsking, Sem.run_bind, h1, Result.andThen_ok, Bool.false_eq_true, if_false, this]

theorem kt_agg {P : Program} {kt : Nat} {ks : List IntKind} {d : TypeDesc} (hd : P.underlying kt = some d) (heq : ∀ (w : World) (u u' : Value), KeyS true ks u → KeyS true ks u' → ∃ r, (Op.equal kt u u').run P w = .ok r w ∧ (r = true ↔ u = u')) (hck : ∀ (w : World) (e : Bool) (u : Value), KeyS true ks u → (Instr.checkKey e 10000 kt u).run P w = .ok () w) : KT P kt true ks := by
 refine ⟨fun w u es hK hes => ?_, hck⟩
 have h := run_asking heq w hK es 0 hes
 simp only [Nat.zero_add] at h
 cases es with
 | nil =>
  refine ⟨fun j en hj => by simp at hj, fun _ => ?_⟩
  simp [Instr.findKey, run_underlying hd, Instr.findNow]
 | cons e es =>
  have hnow : Instr.findNow d u (e :: es) 0 = none := by
   obtain ⟨is, _, rfl⟩ := hK
   cases d <;> simp [Instr.findNow, Instr.sameNow]
  have hrun : (Instr.findKey kt u (e :: es)).run P w = (Instr.findAsking kt u (e :: es)).run P w := by
   simp [Instr.findKey, run_underlying hd, hnow]
  rw [hrun]
  exact h

/-- Parts that are numbers, one behind the other. -/
theorem eqParts_ints (d : Nat) : ∀ {ps : List Fld} {o : Nat} {ks : List IntKind} {is is' : List (IntKind × Int)} {xs ys pre pre' : List V}, fldKinds C o ps = some ks → is.map (·.1) = ks → is'.map (·.1) = ks → xs = pre ++ is.map (fun p => V.lit (.int p.1 p.2)) → ys = pre' ++ is'.map (fun p => V.lit (.int p.1 p.2)) → pre.length = o → pre'.length = o →
  eqParts (eqT C.ty (d + 1)) (fun t off cs => match C.ty t with | some T => partA T off cs | none => none) xs ys ps = some (decide (is = is'))
 | [], o, ks, is, is', xs, ys, pre, pre', h, h1, h2, _, _, _, _ => by
  simp only [fldKinds, Option.some.injEq] at h
  subst h
  rw [List.map_eq_nil_iff] at h1 h2
  subst h1; subst h2
  rfl
 | p :: ps, o, ks, is, is', xs, ys, pre, pre', h, h1, h2, hx, hy, hp, hp' => by
  simp only [fldKinds] at h
  cases hb : Nat.beq p.off o with
  | false => rw [hb] at h; cases h
  | true =>
   rw [hb] at h
   have hoff := Nat.eq_of_beq_eq_true hb
   simp only [cond_true] at h
   cases hT : C.ty p.ty with
   | none => rw [hT] at h; cases h
   | some T =>
    rw [hT] at h
    simp only at h
    split at h
    ·rename_i k hkd
     cases ha : T.agg with
     | true => rw [ha] at h; cases h
     | false =>
      rw [ha] at h
      simp only [cond_false, Option.map_eq_some_iff] at h
      obtain ⟨ks', h3, rfl⟩ := h
      cases is with
      | nil => simp at h1
      | cons a is =>
       cases is' with
       | nil => simp at h2
       | cons b is' =>
        obtain ⟨k1, n1⟩ := a
        obtain ⟨k2, n2⟩ := b
        simp only [List.map_cons, List.cons.injEq] at h1 h2
        obtain ⟨rfl, h1⟩ := h1
        obtain ⟨rfl, h2⟩ := h2
        have g1 : partA T p.off xs = some (.lit (.int k2 n1)) := by
         unfold partA
         rw [ha, hoff, hx, ← hp, get_eq]; simp
        have g2 : partA T p.off ys = some (.lit (.int k2 n2)) := by
         unfold partA
         rw [ha, hoff, hy, ← hp', get_eq]; simp
        have g3 : eqT C.ty (d + 1) p.ty (.lit (.int k2 n1)) (.lit (.int k2 n2)) = some (decide (n1 = n2)) := by
         simp only [eqT, hT, hkd]
         rw [if_pos (kindEq_iff.2 rfl)]
        simp only [eqParts, hT, g1, g2, g3]
        have ih := eqParts_ints d (is := is) (is' := is') (xs := xs) (ys := ys) (pre := pre ++ [.lit (.int k2 n1)]) (pre' := pre' ++ [.lit (.int k2 n2)]) h3 h1 h2 (by rw [hx]; simp) (by rw [hy]; simp) (by simp [hp]) (by simp [hp'])
        by_cases hn : n1 = n2
        ·subst hn
         simp only [decide_true, ih, List.cons.injEq, true_and]
        ·simp [hn]
    ·cases h

theorem eqElems_ints (d : Nat) {e : Nat} {T : TI} {k : IntKind} (hT : C.ty e = some T) (hkd : T.kd = .int k) (ha : T.agg = false) {is is' : List (IntKind × Int)} {xs ys : List V} (hx : xs = is.map fun p => V.lit (.int p.1 p.2)) (hy : ys = is'.map fun p => V.lit (.int p.1 p.2)) {t : Nat} (h1 : is.map (·.1) = List.replicate t k) (h2 : is'.map (·.1) = List.replicate t k) :
  ∀ (n i : Nat), i + n = t → eqElems (eqT C.ty (d + 1) e) (fun off cs => match C.ty e with | some T => partA T off cs | none => none) 1 xs ys n i = some (decide (is.drop i = is'.drop i))
 | 0, i, h => by
  have l1 : is.length = t := by have := congrArg List.length h1; simpa using this
  have l2 : is'.length = t := by have := congrArg List.length h2; simpa using this
  rw [List.drop_eq_nil_of_le (by omega), List.drop_eq_nil_of_le (by omega)]
  rfl
 | n + 1, i, h => by
  have l1 : is.length = t := by have := congrArg List.length h1; simpa using this
  have l2 : is'.length = t := by have := congrArg List.length h2; simpa using this
  have i1 : i < is.length := by omega
  have i2 : i < is'.length := by omega
  have k1 : is[i].1 = k := by
   have : (is.map (·.1))[i]'(by simpa using i1) = k := by simp only [h1, List.getElem_replicate]
   simpa using this
  have k2 : is'[i].1 = k := by
   have : (is'.map (·.1))[i]'(by simpa using i2) = k := by simp only [h2, List.getElem_replicate]
   simpa using this
  have g1 : partA T (i * 1) xs = some (.lit (.int k is[i].2)) := by
   unfold partA
   rw [ha, Nat.mul_one, hx, get_eq]; simp [i1, k1]
  have g2 : partA T (i * 1) ys = some (.lit (.int k is'[i].2)) := by
   unfold partA
   rw [ha, Nat.mul_one, hy, get_eq]; simp [i2, k2]
  have g3 : eqT C.ty (d + 1) e (.lit (.int k is[i].2)) (.lit (.int k is'[i].2)) = some (decide (is[i].2 = is'[i].2)) := by
   simp only [eqT, hT, hkd]
   rw [if_pos (kindEq_iff.2 rfl)]
  have ih := eqElems_ints d hT hkd ha hx hy h1 h2 n (i + 1) (by omega)
  have hd : (is.drop i = is'.drop i) ↔ is[i].2 = is'[i].2 ∧ is.drop (i + 1) = is'.drop (i + 1) := by
   rw [List.drop_eq_getElem_cons i1, List.drop_eq_getElem_cons i2, List.cons.injEq, Prod.ext_iff, k1, k2]
   simp
  simp only [eqElems, hT] at ih ⊢
  simp only [g1, g2, g3]
  by_cases hn : is[i].2 = is'[i].2
  ·simp only [hn, decide_true, ih]
   congr 1
   rw [Bool.eq_iff_iff, decide_eq_true_eq, decide_eq_true_eq, hd]
   simp [hn]
  ·simp only [hn, decide_false]
   congr 1
   symm
   rw [decide_eq_false_iff_not, hd]
   exact fun h => hn h.1

/-- A row of numbers, as it is told and as it is. -/
theorem rep_ints {m : Mem} {I : Ij} (is : List (IntKind × Int)) : Rep m (.agg (is.map fun p => V.lit (.int p.1 p.2))) I (.agg (is.map fun p => Value.int p.1 p.2).toArray) := by
 unfold Rep
 refine ⟨_, rfl, fun x hx => ?_, ?_⟩
 ·obtain ⟨p, _, rfl⟩ := List.mem_map.1 hx; rfl
 ·induction is with
  | nil => unfold RepL; rfl
  | cons p r ih =>
   rw [List.map_cons]
   unfold RepL
   exact ⟨_, _, rfl, Rep.int, ih⟩

theorem flds_each (hC : C.OK) : ∀ {ps : List Fld} {fs : List Field} {o : Nat} {ks : List IntKind} {is : List (IntKind × Int)} {us pre : List Value}, fldKinds C o ps = some ks → FldsOK C.P ps fs → is.map (·.1) = ks → us = pre ++ is.map (fun p => Value.int p.1 p.2) → pre.length = o →
  ∀ f ∈ fs, f.name ≠ "_" ∧ ∃ k n, C.P.underlying f.type = some (.int k) ∧ ∀ w, (part f.type us.toArray f.offset).run C.P w = .ok (.int k n) w
 | [], [], _, _, _, _, _, _, _, _, _, _ => fun f hf => by cases hf
 | p :: ps, fd :: fs, o, ks, is, us, pre, h, hf, h1, hus, hp => by
  simp only [fldKinds] at h
  obtain ⟨f1, f2, f3, f4, f5, f6⟩ := hf
  cases hb : Nat.beq p.off o with
  | false => rw [hb] at h; cases h
  | true =>
   rw [hb] at h
   have hoff := Nat.eq_of_beq_eq_true hb
   simp only [cond_true] at h
   cases hT : C.ty p.ty with
   | none => rw [hT] at h; cases h
   | some T =>
    rw [hT] at h
    simp only at h
    split at h
    ·rename_i k hkd
     cases ha : T.agg with
     | true => rw [ha] at h; cases h
     | false =>
      rw [ha] at h
      simp only [cond_false, Option.map_eq_some_iff] at h
      obtain ⟨ks', h3, rfl⟩ := h
      cases is with
      | nil => simp at h1
      | cons a is =>
       obtain ⟨k1, n1⟩ := a
       simp only [List.map_cons, List.cons.injEq] at h1
       obtain ⟨rfl, h1⟩ := h1
       have hTI := hC.ty _ _ hT
       have hu := hTI.kd
       rw [hkd] at hu
       intro f hfm
       rcases List.mem_cons.1 hfm with rfl | hfm
       ·refine ⟨f5, k1, n1, by rw [f4]; exact hu, fun w => ?_⟩
        rw [f4, f1]
        refine run_part hTI ?_ w
        rw [ha, hoff, hus, ← hp]; simp
       ·exact flds_each hC (pre := pre ++ [.int k1 n1]) h3 f6 h1 (by rw [hus]; simp) (by simp [hp]) f hfm
    ·cases h
 | [], _ :: _, _, _, _, _, _, _, hf, _, _, _ => hf.elim
 | _ :: _, [], _, _, _, _, _, _, hf, _, _, _ => hf.elim

theorem kinds_kt (hC : C.OK) {kt : Nat} {Tk : TI} {ks : List IntKind} (hT : C.ty kt = some Tk) (h : kindsT C Tk.kd = some ks) : KT C.P kt true ks := by
 have hTk := hC.ty _ _ hT
 have hkd := hTk.kd
 unfold kindsT at h
 split at h
 ·rename_i ps hk
  rw [hk] at hkd
  obtain ⟨fs, hu, hf, hst, _⟩ := hkd
  refine kt_agg hu (fun w u u' h1 h2 => ?_) (fun w e u h1 => ?_)
  ·obtain ⟨is, e1, rfl⟩ := h1
   obtain ⟨is', e2, rfl⟩ := h2
   have hA : eqA C.ty kt (.agg (is.map fun p => V.lit (.int p.1 p.2))) (.agg (is'.map fun p => V.lit (.int p.1 p.2))) = some (decide (is = is')) := by
    unfold eqA
    rw [hT]
    simp only [hk]
    unfold eqT
    rw [hT]
    simp only [hk]
    exact eqParts_ints 4 (pre := []) (pre' := []) h e1 e2 rfl rfl rfl rfl
   refine ⟨_, eqA_sound hC hA (rep_ints (m := fun _ => none) (I := Ij.none) is) (rep_ints is'), ?_⟩
   rw [decide_eq_true_eq]
   exact ⟨fun e => by rw [e], fun e => by
    have := Value.agg.inj e
    exact ints_inj (by simpa using congrArg Array.toList this)⟩
  ·obtain ⟨is, e1, rfl⟩ := h1
   have each := flds_each hC (pre := []) h hf e1 rfl rfl
   show (Instr.checkKey e (9999 + 1) kt _).run C.P w = _
   rw [Instr.checkKey]
   simp only [Sem.run_bind, run_underlying hu, Result.andThen_ok]
   rw [← Array.forIn_toList]
   generalize fs.toList = L at each
   induction L with
   | nil => simp
   | cons f L ih =>
    obtain ⟨hn, k, n, p1, p2⟩ := each f (by simp)
    have p3 : (Instr.checkKey e 9999 f.type (.int k n)).run C.P w = .ok () w := checkKey_int' p1 w 9998
    simp only [List.nil_append] at p2
    simp only [List.forIn_cons, Sem.run_bind, hn, ne_eq, not_false_eq_true, if_true, Result.andThen_ok, p2, p3, Sem.run_pure]
    exact ih (fun y hy => each y (by simp [hy]))
 ·rename_i n el hk
  rw [hk] at hkd
  obtain ⟨hu, hes, _⟩ := hkd
  cases hTe : C.ty el with
  | none => rw [hTe] at h; cases h
  | some T =>
   rw [hTe] at h
   simp only at h
   split at h
   ·rename_i k hke
    cases ha : T.agg with
    | true => rw [ha] at h; cases h
    | false =>
     rw [ha] at h
     simp only [cond_false, Option.some.injEq] at h
     subst h
     have hTI := hC.ty _ _ hTe
     have hue := hTI.kd
     rw [hke] at hue
     refine kt_agg hu (fun w u u' h1 h2 => ?_) (fun w e u h1 => ?_)
     ·obtain ⟨is, e1, rfl⟩ := h1
      obtain ⟨is', e2, rfl⟩ := h2
      have hA : eqA C.ty kt (.agg (is.map fun p => V.lit (.int p.1 p.2))) (.agg (is'.map fun p => V.lit (.int p.1 p.2))) = some (decide (is = is')) := by
       unfold eqA
       rw [hT]
       simp only [hk]
       unfold eqT
       rw [hT]
       simp only [hk]
       have := eqElems_ints (xs := is.map fun p => V.lit (.int p.1 p.2)) (ys := is'.map fun p => V.lit (.int p.1 p.2)) 4 hTe hke ha rfl rfl e1 e2 n 0 (Nat.zero_add n)
       exact this.trans (by simp)
      refine ⟨_, eqA_sound hC hA (rep_ints (m := fun _ => none) (I := Ij.none) is) (rep_ints is'), ?_⟩
      rw [decide_eq_true_eq]
      exact ⟨fun e => by rw [e], fun e => by
       have := Value.agg.inj e
       exact ints_inj (by simpa using congrArg Array.toList this)⟩
     ·obtain ⟨is, e1, rfl⟩ := h1
      have hlen : is.length = n := by have := congrArg List.length e1; simpa using this
      have each : ∀ j ∈ List.range' 0 n, ∃ x, (part el (is.map fun p => Value.int p.1 p.2).toArray (j * 1)).run C.P w = .ok (.int k x) w := by
       intro j hj
       have hj' : j < is.length := by have := List.mem_range'_1.1 hj; omega
       have hk1 : is[j].1 = k := by
        have : (is.map (·.1))[j]'(by simpa using hj') = k := by simp only [e1, List.getElem_replicate]
        simpa using this
       refine ⟨is[j].2, run_part hTI ?_ w⟩
       rw [ha, Nat.mul_one]
       simp [hj', hk1]
      show (Instr.checkKey e (9999 + 1) kt _).run C.P w = _
      rw [Instr.checkKey]
      simp only [Sem.run_bind, run_underlying hu, Result.andThen_ok]
      simp only [Std.Legacy.Range.forIn_eq_forIn_range', Std.Legacy.Range.size, Nat.sub_zero, Nat.add_one_sub_one, Nat.div_one]
      generalize List.range' 0 n = L at each
      induction L with
      | nil => simp
      | cons j L ih =>
       obtain ⟨x, p2⟩ := each j (by simp)
       have p3 : (Instr.checkKey e 9999 el (.int k x)).run C.P w = .ok () w := checkKey_int' hue w 9998
       simp only [List.forIn_cons, Sem.run_bind, hes, Result.andThen_ok, p2, p3, Sem.run_pure]
       exact ih (fun y hy => each y (by simp [hy]))
   ·cases h
 ·cases h

theorem keyOK_kt (hC : C.OK) {kt : Nat} {Tk : TI} (hT : C.ty kt = some Tk) {k : V} {uk : Value} (hr : Rep m k I uk) (h : keyOK C Tk.kd k = true) : ∃ b ks, KT C.P kt b ks ∧ KeyS b ks uk := by
 have hkd := (hC.ty _ _ hT).kd
 generalize hq : Tk.kd = kd at h
 unfold keyOK at h
 split at h
 ·rename_i k1 k2 n
  rw [kindEq_iff] at h
  subst h
  rw [hq] at hkd
  exact ⟨false, [k1], kt_int hkd, k1, n, rfl, hr.lit⟩
 ·rename_i l _
  split at h
  ·rename_i ks is h1 h2
   rw [kindsEq_iff] at h
   unfold Rep at hr
   obtain ⟨us, rfl, _, h3⟩ := hr
   obtain ⟨rfl, _⟩ := intsOf_rep h2 h3
   exact ⟨true, ks, kinds_kt hC hT (by rw [hq]; exact h1), is, h.symm, rfl⟩
  ·cases h
 ·cases h

/-- The entry with a key, wherever it is. -/
theorem find_perm {P : Program} {kt : Nat} {b : Bool} {kk : List IntKind} (hKT : KT P kt b kk) {u : Value} (hK : KeyS b kk u) {es es' : List MapEntry} {j : Nat} {en : MapEntry} (hp : es.Perm es') (hnd : (es'.map (·.key)).Nodup) (hun : Uni (es'.map (·.key))) (hj : es'[j]? = some en) (hk : en.key = u) :
  ∃ i, (∀ w, (Instr.findKey kt u es).run P w = .ok (some (i, en.val)) w) ∧ es[i]? = some en := by
 obtain ⟨b0, k0, hun⟩ := hun
 have hin := hun en.key (List.mem_map.2 ⟨en, List.mem_of_getElem? hj, rfl⟩)
 rw [hk] at hin
 obtain ⟨rfl, rfl⟩ := hin.inj hK
 have hmem : en ∈ es := hp.mem_iff.2 (List.mem_of_getElem? hj)
 obtain ⟨i, hi⟩ := List.mem_iff_getElem?.1 hmem
 have hnd' : (es.map (·.key)).Nodup := (hp.map _).nodup_iff.2 hnd
 refine ⟨i, fun w => (hKT.find w u es hK (fun e he => hun _ (List.mem_map.2 ⟨e, hp.mem_iff.1 he, rfl⟩))).1 i en hi hk (fun k e hki he heq => ?_), hi⟩
 have h1 : (es.map (·.key))[k]? = some u := by simp [he, heq]
 have h2 : (es.map (·.key))[i]? = some u := by simp [hi, hk]
 have := (List.getElem?_inj (List.getElem?_eq_some_iff.1 h1).1 hnd').1 (h1.trans h2.symm)
 omega

theorem find_perm_none {P : Program} {kt : Nat} {b : Bool} {kk : List IntKind} (hKT : KT P kt b kk) {u : Value} (hK : KeyS b kk u) {es es' : List MapEntry} (hp : es.Perm es') (h : ∀ x ∈ es'.map (·.key), KeyS b kk x ∧ x ≠ u) (w : World) : (Instr.findKey kt u es).run P w = .ok none w :=
 (hKT.find w u es hK (fun e he => (h _ (List.mem_map.2 ⟨e, hp.mem_iff.1 he, rfl⟩)).1)).2 fun e he => (h _ (List.mem_map.2 ⟨e, hp.mem_iff.1 he, rfl⟩)).2

/-- What a look-up finds. -/
theorem lookIn_sound {b0 : Bool} {kk : List IntKind} {k : V} {uk : Value} {ks vs : List V} {es : List MapEntry} {Te : TI} {P : Program} {el kt t : Nat} {ok : Bool} {rd : List Nat} {x : Value} {cl0 : Nat} (hu : P.underlying t = some (.map kt el)) (hKT : KT P kt b0 kk) (hkr : Rep m k I uk) (hK : KeyS b0 kk uk) (hT : TIOK P el Te)
  (hM : MapIn m I ks vs es cl0) (h : lookIn Te ok k ks vs rd = some e) (hx : (x = .map none ∧ es = []) ∨ ∃ b cl, x = .map (some b) ∧ w.heap[b]? = some (.map es.toArray cl)) :
  ∃ u, (Instr.lookup t x uk ok).run P w = .ok u w ∧ Rep m e.v I u ∧ e.wr = [] := by
 obtain ⟨es', h1, h2, h3, h4, h5, _⟩ := hM
 have run : ∀ {r : Option (Nat × Value)}, (Instr.findKey kt uk es).run P w = .ok r w → (Instr.lookup t x uk ok).run P w = (match r with | some (_, v) => .ok (if ok then .tuple #[v, .bool true] else v) w | none => .ok (if ok then .tuple #[Te.zeroC, .bool false] else Te.zeroC) w) := by
  intro r hfk
  have hck := fun em => hKT.check w em uk hK
  rcases hx with ⟨rfl, rfl⟩ | ⟨b, cl, rfl, hw⟩
  ·cases r with
   | none => simp [Instr.lookup, run_underlying hu, hck, hfk, hT.zero]
   | some p => obtain ⟨i, v⟩ := p; simp [Instr.lookup, run_underlying hu, hck, hfk]
  ·have hg := getObj_map (P := P) hw
   cases r with
   | none => simp [Instr.lookup, run_underlying hu, hg, hck, hfk, hT.zero]
   | some p => obtain ⟨i, v⟩ := p; simp [Instr.lookup, run_underlying hu, hg, hck, hfk]
 unfold lookIn at h
 split at h
 ·rename_i i hi
  have hsp := findA_spec hkr hK h3 hi
  simp only [Nat.sub_zero] at hsp
  split at h
  ·rename_i v hv
   simp only [Option.some.injEq] at h
   subst h
   rw [get_eq] at hv
   obtain ⟨uv, hv1, hv2⟩ := h4.get hv
   have hen : ∃ en, es'[i]? = some en ∧ en.key = uk ∧ en.val = uv := by
    have := hsp.2
    rw [List.getElem?_map, Option.map_eq_some_iff] at this
    obtain ⟨en, q1, q2⟩ := this
    rw [List.getElem?_map, q1] at hv1
    exact ⟨en, q1, q2, by simpa using hv1⟩
   obtain ⟨en, q1, q2, q3⟩ := hen
   obtain ⟨j, q4, q5⟩ := find_perm hKT hK h1 h2 h5 q1 q2
   refine ⟨_, run (q4 w), ?_, rfl⟩
   rw [q3]
   cases ok with
   | true =>
    simp only [cond_true, if_true]
    unfold Rep
    refine ⟨[uv, .bool true], rfl, ?_⟩
    unfold RepL
    refine ⟨uv, [.bool true], rfl, hv2, ?_⟩
    unfold RepL
    exact ⟨.bool true, [], rfl, Rep.bool, by unfold RepL; rfl⟩
   | false => simpa using hv2
  ·cases h
 ·rename_i hi
  have hsp := findA_spec hkr hK h3 hi
  simp only [Option.some.injEq] at h
  subst h
  refine ⟨_, run (find_perm_none hKT hK h1 hsp w), ?_, rfl⟩
  cases ok with
  | true =>
   simp only [cond_true, if_true]
   unfold Rep
   refine ⟨[Te.zeroC, .bool false], rfl, ?_⟩
   unfold RepL
   refine ⟨Te.zeroC, [.bool false], rfl, TI.zero_rep hT, ?_⟩
   unfold RepL
   exact ⟨.bool false, [], rfl, Rep.bool, by unfold RepL; rfl⟩
  | false => simpa using TI.zero_rep hT
 ·cases h

theorem op_lookup (hC : C.OK) (hs : Sim I m H w) (hk : Slots m I K a.tmps) {t : Nat} {x k : Operand} {ok : Bool} (h : effLookup C K H t x k ok = some e) : OpOut C.P ⟨dst, .lookup t x k ok, ty, pos, after, g⟩ a I m H lo w e.v (puts H e.wr) := by
 unfold effLookup at h
 split at h
 ·rename_i xv kv hx hkv
  have hxr := kev_rep hk hx
  have hkr := kev_rep hk hkv
  unfold lookA at h
  split at h
  ·rename_i kd Te hTe
   obtain ⟨kt, el, Tk, hu, hkd, hTk, hT⟩ := mapTI_spec hC hTe
   cases hko : keyOK C kd kv with
   | false => rw [hko] at h; cases h
   | true =>
    rw [hko] at h
    simp only [cond_true] at h
    rw [← hkd] at hko
    obtain ⟨b0, kk, hKT, hK⟩ := keyOK_kt hC hTk hkr hko
    have fin : ∀ {ks vs : List V} {es : List MapEntry} {rd : List Nat} {cl0 : Nat}, MapIn m I ks vs es cl0 → lookIn Te ok kv ks vs rd = some e → ((a.eval x = .map none ∧ es = []) ∨ ∃ b cl, a.eval x = .map (some b) ∧ w.heap[b]? = some (.map es.toArray cl)) → OpOut C.P ⟨dst, .lookup t x k ok, ty, pos, after, g⟩ a I m H lo w e.v (puts H e.wr) := by
     intro ks vs es rd cl0 hM hl hx'
     obtain ⟨u, h1, h2, h3⟩ := lookIn_sound hu hKT hkr hK hT hM hl hx'
     rw [h3]
     exact OpOut.pure hs (u := u) (by simp [execOp, h1]) h2
    split at h
    ·exact fin (es := []) (cl0 := 0) ⟨[], List.Perm.nil, List.nodup_nil, by unfold RepL; rfl, by unfold RepL; rfl, ⟨false, [], fun x h => by cases h⟩, (fun e he => by cases he), List.nodup_nil⟩ h (.inl ⟨hxr.lit, rfl⟩)
    ·unfold Rep at hxr
     obtain ⟨b, es, es', c, h1, h2, h3, h4, h5, h6, h7⟩ := hxr
     exact fin (es := es) ⟨es', h3, h4, RepL.mono (fun _ _ h => h) _ (Ij.none_le I) h5, RepL.mono (fun _ _ h => h) _ (Ij.none_le I) h6, h7⟩ h (.inr ⟨b, c, h1, hs.sub _ _ h2⟩)
    ·rename_i id
     split at h
     ·rename_i ks vs hb
      obtain ⟨f, h1, es, cl, h2, h3⟩ := hs.blk id _ (hget_of hb rfl) rfl
      unfold Rep at hxr
      obtain ⟨f', h4, h5⟩ := hxr
      rw [h1] at h4
      cases h4
      exact fin h3 h (.inr ⟨_, cl, h5, h2⟩)
     ·cases h
    ·cases h
  ·cases h
 ·cases h

theorem ins_perm {α : Type} : ∀ (l : List α) (n : Nat) (x : α), (ins l n x).Perm (x :: l)
 | l, 0, x => by cases l <;> exact List.Perm.refl _
 | [], n + 1, x => List.Perm.refl _
 | y :: r, n + 1, x => ((ins_perm r n x).cons y).trans (List.Perm.swap x y r)

theorem ins_map {α β : Type} (f : α → β) : ∀ (l : List α) (n : Nat) (x : α), (ins l n x).map f = ins (l.map f) n (f x)
 | l, 0, x => by cases l <;> rfl
 | [], n + 1, x => rfl
 | y :: r, n + 1, x => by simp [ins, ins_map f r n x]

theorem RepL.ins {l : List V} : ∀ {us : List Value} {n : Nat} {v : V} {u : Value}, RepL m l I us → Rep m v I u → RepL m (Am.ins l n v) I (Am.ins us n u) := by
 induction l with
 | nil =>
  intro us n v u h hv
  unfold RepL at h
  subst h
  cases n <;> (unfold RepL Am.ins; exact ⟨u, [], rfl, hv, by unfold RepL; rfl⟩)
 | cons y r ih =>
  intro us n v u h hv
  cases n with
  | zero =>
   have h0 := h
   unfold RepL at h
   obtain ⟨uy, us', rfl, hy, hr⟩ := h
   unfold Am.ins
   show RepL m (v :: y :: r) I (u :: uy :: us')
   unfold RepL
   exact ⟨u, _, rfl, hv, h0⟩
  | succ n =>
   unfold RepL at h
   obtain ⟨uy, us', rfl, hy, hr⟩ := h
   unfold Am.ins
   unfold RepL
   exact ⟨uy, _, rfl, hy, ih hr hv⟩

theorem RepL.set' {l : List V} {us : List Value} {n : Nat} {v : V} {u : Value} (h : RepL m l I us) (hv : Rep m v I u) : RepL m (l.set n v) I (us.set n u) := by
 have hl := h.len
 refine RepL.mk (by simp [hl]) fun i x ux hx hux => ?_
 by_cases he : n = i
 ·subst he
  rw [List.getElem?_set] at hx hux
  simp only [if_true] at hx hux
  split at hx
  ·rename_i h1
   simp only [Option.some.injEq] at hx
   rw [if_pos (by rw [hl]; exact h1), Option.some.injEq] at hux
   subst hx; subst hux; exact hv
  ·cases hx
 ·rw [List.getElem?_set_ne he] at hx hux
  obtain ⟨u', h1, h2⟩ := h.get hx
  rw [hux] at h1; cases h1; exact h2

open Classical in
/-- The entry with a key gets another value. -/
noncomputable def putVal (k v : Value) (e : MapEntry) : MapEntry := if e.key = k then { e with key := k, val := v } else e

theorem putVal_key (k v : Value) (e : MapEntry) : (putVal k v e).key = e.key := by
 unfold putVal
 split
 ·rename_i h; exact h.symm
 ·rfl

theorem set_eq_map {es : List MapEntry} {i : Nat} {en : MapEntry} {k v : Value} (hnd : (es.map (·.key)).Nodup) (hi : es[i]? = some en) (hk : en.key = k) : es.set i { en with key := k, val := v } = es.map (putVal k v) := by
 apply List.ext_getElem?
 intro j
 rw [List.getElem?_map]
 by_cases he : i = j
 ·subst he
  rw [List.getElem?_set_self (List.getElem?_eq_some_iff.1 hi).1, hi]
  simp [putVal, hk]
 ·rw [List.getElem?_set_ne he]
  cases hj : es[j]? with
  | none => rfl
  | some e =>
   simp only [Option.map_some, Option.some.injEq]
   unfold putVal
   rw [if_neg]
   intro hek
   have h1 : (es.map (·.key))[i]? = some k := by simp [hi, hk]
   have h2 : (es.map (·.key))[j]? = some k := by simp [hj, hek]
   exact he ((List.getElem?_inj (List.getElem?_eq_some_iff.1 h1).1 hnd).1 (h1.trans h2.symm))

theorem map_key_putVal (k v : Value) (es : List MapEntry) : (es.map (putVal k v)).map (·.key) = es.map (·.key) := by
 simp [putVal_key]

theorem born_putVal {k v : Value} {es : List MapEntry} {c : Nat} (h : Born es c) : Born (es.map (putVal k v)) c := by
 have hb : ∀ e : MapEntry, (putVal k v e).born = e.born := fun e => by unfold putVal; split <;> rfl
 refine ⟨fun e he => ?_, ?_⟩
 ·obtain ⟨e0, h1, rfl⟩ := List.mem_map.1 he
  rw [hb]; exact h.1 e0 h1
 ·rw [List.map_map]
  have : ((fun e : MapEntry => e.born) ∘ putVal k v) = (fun e => e.born) := funext hb
  rw [this]; exact h.2
theorem born_push {k v : Value} {es : List MapEntry} {c : Nat} (h : Born es c) : Born (es ++ [MapEntry.mk k v c]) (c + 1) := by
 refine ⟨fun e he => ?_, ?_⟩
 ·rcases List.mem_append.1 he with he | he
  ·exact Nat.lt_succ_of_lt (h.1 e he)
  ·simp only [List.mem_singleton] at he; subst he; exact Nat.lt_succ_self c
 ·rw [List.map_append, List.nodup_append]
  refine ⟨h.2, by simp, fun a ha b hb => ?_⟩
  obtain ⟨e, he, rfl⟩ := List.mem_map.1 ha
  simp only [List.map_cons, List.map_nil, List.mem_singleton] at hb
  subst hb
  have := h.1 e he
  omega

theorem mapPut_sound (hC : C.OK) (hs : Sim I m H w) {t : Nat} {x k v : V} {ux uk uv : Value} (hx : Rep m x I ux) (hk : Rep m k I uk) (hv : Rep m v I uv) (h : mapPut C H lo t x k v = some e) :
  ∃ w', (Instr.mapUpdate t ux uk uv).run C.P w = .ok () w' ∧ Sim I m (puts H e.wr) w' ∧ Fx I H lo w I (puts H e.wr) w' ∧ e.v = undefV := by
 unfold mapPut at h
 split at h
 ·rename_i kd Te hTe
  obtain ⟨kt, el, Tk, hu, hkd, hTk, hT⟩ := mapTI_spec hC hTe
  cases hko : keyOK C kd k with
  | false => rw [hko] at h; cases h
  | true =>
   rw [hko] at h
   simp only [cond_true] at h
   rw [← hkd] at hko
   obtain ⟨b0, kk, hKT, hK⟩ := keyOK_kt hC hTk hk hko
   have hck := fun em => hKT.check w em uk hK
   have hsb := sameBits_key hK
   split at h
   ·rename_i id
    split at h
    ·cases h
    rename_i hlt
    split at h
    ·rename_i ks vs hb
     have hb' := hget_of hb rfl
     obtain ⟨f, h1, es, cl, h2, hM⟩ := hs.blk id _ hb' rfl
     unfold Rep at hx
     obtain ⟨f', h4, rfl⟩ := hx
     rw [h1] at h4
     cases h4
     obtain ⟨es', m1, m2, m3, m4, m5, mb⟩ := hM
     have hg := getObj_map (P := C.P) h2
     have hlt' : f.b < w.heap.size := (Array.getElem?_eq_some_iff.1 h2).1
     have fin : ∀ {ks' vs' : List V} {es2 : List MapEntry} {cl2 : Nat}, MapIn m I ks' vs' es2 cl2 → (Instr.mapUpdate t (.map (some f.b)) uk uv).run C.P w = .ok () { w with heap := w.heap.setIfInBounds f.b (.map es2.toArray cl2) } →
       ∃ w', (Instr.mapUpdate t (.map (some f.b)) uk uv).run C.P w = .ok () w' ∧ Sim I m (hput H id (.map ks' vs')) w' ∧ Fx I H lo w I (hput H id (.map ks' vs')) w' := by
      intro ks' vs' es2 cl2 hM' hr
      have hB : BlkOK I m { w with heap := w.heap.setIfInBounds f.b (.map es2.toArray cl2) } f (.map ks' vs') := ⟨es2, cl2, by simp [hlt'], hM'⟩
      obtain ⟨s1, s2⟩ := hs.upd (lo := lo) ⟨_, hb', rfl⟩ (by omega) h1 (w' := { w with heap := w.heap.setIfInBounds f.b (.map es2.toArray cl2) }) ⟨rfl, rfl, rfl, by simp⟩ (fun k hk => by
       show (w.heap.setIfInBounds f.b _)[k]? = _
       rw [Array.getElem?_setIfInBounds_ne (fun e => hk e.symm)]) hB (by intro h; cases h)
      exact ⟨_, hr, s1, s2⟩
     split at h
     ·rename_i i hi
      have hsp := findA_spec hk hK m3 hi
      simp only [Nat.sub_zero, Option.some.injEq] at hsp h
      subst h
      have hen : ∃ en, es'[i]? = some en ∧ en.key = uk := by
       have := hsp.2
       rw [List.getElem?_map, Option.map_eq_some_iff] at this
       exact this
      obtain ⟨en, q1, q2⟩ := hen
      obtain ⟨j, q4, q5⟩ := find_perm hKT hK m1 m2 m5 q1 q2
      have hfk := q4 w
      have hnd' : (es.map (·.key)).Nodup := (m1.map _).nodup_iff.2 m2
      have hset : es.toArray.modify j (fun e => { e with key := uk, val := uv }) = (es.map (putVal uk uv)).toArray := by
       rw [← set_eq_map hnd' q5 q2]
       have hj := (List.getElem?_eq_some_iff.1 q5).1
       apply Array.ext_getElem?
       intro i'
       rw [Array.getElem?_modify]
       by_cases he : j = i'
       ·subst he
        have hej : es[j] = en := (List.getElem?_eq_some_iff.1 q5).2
        simp [q5, hj, hej]
       ·simp [he, List.getElem?_set_ne he]
      have hset' : es.modify j (fun e => { e with key := uk, val := uv }) = es.map (putVal uk uv) := by
       have := hset
       simpa using this
      obtain ⟨w', r1, r2, r3⟩ := fin (ks' := ks) (vs' := set vs i v) (es2 := es.map (putVal uk uv)) (cl2 := cl) ⟨es'.map (putVal uk uv), m1.map _, by rw [map_key_putVal]; exact m2, by rw [map_key_putVal]; exact m3, by
        rw [← set_eq_map m2 q1 q2, List.map_set, set_eq]
        exact m4.set' hv, by rw [map_key_putVal]; exact m5, born_putVal mb⟩ (by
        have hq5 : es.toArray[j]? = some en := by simpa using q5
        simp [Instr.mapUpdate, run_underlying hu, hg, hck, hfk, q5, q2, Instr.keyThatStays, hsb, hset', run_setObj_map h2])
      exact ⟨w', r1, r2, r3, rfl⟩
     ·rename_i hi
      have hsp := findA_spec hk hK m3 hi
      simp only [Option.some.injEq] at hsp h
      subst h
      have hfk := find_perm_none hKT hK m1 hsp w
      have hpush : es.toArray.push (MapEntry.mk uk uv cl) = (es ++ [MapEntry.mk uk uv cl]).toArray := by simp
      obtain ⟨w', r1, r2, r3⟩ := fin (ks' := ins ks (insAt k ks) k) (vs' := ins vs (insAt k ks) v) (es2 := es ++ [MapEntry.mk uk uv cl]) (cl2 := cl + 1)
       ⟨ins es' (insAt k ks) (MapEntry.mk uk uv cl), (m1.append_right _).trans ((List.perm_append_singleton _ _).trans (ins_perm _ _ _).symm), by
        rw [ins_map]
        refine (ins_perm _ _ _).nodup_iff.2 (List.nodup_cons.2 ⟨fun hm => ?_, m2⟩)
        exact (hsp _ hm).2 rfl, by rw [ins_map]; exact m3.ins hk, by rw [ins_map]; exact m4.ins hv, ⟨b0, kk, fun x hx => by
        rw [ins_map] at hx
        rcases List.mem_cons.1 ((ins_perm _ _ _).mem_iff.1 hx) with rfl | hx
        ·exact hK
        ·exact (hsp x hx).1⟩, born_push mb⟩ (by
        simp [Instr.mapUpdate, run_underlying hu, hg, hck, hfk, hpush, run_setObj_map h2])
      exact ⟨w', r1, r2, r3, rfl⟩
     ·cases h
    ·cases h
   ·cases h
 ·cases h

theorem op_mapPut (hC : C.OK) (hs : Sim I m H w) (hk : Slots m I K a.tmps) {t : Nat} {x k v : Operand} {op : Op} (hop : op = .mapUpdate t x k v ∨ op = .insert t x k v) (h : effMapPut C K H lo t x k v = some e) : OpOut C.P ⟨dst, op, ty, pos, after, g⟩ a I m H lo w e.v (puts H e.wr) := by
 unfold effMapPut at h
 split at h
 ·rename_i xv kv vv hx hkv hv
  obtain ⟨w', h1, h2, h3, h4⟩ := mapPut_sound hC hs (kev_rep hk hx) (kev_rep hk hkv) (kev_rep hk hv) h
  refine ⟨.skip, w', I, Go.undef, ?_, .inr ⟨rfl, rfl⟩, h2, by rw [h4]; exact Rep.undef, h3⟩
  rcases hop with rfl | rfl <;> simp [execOp, h1]
 ·cases h

end
end Go.Am

namespace Go.Am
open Go Go.Wk Go.RowKit

section
variable {C : Cfg} {I : Ij} {m : Mem} {H : List Blk} {w w' : World} {K : List (Nat × V)} {a : Act} {lo nid : Nat} {dst : Option Tmp} {ty : TypeId} {pos : String} {after : Array Edge} {g : Option (Nat × Bool)} {e : Eff}

theorem BiOut.of {P : Program} {s : Sem Next} {v : V} (h : ∃ u, s.run P w = .ok (.value u) w ∧ Rep m v I u ∧ e.wr = []) (hs : Sim I m H w) : BiOut P s I m H lo w v (puts H e.wr) := by
 obtain ⟨u, h1, h2, h3⟩ := h
 rw [h3]
 exact ⟨u, w, I, h1, hs, h2, Fx.rfl' _ _ _ _⟩

theorem op_builtin (hC : C.OK) (hs : Sim I m H w) (hk : Slots m I K a.tmps) {c : Call} (hn : allocs (.call c) = true → Fresh H nid ∧ lo ≤ nid) (h : effBuiltin C K H lo nid c = some e) : OpOut C.P ⟨dst, .call c, ty, pos, after, g⟩ a I m H lo w e.v (puts H e.wr) := by
 obtain ⟨cal, args, ats⟩ := c
 unfold effBuiltin at h
 split at h
 ·rename_i b vs hb hvs
  simp only at hb hvs
  subst hb
  have hv := kevs_rep hk hvs
  obtain ⟨cs, hr⟩ := run_builtin (P := C.P) (w := w) (b := b) (ats := ats) (dst := dst) (ty := ty) (pos := pos) (after := after) (g := g) (args := args) (rfl : args.toList.map a.eval = args.toList.map a.eval)
  have fin : BiOut C.P (builtin b ats ty cs (args.toList.map a.eval).toArray) I m H lo w e.v (puts H e.wr) → OpOut C.P ⟨dst, .call ⟨.builtin b, args, ats⟩, ty, pos, after, g⟩ a I m H lo w e.v (puts H e.wr) := by
   rintro ⟨u, w', I', h1, h2, h3, h4⟩
   exact ⟨.value u, w', I', u, by rw [hr]; exact h1, .inl rfl, h2, h3, h4⟩
  apply fin
  unfold builtinA at h
  split at h
  ·exact BiOut.of (bi_len hC hs hv h) hs
  ·simp only at h
   unfold biAppend at h
   split at h
   ·rename_i t t2 x y hat
    cases htt : Nat.beq t t2 with
    | false => rw [htt] at h; cases h
    | true =>
     rw [htt] at h
     simp only [cond_true] at h
     have := Nat.eq_of_beq_eq_true htt
     subst this
     split at h
     ·rename_i Te hTe
      obtain ⟨el, hu, hTel, hT⟩ := sliceElem_spec hC hTe
      obtain ⟨ux, uy, huu, hx, hy⟩ := hv.two
      have := arr2 hat
      subst this
      rw [huu]
      obtain ⟨hf, hlo⟩ := hn rfl
      exact append_sound hs hf hlo hu hT hx hy h
     ·cases h
   ·cases h
  ·exact BiOut.of (bi_min hv h) hs
  ·exact BiOut.of (bi_max hv h) hs
  ·simp only at h
   unfold biCopy at h
   split at h
   ·rename_i t r x y hat
    split at h
    ·rename_i Te hTe
     obtain ⟨el, hu, hTel, hT⟩ := sliceElem_spec hC hTe
     obtain ⟨ux, uy, huu, hx, hy⟩ := hv.two
     have hat0 : ats[0]? = some t := by rw [← Array.getElem?_toList, hat]; rfl
     rw [huu]
     exact copy_sound hs hat0 hu hT hx hy h
    ·cases h
   ·cases h
  ·simp only at h
   unfold biClear at h
   split at h
   ·rename_i t r x hat
    split at h
    ·rename_i Te hTe
     obtain ⟨el, hu, hTel, hT⟩ := sliceElem_spec hC hTe
     obtain ⟨ux, huu, hx⟩ := hv.one'
     have hat0 : ats[0]? = some t := by rw [← Array.getElem?_toList, hat]; rfl
     rw [huu]
     exact clear_sound hs hat0 hu hT hx h
    ·cases h
   ·cases h
  ·cases h
 ·cases h

theorem idxs_mem : ∀ (n i k : Nat), k ∈ idxs i n ↔ i ≤ k ∧ k < i + n
 | 0, i, k => by simp only [idxs, List.not_mem_nil, false_iff]; omega
 | n + 1, i, k => by
  simp only [idxs, List.mem_cons, idxs_mem n (i + 1) k]
  omega

theorem op_range (hC : C.OK) (hs : Sim I m H w) (hk : Slots m I K a.tmps) (hn : Fresh H nid) (hlo : lo ≤ nid) {t : Nat} {x : Operand} (h : effRange C K nid t x = some e) : OpOut C.P ⟨dst, .range t x, ty, pos, after, g⟩ a I m H lo w e.v (puts H e.wr) := by
 unfold effRange at h
 split at h
 ·rename_i T ks vs hT hx
  split at h
  ·rename_i kt el hkd
   simp only [Option.some.injEq] at h
   subst h
   have hr := kev_rep hk hx
   unfold Rep at hr
   obtain ⟨b, es, es', c, hu, hb, hp, hnd, hks, hvs, huni, hborn⟩ := hr
   have hki := (hC.ty _ _ hT).kd
   rw [hkd] at hki
   have hw := hs.sub _ _ hb
   have hrun := run_range_map (P := C.P) w t kt el b es.toArray c hki hw
   have hlen : es'.length = ks.length := by have := hks.len; simpa using this
   have h1 := hs.new (lo := lo) hn hlo (Ext.of_alloc w (.mapIter (some b) c #[] c)) (f := ⟨w.heap.size, 0, 0, 0⟩) (Nat.le_refl _) (B := .iter ks vs (idxs 0 ks.length) none) ⟨rfl, rfl, b, es, es', c, #[], heap_alloc_new w _, hb, hp, hks, hvs, hborn, fun i e hi => by
    have hlt := (List.getElem?_eq_some_iff.1 hi).1
    rw [idxs_mem]
    simp
    omega, fun i hi => by rw [idxs_mem] at hi; omega, fun j hj => by cases hj⟩ (by intro h; cases h)
   refine ⟨.value (.pointer (some ⟨w.heap.size, 0, none⟩)), _, _, _, ?_, .inl rfl, h1.1, ?_, h1.2⟩
   ·simp [execOp, hu, hrun]
   ·unfold Rep
    exact ⟨_, Ij.put_self, rfl⟩
  ·cases h
 ·cases h

theorem op_sound (hC : C.OK) (hs : Sim I m H w) (hk : Slots m I K a.tmps) {o : Oper} (hn : allocs o.op = true → Fresh H nid ∧ lo ≤ nid) (h : opEff C K H lo nid o.op = some e) : OpOut C.P o a I m H lo w e.v (puts H e.wr) := by
 obtain ⟨dst, op, ty, pos, after, g⟩ := o
 simp only at h hn
 unfold opEff at h
 split at h
 ·exact op_move hs hk h
 ·exact op_assign hs hk h
 ·exact op_pick hs hk h
 ·exact op_alloc hC hs hk (hn rfl).1 (hn rfl).2 h
 ·exact op_box hC hs hk (hn rfl).1 (hn rfl).2 h
 ·exact op_build hC hs hk h
 ·exact op_buildSlice hC hs hk (hn rfl).1 (hn rfl).2 h
 ·exact op_load hC hs hk h
 ·exact op_store hC hs hk h
 ·exact op_nilCheck hs hk h
 ·exact op_bin hC hs hk h
 ·exact op_un hs hk h
 ·exact op_convert hC hs hk h
 ·exact op_makeFunc hs hk h
 ·exact op_makeMap hs (hn rfl).1 (hn rfl).2 h
 ·exact op_makeSlice hC hs hk (hn rfl).1 (hn rfl).2 h
 ·exact op_slice hC hs hk h
 ·exact op_fieldAddr hC hs hk h
 ·exact op_field hC hs hk h
 ·exact op_indexAddr hC hs hk h
 ·exact op_index hC hs hk h
 ·exact op_lookup hC hs hk h
 ·exact op_mapPut hC hs hk (.inl rfl) h
 ·exact op_mapPut hC hs hk (.inr rfl) h
 ·exact op_extract hs hk h
 ·exact op_range hC hs hk (hn rfl).1 (hn rfl).2 h
 ·exact op_builtin hC hs hk hn h
 ·cases h

end
end Go.Am
