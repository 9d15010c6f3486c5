/- New blocks: as in the model. Conditions: none. -/
import Derived.Test.YtphmekpaalfliaaOpF
set_option linter.unusedVariables false
set_option linter.unusedSimpArgs false
namespace Go.Am
open Go Go.Wk Go.RowKit

section
variable {C : Cfg} {I : Ij} {m : Mem} {H : List Blk} {w w' : World} {K : List (Nat × V)} {a : Act} {lo nid : Nat} {dst : Option Tmp} {ty : TypeId} {pos : String} {after : Array Edge} {g : Option (Nat × Bool)} {e : Eff}

/-- A number that has no place yet. -/
def Fresh (H : List Blk) (nid : Nat) : Prop := nid = H.length ∨ Am.get H nid = some .free
theorem Fresh.le (h : Fresh H nid) : nid ≤ H.length := by
  rcases h with h | h
  · omega
  · have := get_lt h; omega
theorem Fresh.none (h : Fresh H nid) (hs : Sim I m H w) : I nid = .none := by
  rcases h with h | h
  · exact hs.free nid (.inl (get_none.2 (by omega)))
  · exact hs.free nid (.inr h)

theorem Sim.lt (hs : Sim I m H w) {id : Nat} {f : Inf} (hl : Live H id) (hf : I id = some f) : f.b < w.heap.size := by
  obtain ⟨B, hB, hlv⟩ := hl
  obtain ⟨f', h1, h2⟩ := hs.blk id B hB hlv
  rw [hf] at h1
  cases h1
  exact h2.lt hlv

theorem Sim.mlt (hs : Sim I m H w) {k : Nat} {o : Obj} (h : m k = some o) : k < w.heap.size := (Array.getElem?_eq_some_iff.1 (hs.sub k o h)).1

theorem hput_lt_length {id : Nat} {B : Blk} (h : id ≤ H.length) : id < (hput H id B).length := by rw [hput_length H id B h]; omega

/-- A new block. -/
theorem Sim.new (hs : Sim I m H w) (hn : Fresh H nid) (hlo : lo ≤ nid) (he : Ext w w') {f : Inf} (hg : w.heap.size ≤ f.b) {B : Blk} (hB : BlkOK (I.put nid f) m w' f B) (hnf : B ≠ .free) :
    Sim (I.put nid f) m (hput H nid B) w' ∧ Fx I H lo w (I.put nid f) (hput H nid B) w' := by
  have hI := hn.none hs
  have hle := hn.le
  have h1 := (hs.ext he).map f hle hI
  have h2 := h1.set (id := nid) (f := f) (B := B) (hput_lt_length hle) Ij.put_self hB hnf (by
      cases hm : m f.b with
      | none => rfl
      | some o => have := hs.mlt hm; omega) (fun j g hj hl hgj => by
      rcases live_hput hle hl with ⟨h, _⟩ | ⟨_, h⟩
      · exact absurd h hj
      · unfold Ij.put at hgj
        rw [if_neg hj] at hgj
        have := hs.lt h hgj
        omega)
  rw [hput_hput _ _ _ _ hle] at h2
  refine ⟨h2, he.stays, fun k hk _ => he.block k hk, Ij.le_put hI, fun id f' h3 h4 h5 => ?_, fun id hid => ?_, ?_⟩
  · rcases live_hput hle h4 with ⟨rfl, _⟩ | ⟨hne, h6⟩
    · rw [Ij.put_self] at h5
      cases h5
      exact .inl hg
    · unfold Ij.put at h5
      rw [if_neg hne] at h5
      exact .inr ⟨id, f', h3, h6, h5, rfl⟩
  · rw [get_hput _ _ _ _ hle, if_neg (by omega)]
  · rw [hput_length _ _ _ hle]; omega

/-- A block of its own is turned. -/
theorem Sim.upd (hs : Sim I m H w) {id : Nat} (hl : Live H id) (hlo : lo ≤ id) {f : Inf} (hf : I id = some f) (hst : Stays w w') (hk : ∀ k, k ≠ f.b → w'.heap[k]? = w.heap[k]?) {B : Blk} (hB : BlkOK I m w' f B) (hnf : B ≠ .free) :
    Sim I m (hput H id B) w' ∧ Fx I H lo w I (hput H id B) w' := by
  have hid : id < H.length := by obtain ⟨B0, h, _⟩ := hl; exact get_lt h
  have hoff := hs.off id f hl hf
  have hne : ∀ j g, Live (hput H id .dead) j → I j = some g → g.b ≠ f.b := fun j g hj hg he => by
    rcases live_hput (Nat.le_of_lt hid) hj with ⟨_, h⟩ | ⟨hn, h⟩
    · cases h
    · exact hn (hs.inj j id g f h hl hg hf he)
  have h1 := (hs.kill hid).world (m' := m) (w' := w') (fun _ _ h => h) (fun k o hko => by
      show w'.heap[k]? = some o
      rw [hk k (by rintro rfl; rw [hoff] at hko; cases hko)]; exact hs.sub k o hko) (fun j g hj hg => ⟨hk _ (hne j g hj hg), (hs.kill hid).off j g hj hg⟩)
  have h2 := h1.set (id := id) (f := f) (B := B) (hput_lt_length (Nat.le_of_lt hid)) hf hB hnf hoff (fun j g _ hj hg => hne j g hj hg)
  rw [hput_hput _ _ _ _ (Nat.le_of_lt hid)] at h2
  refine ⟨h2, hst, fun k hk' hn => hk k (fun e => hn id f hlo hl hf e.symm), Ij.Le.rfl' _, fun j g h3 h4 h5 => ?_, fun j hj => ?_, ?_⟩
  · rcases live_hput (Nat.le_of_lt hid) h4 with ⟨rfl, _⟩ | ⟨hne', h6⟩
    · exact .inr ⟨j, g, h3, hl, h5, rfl⟩
    · exact .inr ⟨j, g, h3, h6, h5, rfl⟩
  · rw [get_hput _ _ _ _ (Nat.le_of_lt hid), if_neg (by omega)]
  · rw [hput_length _ _ _ (Nat.le_of_lt hid)]; omega

theorem Ext.of_alloc (w : World) (o : Obj) : Ext w (w.alloc o) := (Below.refl _ w).alloc (Nat.le_refl _) o

theorem TI.zero_rep {P : Program} {t : Nat} {T : TI} (hT : TIOK P t T) : Rep m T.zero I T.zeroC := by
  unfold TI.zero TI.zeroC
  split
  · unfold Rep
    exact ⟨T.zs, rfl, fun x hx => List.all_eq_true.1 hT.zone x hx, RepL.lits _ hT.zone⟩
  · rename_i hb
    have h1 := hT.sagg (by simpa using hb)
    have h2 := hT.zlen
    rw [h1] at h2
    obtain ⟨z, hz⟩ := List.length_eq_one_iff.1 h2
    have h3 := hT.zone
    rw [hz] at h3 ⊢
    simp only [List.all_cons, List.all_nil, Bool.and_true] at h3
    exact Rep.of_lit fun c hc => by
      simp only [List.headD_cons] at hc
      rw [hc] at h3; cases h3

theorem sizeOK_spec {T : TI} {v : V} (h : sizeOK T v = true) : v.ok = true ∧ v.cells.length = T.size := by
  unfold sizeOK at h
  split at h
  · rename_i l
    rw [Bool.and_eq_true] at h
    exact ⟨rfl, Nat.eq_of_beq_eq_true h.2⟩
  · rw [Bool.and_eq_true, Bool.and_eq_true] at h
    have h1 := h.1.1
    rw [V.cells_of_one h1]
    refine ⟨?_, (Nat.eq_of_beq_eq_true h.2).symm⟩
    cases v <;> first | exact h1 | rfl

theorem sizeOK_zero {P : Program} {t : Nat} {T : TI} (hT : TIOK P t T) : T.zero.ok = true ∧ T.zero.cells.length = T.size := by
  unfold TI.zero
  split
  · exact ⟨rfl, by simp [V.cells, hT.zlen]⟩
  · rename_i hb
    have h1 := hT.sagg (by simpa using hb)
    have h2 := hT.zlen
    rw [h1] at h2
    obtain ⟨z, hz⟩ := List.length_eq_one_iff.1 h2
    have h3 := hT.zone
    rw [hz] at h3 ⊢
    simp only [List.all_cons, List.all_nil, Bool.and_true] at h3
    refine ⟨?_, by rw [h1]; rfl⟩
    cases z <;> first | rfl | cases h3

/-- One row in a block of its own. -/
theorem rowsIn_one {v : V} {u : Value} {es : Nat} (h : Rep m v I u) (ho : v.ok = true) (hs : v.cells.length = es) : RowsIn m I u.cells 0 es [v] := by
  intro i x hx
  cases i with
  | zero =>
    simp only [List.getElem?_cons_zero, Option.some.injEq] at hx
    subst hx
    refine ⟨u, h, by rw [h.size, hs], fun j y hy => ⟨(h.cellsRep ho).2 y ?_, by simpa using hy⟩⟩
    simpa using Array.mem_of_getElem? hy
  | succ i => simp at hx

theorem op_box1 {P : Program} (hs : Sim I m H w) (hn : Fresh H nid) (hlo : lo ≤ nid) {t : Nat} {T : TI} (hT : TIOK P t T) {v : V} {u : Value} (hv : Rep m v I u) (ho : v.ok = true) (hsz : v.cells.length = T.size) {o : Oper}
    (hr : (execOp a.eval o).run P w = .ok (.value (.pointer (some ⟨w.heap.size, 0, none⟩))) (w.alloc (.cells u.cells t (0, 0)))) : OpOut P o a I m H lo w (.ptr nid 0 0) (hput H nid (.rows T.size [v])) := by
  have hI := hn.none hs
  have h1 := hs.new (lo := lo) hn hlo (Ext.of_alloc w (.cells u.cells t (0, 0))) (f := ⟨w.heap.size, 0, T.size, 1⟩) (Nat.le_refl _) (B := .rows T.size [v])
    ⟨rfl, u.cells, t, heap_alloc_new w _, by rw [hv.size, hsz]; simp, by simp, by simp [maxLen], hT.pos, (rowsIn_one hv ho hsz).mono (fun _ _ h => h) (Ij.le_put hI)⟩ (by intro h; cases h)
  refine ⟨_, _, _, _, hr, .inl rfl, h1.1, ?_, h1.2⟩
  unfold Rep
  exact ⟨_, Ij.put_self, by simp⟩

theorem op_alloc (hC : C.OK) (hs : Sim I m H w) (hk : Slots m I K a.tmps) (hn : Fresh H nid) (hlo : lo ≤ nid) {t : Nat} (h : effAlloc C nid t = some e) : OpOut C.P ⟨dst, .alloc t, ty, pos, after, g⟩ a I m H lo w e.v (puts H e.wr) := by
  unfold effAlloc at h
  split at h
  · rename_i T hT
    simp only [Option.some.injEq] at h
    subst h
    have hTI := hC.ty _ _ hT
    have hz := sizeOK_zero hTI
    exact op_box1 hs hn hlo hTI (TI.zero_rep hTI) hz.1 hz.2 (by simp [execOp, Instr.alloc, newVar, newRow, hTI.zero])
  · cases h

theorem op_box (hC : C.OK) (hs : Sim I m H w) (hk : Slots m I K a.tmps) (hn : Fresh H nid) (hlo : lo ≤ nid) {t : Nat} {x : Operand} (h : effBox C K nid t x = some e) : OpOut C.P ⟨dst, .box t x, ty, pos, after, g⟩ a I m H lo w e.v (puts H e.wr) := by
  unfold effBox at h
  split at h
  · rename_i T v hT hx
    split at h
    · rename_i hsz
      simp only [Option.some.injEq] at h
      subst h
      have hz := sizeOK_spec hsz
      exact op_box1 hs hn hlo (hC.ty _ _ hT) (kev_rep hk hx) hz.1 hz.2 (by simp [execOp, Instr.box, newVar, newRow])
    · cases h
  · cases h

theorem op_makeMap (hs : Sim I m H w) (hn : Fresh H nid) (hlo : lo ≤ nid) {t : Nat} (h : some (Eff.mk (.map nid) [(nid, .map [] [])] [nid]) = some e) : OpOut C.P ⟨dst, .makeMap t none, ty, pos, after, g⟩ a I m H lo w e.v (puts H e.wr) := by
  simp only [Option.some.injEq] at h
  subst h
  have h1 := hs.new (lo := lo) hn hlo (Ext.of_alloc w (.map #[] 0)) (f := ⟨w.heap.size, 0, 0, 0⟩) (Nat.le_refl _) (B := .map [] []) ⟨[], 0, heap_alloc_new w _, [], List.Perm.nil, List.nodup_nil, by unfold RepL; rfl, by unfold RepL; rfl, ⟨.i64, fun x h => by cases h⟩, (fun e he => by cases he), List.nodup_nil⟩ (by intro h; cases h)
  refine ⟨.value (.map (some w.heap.size)), _, _, _, ?_, .inl rfl, h1.1, ?_, h1.2⟩
  · simp [execOp, Instr.makeMap]
  · unfold Rep
    exact ⟨_, Ij.put_self, rfl⟩

/-- Rows one behind the other in a list of cells. -/
def RowsFlat (m : Mem) (I : Ij) (es : Nat) (l : List V) (c : List Value) : Prop := c.length = l.length * es ∧ ∀ (i : Nat) v, l[i]? = some v → ∃ u, Rep m v I u ∧ u.cells.size = es ∧ ∀ j x, u.cells[j]? = some x → x.oneCell' = true ∧ c[i * es + j]? = some x

theorem RowsFlat.rowsIn {es : Nat} {l : List V} {c : List Value} (h : RowsFlat m I es l c) : RowsIn m I c.toArray 0 es l := by
  intro i v hv
  obtain ⟨u, h1, h2, h3⟩ := h.2 i v hv
  exact ⟨u, h1, h2, fun j x hx => ⟨(h3 j x hx).1, by simpa using (h3 j x hx).2⟩⟩

theorem RowsFlat.zero {P : Program} {t : Nat} {T : TI} (hT : TIOK P t T) (n : Nat) : RowsFlat m I T.size (List.replicate n T.zero) ((List.range (n * T.size)).map fun k => (T.zs[k % T.size]?).getD default) := by
  refine ⟨by simp, fun i v hv => ?_⟩
  rw [List.getElem?_replicate] at hv
  split at hv
  · rename_i hi
    simp only [Option.some.injEq] at hv
    subst hv
    refine ⟨T.zeroC, TI.zero_rep hT, by rw [TI.zero_cells hT]; simp [hT.zlen], fun j x hx => ?_⟩
    rw [TI.zero_cells hT] at hx
    have hx' : T.zs[j]? = some x := by simpa using hx
    have hj : j < T.size := by rw [← hT.zlen]; exact (List.getElem?_eq_some_iff.1 hx').1
    refine ⟨List.all_eq_true.1 hT.zone x (List.mem_of_getElem? hx'), ?_⟩
    have hlt : i * T.size + j < n * T.size := by
      have : (i + 1) * T.size ≤ n * T.size := Nat.mul_le_mul_right _ hi
      rw [Nat.add_mul] at this
      omega
    have hmod : (i * T.size + j) % T.size = j := by rw [Nat.mul_comm, Nat.mul_add_mod]; exact Nat.mod_eq_of_lt hj
    simp [hlt, hmod, hx']
  · cases hv

theorem fillR_sound {T : TI} {es : Nat} (hes : T.size = es) (hpos : 0 < es) : ∀ {p : List (Nat × V)} {us : List (Nat × Value)} {l l' : List V} {c : List Value}, PartsRep m I p us → RowsFlat m I es l c → fillR T l p = some l' →
    ∃ c', Instr.fill (fun i => some (i * es, es)) c.toArray us = some c'.toArray ∧ RowsFlat m I es l' c' ∧ l'.length = l.length
  | [], us, l, l', c, hp, hc, h => by
    cases hp
    simp only [fillR, Option.some.injEq] at h
    subst h
    exact ⟨c, rfl, hc, rfl⟩
  | (i, v) :: p, us, l, l', c, hp, hc, h => by
    cases hp
    rename_i u us hu hp
    simp only [fillR] at h
    split at h
    · rename_i hsz
      have hz := sizeOK_spec hsz
      split at h
      · rename_i r hr
        rw [get_eq] at hr
        have hi := (List.getElem?_eq_some_iff.1 hr).1
        have hus : u.cells.size = es := by rw [hu.size, hz.2, hes]
        have hcl := hc.1
        have hle : i * es + es ≤ c.length := by
          rw [hcl]
          have : (i + 1) * es ≤ l.length * es := Nat.mul_le_mul_right _ hi
          rwa [Nat.add_mul, Nat.one_mul] at this
        obtain ⟨c1, hc1⟩ := setAt_ok u.cells.toList c (i * es) (by simp; omega)
        obtain ⟨b1, b2, b3⟩ := setAt_eq _ _ _ _ hc1
        have hflat : RowsFlat m I es (Am.set l i v) c1 := by
          rw [set_eq]
          refine ⟨by rw [b1, hcl, List.length_set], fun k x hx => ?_⟩
          by_cases hki : k = i
          · subst hki
            rw [List.getElem?_set_self hi, Option.some.injEq] at hx
            subst hx
            refine ⟨u, hu, hus, fun j y hy => ⟨(hu.cellsRep hz.1).2 y (by simpa using Array.mem_of_getElem? hy), ?_⟩⟩
            have hj : j < u.cells.size := (Array.getElem?_eq_some_iff.1 hy).1
            rw [b3, if_pos ⟨by omega, by simp; omega⟩, show k * es + j - k * es = j by omega]
            simpa using hy
          · rw [List.getElem?_set_ne (fun e => hki e.symm)] at hx
            obtain ⟨u2, q1, q2, q3⟩ := hc.2 k x hx
            refine ⟨u2, q1, q2, fun j y hy => ⟨(q3 j y hy).1, ?_⟩⟩
            have hj : j < es := by rw [← q2]; exact (Array.getElem?_eq_some_iff.1 hy).1
            rw [b3, if_neg, (q3 j y hy).2]
            rintro ⟨h1, h2⟩
            simp only [Array.length_toList, hus] at h2
            rcases Nat.lt_or_gt_of_ne hki with h | h
            · have : (k + 1) * es ≤ i * es := Nat.mul_le_mul_right _ h
              rw [Nat.add_mul] at this; omega
            · have : (i + 1) * es ≤ k * es := Nat.mul_le_mul_right _ h
              rw [Nat.add_mul] at this; omega
        obtain ⟨c', h4, h5, h6⟩ := fillR_sound hes hpos hp hflat h
        refine ⟨c', ?_, h5, by rw [h6, set_eq, List.length_set]⟩
        simp only [Instr.fill]
        rw [if_neg (by simp; omega), ← h4]
        congr 1
        have := foldl_setAt u.cells.toList 0 c c1 (i * es) (by simpa using hc1)
        rw [← this, ← Array.foldl_toList]
        simp
      · cases h
    · cases h

theorem sliceElem_spec (hC : C.OK) {t : Nat} {Te : TI} (h : sliceElem C t = some Te) : ∃ el, C.P.underlying t = some (.slice el) ∧ C.ty el = some Te ∧ TIOK C.P el Te := by
  unfold sliceElem at h
  split at h
  · rename_i T hT
    split at h
    · rename_i el es hk'
      have := (hC.ty _ _ hT).kd
      rw [hk'] at this
      exact ⟨el, this.1, h, hC.ty _ _ h⟩
    · cases h
  · cases h

theorem op_rows {P : Program} (hs : Sim I m H w) (hn : Fresh H nid) (hlo : lo ≤ nid) {t : Nat} {T : TI} (hT : TIOK P t T) {l : List V} {c : List Value} {n : Nat} (hnl : l.length = n) (hmax : n ≤ maxLen) (hc : RowsFlat m I T.size l c) {o : Oper}
    (hr : (execOp a.eval o).run P w = .ok (.value (.slice (some ⟨w.heap.size, 0, none⟩) n n)) (w.alloc (.cells c.toArray t (0, 0)))) : OpOut P o a I m H lo w (.osl nid 0 n) (hput H nid (.rows T.size l)) := by
  have hI := hn.none hs
  have h1 := hs.new (lo := lo) hn hlo (Ext.of_alloc w (.cells c.toArray t (0, 0))) (f := ⟨w.heap.size, 0, T.size, n⟩) (Nat.le_refl _) (B := .rows T.size l)
    ⟨rfl, c.toArray, t, heap_alloc_new w _, by simp [hc.1, hnl], by simp [hnl], hmax, hT.pos, hc.rowsIn.mono (fun _ _ h => h) (Ij.le_put hI)⟩ (by intro h; cases h)
  refine ⟨_, _, _, _, hr, .inl rfl, h1.1, ?_, h1.2⟩
  unfold Rep
  exact ⟨_, some ⟨w.heap.size, 0, none⟩, Ij.put_self, rfl, by simp, fun _ => by simp, fun _ => ⟨_, _, rfl⟩⟩

theorem zeros_arr {P : Program} {t : Nat} {T : TI} (hT : TIOK P t T) (n : Nat) : (Array.range n).map (fun x => (T.zs[x % T.zs.length]?).getD default) = ((List.range n).map fun k => (T.zs[k % T.size]?).getD default).toArray := by
  rw [← List.toArray_range, List.map_toArray, hT.zlen]

theorem map_range0 : Array.map (fun _ : Nat => (default : Value)) (Array.range 0) = #[] := by
  rw [← List.toArray_range, List.map_toArray]; rfl

theorem run_buildSlice {P : Program} {t el n : Nat} {T : TI} (hu : P.underlying t = some (.slice el)) (hT : TIOK P el T) (hsm : n * T.size ≤ 65536) {parts : Array (Nat × Value)} {c' : List Value}
    (h1 : Instr.fill (fun i => some (i * T.size, T.size)) ((List.range (n * T.size)).map fun k => (T.zs[k % T.size]?).getD default).toArray parts.toList = some c'.toArray) :
    (Instr.buildSlice t n parts).run P w = .ok (.slice (some ⟨w.heap.size, 0, none⟩) n n) (w.alloc (.cells c'.toArray el (0, 0))) := by
  have hne : ¬ 16777216 < n * T.size := by omega
  have hz := zeros_arr hT (n * T.size)
  by_cases h0 : n * T.size = 0
  · rw [h0] at h1
    simp only [List.range_zero, List.map_nil] at h1
    simp [Instr.buildSlice, run_underlying hu, hT.size, h0, newRow, map_range0, h1]
  · simp [Instr.buildSlice, run_underlying hu, hT.size, hne, h0, hT.zero, TI.zero_cells hT, newRow, hz, h1]

theorem op_buildSlice (hC : C.OK) (hs : Sim I m H w) (hk : Slots m I K a.tmps) (hn : Fresh H nid) (hlo : lo ≤ nid) {t n : Nat} {ps : Array (Nat × Operand)} (h : effBuildSlice C K nid t n ps.toList = some e) : OpOut C.P ⟨dst, .buildSlice t n ps, ty, pos, after, g⟩ a I m H lo w e.v (puts H e.wr) := by
  unfold effBuildSlice at h
  split at h
  · rename_i Te l hTe hl
    obtain ⟨el, hu, hTel, hTI⟩ := sliceElem_spec hC hTe
    split at h
    · rename_i hsm
      split at h
      · rename_i rows hrows
        simp only [Option.some.injEq] at h
        subst h
        obtain ⟨c', h1, h2, h3⟩ := fillR_sound (us := ps.toList.map fun p => (p.1, a.eval p.2)) rfl hTI.pos (kparts_rep hk hl) (RowsFlat.zero hTI n) hrows
        rw [List.length_replicate] at h3
        refine op_rows hs hn hlo hTI h3 ?_ h2 ?_
        · have := hTI.pos
          have : n * 1 ≤ n * Te.size := Nat.mul_le_mul_left _ this
          unfold maxLen; omega
        · have := run_buildSlice (w := w) (parts := ps.map fun (p : Nat × Operand) => (p.1, a.eval p.2)) hu hTI hsm (by simpa using h1)
          simp [execOp, this]
      · cases h
    · cases h
  · cases h

theorem run_makeSlice {P : Program} {t el n : Nat} {T : TI} {k k' : IntKind} (hu : P.underlying t = some (.slice el)) (hT : TIOK P el T) (hn : n ≤ 1048576) (hb : T.bytes ≤ 4096) :
    (Instr.makeSlice t (.int k (n : Int)) (.int k' (n : Int))).run P w = .ok (.slice (some ⟨w.heap.size, 0, none⟩) n n) (w.alloc (.cells ((List.range (n * T.size)).map fun k => (T.zs[k % T.size]?).getD default).toArray el (0, 0))) := by
  obtain ⟨i, hi, hi0, hi1, hi2⟩ := hT.get
  have hw : IntKind.i64.wrap (n : Int) = (n : Int) := IntWalk.i64_in _ (by omega)
  have hbn : (T.bytes : Int) * (n : Int) ≤ 281474976710656 := by
    have : T.bytes * n ≤ 4096 * 1048576 := Nat.mul_le_mul hb hn
    have : ((T.bytes * n : Nat) : Int) ≤ ((4096 * 1048576 : Nat) : Int) := by omega
    rw [Int.natCast_mul] at this
    omega
  have hz := zeros_arr hT (n * T.size)
  have hn0 : ¬ ((n : Int) < 0) := by omega
  have ht : ¬ (281474976710656 < (T.bytes : Int) * (n : Int)) := by omega
  by_cases h0 : n * T.size = 0
  · simp [Instr.makeSlice, run_underlying hu, typeInfo, hi, hi2, asInt, asIntOf, hw, ht, hT.size, h0, newRow, hn0, map_range0]
  · simp [Instr.makeSlice, run_underlying hu, typeInfo, hi, hi2, asInt, asIntOf, hw, ht, hn0, hT.size, h0, hT.zero, TI.zero_cells hT, newRow, hz]

theorem op_makeSlice (hC : C.OK) (hs : Sim I m H w) (hk : Slots m I K a.tmps) (hn : Fresh H nid) (hlo : lo ≤ nid) {t : Nat} {l c : Operand} (h : effMakeSlice C K nid t l c = some e) : OpOut C.P ⟨dst, .makeSlice t l c, ty, pos, after, g⟩ a I m H lo w e.v (puts H e.wr) := by
  unfold effMakeSlice at h
  split at h
  · rename_i Te k n k' n' hTe hl hc
    obtain ⟨el, hu, hTel, hTI⟩ := sliceElem_spec hC hTe
    split at h
    · rename_i hcond
      obtain ⟨rfl, h0, h1, h2⟩ := hcond
      simp only [Option.some.injEq] at h
      subst h
      obtain ⟨N, rfl⟩ := Int.eq_ofNat_of_zero_le h0
      have hl' := (kev_rep hk hl).lit
      have hc' := (kev_rep hk hc).lit
      refine op_rows hs hn hlo hTI (by simp) (by unfold maxLen; simp; omega) (RowsFlat.zero hTI _) ?_
      have := run_makeSlice (w := w) (k := k) (k' := k') (n := N) hu hTI (by omega) h2
      simp [execOp, hl', hc', this]
    · cases h
  · cases h

end
end Go.Am
