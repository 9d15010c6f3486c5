/- append, copy, clear: as in the model (2). Conditions: none. -/
import Derived.Test.YtphmekpaalfliaaOpI
set_option linter.unusedVariables false
set_option linter.unusedSimpArgs false
namespace Go.Am
open Go Go.Wk Go.RowKit

section
variable {C : Cfg} {I : Ij} {m : Mem} {H : List Blk} {w w' : World} {K : List (Nat × V)} {a : Act} {lo nid : Nat} {dst : Option Tmp} {ty : TypeId} {pos : String} {after : Array Edge} {g : Option (Nat × Bool)} {e : Eff}

/-- What a built-in function's run has to be. -/
def BiOut (P : Program) (s : Sem Next) (I : Ij) (m : Mem) (H : List Blk) (lo : Nat) (w : World) (v : V) (H' : List Blk) : Prop :=
  ∃ u w' I', s.run P w = .ok (.value u) w' ∧ Sim I' m H' w' ∧ Rep m v I' u ∧ Fx I H lo w I' H' w'

theorem run_append0 {P : Program} {t el cap sLen sCap : Nat} {T : TI} (hu : P.underlying t = some (.slice el)) (hT : TIOK P el T) {ad base : Option Addr} (hle : sLen ≤ sCap) :
    (Builtin.append_ #[t, t] ty #[.slice base sLen sCap, .slice ad 0 cap]).run P w = .ok (.slice base sLen sCap) w := by
  have hfc : ∀ w : World, (Builtin.firstCells T.size 0 (.slice ad 0 cap)).run P w = .ok #[] w := fun w => by
    cases ad <;> simp [Builtin.firstCells, loadCells, loadCellsFrom]
  cases base <;> simp [Builtin.append_, run_underlying hu, hT.size, Builtin.lenOf, hle, hfc, storeCells]

theorem bytes_ok {n b : Nat} (h1 : n ≤ maxRows) (h2 : b ≤ 4096) : n * b ≤ 140737488355328 := by
  have : n * b ≤ maxRows * 4096 := Nat.mul_le_mul h1 h2
  unfold maxRows at this; omega

theorem append_sound {P : Program} (hs : Sim I m H w) (hn : Fresh H nid) (hlo : lo ≤ nid) {t el : Nat} {T : TI} (hu : P.underlying t = some (.slice el)) (hT : TIOK P el T) {x y : V} {ux uy : Value} (hx : Rep m x I ux) (hy : Rep m y I uy)
    (h : appendA T H lo nid x y = some e) : BiOut P (do pure (.value (← Builtin.append_ #[t, t] ty #[ux, uy]))) I m H lo w e.v (puts H e.wr) := by
  have key : ∀ {u : Value} {w' : World} {I' : Ij} {v : V} {H' : List Blk}, (Builtin.append_ #[t, t] ty #[ux, uy]).run P w = .ok u w' → Sim I' m H' w' → Rep m v I' u → Fx I H lo w I' H' w' → BiOut P (do pure (.value (← Builtin.append_ #[t, t] ty #[ux, uy]))) I m H lo w v H' :=
    fun {u w' I' v H'} h1 h2 h3 h4 => ⟨u, w', I', by simp [h1], h2, h3, h4⟩
  obtain ⟨ti, hi, hz, hsz, hby⟩ := hT.get
  have hzs : T.zeroC.cells.size = T.size := by rw [TI.zero_cells hT]; simp [hT.zlen]
  unfold appendA at h
  split at h
  · cases h
  · rename_i new rd hrows
    cases hno : newOK T new with
    | false => rw [hno] at h; cases h
    | true =>
      rw [hno] at h
      simp only [cond_true] at h
      obtain ⟨ad, cap, fs, rfl, hflat, hsrc⟩ := rowsOf_sound hs hT hy hrows hno
      have hone := hflat.one hT.pos
      have hfl := hflat.1
      split at h
      · have hux := hx.lit
        subst hux
        split at h
        · simp only [Option.some.injEq] at h
          subst h
          exact key (run_append0 hu hT (Nat.le_refl 0)) hs (Rep.of_lit fun c h => by cases h) (Fx.rfl' _ _ _ _)
        · rename_i hne
          split at h
          · rename_i hbd
            simp only [Option.some.injEq] at h
            subst h
            have hne' : new ≠ [] := fun e => hne e
            have hpos : 0 < new.length := List.length_pos_iff.2 hne'
            obtain ⟨b2, o2, rfl, hc⟩ := hsrc hne'
            obtain ⟨v', w', hr, r1, r2, r3⟩ := run_append_own (P := P) (w := w) w.heap.size t ty el ti T.zeroC T.size T.bytes hu hi hz hsz hby hzs hT.pos (.slice none 0 0) 0 [] (World.ownsRow_nil w _ el T.size) ⟨b2, o2, none⟩ new.length cap fs hfl
              (fun j u hj => by rw [Addr.add_n]; exact hc j u hj) hone (by rw [Nat.zero_add]; have := hbd.1; unfold maxRows at this; unfold maxLen; omega) (by rw [Nat.zero_add]; exact bytes_ok hbd.1 hbd.2) (Nat.le_refl _)
            rw [Nat.zero_add, List.nil_append] at r1
            have hext := grownBy_ext r2
            obtain ⟨g', cap', q1, rfl, q3, q4⟩ := owns_blk r1 (by omega) hT.pos hflat rfl
            have hI := hn.none hs
            obtain ⟨s1, s2⟩ := hs.new (lo := lo) hn hlo hext (f := ⟨g', 0, T.size, cap'⟩) q1 (B := .rows T.size new) (q4.mono (fun _ _ h => h) (Ij.le_put hI) rfl) (by intro h; cases h)
            refine key hr s1 ?_ s2
            unfold Rep
            exact ⟨_, _, Ij.put_self, rfl, by simpa using q3, fun _ => by simp, fun _ => ⟨_, _, rfl⟩⟩
          · cases h
      · rename_i id off len
        split at h
        · cases h
        rename_i hlt
        split at h
        · rename_i es l hb
          cases hes' : Nat.beq es T.size with
          | false => rw [hes'] at h; cases h
          | true =>
            rw [hes'] at h
            simp only [cond_true] at h
            have := Nat.eq_of_beq_eq_true hes'
            subst this
            have hb' := hget_rows hb
            have hlive : Live H id := ⟨_, hb', rfl⟩
            have hid := get_lt hb'
            obtain ⟨f, hf, hes, c, ty', hw, hc1, hc2, hc3, hc4, hc5⟩ := hs.blk id _ hb' rfl
            unfold Rep at hx
            obtain ⟨f', ad1, hf', rfl, g1, g2, g3⟩ := hx
            rw [hf] at hf'
            cases hf'
            have had1 : ∃ b o, ad1 = some ⟨b, o, none⟩ := by
              rcases Nat.lt_or_ge off f.cap with h | h
              · exact ⟨_, _, g2 h⟩
              · exact g3 h
            unfold appendTo at h
            split at h
            · rename_i hfull
              split at h
              · rename_i hbd
                simp only [Option.some.injEq] at h
                subst h
                have hI := hn.none hs
                have hsize : f.o + (off + len) * T.size ≤ c.size := by
                  have : (off + len) * T.size ≤ f.cap * T.size := Nat.mul_le_mul_right _ g1
                  omega
                by_cases hroom : len + new.length ≤ f.cap - off
                · -- in place
                  have hnew : ∀ (cc : Array Value), cc.size = c.size → RowsIn m I cc f.o T.size (l ++ new) → ∀ w' : World, w'.heap[f.b]? = some (.cells cc ty' (0, 0)) → BlkOK (I.put nid ⟨f.b, f.o + off * T.size, T.size, f.cap - off⟩) m w' ⟨f.b, f.o + off * T.size, T.size, f.cap - off⟩ (.rows T.size (l.drop off ++ new)) := by
                    intro cc hcs hri w' hw'
                    refine ⟨rfl, cc, ty', hw', ?_, ?_, by show f.cap - off ≤ maxLen; omega, hc4, fun i v hv => ?_⟩
                    · show f.o + off * T.size + (f.cap - off) * T.size ≤ cc.size
                      rw [Nat.add_assoc, ← Nat.add_mul, show off + (f.cap - off) = f.cap by omega, hcs]; exact hc1
                    · show (l.drop off ++ new).length ≤ f.cap - off
                      simp; omega
                    · have hv' : (l ++ new)[off + i]? = some v := by
                        have hd : l.drop off ++ new = (l ++ new).drop off := by rw [List.drop_append_of_le_length (by omega)]
                        rw [hd, List.getElem?_drop] at hv
                        exact hv
                      obtain ⟨u, q1, q2⟩ := hri _ _ hv'
                      refine ⟨u, Rep.mono (fun _ _ h => h) _ (Ij.le_put hI) q1, ?_⟩
                      rwa [show f.o + (off + i) * T.size = f.o + off * T.size + i * T.size by rw [Nat.add_mul]; omega] at q2
                  have hrep : Rep m (.osl nid 0 (len + new.length)) (I.put nid ⟨f.b, f.o + off * T.size, T.size, f.cap - off⟩) (.slice ad1 (len + new.length) (f.cap - off)) := by
                    unfold Rep
                    refine ⟨_, ad1, Ij.put_self, rfl, by simpa using hroom, fun h => ?_, fun h => had1⟩
                    have h : 0 < f.cap - off := h
                    rw [g2 (by omega), hes]
                    simp
                  by_cases h0 : new = []
                  · subst h0
                    have hB := hnew c rfl (by rw [List.append_nil]; exact hc5) w hw
                    obtain ⟨s1, s2⟩ := hs.move (lo := lo) (f' := ⟨f.b, f.o + off * T.size, T.size, f.cap - off⟩) hb' rfl (by omega) hlo hf hn (Stays.rfl' w) (fun _ _ => rfl) rfl hB (by intro h; cases h)
                    refine key (run_append0 hu hT (by simp at hroom; omega)) s1 ?_ s2
                    simpa using hrep
                  · obtain ⟨b2, o2, rfl, hc⟩ := hsrc h0
                    have hpos : 0 < new.length := List.length_pos_iff.2 h0
                    have hoff : off < f.cap := by omega
                    have had := g2 hoff
                    subst had
                    have hcsz : f.o + (off + len) * T.size + fs.length ≤ c.size := by
                      rw [hfl]
                      have : (off + (len + new.length)) * T.size ≤ f.cap * T.size := Nat.mul_le_mul_right _ (by omega)
                      rw [Nat.add_mul, Nat.add_mul] at this
                      rw [Nat.add_mul]
                      omega
                    have hadr : f.o + off * f.es + len * ti.size = f.o + (off + len) * T.size := by rw [hes, hsz, Nat.add_mul]; omega
                    have hr := run_append_room_cells (P := P) w t ty el ti hu hi f.b (f.o + off * f.es) len (f.cap - off) ⟨b2, o2, none⟩ new.length cap fs (by rw [hsz]; exact hfl) (fun j u hj => by rw [Addr.add_n]; exact hc j u hj) hone hroom
                      (fun j hj => by
                        rw [hadr, cell_none]
                        unfold Mem.cell wmem
                        rw [hw]
                        have : f.o + (off + len) * T.size + j < c.size := by omega
                        simp [this]) (fun j hj => by unfold World.frozen?; rw [hw]; simp)
                    rw [hadr] at hr
                    obtain ⟨z1, z2, z3⟩ := setCells_spec fs (f.o + (off + len) * T.size) w c hw
                    have hri : RowsIn m I (putC c (f.o + (off + len) * T.size) fs) f.o T.size (l ++ new) := by
                      refine RowsIn.put hc5 hflat hcsz fun i v hv => ?_
                      by_cases hil : i < l.length
                      · rw [if_neg (by omega)]
                        rwa [List.getElem?_append_left hil] at hv
                      · rw [List.getElem?_append_right (by omega)] at hv
                        have := (List.getElem?_eq_some_iff.1 hv).1
                        rw [if_pos ⟨by omega, by omega⟩, hfull]; exact hv
                    have hB := hnew _ (putC_spec fs c _ hcsz).1 hri _ z3
                    obtain ⟨s1, s2⟩ := hs.move (lo := lo) (f' := ⟨f.b, f.o + off * T.size, T.size, f.cap - off⟩) hb' rfl (by omega) hlo hf hn z1 z2 rfl hB (by intro h; cases h)
                    exact key hr s1 hrep s2
                · -- a new row
                  have h0 : new ≠ [] := by rintro rfl; simp at hroom; omega
                  obtain ⟨b2, o2, rfl, hc⟩ := hsrc h0
                  have hpos : 0 < new.length := List.length_pos_iff.2 h0
                  obtain ⟨b1, o1, rfl⟩ := had1
                  obtain ⟨olds, ho1, ho2⟩ := Src.flat (m := m) (I := I) (l := l.drop off) (es := T.size) (get := fun j => c[j]?) (o := f.o + off * T.size) (fun i v hv => by
                    rw [List.getElem?_drop] at hv
                    obtain ⟨u, q1, q2⟩ := hc5 _ _ hv
                    refine ⟨u, q1, q2.1, fun j x hj => ⟨(q2.2 j x hj).1, ?_⟩⟩
                    have := (q2.2 j x hj).2
                    rwa [show f.o + (off + i) * T.size + j = f.o + off * T.size + i * T.size + j by rw [Nat.add_mul]; omega] at this)
                  have hol : olds.length = len * T.size := by rw [ho1.1, List.length_drop]; congr 1; omega
                  obtain ⟨v', w', hr, r1, r2⟩ := run_append_arg_grows (P := P) w t ty el ti T.zeroC T.size T.bytes hu hi hz hsz hby hzs hT.pos ⟨b1, o1, none⟩ len (f.cap - off) olds hol (fun j u hj => by
                      have hl0 : 0 < len := by
                        rcases Nat.eq_zero_or_pos len with h | h
                        · subst h
                          have := (List.getElem?_eq_some_iff.1 hj).1
                          omega
                        · exact h
                      have had := g2 (by omega)
                      cases had
                      rw [Addr.add_n, cell_none]
                      unfold Mem.cell wmem
                      rw [hw, hes]
                      exact ho2 j u hj) ⟨b2, o2, none⟩ new.length cap fs hfl (fun j u hj => by rw [Addr.add_n]; exact hc j u hj) (by omega) (by have := hbd.1; unfold maxRows at this; unfold maxLen; omega) (bytes_ok (by omega) hbd.2)
                  have hext := grownBy_ext r2
                  have hflat2 : RowsFlat m I T.size (l.drop off ++ new) (olds ++ fs) := by
                    refine ⟨by simp [ho1.1, hfl, Nat.add_mul], fun i v hv => ?_⟩
                    by_cases hil : i < (l.drop off).length
                    · rw [List.getElem?_append_left hil] at hv
                      obtain ⟨u, q1, q2, q3⟩ := ho1.2 i v hv
                      refine ⟨u, q1, q2, fun j x hj => ⟨(q3 j x hj).1, ?_⟩⟩
                      have := (q3 j x hj).2
                      rw [List.getElem?_append_left (List.getElem?_eq_some_iff.1 this).1]; exact this
                    · rw [List.getElem?_append_right (by omega)] at hv
                      obtain ⟨u, q1, q2, q3⟩ := hflat.2 _ v hv
                      refine ⟨u, q1, q2, fun j x hj => ⟨(q3 j x hj).1, ?_⟩⟩
                      have hk : olds.length ≤ i * T.size := by rw [ho1.1]; exact Nat.mul_le_mul_right _ (by omega)
                      rw [List.getElem?_append_right (by omega), show i * T.size + j - olds.length = (i - (l.drop off).length) * T.size + j by rw [Nat.sub_mul, ho1.1]; rw [ho1.1] at hk; omega]
                      exact (q3 j x hj).2
                  obtain ⟨g', cap', q1, rfl, q3, q4⟩ := owns_blk r1 (by omega) hT.pos hflat2 (by simp; omega)
                  obtain ⟨s1, s2⟩ := (hs.kill hid).new (lo := lo) (hn.kill hb' rfl) hlo hext (f := ⟨g', 0, T.size, cap'⟩) q1 (B := .rows T.size (l.drop off ++ new)) (q4.mono (fun _ _ h => h) (Ij.le_put hI) rfl) (by intro h; cases h)
                  refine key hr s1 ?_ ((hs.killFx hid (by omega)).tr s2)
                  unfold Rep
                  exact ⟨_, _, Ij.put_self, rfl, by simpa using q3, fun _ => by simp, fun _ => ⟨_, _, rfl⟩⟩
              · cases h
            · rename_i hnf
              split at h
              · rename_i hfit
                split at h
                · rename_i l' hset
                  simp only [Option.some.injEq] at h
                  subst h
                  obtain ⟨a1, a2, a3⟩ := setAt_eq _ _ _ _ hset
                  have hrep : Rep m (.osl id off (len + new.length)) I (.slice ad1 (len + new.length) (f.cap - off)) := by
                    unfold Rep
                    exact ⟨f, ad1, hf, rfl, by omega, g2, g3⟩
                  by_cases h0 : new = []
                  · subst h0
                    simp only [setAt, Option.some.injEq] at hset
                    subst hset
                    have hB : BlkOK I m w f (.rows T.size l) := ⟨hes, c, ty', hw, hc1, hc2, hc3, hc4, hc5⟩
                    obtain ⟨s1, s2⟩ := hs.upd (lo := lo) hlive (by omega) hf (Stays.rfl' w) (fun _ _ => rfl) hB (by intro h; cases h)
                    refine key (run_append0 hu hT (by omega)) s1 ?_ s2
                    simpa using hrep
                  · obtain ⟨b2, o2, rfl, hc⟩ := hsrc h0
                    have hpos : 0 < new.length := List.length_pos_iff.2 h0
                    have hoff : off < f.cap := by omega
                    have had := g2 hoff
                    subst had
                    have hcsz : f.o + (off + len) * T.size + fs.length ≤ c.size := by
                      rw [hfl]
                      have : (off + (len + new.length)) * T.size ≤ f.cap * T.size := Nat.mul_le_mul_right _ (by omega)
                      rw [Nat.add_mul, Nat.add_mul] at this
                      rw [Nat.add_mul]
                      omega
                    have hadr : f.o + off * f.es + len * ti.size = f.o + (off + len) * T.size := by rw [hes, hsz, Nat.add_mul]; omega
                    have hr := run_append_room_cells (P := P) w t ty el ti hu hi f.b (f.o + off * f.es) len (f.cap - off) ⟨b2, o2, none⟩ new.length cap fs (by rw [hsz]; exact hfl) (fun j u hj => by rw [Addr.add_n]; exact hc j u hj) hone (by omega)
                      (fun j hj => by
                        rw [hadr, cell_none]
                        unfold Mem.cell wmem
                        rw [hw]
                        have : f.o + (off + len) * T.size + j < c.size := by omega
                        simp [this]) (fun j hj => by unfold World.frozen?; rw [hw]; simp)
                    rw [hadr] at hr
                    obtain ⟨z1, z2, z3⟩ := setCells_spec fs (f.o + (off + len) * T.size) w c hw
                    have hri : RowsIn m I (putC c (f.o + (off + len) * T.size) fs) f.o T.size l' := by
                      refine RowsIn.put hc5 hflat hcsz fun i v hv => ?_
                      rw [a3] at hv
                      split at hv
                      · rename_i hcc; rw [if_pos hcc]; exact hv
                      · rename_i hcc; rw [if_neg hcc]; exact hv
                    have hB : BlkOK I m (w.setCells f.b (f.o + (off + len) * T.size) fs) f (.rows T.size l') := ⟨hes, _, ty', z3, by rw [(putC_spec fs c _ hcsz).1]; exact hc1, by rw [a1]; exact hc2, hc3, hc4, hri⟩
                    obtain ⟨s1, s2⟩ := hs.upd (lo := lo) hlive (by omega) hf z1 z2 hB (by intro h; cases h)
                    exact key hr s1 hrep s2
                · cases h
              · cases h
        · cases h
      · cases h

end
end Go.Am
