/- What an operation does rests on the slots that it names and the blocks that it looks at. Conditions: none. -/
import Derived.Test.YtphmekpaalfliaaGm
set_option linter.unusedVariables false
set_option linter.unusedSimpArgs false
namespace Go.Am
open Go

section
variable {C : Cfg} {K K' : List (Nat × V)} {H H' : List Blk} {lo nid : Nat} {e : Eff}

abbrev Same (H H' : List Blk) (rd : List Nat) : Prop := ∀ id, id ∈ rd → hget H' id = hget H id

theorem rowsOf_loc {x : V} {p : List V × List Nat} (h : rowsOf H x = some p) (hH : Same H H' p.2) : rowsOf H' x = some p := by
  unfold rowsOf at h
  split at h
  · simpa [rowsOf] using h
  · simpa [rowsOf] using h
  · rename_i id off len
    split at h
    · rename_i hb
      simp only [Option.map_eq_some_iff] at h
      obtain ⟨r, h1, rfl⟩ := h
      have := hH id (by simp)
      simp [rowsOf, this, hb, h1]
    · cases h
  · cases h

theorem lenM_loc {x : V} {p : Nat × List Nat} (h : lenM H x = some p) (hH : Same H H' p.2) : lenM H' x = some p := by
  unfold lenM at *
  grind

theorem indexA_loc {T : TI} {x : V} {n : Int} {p : V × List Nat} (h : indexA H T x n = some p) (hH : Same H H' p.2) : indexA H' T x n = some p := by
  unfold indexA at *
  grind

theorem sliceA_loc {es : Nat} {x : V} {l h' m : Int} {b : Bool} {p : V × List Nat} (h : sliceA H es x l h' b m = some p) (hH : Same H H' p.2) : sliceA H' es x l h' b m = some p := by
  unfold sliceA at *
  grind

theorem loadA_loc {T : TI} {x : V} {p : V × List Nat} (h : loadA H T x = some p) (hH : Same H H' p.2) : loadA H' T x = some p := by
  unfold loadA at h
  split at h
  · rename_i id i off
    split at h
    · rename_i hb
      split at h
      · rename_i hg
        simp only [Option.map_eq_some_iff] at h
        obtain ⟨r, h1, rfl⟩ := h
        have := hH id (by simp)
        simp [loadA, this, hb, hg, h1]
      · cases h
    · cases h
  · simpa [loadA] using h
  · cases h

theorem storeA_loc {T : TI} {x v : V} (h : storeA H lo T x v = some e) (hH : Same H H' e.rd) : storeA H' lo T x v = some e := by
  unfold storeA at h
  split at h
  · rename_i id i off
    split at h
    · cases h
    · rename_i hlo
      split at h
      · rename_i hsz
        split at h
        · rename_i es l hb
          split at h
          · rename_i r hg
            have hm : id ∈ e.rd := by
              simp only [Option.map_eq_some_iff] at h
              obtain ⟨r', _, rfl⟩ := h
              simp
            have h1 := hH id hm
            simpa [storeA, hlo, hsz, h1, hb, hg] using h
          · cases h
        · cases h
      · cases h
  · cases h

theorem lookIn_rd {Te : TI} {ok : Bool} {k : V} {ks vs : List V} {rd : List Nat} (h : lookIn Te ok k ks vs rd = some e) : e.rd = rd := by
  unfold lookIn at h
  (repeat' split at h) <;> first | (cases h; done) | (simp only [Option.some.injEq] at h; subst h; rfl)

theorem lookA_loc {t : Nat} {x k : V} {ok : Bool} (h : lookA C H t x k ok = some e) (hH : Same H H' e.rd) : lookA C H' t x k ok = some e := by
  unfold lookA at h
  split at h
  · rename_i kd Te hm
    cases hk : keyOK kd k with
    | false => rw [hk] at h; cases h
    | true =>
      rw [hk] at h
      simp only [cond_true] at h
      split at h
      · simpa [lookA, hm, hk] using h
      · simpa [lookA, hm, hk] using h
      · rename_i id
        split at h
        · rename_i hb
          have := hH id (by rw [lookIn_rd h]; simp)
          simpa [lookA, hm, hk, this, hb] using h
        · cases h
      · cases h
  · cases h

theorem mapPut_loc {t : Nat} {x k v : V} (h : mapPut C H lo t x k v = some e) (hH : Same H H' e.rd) : mapPut C H' lo t x k v = some e := by
  unfold mapPut at h
  split at h
  · rename_i kd Te hm
    cases hk : keyOK kd k with
    | false => rw [hk] at h; cases h
    | true =>
      rw [hk] at h
      simp only [cond_true] at h
      split at h
      · rename_i id
        split at h
        · cases h
        · rename_i hlo
          split at h
          · rename_i hb
            have hm' : id ∈ e.rd := by
              split at h <;> first | (cases h; done) | (simp only [Option.some.injEq] at h; subst h; simp)
            have := hH id hm'
            simpa [mapPut, hm, hk, this, hb, hlo] using h
          · cases h
      · cases h
  · cases h

theorem copyA_loc {T : TI} {x y : V} (h : copyA T H lo x y = some e) (hH : Same H H' e.rd) : copyA T H' lo x y = some e := by
  unfold copyA at h
  split at h
  · cases h
  · rename_i src rd hr
    cases hn : newOK T src with
    | false => rw [hn] at h; cases h
    | true =>
      rw [hn] at h
      simp only [cond_true] at h
      split at h
      · rename_i id off len
        split at h
        · cases h
        · rename_i hlo
          split at h
          · rename_i es l hb
            cases hes : Nat.beq es T.size with
            | false => rw [hes] at h; cases h
            | true =>
              rw [hes] at h
              simp only [cond_true] at h
              have hm : id ∈ e.rd ∧ ∀ i ∈ rd, i ∈ e.rd := by
                split at h <;> first | (cases h; done) | (simp only [Option.some.injEq] at h; subst h; exact ⟨by simp, fun i hi => List.mem_cons_of_mem _ hi⟩)
              have h1 := hH id hm.1
              have h2 := rowsOf_loc hr (H' := H') fun i hi => hH i (hm.2 i hi)
              simpa [copyA, h2, hn, h1, hb, hes, hlo] using h
          · cases h
      · cases h

theorem clearA_loc {T : TI} {x : V} (h : clearA T H lo x = some e) (hH : Same H H' e.rd) : clearA T H' lo x = some e := by
  unfold clearA at h
  split at h
  · rename_i id off len
    split at h
    · cases h
    · rename_i hlo
      split at h
      · rename_i es l hb
        cases hes : Nat.beq es T.size with
        | false => rw [hes] at h; cases h
        | true =>
          rw [hes] at h
          simp only [cond_true] at h
          have hm : id ∈ e.rd := by
            split at h <;> first | (cases h; done) | (simp only [Option.some.injEq] at h; subst h; simp)
          have h1 := hH id hm
          simpa [clearA, h1, hb, hes, hlo] using h
      · cases h
  · cases h

theorem appendTo_rd {T : TI} {es : Nat} {l : List V} {id off len : Nat} {new : List V} {rd : List Nat} (h : appendTo T es l lo nid id off len new rd = some e) : id ∈ e.rd ∧ ∀ i ∈ rd, i ∈ e.rd := by
  unfold appendTo at h
  (repeat' split at h) <;> first | (cases h; done) | (simp only [Option.some.injEq] at h; subst h; exact ⟨by simp, fun i hi => by simp [hi]⟩)

theorem appendA_loc {T : TI} {x y : V} (h : appendA T H lo nid x y = some e) (hH : Same H H' e.rd) : appendA T H' lo nid x y = some e := by
  unfold appendA at h
  split at h
  · cases h
  · rename_i src rd hr
    cases hn : newOK T src with
    | false => rw [hn] at h; cases h
    | true =>
      rw [hn] at h
      simp only [cond_true] at h
      split at h
      · have hm : ∀ i ∈ rd, i ∈ e.rd := by
          (repeat' split at h) <;> first | (cases h; done) | (simp only [Option.some.injEq] at h; subst h; exact fun i hi => by simp [hi])
        have h2 := rowsOf_loc hr (H' := H') fun i hi => hH i (hm i hi)
        simpa [appendA, h2, hn] using h
      · rename_i id off len
        split at h
        · cases h
        · rename_i hlo
          split at h
          · rename_i es l hb
            cases hes : Nat.beq es T.size with
            | false => rw [hes] at h; cases h
            | true =>
              rw [hes] at h
              simp only [cond_true] at h
              have hm := appendTo_rd h
              have h1 := hH id hm.1
              have h2 := rowsOf_loc hr (H' := H') fun i hi => hH i (hm.2 i hi)
              simpa [appendA, h2, hn, h1, hb, hes, hlo] using h
          · cases h
      · cases h

/-! ### The operations -/

def KSame (K K' : List (Nat × V)) (xs : List Operand) : Prop := ∀ x ∈ xs, kev K' x = kev K x

theorem kevs_loc : ∀ {xs : List Operand}, KSame K K' xs → kevs K' xs = kevs K xs
  | [], _ => rfl
  | x :: r, h => by simp only [kevs]; rw [h x List.mem_cons_self, kevs_loc fun y hy => h y (List.mem_cons_of_mem _ hy)]

theorem kparts_loc : ∀ {ps : List (Nat × Operand)}, KSame K K' (ps.map (·.2)) → kparts K' ps = kparts K ps
  | [], _ => rfl
  | (i, x) :: r, h => by simp only [kparts]; rw [h x (by simp), kparts_loc fun y hy => h y (by simp at hy ⊢; exact .inr hy)]

theorem boundA_loc {o : Option Operand} {d : Int} (h : ∀ x, o = some x → kev K' x = kev K x) : boundA K' o d = boundA K o d := by
  cases o with
  | none => rfl
  | some x => simp only [boundA]; rw [h x rfl]

theorem effLoad_loc {t : Nat} {x : Operand} (hx : kev K' x = kev K x) (h : effLoad C K H t x = some e) (hH : Same H H' e.rd) : effLoad C K' H' t x = some e := by
  unfold effLoad at h
  split at h
  · rename_i T a hT ha
    split at h
    · rename_i p hp
      simp only [Option.some.injEq] at h
      subst h
      simp [effLoad, hT, hx, ha, loadA_loc hp hH]
    · cases h
  · cases h

theorem effStore_loc {t : Nat} {x y : Operand} (hx : kev K' x = kev K x) (hy : kev K' y = kev K y) (h : effStore C K H lo t x y = some e) (hH : Same H H' e.rd) : effStore C K' H' lo t x y = some e := by
  unfold effStore at h
  split at h
  · rename_i T a v hT ha hv
    simp only [effStore, hT, hx, ha, hy, hv]
    exact storeA_loc h hH
  · cases h

theorem effSlice_loc {t : Nat} {x : Operand} {l h' m : Option Operand} (hx : kev K' x = kev K x) (hl : ∀ d, boundA K' l d = boundA K l d) (hh : ∀ d, boundA K' h' d = boundA K h' d) (hm : ∀ d, boundA K' m d = boundA K m d) (h : effSlice C K H t x l h' m = some e) (hH : Same H H' e.rd) : effSlice C K' H' t x l h' m = some e := by
  unfold effSlice at h
  split at h
  · rename_i T v hT hv
    simp only [effSlice, hT, hx, hv]
    unfold effSliceB at h ⊢
    simp only [hl, hh, hm]
    split at h
    · cases h
    · rename_i h0
      rw [if_neg h0]
      split at h
      · rename_i n hn
        split at h
        · rename_i lo' hi' h1 h2
          split at h
          · rename_i m' h3
            split at h
            · rename_i p hp
              simp only [Option.some.injEq] at h
              subst h
              rw [sliceA_loc hp hH]
            · cases h
          · cases h
        · cases h
      · cases h
  · cases h

theorem effIndexAddr_loc {t : Nat} {x i : Operand} (hx : kev K' x = kev K x) (hi : kev K' i = kev K i) (h : effIndexAddr C K H t x i = some e) (hH : Same H H' e.rd) : effIndexAddr C K' H' t x i = some e := by
  unfold effIndexAddr at h
  split at h
  · rename_i T v k n hT hv hn
    split at h
    · rename_i p hp
      simp only [Option.some.injEq] at h
      subst h
      simp [effIndexAddr, hT, hx, hv, hi, hn, indexA_loc hp hH]
    · cases h
  · cases h

theorem effLookup_loc {t : Nat} {x k : Operand} {ok : Bool} (hx : kev K' x = kev K x) (hk : kev K' k = kev K k) (h : effLookup C K H t x k ok = some e) (hH : Same H H' e.rd) : effLookup C K' H' t x k ok = some e := by
  unfold effLookup at h
  split at h
  · rename_i v kv hv hkv
    simp only [effLookup, hx, hv, hk, hkv]
    exact lookA_loc h hH
  · cases h

theorem effMapPut_loc {t : Nat} {x k v : Operand} (hx : kev K' x = kev K x) (hk : kev K' k = kev K k) (hv : kev K' v = kev K v) (h : effMapPut C K H lo t x k v = some e) (hH : Same H H' e.rd) : effMapPut C K' H' lo t x k v = some e := by
  unfold effMapPut at h
  split at h
  · rename_i a b c ha hb hc
    simp only [effMapPut, hx, ha, hk, hb, hv, hc]
    exact mapPut_loc h hH
  · cases h

theorem biLen_loc {ats : List Nat} {l : List V} (h : biLen C H ats l = some e) (hH : Same H H' e.rd) : biLen C H' ats l = some e := by
  unfold biLen at h
  split at h
  · split at h
    · rename_i T hT
      split at h
      · rename_i hk
        simpa [biLen, hT, hk] using h
      · rename_i hk
        split at h
        · rename_i p hp
          simp only [Option.some.injEq] at h
          subst h
          simp [biLen, hT, hk, lenM_loc hp hH]
        · cases h
      · cases h
    · cases h
  · cases h

theorem builtin_loc {b : Builtin} {ats : List Nat} {l : List V} (h : builtinA C H lo nid b ats l = some e) (hH : Same H H' e.rd) : builtinA C H' lo nid b ats l = some e := by
  unfold builtinA at h
  split at h
  · exact biLen_loc h hH
  · unfold biAppend at h
    split at h
    · rename_i t t2 x y
      cases hb : Nat.beq t t2 with
      | false => rw [hb] at h; cases h
      | true =>
        rw [hb] at h
        simp only [cond_true] at h
        split at h
        · rename_i Te hTe
          simpa [builtinA, biAppend, hTe, hb] using appendA_loc h hH
        · cases h
    · cases h
  · exact h
  · exact h
  · unfold biCopy at h
    split at h
    · split at h
      · rename_i Te hTe
        simpa [builtinA, biCopy, hTe] using copyA_loc h hH
      · cases h
    · cases h
  · unfold biClear at h
    split at h
    · split at h
      · rename_i Te hTe
        simpa [builtinA, biClear, hTe] using clearA_loc h hH
      · cases h
    · cases h
  · cases h

theorem opEff_loc {op : Op} (hK : KSame K K' op.operands.toList) (hH : Same H H' e.rd) (h : opEff C K H lo nid op = some e) : opEff C K' H' lo nid op = some e := by
  unfold opEff at h
  have hk1 : ∀ x, x ∈ op.operands.toList → kev K' x = kev K x := hK
  split at h
  · simp only [opEff]; rw [hK _ (by simp [Op.operands])]; exact h
  · simp only [opEff]; rw [hK _ (by simp [Op.operands])]; exact h
  · simp only [opEff, effPick]; rw [hK _ (by simp [Op.operands]), hK _ (by simp [Op.operands]), hK _ (by simp [Op.operands])]; exact h
  · exact h
  · simp only [opEff, effBox]; rw [hK _ (by simp [Op.operands])]; exact h
  · rename_i t ps
    simp only [opEff, effBuild]; rw [kparts_loc (fun x hx => hK x (by simpa [Op.operands] using hx))]; exact h
  · rename_i t n ps
    simp only [opEff, effBuildSlice]; rw [kparts_loc (fun x hx => hK x (by simpa [Op.operands] using hx))]; exact h
  · exact effLoad_loc (hK _ (by simp [Op.operands])) h hH
  · exact effStore_loc (hK _ (by simp [Op.operands])) (hK _ (by simp [Op.operands])) h hH
  · simp only [opEff, effNil]; rw [hK _ (by simp [Op.operands])]; exact h
  · simp only [opEff, effBin]; rw [hK _ (by simp [Op.operands]), hK _ (by simp [Op.operands])]; exact h
  · simp only [opEff, effUn]; rw [hK _ (by simp [Op.operands])]; exact h
  · simp only [opEff, effConvert]; rw [hK _ (by simp [Op.operands])]; exact h
  · rename_i f first caps
    simp only [opEff, effFunc]; rw [kevs_loc (fun x hx => hK x (by simp [Op.operands] at hx ⊢; exact .inr hx))]; exact h
  · exact h
  · simp only [opEff, effMakeSlice]; rw [hK _ (by simp [Op.operands]), hK _ (by simp [Op.operands])]; exact h
  · rename_i t x l h' m
    exact effSlice_loc (hK _ (by simp [Op.operands])) (fun d => boundA_loc fun x hx => hK x (by simp [Op.operands, hx])) (fun d => boundA_loc fun x hx => hK x (by simp [Op.operands, hx])) (fun d => boundA_loc fun x hx => hK x (by simp [Op.operands, hx])) h hH
  · simp only [opEff, effFieldAddr]; rw [hK _ (by simp [Op.operands])]; exact h
  · simp only [opEff, effField]; rw [hK _ (by simp [Op.operands])]; exact h
  · exact effIndexAddr_loc (hK _ (by simp [Op.operands])) (hK _ (by simp [Op.operands])) h hH
  · simp only [opEff, effIndex]; rw [hK _ (by simp [Op.operands]), hK _ (by simp [Op.operands])]; exact h
  · exact effLookup_loc (hK _ (by simp [Op.operands])) (hK _ (by simp [Op.operands])) h hH
  · exact effMapPut_loc (hK _ (by simp [Op.operands])) (hK _ (by simp [Op.operands])) (hK _ (by simp [Op.operands])) h hH
  · exact effMapPut_loc (hK _ (by simp [Op.operands])) (hK _ (by simp [Op.operands])) (hK _ (by simp [Op.operands])) h hH
  · simp only [opEff, effExtract]; rw [hK _ (by simp [Op.operands])]; exact h
  · simp only [opEff, effRange]; rw [hK _ (by simp [Op.operands])]; exact h
  · rename_i c
    unfold effBuiltin at h
    split at h
    · rename_i b vs hb hvs
      simp only [opEff, effBuiltin, hb]
      rw [kevs_loc (K := K) (K' := K') (fun x hx => hK x (by simp [Op.operands, Call.operands, hb] at hx ⊢; exact hx)), hvs]
      exact builtin_loc h hH
    · cases h
  · cases h

theorem callee_loc {op : Op} (hK : KSame K K' op.operands.toList) : callee K' op = callee K op := by
  unfold callee
  split
  · rename_i f args ats
    rw [hK f (by simp [Op.operands, Call.operands]), kevs_loc (K := K) (K' := K') (fun x hx => hK x (by simp [Op.operands, Call.operands] at hx ⊢; exact .inr hx))]
  · rfl

end
end Go.Am
