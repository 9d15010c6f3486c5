/- Rules for walks that a program prints: whether a frozen slice is nil. Conditions: none. -/
import Derived.Test.YtphmekpaalfliaaGreatX
set_option linter.unusedVariables false
set_option linter.unusedSimpArgs false
namespace Go.Am
open Go Go.Wk Go.RowKit Go.Mx

theorem eq_slice1D {P : Program} {w : World} (d : Nat) {t el : Nat} (hu : P.underlying t = some (.slice el)) (a : Option Addr) (n c : Nat) : (Op.equalIn (d + 1) t (.slice a n c) (.slice none 0 0)).run P w = .ok a.isNone w := by
  cases a <;> simp [Op.equalIn, run_underlying hu]
theorem eq_slice1 {P : Program} {w : World} {t el : Nat} (hu : P.underlying t = some (.slice el)) (a : Option Addr) (n c : Nat) : (Op.equal t (.slice a n c) (.slice none 0 0)).run P w = .ok a.isNone w := eq_slice1D 9999 hu a n c

section
variable {C : Cfg} {N : Nat} {all os : List Oper} {o : Oper} {k : List It} {s : St} {Q : Ex → St → Prop}
/-- A slice that may be read, against nil: if it has no elements, both are possible. -/
theorem GS.nilEq {x y : Operand} {t t2 : Nat} {l : List V} {T : TI} {e es : Nat} (hop : o.op = .binOp .eql t x y t2) (hT : C.ty t = some T) (hk : T.kd = .slice e es) (hw : wants all s.K o.guard = some true) (hx : kev s.K x = some (.sl l)) (hy : kev s.K y = some .nil)
    (h1 : l = [] → GS C N (.ops all os :: k) (s.put o.dst (.b true)) Q) (h2 : GS C N (.ops all os :: k) (s.put o.dst (.b false)) Q) : GS C N (.ops all (o :: os) :: k) s Q := by
  intro hC E I m a w hE hs
  obtain ⟨dst, op, ty, pos, after, g⟩ := o
  simp only at hop
  subst hop
  have hrx := kev_rep hs.slots hx
  have hry := (kev_rep hs.slots hy).lit
  unfold Rep at hrx
  obtain ⟨ad, cap, es', hu, hcap, hrows⟩ := hrx
  have hkd := (hC.ty _ _ hT).kd
  rw [hk] at hkd
  obtain ⟨hu2, _⟩ := hkd
  have hrun : (execOp a.eval ⟨dst, .binOp .eql t x y t2, ty, pos, after, g⟩).run C.P w = .ok (.value (.bool ad.isNone)) w := by
    simp [execOp, hu, hry, eqGuard, binOp, eq_slice1 hu2]
  refine ops_val (wants_sound hs.slots hw) rfl hrun (.inl rfl) ?_
  cases ad with
  | none =>
    have hl : l = [] := by
      cases l with
      | nil => rfl
      | cons z r => obtain ⟨b, o, h, _⟩ := hrows (by simp); cases h
    exact h1 hl hC E I m _ w hE (hs.put Rep.bool)
  | some p => exact h2 hC E I m _ w hE (hs.put Rep.bool)
theorem get_snoc_dead {H : List Blk} {id : Nat} {B : Blk} (h : get (H ++ [.dead]) id = some B) : get H id = some B ∨ (id = H.length ∧ B = .dead) := by
  rw [get_eq] at h ⊢
  rcases Nat.lt_or_ge id H.length with h1 | h1
  · rw [List.getElem?_append_left h1] at h; exact .inl h
  · right
    have := (List.getElem?_eq_some_iff.1 h).1
    simp only [List.length_append, List.length_cons, List.length_nil] at this
    have e : id = H.length := by omega
    subst e
    rw [List.getElem?_append_right (Nat.le_refl _), Nat.sub_self] at h
    simp only [List.getElem?_cons_zero, Option.some.injEq] at h
    exact ⟨rfl, h.symm⟩
theorem live_snoc {H : List Blk} {id : Nat} (h : Live (H ++ [.dead]) id) : Live H id := by
  obtain ⟨B, hB, hl⟩ := h
  rcases get_snoc_dead hB with h | ⟨_, rfl⟩
  · exact ⟨B, h, hl⟩
  · cases hl
theorem SS.pad {E : Env} {s : St} {I : Ij} {m : Mem} {a : Act} {w : World} (h : SS E s I m a w) : SS E { s with H := s.H ++ [.dead] } I m a w := by
  have hlo : s.lo ≤ s.H.length := by rw [h.lo]; exact Nat.le_trans h.lole h.fx.len
  refine h.step ⟨h.sim.sub, fun id B hB hl => ?_, fun id hf => ?_, fun id f hl hf => h.sim.off id f (live_snoc hl) hf, fun i j f g hi hj hf hg => h.sim.inj i j f g (live_snoc hi) (live_snoc hj) hf hg⟩ ⟨Stays.rfl' w, fun _ _ _ => rfl, Ij.Le.rfl' _, fun id f h1 h2 h3 => .inr ⟨id, f, h1, live_snoc h2, h3, rfl⟩, fun id hid => ?_, by simp⟩ (Mem.Le.rfl' _) (fun k o hk => .inl hk)
  · rcases get_snoc_dead hB with hB | ⟨_, rfl⟩
    · exact h.sim.blk id B hB hl
    · cases hl
  · rcases hf with hf | hf
    · refine h.sim.free id (.inl ?_)
      rw [get_none] at hf ⊢
      simp only [List.length_append] at hf
      omega
    · rcases get_snoc_dead hf with hf | ⟨_, e⟩
      · exact h.sim.free id (.inr hf)
      · cases e
  · rw [get_eq, get_eq, List.getElem?_append_left (by omega)]
/-- A number more, of which nothing is known. -/
theorem GS.pad (h : GS C N k { s with H := s.H ++ [.dead] } Q) : GS C N k s Q := fun hC E I m a w hE hs => h hC E I m a w hE hs.pad
end
namespace X
section
variable {C : Cfg} {N : Nat} {all os : List Oper} {k : List It} {K : List (Nat × V)} {H : List Blk} {lo n : Nat} {rnd : Option Nat} {Q : Ex → St → Prop} {d : Nat} {ty : TypeId} {pos : String} {after : Array Edge} {g : Option (Nat × Bool)}
theorem nilEq {xo yo : Operand} {t t2 : Nat} {l : List V} {T : TI} {e es : Nat} (hw : wants all K g = some true) (hT : C.ty t = some T) (hk : T.kd = .slice e es) (hx : kev K xo = some (.sl l)) (hy : kev K yo = some .nil) (hd : Nat.blt d n = true)
    (h1 : l = [] → GS C N (.ops all os :: k) ⟨(d, .b true) :: K, H, lo, rnd, n⟩ Q) (h2 : GS C N (.ops all os :: k) ⟨(d, .b false) :: K, H, lo, rnd, n⟩ Q) : GS C N (.ops all (⟨some d, .binOp .eql t xo yo t2, ty, pos, after, g⟩ :: os) :: k) ⟨K, H, lo, rnd, n⟩ Q :=
  GS.nilEq rfl hT hk hw hx hy (fun h => front rfl hd (h1 h) rfl) (front rfl hd h2 rfl)
end
end X

/-! ### Regions that draw: each order by itself -/

/-- The operations that may come next. -/
def rdyL (all : List Oper) (listed : List Nat) : List Nat := (List.range all.length).filter fun i => !memN i listed && (match get all i with
  | some o => o.after.toList.all fun e => !Region.binds .any e || memN e.on listed
  | none => false)
/-- The orders that may be drawn. -/
def lins (all : List Oper) : Nat → List Nat → List (List Nat)
  | 0, _ => [[]]
  | f + 1, listed => match rdyL all listed with
    | [] => [[]]
    | r => r.flatMap fun i => (lins all f (i :: listed)).map (i :: ·)
def pickL (all : List Oper) : List Nat → List Oper
  | [] => []
  | i :: r => match get all i with
    | some o => o :: pickL all r
    | none => pickL all r

section
variable {all : List Oper}

def Listed (all : List Oper) (listed : Array Bool) (L : List Nat) : Prop := listed.size = all.length ∧ ∀ i, i < all.length → (listed[i]? = some true ↔ memN i L = true)

theorem memN_cons {i j : Nat} {L : List Nat} : memN i (j :: L) = true ↔ j = i ∨ memN i L = true := by
  simp only [memN, Bool.or_eq_true]
  constructor
  · rintro (h | h)
    · exact .inl (Nat.eq_of_beq_eq_true h)
    · exact .inr h
  · rintro (h | h)
    · subst h; exact .inl (by simp)
    · exact .inr h

theorem rdyL_iff {listed : Array Bool} {L : List Nat} (h : Listed all listed L) (hl : ∀ i, memN i L = true → i < all.length) {i : Nat} : i ∈ Region.ready .any all.toArray listed ↔ i ∈ rdyL all L := by
  have key : ∀ i, i < all.length → (listed.getD i true = false ↔ memN i L = false) := by
    intro i hi
    have h1 := h.2 i hi
    have hlt : i < listed.size := by rw [h.1]; exact hi
    rw [getD_false]
    rw [Array.getElem?_eq_getElem hlt] at h1 ⊢
    simp only [Option.some.injEq] at h1 ⊢
    cases hm : memN i L with
    | true => rw [hm] at h1; simp [h1.2 rfl]
    | false =>
      rw [hm] at h1
      cases hx : listed[i] with
      | true => exact absurd (h1.1 hx) (by decide)
      | false => simp
  have key2 : ∀ k, (listed.getD k false = true ↔ memN k L = true) := by
    intro k
    rw [getD_true]
    by_cases hk : k < all.length
    · exact h.2 k hk
    · constructor
      · intro h1
        have := (Array.getElem?_eq_some_iff.1 h1).1
        rw [h.1] at this; omega
      · intro h1; exact absurd (hl k h1) hk
  rw [mem_ready]
  unfold rdyL
  rw [List.mem_filter, List.mem_range, Bool.and_eq_true]
  constructor
  · rintro ⟨h1, h2, o, h3, h4⟩
    refine ⟨h1, by simpa using (key i h1).1 h2, ?_⟩
    rw [get_eq, h3]
    simp only [List.all_eq_true, Bool.or_eq_true]
    intro e he
    cases hb : Region.binds .any e with
    | false => exact .inl rfl
    | true => exact .inr ((key2 e.on).1 (h4 e.on ⟨e, he, hb, rfl⟩))
  · rintro ⟨h1, h2, h3⟩
    refine ⟨h1, (key i h1).2 (by simpa using h2), all[i], List.getElem?_eq_getElem h1, ?_⟩
    rw [get_eq, List.getElem?_eq_getElem h1] at h3
    simp only [List.all_eq_true, Bool.or_eq_true] at h3
    rintro k ⟨e, he, hb, rfl⟩
    rcases h3 e he with h5 | h5
    · rw [hb] at h5; cases h5
    · exact (key2 e.on).2 h5

theorem lins_mem : ∀ (f t : Nat) (listed : Array Bool) (L : List Nat), Listed all listed L → (∀ i, memN i L = true → i < all.length) → Region.linearise.go .any all.toArray f t listed [] ∈ lins all f L := by
  intro f
  induction f with
  | zero => intro t listed L _ _; simp [Region.linearise.go, lins]
  | succ f ih =>
    intro t listed L h hl
    simp only [Region.linearise.go]
    change (match (Region.ready .any all.toArray listed)[t % (Region.ready .any all.toArray listed).length]? with
      | some i => Region.linearise.go .any all.toArray f (t / (Region.ready .any all.toArray listed).length) (listed.setIfInBounds i true) [i]
      | none => [].reverse) ∈ _
    have hiff := fun i => rdyL_iff (i := i) h hl
    cases hi : (Region.ready .any all.toArray listed)[t % (Region.ready .any all.toArray listed).length]? with
    | none =>
      have hnil : Region.ready .any all.toArray listed = [] := by
        cases hr : Region.ready .any all.toArray listed with
        | nil => rfl
        | cons x xs =>
          rw [hr] at hi
          have hlt : t % (x :: xs).length < (x :: xs).length := Nat.mod_lt _ (by simp)
          simp only [List.getElem?_eq_none_iff] at hi
          omega
      have hnil2 : rdyL all L = [] := by
        cases hr : rdyL all L with
        | nil => rfl
        | cons x xs =>
          have := (hiff x).2 (by rw [hr]; simp)
          rw [hnil] at this; cases this
      simp [lins, hnil2]
    | some i =>
      have him := List.mem_of_getElem? hi
      have hr := (hiff i).1 him
      have hlt : i < all.length := (mem_ready.1 him).1
      simp only []
      rw [linearise_go_acc, List.reverse_singleton, List.singleton_append]
      have h2 := ih (t / (Region.ready .any all.toArray listed).length) (listed.setIfInBounds i true) (i :: L) ⟨by simp [h.1], fun j hj => ?_⟩ (fun j hj => ?_)
      · unfold lins
        split
        · rename_i e; rw [e] at hr; cases hr
        · rw [List.mem_flatMap]
          exact ⟨i, hr, List.mem_map.2 ⟨_, h2, rfl⟩⟩
      · rw [memN_cons, Array.getElem?_setIfInBounds]
        by_cases e : i = j
        · subst e; simp [h.1, hlt]
        · rw [if_neg e, h.2 j hj]; simp [e]
      · rcases memN_cons.1 hj with rfl | h3
        · exact hlt
        · exact hl j h3
end

section
variable {F : Fence} {n : Nat} {P : Program} {Q : Exit → Act → World → Prop}
theorem wpOps_pick (all : List Oper) : ∀ l : List Nat, wpOpsIn F n P all.toArray Q l = wpListIn F n P all.toArray Q (pickL all l)
  | [] => by funext a w; simp [wpOpsIn, wpListIn, pickL]
  | i :: r => by
    funext a w
    have ih := wpOps_pick all r
    simp only [wpOpsIn, pickL, get_eq, List.getElem?_toArray]
    cases hi : all[i]? with
    | none => simp only [ih]
    | some o => simp only [ih, wpListIn]
end

theorem GS.drawAll {C : Cfg} {N : Nat} {k : List It} {s : St} {Q : Ex → St → Prop} {id : Nat} {l : List Oper} (h : ∀ p ∈ lins l l.length [], GS C N (.ops l (pickL l p) :: k) s Q) : GS C N (.code (.region id l.toArray true) :: k) s Q := by
  intro hC E I m a w hE hs
  refine wpIn_region_draw fun t => ?_
  simp only [Region.schedule, hC.mixed, Bool.true_or, if_true]
  unfold Region.linearise
  have hm := lins_mem (all := l) l.toArray.size t (Array.replicate l.toArray.size false) [] ⟨by simp, fun i hi => by simp [memN, Array.getElem?_replicate]⟩ (fun i hi => by cases hi)
  rw [wpOps_pick]
  have hs' := hs.room 0
  simp only [addFree, List.append_nil] at hs'
  exact h _ (by simpa using hm) hC E I m a _ hE hs'

namespace X
/-- The orders are these. -/
theorem drawAll {C : Cfg} {N : Nat} {k : List It} {s : St} {Q : Ex → St → Prop} {id : Nat} {l : List Oper} (ps : List (List Nat)) (hp : lins l l.length [] = ps) (h : ∀ p ∈ ps, GS C N (.ops l (pickL l p) :: k) s Q) : GS C N (.code (.region id l.toArray true) :: k) s Q := GS.drawAll (by rw [hp]; exact h)
theorem all_nil {p : List Nat → Prop} : ∀ x ∈ ([] : List (List Nat)), p x := fun x h => by cases h
theorem all_cons {p : List Nat → Prop} {a : List Nat} {l : List (List Nat)} (h : p a) (h2 : ∀ x ∈ l, p x) : ∀ x ∈ a :: l, p x := fun x hx => by
  rcases List.mem_cons.1 hx with rfl | hx
  · exact h
  · exact h2 x hx
end X

/-! ### Arrays of numbers, an element at a time -/

namespace X
section
variable {C : Cfg} {K : List (Nat × V)} {H : List Blk} {lo nid : Nat}
end
end X

/-! ### Arrays are compared -/

namespace X
end X
end Go.Am
