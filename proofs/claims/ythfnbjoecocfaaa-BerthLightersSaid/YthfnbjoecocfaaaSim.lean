/- Abstract blocks over a world: how a simulation lasts. Conditions: none. -/
import Derived.Test.YthfnbjoecocfaaaRep
import Derived.ArgAppend
set_option linter.unusedVariables false
set_option linter.unusedSimpArgs false
namespace Go.Am
open Go Go.Wk

def Blk.live : Blk → Bool
  | .dead => false
  | .free => false
  | _ => true
def Live (H : List Blk) (id : Nat) : Prop := ∃ B, get H id = some B ∧ B.live = true

/-- The outer world is the same, no block is lost, and orders were drawn, perhaps. -/
structure StaysD (w w' : World) : Prop extends Stays w w' where
  drawn : w.drawn ≤ w'.drawn
theorem StaysD.rfl' (w : World) : StaysD w w := ⟨Stays.rfl' w, Nat.le_refl _⟩
theorem StaysD.tr {w w' w'' : World} (h : StaysD w w') (k : StaysD w' w'') : StaysD w w'' := ⟨h.toStays.tr k.toStays, Nat.le_trans h.drawn k.drawn⟩
structure Xt (w w' : World) : Prop extends RowKit.Below w.heap.size w w' where
  drawn : w.drawn ≤ w'.drawn
theorem Xt.rfl' (w : World) : Xt w w := ⟨Ext.rfl' w, Nat.le_refl _⟩
theorem Xt.tr {a b c : World} (h : Xt a b) (k : Xt b c) : Xt a c := ⟨Ext.tr h.toBelow k.toBelow, Nat.le_trans h.drawn k.drawn⟩
theorem Xt.stays {w w' : World} (h : Xt w w') : StaysD w w' := ⟨⟨h.os, h.tape, h.output, h.size⟩, h.drawn⟩
theorem Xt.of_alloc (w : World) (o : Obj) : Xt w (w.alloc o) := ⟨(RowKit.Below.refl _ w).alloc (Nat.le_refl _) o, Nat.le_refl _⟩

theorem ask_drawn {α : Type} : ∀ (x : Ask α) (w : World), w.drawn ≤ (w.ask x).2.drawn
  | .done a, w => Nat.le_refl _
  | .ask what range k, w => by
    unfold World.ask
    simp only
    split
    · exact ask_drawn (k 0) w
    · exact Nat.le_trans (Nat.le_succ _) (ask_drawn (k _) { w with drawn := w.drawn + 1 })
theorem sys_drawn (w : World) (c : Sys) : w.drawn ≤ (w.sys c).2.drawn := by
  have := ask_drawn (Kernel.perform c w.os) w
  unfold World.sys
  split
  · exact Nat.le_refl _
  · rename_i h; rw [h] at this; exact this
theorem view_drawn {p : Program} {w w' : World} {x : Addr} {u : TypeId} {k : Addr} {v : Value} {b : Bool} {l : List Addr} (h : w.viewStore p x u k v b = .ok (w', l)) : w'.drawn = w.drawn := by
  unfold World.viewStore at h
  simp only [bind, Except.bind, pure, Except.pure, throw, throwThe, MonadExceptOf.throw] at h
  repeat' split at h
  all_goals first
    | (cases h; done)
    | (simp only [Except.ok.injEq, Prod.mk.injEq] at h; obtain ⟨rfl, _⟩ := h; rfl)
/-- No run forgets what was drawn. -/
theorem run_drawn {α : Type} {P : Program} : ∀ (s : Sem α) {w w' : World} {x : α}, s.run P w = .ok x w' → w.drawn ≤ w'.drawn := by
  intro s
  induction s with
  | pure a => intro w w' x h; simp only [Sem.run] at h; cases h; exact Nat.le_refl _
  | load m a k ih =>
    intro w w' x h
    simp only [Sem.run] at h
    split at h
    · (have q := ih _ h; exact q)
    · split at h
      · (have q := ih _ h; exact q)
      · cases h
  | store m a v k ih =>
    intro w w' x h
    cases v
    all_goals simp only [Sem.run] at h
    all_goals first
      | (cases h; done)
      | skip
    all_goals split at h
    all_goals first
      | (split at h
         · cases h
         · (have q := ih h; exact q))
      | (split at h
         · rename_i hv
           have q := ih h
           unfold World.farStore at hv
           split at hv
           · split at hv
             · rename_i hvv
               simp only [Except.ok.injEq] at hv
               subst hv
               rw [← view_drawn hvv]; exact q
             · cases hv
           · cases hv
         · cases h)
  | new o k ih => intro w w' x h; simp only [Sem.run] at h; (have q := ih _ h; exact q)
  | shape r k ih => intro w w' x h; simp only [Sem.run] at h; (have q := ih _ h; exact q)
  | freeze a n k ih =>
    intro w w' x h
    simp only [Sem.run] at h
    have q := ih h
    have e : (w.freeze a n).drawn = w.drawn := by unfold World.freeze; first | rfl | (split <;> rfl)
    rw [← e]; exact q
  | frozen a k ih => intro w w' x h; simp only [Sem.run] at h; (have q := ih _ h; exact q)
  | getObj r k ih =>
    intro w w' x h
    simp only [Sem.run] at h
    split at h <;> first | (cases h; done) | (have q := ih _ h; exact q)
  | setObj r o k ih =>
    intro w w' x h
    simp only [Sem.run] at h
    split at h <;> first | (cases h; done) | (have q := ih h; exact q)
  | choose q k ih =>
    intro w w' x h
    simp only [Sem.run] at h
    split at h
    · (have q := ih _ h; exact q)
    · (have q := ih _ h; exact Nat.le_trans (Nat.le_succ _) q)
  | sys c k ih => intro w w' x h; simp only [Sem.run] at h; (have q := ih _ h; exact Nat.le_trans (sys_drawn w c) q)
  | program k ih => intro w w' x h; simp only [Sem.run] at h; (have q := ih _ h; exact q)
  | mark m k ih => intro w w' x h; simp only [Sem.run] at h; (have q := ih h; exact q)
  | halt h0 => intro w w' x h; simp only [Sem.run] at h; cases h

/-- The cells of a row from a place on are those of a value. -/
def CellsAt (c : Array Value) (p es : Nat) (u : Value) : Prop := u.cells.size = es ∧ (∀ j x, u.cells[j]? = some x → x.oneCell' = true ∧ c[p + j]? = some x)

def RowsIn (m : Mem) (I : Ij) (c : Array Value) (o es : Nat) (l : List V) : Prop := ∀ (i : Nat) v, l[i]? = some v → ∃ u, Rep m v I u ∧ CellsAt c (o + i * es) es u

def Slots (m : Mem) (I : Ij) (K : List (Nat × V)) (tmps : Array Value) : Prop := ∀ t v, kget K t = some v → ∃ u, tmps[t]? = some u ∧ Rep m v I u

def MapIn (m : Mem) (I : Ij) (ks vs : List V) (es : List MapEntry) (cl : Nat) : Prop := ∃ es', es.Perm es' ∧ (es'.map (·.key)).Nodup ∧ RepL m ks I (es'.map (·.key)) ∧ RepL m vs I (es'.map (·.val)) ∧ Uni (es'.map (·.key)) ∧ Born es cl

def BlkOK (I : Ij) (m : Mem) (w : World) (f : Inf) : Blk → Prop
  | .dead => True
  | .free => True
  | .rows es l => f.es = es ∧ ∃ c ty, w.heap[f.b]? = some (.cells c ty (0, 0)) ∧ f.o + f.cap * es ≤ c.size ∧ l.length ≤ f.cap ∧ f.cap ≤ maxLen ∧ 0 < es ∧ RowsIn m I c f.o es l
  | .map ks vs => ∃ es cl, w.heap[f.b]? = some (.map es.toArray cl) ∧ MapIn m I ks vs es cl
  | .iter ks vs left last => f.o = 0 ∧ f.es = 0 ∧ ∃ (bm : Nat) (es es' : List MapEntry) (cl : Nat) (seen : Array Nat), w.heap[f.b]? = some (.mapIter (some bm) cl seen cl) ∧ m bm = some (.map es.toArray cl) ∧ es.Perm es' ∧ RepL m ks Ij.none (es'.map (·.key)) ∧ RepL m vs Ij.none (es'.map (·.val)) ∧ Born es cl ∧ (∀ (i : Nat) e, es'[i]? = some e → (i ∈ left ↔ e.born ∉ seen)) ∧ (∀ i, i ∈ left → i < es'.length) ∧ ∀ j, last = some j → ∃ e, es'[j]? = some e ∧ seen.back? = some e.born
  | .loop r => ∃ L : Loop, w.heap[f.b]? = some (.loop L) ∧ L.state = r.st ∧ L.pending = r.pend ∧ Slots m I r.K L.tmps ∧ L.tmps.size = r.n ∧ L.params.toList = r.ps ∧ L.assign = r.assign ∧ L.body = r.body

theorem RowsIn.mono {m m' : Mem} {I J : Ij} {c : Array Value} {o es : Nat} {l : List V} (hm : m.Le m') (hI : I.Le J) (h : RowsIn m I c o es l) : RowsIn m' J c o es l :=
  fun i v hv => let ⟨u, h1, h2⟩ := h i v hv; ⟨u, Rep.mono hm v hI h1, h2⟩
theorem Slots.mono {m m' : Mem} {I J : Ij} {K : List (Nat × V)} {tmps : Array Value} (hm : m.Le m') (hI : I.Le J) (h : Slots m I K tmps) : Slots m' J K tmps :=
  fun t v hv => let ⟨u, h1, h2⟩ := h t v hv; ⟨u, h1, Rep.mono hm v hI h2⟩
theorem MapIn.mono {m m' : Mem} {I J : Ij} {ks vs : List V} {es : List MapEntry} {cl : Nat} (hm : m.Le m') (hI : I.Le J) (h : MapIn m I ks vs es cl) : MapIn m' J ks vs es cl :=
  let ⟨es', h1, h2, h3, h4, h5⟩ := h; ⟨es', h1, h2, RepL.mono hm ks hI h3, RepL.mono hm vs hI h4, h5⟩

theorem BlkOK.mono {m m' : Mem} {I J : Ij} {w w' : World} {f : Inf} {B : Blk} (hm : m.Le m') (hI : I.Le J) (hw : w'.heap[f.b]? = w.heap[f.b]?) (h : BlkOK I m w f B) : BlkOK J m' w' f B := by
  cases B with
  | dead => trivial
  | free => trivial
  | rows es l => obtain ⟨h0, c, ty, h1, h2, h3, h4, h5, h6⟩ := h; exact ⟨h0, c, ty, by rw [hw]; exact h1, h2, h3, h4, h5, h6.mono hm hI⟩
  | map ks vs => obtain ⟨es, cl, h1, h2⟩ := h; exact ⟨es, cl, by rw [hw]; exact h1, h2.mono hm hI⟩
  | loop r => obtain ⟨L, h1, h2, h3, h4, h5⟩ := h; exact ⟨L, by rw [hw]; exact h1, h2, h3, h4.mono hm hI, h5⟩
  | iter ks vs left last => obtain ⟨g1, g2, bm, es, es', cl, seen, h1, h2, h3, h4, h5, h6, h7⟩ := h; exact ⟨g1, g2, bm, es, es', cl, seen, by rw [hw]; exact h1, hm _ _ h2, h3, RepL.mono hm ks (Ij.Le.rfl' _) h4, RepL.mono hm vs (Ij.Le.rfl' _) h5, h6, h7⟩

theorem BlkOK.lt {I : Ij} {m : Mem} {w : World} {f : Inf} {B : Blk} (hl : B.live = true) (h : BlkOK I m w f B) : f.b < w.heap.size := by
  cases B with
  | dead => cases hl
  | free => cases hl
  | rows es l => obtain ⟨_, c, ty, h1, _⟩ := h; exact (Array.getElem?_eq_some_iff.1 h1).1
  | map ks vs => obtain ⟨es, cl, h1, _⟩ := h; exact (Array.getElem?_eq_some_iff.1 h1).1
  | loop r => obtain ⟨L, h1, _⟩ := h; exact (Array.getElem?_eq_some_iff.1 h1).1
  | iter ks vs left last => obtain ⟨_, _, _, _, _, _, _, h1, _⟩ := h; exact (Array.getElem?_eq_some_iff.1 h1).1

structure Sim (I : Ij) (m : Mem) (H : List Blk) (w : World) : Prop where
  sub : m.Le (wmem w)
  blk : ∀ id B, get H id = some B → B.live = true → ∃ f, I id = some f ∧ BlkOK I m w f B
  free : ∀ id, (get H id = none ∨ get H id = some .free) → I id = none
  off : ∀ id f, Live H id → I id = some f → m f.b = none
  inj : ∀ i j f g, Live H i → Live H j → I i = some f → I j = some g → f.b = g.b → i = j

theorem get_none {α : Type} {l : List α} {n : Nat} : get l n = none ↔ l.length ≤ n := by rw [get_eq]; simp
theorem get_lt {α : Type} {l : List α} {n : Nat} {x : α} (h : get l n = some x) : n < l.length := by rw [get_eq] at h; exact (List.getElem?_eq_some_iff.1 h).1

theorem Sim.nil (m : Mem) (w : World) (h : m.Le (wmem w)) : Sim Ij.none m [] w :=
  ⟨h, fun id B hB => by simp [get] at hB, fun _ _ => rfl, fun id f ⟨B, hB, _⟩ => by simp [get] at hB, fun i j f g ⟨B, hB, _⟩ => by simp [get] at hB⟩

section
variable {I J : Ij} {m m' : Mem} {H : List Blk} {w w' : World}

theorem Sim.get (h : Sim I m H w) {id : Nat} {B : Blk} (hB : get H id = some B) (hl : B.live = true) : ∃ f, I id = some f ∧ BlkOK I m w f B := h.blk id B hB hl

/-- Another world, more frozen memory: nothing that counts has turned. -/
theorem Sim.world (h : Sim I m H w) (hm : m.Le m') (hm' : m'.Le (wmem w')) (hl : ∀ id f, Live H id → I id = some f → w'.heap[f.b]? = w.heap[f.b]? ∧ m' f.b = none) : Sim I m' H w' where
  sub := hm'
  blk := fun id B hB hlv => by
    obtain ⟨f, h1, h2⟩ := h.blk id B hB hlv
    exact ⟨f, h1, h2.mono hm (Ij.Le.rfl' _) (hl id f ⟨B, hB, hlv⟩ h1).1⟩
  free := h.free
  off := fun id f hlv hf => (hl id f hlv hf).2
  inj := h.inj

theorem Sim.ext (h : Sim I m H w) (he : Xt w w') : Sim I m H w' := by
  refine h.world (fun _ _ h => h) (fun k o hk => ?_) (fun id f hlv hf => ⟨?_, h.off id f hlv hf⟩)
  · have := h.sub k o hk
    show w'.heap[k]? = some o
    rw [he.block k (Array.getElem?_eq_some_iff.1 this).1]; exact this
  · obtain ⟨B, hB, hl⟩ := hlv
    obtain ⟨g, h1, h2⟩ := h.blk id B hB hl
    rw [hf] at h1
    cases h1
    exact he.block _ (h2.lt hl)

theorem live_hput {id : Nat} {B : Blk} {j : Nat} (hle : id ≤ H.length) (h : Live (hput H id B) j) : (j = id ∧ B.live = true) ∨ (j ≠ id ∧ Live H j) := by
  obtain ⟨B', h1, h2⟩ := h
  rw [get_hput H id j B hle] at h1
  by_cases he : id = j
  · rw [if_pos he, Option.some.injEq] at h1
    subst h1
    exact .inl ⟨he.symm, h2⟩
  · rw [if_neg he] at h1
    exact .inr ⟨fun e => he e.symm, B', h1, h2⟩

/-- A block is out of sight. -/
theorem Sim.kill (h : Sim I m H w) {id : Nat} (hid : id < H.length) : Sim I m (hput H id .dead) w where
  sub := h.sub
  blk := fun j B hB hl => by
    rw [get_hput H id j _ (Nat.le_of_lt hid)] at hB
    by_cases he : id = j
    · rw [if_pos he, Option.some.injEq] at hB; subst hB; cases hl
    · rw [if_neg he] at hB; exact h.blk j B hB hl
  free := fun j hj => by
    rw [get_hput H id j _ (Nat.le_of_lt hid)] at hj
    by_cases he : id = j
    · rw [if_pos he] at hj; rcases hj with hj | hj <;> cases hj
    · rw [if_neg he] at hj; exact h.free j hj
  off := fun j f hj hf => by
    rcases live_hput (Nat.le_of_lt hid) hj with ⟨_, h1⟩ | ⟨_, h1⟩
    · cases h1
    · exact h.off j f h1 hf
  inj := fun i j f g hi hj hf hg => by
    rcases live_hput (Nat.le_of_lt hid) hi with ⟨_, h1⟩ | ⟨_, h1⟩
    · cases h1
    · rcases live_hput (Nat.le_of_lt hid) hj with ⟨_, h2⟩ | ⟨_, h2⟩
      · cases h2
      · exact h.inj i j f g h1 h2 hf hg

def Ij.put (I : Ij) (id : Nat) (f : Inf) : Ij := fun k => if k = id then some f else I k
theorem Ij.le_put {id : Nat} {f : Inf} (h : I id = .none) : I.Le (I.put id f) := fun k g hk => by
  unfold Ij.put
  rw [if_neg (by rintro rfl; rw [h] at hk; cases hk)]; exact hk
theorem Ij.put_self {id : Nat} {f : Inf} : (I.put id f) id = some f := by simp [Ij.put]

/-- A number gets its place. -/
theorem Sim.map (h : Sim I m H w) {id : Nat} (f : Inf) (hid : id ≤ H.length) (hI : I id = .none) : Sim (I.put id f) m (hput H id .dead) w where
  sub := h.sub
  blk := fun j B hB hl => by
    rw [get_hput H id j _ hid] at hB
    by_cases he : id = j
    · rw [if_pos he, Option.some.injEq] at hB; subst hB; cases hl
    · rw [if_neg he] at hB
      obtain ⟨g, h1, h2⟩ := h.blk j B hB hl
      exact ⟨g, Ij.le_put hI _ _ h1, h2.mono (fun _ _ h => h) (Ij.le_put hI) rfl⟩
  free := fun j hj => by
    rw [get_hput H id j _ hid] at hj
    by_cases he : id = j
    · rw [if_pos he] at hj; rcases hj with hj | hj <;> cases hj
    · rw [if_neg he] at hj
      unfold Ij.put
      rw [if_neg (fun e => he e.symm)]; exact h.free j hj
  off := fun j g hj hg => by
    rcases live_hput hid hj with ⟨_, h1⟩ | ⟨hne, h1⟩
    · cases h1
    · unfold Ij.put at hg; rw [if_neg hne] at hg; exact h.off j g h1 hg
  inj := fun i j g g' hi hj hg hg' => by
    rcases live_hput hid hi with ⟨_, h1⟩ | ⟨hn1, h1⟩
    · cases h1
    · rcases live_hput hid hj with ⟨_, h2⟩ | ⟨hn2, h2⟩
      · cases h2
      · unfold Ij.put at hg hg'; rw [if_neg hn1] at hg; rw [if_neg hn2] at hg'; exact h.inj i j g g' h1 h2 hg hg'

/-- A block with a place gets its content. -/
theorem Sim.set (h : Sim I m H w) {id : Nat} {f : Inf} {B : Blk} (hid : id < H.length) (hI : I id = some f) (hB : BlkOK I m w f B) (hnf : B ≠ .free) (hoff : m f.b = none) (hne : ∀ j g, j ≠ id → Live H j → I j = some g → g.b ≠ f.b) : Sim I m (hput H id B) w where
  sub := h.sub
  blk := fun j B' hB' hl => by
    rw [get_hput H id j _ (Nat.le_of_lt hid)] at hB'
    by_cases he : id = j
    · rw [if_pos he, Option.some.injEq] at hB'; subst hB'; subst he; exact ⟨f, hI, hB⟩
    · rw [if_neg he] at hB'; exact h.blk j B' hB' hl
  free := fun j hj => by
    rw [get_hput H id j _ (Nat.le_of_lt hid)] at hj
    by_cases he : id = j
    · rw [if_pos he] at hj
      rcases hj with hj | hj
      · cases hj
      · rw [Option.some.injEq] at hj; exact absurd hj hnf
    · rw [if_neg he] at hj; exact h.free j hj
  off := fun j g hj hg => by
    rcases live_hput (Nat.le_of_lt hid) hj with ⟨h0, h1⟩ | ⟨hn, h1⟩
    · subst h0; rw [hI] at hg; cases hg; exact hoff
    · exact h.off j g h1 hg
  inj := fun i j g g' hi hj hg hg' he => by
    rcases live_hput (Nat.le_of_lt hid) hi with ⟨h0, h1⟩ | ⟨hn, h1⟩
    · subst h0
      rw [hI] at hg
      cases hg
      rcases live_hput (Nat.le_of_lt hid) hj with ⟨h2, _⟩ | ⟨hn2, h2⟩
      · exact h2.symm
      · exact absurd he.symm (hne j g' hn2 h2 hg')
    · rcases live_hput (Nat.le_of_lt hid) hj with ⟨h2, _⟩ | ⟨hn2, h2⟩
      · subst h2
        rw [hI] at hg'
        cases hg'
        exact absurd he (hne i g hn h1 hg)
      · exact h.inj i j g g' h1 h2 hg hg' he

theorem hput_hput (H : List Blk) : ∀ (id : Nat) (A B : Blk), id ≤ H.length → hput (hput H id A) id B = hput H id B := by
  induction H with
  | nil => intro id A B h; have : id = 0 := by simpa using h
           subst this; rfl
  | cons x r ih =>
    intro id A B h
    cases id with
    | zero => rfl
    | succ id => simp only [hput]; rw [ih id A B (by simpa using h)]

/-- The same numbers, fewer blocks in sight, and no new ones. -/
def Sub (H' H : List Blk) : Prop := ∀ id B, get H' id = some B → B.live = true → get H id = some B

/-- What an operation (or a call) may turn: its own blocks, from number lo on. -/
structure Fx (I : Ij) (H : List Blk) (lo : Nat) (w : World) (I' : Ij) (H' : List Blk) (w' : World) : Prop where
  st : StaysD w w'
  same : ∀ k, k < w.heap.size → (∀ id f, lo ≤ id → Live H id → I id = some f → f.b ≠ k) → w'.heap[k]? = w.heap[k]?
  ij : I.Le I'
  own : ∀ id f, lo ≤ id → Live H' id → I' id = some f → w.heap.size ≤ f.b ∨ ∃ i0 f0, lo ≤ i0 ∧ Live H i0 ∧ I i0 = some f0 ∧ f0.b = f.b
  low : ∀ id, id < lo → get H' id = get H id
  len : H.length ≤ H'.length

theorem Fx.rfl' (I : Ij) (H : List Blk) (lo : Nat) (w : World) : Fx I H lo w I H w :=
  ⟨StaysD.rfl' w, fun _ _ _ => rfl, Ij.Le.rfl' _, fun id f h1 h2 h3 => .inr ⟨id, f, h1, h2, h3, rfl⟩, fun _ _ => rfl, Nat.le_refl _⟩

theorem Fx.tr {I1 I2 I3 : Ij} {H1 H2 H3 : List Blk} {lo : Nat} {w1 w2 w3 : World} (h : Fx I1 H1 lo w1 I2 H2 w2) (k : Fx I2 H2 lo w2 I3 H3 w3) : Fx I1 H1 lo w1 I3 H3 w3 where
  st := h.st.tr k.st
  same := fun x hx hn => by
    rw [k.same x (Nat.lt_of_lt_of_le hx h.st.size) fun id f h1 h2 h3 he => ?_]
    · exact h.same x hx hn
    · rcases h.own id f h1 h2 h3 with h4 | ⟨i0, f0, h4, h5, h6, h7⟩
      · omega
      · exact hn i0 f0 h4 h5 h6 (h7.trans he)
  ij := h.ij.tr k.ij
  own := fun id f h1 h2 h3 => by
    rcases k.own id f h1 h2 h3 with h4 | ⟨i0, f0, h4, h5, h6, h7⟩
    · exact .inl (Nat.le_trans h.st.size h4)
    · rcases h.own i0 f0 h4 h5 h6 with h8 | ⟨i1, f1, h8, h9, h10, h11⟩
      · exact .inl (h7 ▸ h8)
      · exact .inr ⟨i1, f1, h8, h9, h10, h11.trans h7⟩
  low := fun id hid => (k.low id hid).trans (h.low id hid)
  len := Nat.le_trans h.len k.len

end
end Go.Am
