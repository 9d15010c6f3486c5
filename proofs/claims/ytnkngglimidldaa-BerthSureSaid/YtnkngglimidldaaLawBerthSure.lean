/- BerthSure: the plain law. Conditions: none. -/
import Derived.Test.YtnkngglimidldaaLawYk
import Derived.Test.YtnkngglimidldaaLawYj
import Derived.Test.YtnkngglimidldaaLawBerthSan
set_option linter.unusedVariables false
set_option linter.unusedSimpArgs false
namespace Go.Mx

/-- All but one. -/
def Less {α : Type} (l : List α) (i : Nat) : List α := l.take i ++ l.drop (i + 1)
def up (i r : Nat) : Nat := if r < i then r else r + 1
theorem less_len {α : Type} {l : List α} {i : Nat} (h : i < l.length) : (Less l i).length = l.length - 1 := by unfold Less; simp; omega
theorem less_get {α : Type} {l : List α} {i r : Nat} (h : i < l.length) (hr : r < (Less l i).length) : ∃ h2 : up i r < l.length, (Less l i)[r] = l[up i r] := by
 have hl := less_len h
 have h2 : up i r < l.length := by unfold up; split <;> omega
 refine ⟨h2, ?_⟩
 have e : (Less l i)[r]? = l[up i r]? := by
  unfold Less up
  by_cases e : r < i
  ·rw [if_pos e, List.getElem?_append_left (by simp; omega), List.getElem?_take_of_lt e]
  ·rw [if_neg e, List.getElem?_append_right (by simp; omega), List.getElem?_drop, List.length_take]
   congr 1; omega
 rw [List.getElem?_eq_getElem hr, List.getElem?_eq_getElem h2] at e
 exact Option.some.inj e
theorem less_map {α β : Type} (f : α → β) (l : List α) (i : Nat) : Less (l.map f) i = (Less l i).map f := by unfold Less; rw [List.map_append, List.map_take, List.map_drop]
def lessTo {α : Type} (l : List α) (i j : Nat) : List α := if j ≤ i then l.take j else l.take i ++ (l.drop (i + 1)).take (j - (i + 1))
theorem lessTo_succ {α : Type} {l : List α} {i j : Nat} (hj : j < l.length) : lessTo l i (j + 1) = if j = i then lessTo l i j else lessTo l i j ++ [l[j]] := by
 unfold lessTo
 rcases Nat.lt_trichotomy j i with e | e | e
 ·rw [if_pos (by omega), if_neg (by omega), if_pos (by omega), List.take_succ_eq_append_getElem hj]
 ·subst e
  rw [if_neg (by omega), if_pos rfl, if_pos (Nat.le_refl _)]; simp
 ·rw [if_neg (by omega), if_neg (by omega), if_neg (by omega), List.append_assoc, show j + 1 - (i + 1) = (j - (i + 1)) + 1 by omega, List.take_succ_eq_append_getElem (by simp; omega)]
  congr 3
  rw [List.getElem_drop]
  congr 2; omega
theorem lessTo_all {α : Type} {l : List α} {i : Nat} (hi : i < l.length) : lessTo l i l.length = Less l i := by
 unfold lessTo Less
 rw [if_neg (by omega)]
 congr 1
 exact List.take_of_length_le (by simp)
theorem lessTo_len {α : Type} (l : List α) (i j : Nat) : (lessTo l i j).length ≤ j := by unfold lessTo; split <;> simp <;> omega
theorem callS_ok : ∀ (l pre : List api_Call), (∀ c ∈ l, rightB c = true) → (pre ++ l).Pairwise (fun a b => a.ID ≠ b.ID) → callS pre l = 0
 | [], pre, _, _ => rfl
 | c :: r, pre, h, hd => by
  unfold callS
  rw [if_pos (h c List.mem_cons_self), if_neg ?_]
  ·exact callS_ok r (pre ++ [c]) (fun x hx => h x (List.mem_cons_of_mem _ hx)) (by simpa using hd)
  ·intro q
   rw [List.any_eq_true] at q
   obtain ⟨x, hx, e⟩ := q
   exact (List.pairwise_append.1 hd).2.2 x hx c List.mem_cons_self (by simpa using e)
theorem less_check {h : api_Harbour} {l : List api_Call} (hg : GoodL h l) (e : checkHS h = 0) (i : Nat) : checkCS h (Less l i) = 0 := by
 have hn := hg.n
 have hs : (Less l i).Sublist l := by
  unfold Less
  have := (List.Sublist.refl (l.take i)).append (List.drop_sublist_drop_left l (show i ≤ i + 1 by omega))
  rwa [List.take_append_drop] at this
 unfold checkCS
 rw [if_pos e, if_neg (by have := hs.length_le; omega)]
 exact callS_ok _ _ (fun c hc => hg.r c (hs.subset hc)) (by simpa using hg.d.sublist hs)
theorem less_can {h : api_Harbour} {l : List api_Call} {i r k : Nat} (hi : i < l.length) (hr : r < l.length - 1) : canB (laidS h (Less l i)) r k = canB (laidS h l) (up i r) k := by
 have hl := less_len hi
 obtain ⟨h2, h3⟩ := less_get hi (r := r) (by omega)
 unfold canB
 rw [laid_can (by omega), laid_can h2, h3]; rfl
theorem up_inj {i r q : Nat} (h : up i r = up i q) : r = q := by unfold up at h; split at h <;> split at h <;> omega
theorem less_le {h : api_Harbour} {l : List api_Call} {i m m' : Nat} (hi : i < l.length) (h1 : MaxM (laidS h l) m) (h2 : MaxM (laidS h (Less l i)) m') : m' ≤ m := by
 obtain ⟨μ, a1, a2⟩ := h2.e
 have hl := less_len hi
 let ν : Nat → Option Nat := fun r => if r = i then none else μ (if r < i then r else r - 1)
 have hup : ∀ r, ν (up i r) = μ r := fun r => by
  show (if up i r = i then none else μ (if up i r < i then up i r else up i r - 1)) = μ r
  unfold up
  by_cases e : r < i
  ·rw [if_pos e, if_neg (by omega), if_pos e]
  ·rw [if_neg e, if_neg (by omega), if_neg (by omega)]; rfl
 have hall : ∀ r k, ν r = some k → ∃ q, r = up i q ∧ μ q = some k := fun r k e => by
  have e' : (if r = i then none else μ (if r < i then r else r - 1)) = some k := e
  by_cases c : r = i
  ·rw [if_pos c] at e'; cases e'
  ·rw [if_neg c] at e'
   refine ⟨_, ?_, e'⟩
   unfold up
   by_cases d : r < i
   ·rw [if_pos d, if_pos d]
   ·rw [if_neg d, if_neg (by omega)]; omega
 have hM : Mat (laidS h l) ν := by
  refine ⟨fun r k e => ?_, fun r q k e1 e2 => ?_⟩
  ·obtain ⟨q, rfl, e2⟩ := hall r k e
   obtain ⟨c1, c2, c3⟩ := a1.c q k e2
   have c1' : q < (Less l i).length := c1
   refine ⟨show up i q < l.length from (less_get hi c1').1, c2, ?_⟩
   rw [← less_can hi (by omega)]; exact c3
  ·obtain ⟨a, rfl, e3⟩ := hall r k e1
   obtain ⟨c, rfl, e4⟩ := hall q k e2
   rw [a1.i a c k e3 e4]
 have h3 := h1.m ν hM
 have h4 := sub_len (l := (dom (laidS h (Less l i)) μ).map (up i)) (r := dom (laidS h l) ν) ?_ ?_
 ·rw [List.length_map] at h4; omega
 ·rw [List.nodup_iff_pairwise_ne, List.pairwise_map]
  exact (List.nodup_iff_pairwise_ne.1 (dom_nodup _ _)).imp fun hab e => hab (up_inj e)
 ·intro x hx
  rw [List.mem_map] at hx
  obtain ⟨r, hr, rfl⟩ := hx
  rw [mem_dom] at hr ⊢
  have c1' : r < (Less l i).length := hr.1
  exact ⟨(less_get hi c1').1, by rw [hup]; exact hr.2⟩
theorem less_from {h : api_Harbour} {l : List api_Call} {i m' : Nat} (hi : i < l.length) (h2 : MaxM (laidS h (Less l i)) m') {μ : Nat → Option Nat} (hμ : Mat (laidS h l) μ) : (dom (laidS h l) μ).length ≤ m' + 1 ∧ (μ i = none → (dom (laidS h l) μ).length ≤ m') := by
 have hl := less_len hi
 have hM : Mat (laidS h (Less l i)) (fun r => μ (up i r)) := by
  refine ⟨fun r k e => ?_, fun r q k e1 e2 => up_inj (hμ.i _ _ k e1 e2)⟩
  obtain ⟨c1, c2, c3⟩ := hμ.c _ k e
  have c1' : up i r < l.length := c1
  have hr : r < l.length - 1 := by unfold up at c1'; split at c1' <;> omega
  exact ⟨show r < (Less l i).length by omega, c2, by rw [less_can hi hr]; exact c3⟩
 have h3 := h2.m _ hM
 have hsub : ∀ r ∈ dom (laidS h l) μ, r ≠ i → r ∈ (dom (laidS h (Less l i)) (fun r => μ (up i r))).map (up i) := fun r hr hri => by
  rw [mem_dom] at hr
  have hr1 : r < l.length := hr.1
  have eu : up i (if r < i then r else r - 1) = r := by
   unfold up
   by_cases c : r < i
   ·rw [if_pos c, if_pos c]
   ·rw [if_neg c, if_neg (by omega)]; omega
  rw [List.mem_map]
  refine ⟨if r < i then r else r - 1, ?_, eu⟩
  rw [mem_dom]
  have hlt : (if r < i then r else r - 1) < (Less l i).length := by split <;> omega
  exact ⟨hlt, by rw [eu]; exact hr.2⟩
 constructor
 ·have := sub_len (l := dom (laidS h l) μ) (r := i :: (dom (laidS h (Less l i)) (fun r => μ (up i r))).map (up i)) (dom_nodup _ _) fun r hr => by
   by_cases e : r = i
   ·rw [e]; exact List.mem_cons_self
   ·exact List.mem_cons_of_mem _ (hsub r hr e)
  simp only [List.length_cons, List.length_map] at this; omega
 ·intro e0
  have := sub_len (l := dom (laidS h l) μ) (r := (dom (laidS h (Less l i)) (fun r => μ (up i r))).map (up i)) (dom_nodup _ _) fun r hr => hsub r hr fun e => by
   rw [e, mem_dom, e0] at hr; cases hr.2
  simp only [List.length_map] at this; omega
/-- Without her fewer can be berthed. -/
def SureB (h : api_Harbour) (l : List api_Call) (i : Nat) : Prop := ∀ m m', MaxM (laidS h l) m → MaxM (laidS h (Less l i)) m' → m' < m
theorem Sure_eq {h : api_Harbour} {l : List api_Call} (hh : LenH h) (hl : Len l) (ec : checkCS h l = 0) : ∃ L, berth_Sure h l = some (L, 0) ∧ L.length ≤ l.length ∧ ∀ id, id ∈ L ↔ ∃ (i : Nat) (hi : i < l.length), l[i].ID = id ∧ SureB h l i := by
 have hg := GoodL.of hh ec
 have hn := hg.n
 have eh : checkHS h = 0 := by
  unfold checkCS at ec
  split at ec
  ·assumption
  ·contradiction
 obtain ⟨m, _, m1, m2, _⟩ := Most_eq hh hl ec
 unfold berth_Sure
 rw [CheckCalls_eq h hh l hl, Option.bind_some, if_neg (by simp [ec]), laid_eq hg.h hg.n (fun c hc => GoodC.of (hg.r c hc)), Option.bind_some, m2, Option.bind_some]
 obtain ⟨⟨x, L⟩, ⟨rfl, q1, q2⟩, q3⟩ := lp_exit (body := berth_Sure_b2 l (laidS h l) (m : Int)) (X := fun s => berth_Sure_j1 s.2) (s0 := (0, []))
  (fun j s => s.1 = (j : Int) ∧ s.2.length ≤ j ∧ ∀ id, id ∈ s.2 ↔ ∃ (i : Nat) (hi : i < l.length), i < j ∧ l[i].ID = id ∧ SureB h l i) l.length (by omega) ⟨rfl, Nat.le_refl _, fun id => ⟨fun q => (by cases q), fun ⟨i, hi, q, _⟩ => by omega⟩⟩
  (fun j s hj hI => by
   obtain ⟨x, L⟩ := s
   simp only at hI
   obtain ⟨rfl, h1, h2⟩ := hI
   unfold berth_Sure_b2
   simp only
   rw [if_pos (by simpa using hj), ix_lt hj, Option.bind_some]
   obtain ⟨⟨x, a, b, c⟩, ⟨rfl, r1, r2, r3⟩, r4⟩ := lp_exit (body := berth_Sure_b5 l (laidS h l) (m : Int) (j : Int) L l[j]) (X := fun s => berth_Sure_j4 (laidS h l) (m : Int) (j : Int) L l[j] s.2.1 s.2.2.1 s.2.2.2) (s0 := (0, [], [], []))
    (fun q s => s.1 = (q : Int) ∧ s.2.1 = lessTo l j q ∧ s.2.2.1 = (lessTo l j q).map (fun c => takenS h c 0 h.Tides) ∧ s.2.2.2 = (lessTo l j q).map (fun _ => -1)) l.length (by omega) ⟨rfl, by simp [lessTo], by simp [lessTo], by simp [lessTo]⟩
    (fun q s hq hI => by
     obtain ⟨x, a, b, c⟩ := s
     simp only at hI
     obtain ⟨rfl, rfl, rfl, rfl⟩ := hI
     have hj6 : ∀ a b c, berth_Sure_j6 (q : Int) a b c = some (.inl (((q + 1 : Nat) : Int), a, b, c)) := fun a b c => by unfold berth_Sure_j6; rw [w64s' hq hl]
     have ll := lessTo_len l j q
     unfold berth_Sure_b5
     simp only
     rw [if_pos (by simpa using hq)]
     by_cases e : q = j
     ·rw [if_neg (by simp [e]), hj6]
      exact ⟨_, rfl, rfl, by simp only; rw [lessTo_succ hq, if_pos e], by simp only; rw [lessTo_succ hq, if_pos e], by simp only; rw [lessTo_succ hq, if_pos e]⟩
     ·rw [if_pos (by simp; omega), ix_lt hq, Option.bind_some, app_ok (by simp only [List.length_cons, List.length_nil]; omega), Option.bind_some, ix_getD (d := []) (by simpa [laidS] using hq), laid_can hq, Option.bind_some, app_ok (by simp only [List.length_cons, List.length_nil, List.length_map]; omega), Option.bind_some, app_ok (by simp only [List.length_cons, List.length_nil, List.length_map]; omega), Option.bind_some, hj6]
      refine ⟨_, rfl, rfl, ?_, ?_, ?_⟩ <;> simp only <;> rw [lessTo_succ hq, if_neg e] <;> simp)
    (fun s hI => by
     obtain ⟨x, a, b, c⟩ := s
     simp only at hI
     obtain ⟨rfl, _⟩ := hI
     unfold berth_Sure_b5
     simp only
     rw [if_neg (by simp)])
   simp only at r1 r2 r3 r4
   rw [lessTo_all hj] at r1 r2 r3
   rw [r4, r1, r2, r3]
   have hlk : Len (Less l j) := by unfold Len; rw [less_len hj]; omega
   obtain ⟨m', _, n1, n2, _⟩ := Most_eq hh hlk (less_check hg eh j)
   have eb : (⟨Less l j, (laidS h l).slots, (Less l j).map (fun c => takenS h c 0 h.Tides), (Less l j).map (fun _ => -1)⟩ : berth_board) = laidS h (Less l j) := rfl
   have hj3 : ∀ z, berth_Sure_j3 (j : Int) z = some (.inl (((j + 1 : Nat) : Int), z)) := fun z => by unfold berth_Sure_j3; rw [w64s' hj hl]
   unfold berth_Sure_j4
   rw [eb, n2, Option.bind_some]
   have hsure : SureB h l j ↔ m' < m := ⟨fun q => q m m' m1 n1, fun q a b ha hb => by rw [← m1.uniq ha, ← n1.uniq hb]; exact q⟩
   by_cases e : m' < m
   ·rw [if_pos (by simpa using e), app_ok (by simp only [List.length_cons, List.length_nil]; omega), Option.bind_some, hj3]
    refine ⟨_, rfl, rfl, by simp only [List.length_append, List.length_cons, List.length_nil]; omega, fun id => ?_⟩
    simp only
    rw [List.mem_append, List.mem_singleton, h2 id]
    constructor
    ·rintro (⟨i, hi, a, b⟩ | rfl)
     ·exact ⟨i, hi, by omega, b⟩
     ·exact ⟨j, hj, by omega, rfl, hsure.2 e⟩
    ·rintro ⟨i, hi, a, b, c⟩
     by_cases w : i = j
     ·subst w; exact .inr b.symm
     ·exact .inl ⟨i, hi, by omega, b, c⟩
   ·rw [if_neg (by simpa using e), hj3]
    refine ⟨_, rfl, rfl, by simp only; omega, fun id => ?_⟩
    simp only
    rw [h2 id]
    constructor
    ·rintro ⟨i, hi, a, b⟩; exact ⟨i, hi, by omega, b⟩
    ·rintro ⟨i, hi, a, b, c⟩
     by_cases w : i = j
     ·subst w; exact absurd (hsure.1 c) e
     ·exact ⟨i, hi, by omega, b, c⟩)
  (fun s hI => by
   obtain ⟨x, L⟩ := s
   simp only at hI
   obtain ⟨rfl, _⟩ := hI
   unfold berth_Sure_b2
   simp only
   rw [if_neg (by simp)])
 simp only at q1 q2 q3
 have hp := (srtI_spec L).1
 refine ⟨srtI L, ?_, by rw [hp.length_eq]; exact q1, fun id => ?_⟩
 ·rw [q3]
  unfold berth_Sure_j1 srtO
  rw [if_pos (by omega)]; rfl
 ·rw [hp.mem_iff, q2 id]
  constructor
  ·rintro ⟨i, hi, _, b⟩; exact ⟨i, hi, b⟩
  ·rintro ⟨i, hi, b⟩; exact ⟨i, hi, hi, b⟩
theorem planned {h : api_Harbour} {l : List api_Call} {m : Nat} {f : List Int} (h1 : MaxM (laidS h l) m) (hP : PlanI (laidS h l) (-1000 * (m : Int)) l.length f) {i : Nat} (hi : i < l.length) (hs : SureB h l i) {m' : Nat} (h2 : MaxM (laidS h (Less l i)) m') : ∃ x ∈ planR (laidS h l) 0 f, x.Call = l[i].ID := by
 obtain ⟨_, _, _, _, _, _, hM⟩ := plan_mat (b := laidS h l) hP
 have hlen := (plan_len (laid_old h l) (b := laidS h l) hP).2
 have hne : muF f i ≠ none := fun e => by
  have := (less_from hi h2 hM).2 e
  have := hs m m' h1 h2
  omega
 have hfl : f.length = l.length := hP.l
 have hge : 0 ≤ gI f i := by
  unfold muF at hne
  by_cases c : i < f.length ∧ 0 ≤ gI f i
  ·exact c.2
  ·rw [if_neg c] at hne; exact absurd rfl hne
 have key : ∀ (g : List Int) (j r : Nat), r < g.length → 0 ≤ gI g r → ∃ x ∈ planR (laidS h l) j g, x.Call = ((laidS h l).calls.getD (j + r) default).ID := by
  intro g
  induction g with
  | nil => intro j r hr; simp at hr
  | cons a g ih =>
   intro j r hr hg
   cases r with
   | zero =>
    have ha : ¬ a < 0 := by have : gI (a :: g) 0 = a := rfl; omega
    refine ⟨_, List.mem_append_left _ (by unfold stayB; rw [if_neg ha]; exact List.mem_singleton.2 rfl), rfl⟩
   | succ r =>
    obtain ⟨x, q1, q2⟩ := ih (j + 1) r (by simpa using hr) hg
    exact ⟨x, List.mem_append_right _ q1, by rw [q2, show j + 1 + r = j + (r + 1) by omega]⟩
 obtain ⟨x, q1, q2⟩ := key f 0 i (by omega) hge
 refine ⟨x, q1, ?_⟩
 rw [q2, Nat.zero_add, show (laidS h l).calls = l from rfl, getD_lt hi]
theorem holds_BerthSure {h : api_Harbour} {l : List api_Call} {at_ : Int} (h0 : ok_api_Harbour h) (h1 : ok_30 l) (h2 : OkI .u8 at_) : law06_BerthSure h l at_ = some true := by
 have hh := LenH.of h0
 have hl : Len l := h1.1
 have hat := h2.u8
 obtain ⟨y, hy⟩ := small_some h hh
 unfold law06_BerthSure
 rw [hy, Option.bind_some, sanity06]
 split
 ·rfl
 ·rename_i hsm
  simp only [Bool.or_eq_true, decide_eq_true_eq, not_or] at hsm
  by_cases ec : checkCS h l = 0
  ·have hg := GoodL.of hh ec
   have hn := hg.n
   have eh : checkHS h = 0 := by
    unfold checkCS at ec
    split at ec
    ·assumption
    ·contradiction
   obtain ⟨L, s1, s2, s3⟩ := Sure_eq hh hl ec
   obtain ⟨m, a1, a2, a3, a4⟩ := Most_eq hh hl ec
   obtain ⟨m2, f, p1, p2, p3⟩ := Plan_eq hh hl ec
   have em := a2.uniq p2
   subst em
   have hpos : 0 < l.length := by omega
   have eq : rem (w64 at_) (l.length : Int) = some (((at_.toNat % l.length : Nat)) : Int) := by
    unfold rem
    rw [if_neg (by omega), w64_id (by omega) (by omega), show at_ = ((at_.toNat : Nat) : Int) by omega]
    congr 1
   have hk : at_.toNat % l.length < l.length := Nat.mod_lt _ hpos
   rw [s1, Option.bind_some, a1, Option.bind_some, p1, Option.bind_some, if_neg (by simp), if_neg (by simp), eq, Option.bind_some]
   generalize at_.toNat % l.length = k at hk
   have hlk : Len (Less l k) := by unfold Len; rw [less_len hk]; omega
   obtain ⟨m', n1, n2, _, _⟩ := Most_eq hh hlk (less_check hg eh k)
   rw [sub_to (by omega), Option.bind_some, app_ok (by simp; omega), Option.bind_some, w64s' hk hl, sub_from (by omega), Option.bind_some, app_ok (by simp; omega), Option.bind_some, List.nil_append, show l.take k ++ l.drop (k + 1) = Less l k from rfl, n1, Option.bind_some]
   have hlo := less_le hk a2 n2
   have hup : m ≤ m' + 1 := by
    obtain ⟨μ, u1, u2⟩ := a2.e
    have := (less_from hk n2 u1).1; omega
   have hsure : SureB h l k ↔ m' < m := ⟨fun q => q m m' a2 n2, fun q a b ha hb => by rw [← a2.uniq ha, ← n2.uniq hb]; exact q⟩
   have hpl : (planR (laidS h l) 0 f).length ≤ 10 := by
    have := planR_len (laidS h l) f 0
    have : f.length = l.length := p3.l
    omega
   refine lp_list L (by omega) (fun (s : Bool) i => (s, i)) (fun _ _ => true) (fun i s => s = true ↔ ∃ (j : Nat) (hj : j < L.length), j < i ∧ L[j] = l[k].ID) (a := false) rfl ⟨fun q => (by cases q), fun ⟨j, hj, q, _⟩ => by omega⟩ (fun s i hi hJ => ?_) fun s hJ => ?_
   ·left
    unfold law06_BerthSure_b2
    simp only
    rw [if_pos (by simpa using hi), ix_lt hi, Option.bind_some]
    obtain ⟨j, hj, e1, e2⟩ := (s3 L[i]).1 (List.getElem_mem hi)
    have hlj : Len (Less l j) := by unfold Len; rw [less_len hj]; omega
    obtain ⟨mj, _, k2, _, _⟩ := Most_eq hh hlj (less_check hg eh j)
    obtain ⟨x, x1, x2⟩ := planned a2 p3 hj e2 k2
    rw [e1] at x2
    have hgb : ∃ z, gb (!s) (ix l (k : Int)) (fun x1 => Lp (law06_BerthSure_b4 (planR (laidS h l) 0 f, 0) s (i : Int) L[i] x1) fuel (false, 0)) = Lp (law06_BerthSure_b4 (planR (laidS h l) 0 f, 0) s (i : Int) L[i] z) fuel (false, 0) ∧ (s = false → z = l[k]) := by
     cases s with
     | false => exact ⟨l[k], by simp only [gb, Bool.not_false, if_true]; rw [ix_lt hk]; rfl, fun _ => rfl⟩
     | true => exact ⟨default, by simp [gb], fun q => by cases q⟩
    obtain ⟨z, z1, z2⟩ := hgb
    rw [z1]
    have hin : Lp (law06_BerthSure_b4 (planR (laidS h l) 0 f, 0) s (i : Int) L[i] z) fuel (false, 0) = some (.inl ((s || decide (L[i] = z.ID)), ((i + 1 : Nat) : Int))) := by
     have hj3 : ∀ b, b = true → law06_BerthSure_j3 s (i : Int) L[i] z b = some (.inl ((s || decide (L[i] = z.ID)), ((i + 1 : Nat) : Int))) := fun b hb => by
      subst hb
      unfold law06_BerthSure_j3
      rw [if_neg (by simp), w64s' hi (by omega)]
     refine lp_list (planR (laidS h l) 0 f) (by omega) (fun (b : Bool) q => (b, q)) (fun _ _ => Sum.inl ((s || decide (L[i] = z.ID)), ((i + 1 : Nat) : Int))) (fun q b => ∀ (j : Nat) (hj : j < (planR (laidS h l) 0 f).length), j < q → (planR (laidS h l) 0 f)[j].Call = L[i] → b = true) (a := false) rfl (fun j _ q => by omega) (fun b q hq hJ2 => ?_) fun b hJ2 => ?_
     ·left
      unfold law06_BerthSure_b4
      simp only
      rw [if_pos (by simpa using hq), ix_lt hq, Option.bind_some, w64s' hq (by omega)]
      refine ⟨_, rfl, trivial, fun j hj hjq e => ?_⟩
      by_cases c : j = q
      ·subst c; simp [e]
      ·rw [hJ2 j hj (by omega) e]; rfl
     ·unfold law06_BerthSure_b4
      simp only
      obtain ⟨j, hj, rfl⟩ := List.getElem_of_mem x1
      rw [if_neg (by simp), hj3 b (hJ2 j hj hj x2)]; rfl
    refine ⟨(s || decide (L[i] = z.ID)), hin, trivial, ?_⟩
    cases s with
    | false =>
     rw [z2 rfl, Bool.false_or, decide_eq_true_eq]
     constructor
     ·intro e; exact ⟨i, hi, by omega, e⟩
     ·rintro ⟨j, hj, q1, q2⟩
      by_cases c : j = i
      ·subst c; exact q2
      ·have : false = true := hJ.2 ⟨j, hj, by omega, q2⟩
       cases this
    | true =>
     rw [Bool.true_or]
     obtain ⟨j, hj, q1, q2⟩ := hJ.1 rfl
     exact ⟨fun _ => ⟨j, hj, by omega, q2⟩, fun _ => rfl⟩
   ·have hs : s = true ↔ m' < m := by
     rw [hJ, ← hsure]
     constructor
     ·rintro ⟨j, hj, _, q2⟩
      obtain ⟨i, hi, e1, e2⟩ := (s3 L[j]).1 (List.getElem_mem hj)
      rw [q2] at e1
      have : i = k := by
       rcases Nat.lt_trichotomy i k with c | c | c
       ·exact absurd e1 (List.pairwise_iff_getElem.1 hg.d i k hi hk c)
       ·exact c
       ·exact absurd e1.symm (List.pairwise_iff_getElem.1 hg.d k i hk hi c)
      subst this; exact e2
     ·intro q
      obtain ⟨j, hj, e⟩ := List.getElem_of_mem ((s3 l[k].ID).2 ⟨k, hk, rfl, q⟩)
      exact ⟨j, hj, hj, e⟩
    unfold law06_BerthSure_b2
    simp only
    rw [if_neg (by simp)]
    unfold law06_BerthSure_j1
    rw [sanity06, Option.bind_some, w64_id (by omega) (by omega)]
    simp only [Option.map_some, Bool.true_and, decide_true]
    congr 2
    by_cases c : m' < m
    ·rw [hs.2 c]; simp; omega
    ·have : s = false := by
      cases s with
      | false => rfl
      | true => exact absurd (hs.1 rfl) c
     rw [this]; simp; omega
  ·have e1 : berth_Sure h l = some ([], checkCS h l) := by
    unfold berth_Sure
    rw [CheckCalls_eq h hh l hl, Option.bind_some, if_pos (by simp [ec])]
   have e2 : berth_Most h l = some (0, checkCS h l) := by
    unfold berth_Most
    rw [CheckCalls_eq h hh l hl, Option.bind_some, if_pos (by simp [ec])]
   have e3 : berth_Plan h l = some ([], checkCS h l) := by
    unfold berth_Plan
    rw [CheckCalls_eq h hh l hl, Option.bind_some, if_pos (by simp [ec])]
   rw [e1, Option.bind_some, e2, Option.bind_some, e3, Option.bind_some, if_neg (by simp), if_pos (by simp [ec])]
   rfl
end Go.Mx
