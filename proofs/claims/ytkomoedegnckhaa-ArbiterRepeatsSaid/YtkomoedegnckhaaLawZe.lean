/- Plain laws, arbiters: what the program says of a letter behind letters of its case. Conditions: none. -/
import Derived.Test.YtkomoedegnckhaaLawZd
set_option linter.unusedVariables false
set_option linter.unusedSimpArgs false
namespace Go.Mx
def fstF (r : Int) (acc : List api_Letter) (x : api_Letter) : List api_Letter := if x.Kind = 2 ∧ x.Round = r ∧ acc.any (fun y => decide (y.From = x.From)) = false then acc ++ [x] else acc
def fstS (l : List api_Letter) (r : Int) : List api_Letter := l.foldl (fstF r) []
theorem fstS_snoc (l : List api_Letter) (x : api_Letter) (r : Int) : fstS (l ++ [x]) r = fstF r (fstS l r) x := by simp [fstS, List.foldl_append]
theorem fstS_take {l : List api_Letter} {i : Nat} (h : i < l.length) (r : Int) : fstS (l.take (i + 1)) r = fstF r (fstS (l.take i) r) l[i] := by rw [List.take_succ_eq_append_getElem h, fstS_snoc]
theorem fstF_mem {r : Int} {acc : List api_Letter} {x y : api_Letter} (h : y ∈ acc) : y ∈ fstF r acc x := by
 unfold fstF
 split
 ·exact List.mem_append_left _ h
 ·exact h
theorem fstS_mono (l : List api_Letter) (r : Int) {i : Nat} {y : api_Letter} (h : y ∈ fstS (l.take i) r) : y ∈ fstS l r := by
 have key : ∀ (l : List api_Letter) (acc : List api_Letter), y ∈ acc → y ∈ l.foldl (fstF r) acc := by
  intro l
  induction l with
  | nil => intro acc h; exact h
  | cons a t ih => intro acc h; exact ih _ (fstF_mem h)
 have e : fstS l r = (l.drop i).foldl (fstF r) (fstS (l.take i) r) := by
  unfold fstS
  rw [← List.foldl_append, List.take_append_drop]
 rw [e]
 exact key _ _ h
theorem fstS_len (l : List api_Letter) (r : Int) : (fstS l r).length ≤ l.length := by
 refine snoc_rec (motive := fun l => (fstS l r).length ≤ l.length) (by simp [fstS]) (fun l x ih => ?_) l
 rw [fstS_snoc]
 unfold fstF
 split
 ·simp; omega
 ·simp; omega
def Seen (m : List (Int × Bool)) (P : List api_Letter) : Prop := ∀ a, (lookM a m).getD false = P.any (fun y => decide (y.From = a))
theorem Seen_nil : Seen [] [] := fun _ => rfl
theorem Seen_put {m : List (Int × Bool)} {P : List api_Letter} (h : Seen m P) (x : api_Letter) : Seen (putM posI m x.From true) (P ++ [x]) := fun a => by
 rw [lookM_put]
 by_cases e : a = x.From
 ·subst e; simp
 ·have : ¬ x.From = a := fun q => e q.symm
  rw [if_neg e, h a]; simp [this]
def lowS (l : List api_Letter) (r : Int) (x : api_Letter) : Int := cntI (fun y => decide (y.Voted ≤ x.Voted)) (fstS l r)
def goodP (c : api_Court) (l : List api_Letter) (r n : Int) (x : api_Letter) : Bool := !decide (x.Voted = 0) && (decide (x.Finding = n) && decide (majS c ≤ lowS l r x))
def ableP (c : api_Court) (l : List api_Letter) (r n : Int) : Bool := (fstS l r).any (goodP c l r n) || decide (majS c ≤ cntI (fun y => decide (y.Voted = 0)) (fstS l r))
theorem low_loop (c : api_Court) (l : List api_Letter) (hl : l.length ≤ 4000) (r n x3 f1 : Int) (m3 : List (Int × Bool)) (x : api_Letter) : Lp (arbiter_proposable_b3 c l r n x3 m3 f1 x) fuel (0, [], 0) = some (if (decide (x.Finding = n) && decide (majS c ≤ lowS l r x)) = true then .inr true else .inl (w64 (x3 + 1), putM posI m3 x.From true, f1)) := by
 suffices h : ∃ s, Lp (arbiter_proposable_b3 c l r n x3 m3 f1 x) fuel (0, [], 0) = some s ∧ s = (if (decide (x.Finding = n) && decide (majS c ≤ lowS l r x)) = true then .inr true else .inl (w64 (x3 + 1), putM posI m3 x.From true, f1)) by obtain ⟨s, h, rfl⟩ := h; exact h
 refine lp_inv' (fun (i : Nat) (s : Int × List (Int × Bool) × Int) => ∃ m, s = ((i : Int), m, cntI (fun y => decide (y.Voted ≤ x.Voted)) (fstS (l.take i) r)) ∧ Seen m (fstS (l.take i) r)) _ l.length (by omega) ⟨[], by simp [fstS, cntI], by simpa [fstS] using Seen_nil⟩ fun i s hi hI => ?_
 obtain ⟨m, rfl, hm⟩ := hI
 by_cases hlt : i < l.length
 ·have hc := cntI_le (fun y => decide (y.Voted ≤ x.Voted)) (fstS (l.take i) r)
  have hlen := fstS_len (l.take i) r
  have htl : (l.take i).length = i := by rw [List.length_take]; omega
  refine .inl ⟨hlt, ?_⟩
  unfold arbiter_proposable_b3
  rw [show arbiter_promises l r = (l, r) from rfl]
  dsimp only
  simp only [dlt hlt, if_true, ix_nat hlt, Option.bind_some, arbiter_proposable_j4, arbiter_proposable_j5, w64i hlt hl, hm l[i].From]
  rw [fstS_take hlt]
  unfold fstF
  by_cases c1 : l[i].Kind = 2
  ·by_cases c2 : l[i].Round = r
   ·cases c3 : (fstS (l.take i) r).any (fun y => decide (y.From = l[i].From)) with
    | true =>
     refine ⟨(((i + 1 : Nat) : Int), m, cntI (fun y => decide (y.Voted ≤ x.Voted)) (fstS (l.take i) r)), by simp [c1, c2, c3], m, ?_, ?_⟩
     ·simp [c1, c2, c3]
     ·simpa [c1, c2, c3] using hm
    | false =>
     by_cases c4 : l[i].Voted ≤ x.Voted
     ·refine ⟨(((i + 1 : Nat) : Int), putM posI m l[i].From true, w64 (cntI (fun y => decide (y.Voted ≤ x.Voted)) (fstS (l.take i) r) + 1)), by simp [c1, c2, c3, c4], putM posI m l[i].From true, ?_, ?_⟩
      ·rw [if_pos ⟨c1, c2, rfl⟩, cntI_snoc, w64_id (by omega) (by omega)]
       simp [c4]
      ·rw [if_pos ⟨c1, c2, rfl⟩]; exact Seen_put hm _
     ·refine ⟨(((i + 1 : Nat) : Int), putM posI m l[i].From true, cntI (fun y => decide (y.Voted ≤ x.Voted)) (fstS (l.take i) r)), by simp [c1, c2, c3, c4], putM posI m l[i].From true, ?_, ?_⟩
      ·rw [if_pos ⟨c1, c2, rfl⟩, cntI_snoc]
       simp [c4]
      ·rw [if_pos ⟨c1, c2, rfl⟩]; exact Seen_put hm _
   ·refine ⟨(((i + 1 : Nat) : Int), m, cntI (fun y => decide (y.Voted ≤ x.Voted)) (fstS (l.take i) r)), by simp [c1, c2], m, by simp [c1, c2], by simpa [c1, c2] using hm⟩
  ·refine ⟨(((i + 1 : Nat) : Int), m, cntI (fun y => decide (y.Voted ≤ x.Voted)) (fstS (l.take i) r)), by simp [c1], m, by simp [c1], by simpa [c1] using hm⟩
 ·have e : i = l.length := by omega
  subst e
  rw [List.take_length] at hm ⊢
  refine .inr ⟨_, ?_, rfl⟩
  unfold arbiter_proposable_b3
  rw [show arbiter_promises l r = (l, r) from rfl]
  dsimp only
  simp only [dge, Bool.false_eq_true, if_false, Maj_eq, arbiter_proposable_j2]
  rw [gb_some]
  ·show (if (decide (x.Finding = n) && decide (majS c ≤ lowS l r x)) = true then _ else _) = _
   split <;> rfl
  ·intro h; rw [h]; rfl
theorem able_eq (c : api_Court) (l : List api_Letter) (hl : l.length ≤ 4000) (r n : Int) : arbiter_proposable c l r n = some (ableP c l r n) := by
 unfold arbiter_proposable
 suffices h : ∃ s, Lp (arbiter_proposable_b1 c l r n) fuel (0, [], 0) = some s ∧ s = ableP c l r n by obtain ⟨s, h, rfl⟩ := h; exact h
 refine lp_inv' (fun (i : Nat) (s : Int × List (Int × Bool) × Int) => ∃ m, s = ((i : Int), m, cntI (fun y => decide (y.Voted = 0)) (fstS (l.take i) r)) ∧ Seen m (fstS (l.take i) r) ∧ ∀ y ∈ fstS (l.take i) r, goodP c l r n y = false) _ l.length (by omega) ⟨[], by simp [fstS, cntI], by simpa [fstS] using Seen_nil, fun y hy => by simp [fstS] at hy⟩ fun i s hi hI => ?_
 obtain ⟨m, rfl, hm, hg⟩ := hI
 by_cases hlt : i < l.length
 ·have hc := cntI_le (fun y => decide (y.Voted = 0)) (fstS (l.take i) r)
  have hlen := fstS_len (l.take i) r
  have htl : (l.take i).length = i := by rw [List.length_take]; omega
  have hft := fstS_take hlt r
  unfold fstF at hft
  unfold arbiter_proposable_b1
  rw [show arbiter_promises l r = (l, r) from rfl]
  dsimp only
  simp only [dlt hlt, if_true, ix_nat hlt, Option.bind_some, arbiter_proposable_j2, w64i hlt hl, hm l[i].From]
  by_cases c1 : l[i].Kind = 2
  ·by_cases c2 : l[i].Round = r
   ·cases c3 : (fstS (l.take i) r).any (fun y => decide (y.From = l[i].From)) with
    | true =>
     rw [if_neg (by rw [c3]; simp)] at hft
     refine .inl ⟨hlt, (((i + 1 : Nat) : Int), m, cntI (fun y => decide (y.Voted = 0)) (fstS (l.take i) r)), by simp [c1, c2, c3], m, by rw [hft], by rw [hft]; exact hm, by rw [hft]; exact hg⟩
    | false =>
     rw [if_pos ⟨c1, c2, c3⟩] at hft
     by_cases c4 : l[i].Voted = 0
     ·refine .inl ⟨hlt, (((i + 1 : Nat) : Int), putM posI m l[i].From true, w64 (cntI (fun y => decide (y.Voted = 0)) (fstS (l.take i) r) + 1)), by simp [c1, c2, c3, c4], putM posI m l[i].From true, ?_, by rw [hft]; exact Seen_put hm _, ?_⟩
      ·rw [hft, cntI_snoc, w64_id (by omega) (by omega)]
       simp [c4]
      ·rw [hft]
       intro y hy
       rcases List.mem_append.1 hy with hy | hy
       ·exact hg y hy
       ·rw [List.mem_singleton] at hy; subst hy; simp [goodP, c4]
     ·have hlow := low_loop c l hl r n (i : Int) (cntI (fun y => decide (y.Voted = 0)) (fstS (l.take i) r)) m l[i]
      by_cases c5 : (decide (l[i].Finding = n) && decide (majS c ≤ lowS l r l[i])) = true
      ·rw [if_pos c5] at hlow
       refine .inr ⟨true, by simp [c1, c2, c3, c4, hlow], ?_⟩
       have hmem : l[i] ∈ fstS l r := fstS_mono l r (i := i + 1) (by rw [hft]; simp)
       have : (fstS l r).any (goodP c l r n) = true := List.any_eq_true.2 ⟨l[i], hmem, by unfold goodP; rw [c5]; simp [c4]⟩
       unfold ableP
       rw [this]; rfl
      ·rw [if_neg c5] at hlow
       refine .inl ⟨hlt, (w64 ((i : Int) + 1), putM posI m l[i].From true, cntI (fun y => decide (y.Voted = 0)) (fstS (l.take i) r)), by simp [c1, c2, c3, c4, hlow], putM posI m l[i].From true, ?_, by rw [hft]; exact Seen_put hm _, ?_⟩
       ·rw [hft, cntI_snoc, w64i hlt hl]
        simp [c4]
       ·rw [hft]
        intro y hy
        rcases List.mem_append.1 hy with hy | hy
        ·exact hg y hy
        ·rw [List.mem_singleton] at hy; subst hy
         unfold goodP
         have : (decide (l[i].Finding = n) && decide (majS c ≤ lowS l r l[i])) = false := by simpa using c5
         rw [this]; simp
   ·rw [if_neg (fun h => c2 h.2.1)] at hft
    refine .inl ⟨hlt, (((i + 1 : Nat) : Int), m, cntI (fun y => decide (y.Voted = 0)) (fstS (l.take i) r)), by simp [c1, c2], m, by rw [hft], by rw [hft]; exact hm, by rw [hft]; exact hg⟩
  ·rw [if_neg (fun h => c1 h.1)] at hft
   refine .inl ⟨hlt, (((i + 1 : Nat) : Int), m, cntI (fun y => decide (y.Voted = 0)) (fstS (l.take i) r)), by simp [c1], m, by rw [hft], by rw [hft]; exact hm, by rw [hft]; exact hg⟩
 ·have e : i = l.length := by omega
  subst e
  rw [List.take_length] at hm hg ⊢
  refine .inr ⟨decide (majS c ≤ cntI (fun y => decide (y.Voted = 0)) (fstS l r)), ?_, ?_⟩
  ·unfold arbiter_proposable_b1
   simp [arbiter_promises, dge, Maj_eq]
  ·have : (fstS l r).any (goodP c l r n) = false := List.any_eq_false.2 fun y hy => by rw [hg y hy]; simp
   unfold ableP
   rw [this, Bool.false_or]
def lasF (a : Int) (p : Int × Int) (x : api_Letter) : Int × Int := if x.Kind = 4 ∧ x.From = a ∧ p.1 < x.Round then (x.Round, x.Finding) else p
def lasS (l : List api_Letter) (a : Int) : Int × Int := l.foldl (lasF a) (0, 0)
theorem last_eq (l : List api_Letter) (hl : l.length ≤ 4000) (a : Int) : ∃ y, arbiter_last l a = some y ∧ (y.Round, y.Finding) = lasS l a := by
 let g : api_Letter → api_Letter → api_Letter := fun p x => if x.Kind = 4 ∧ x.From = a ∧ p.Round < x.Round then x else p
 have key : ∀ (l : List api_Letter) (p : api_Letter), ((l.foldl g p).Round, (l.foldl g p).Finding) = l.foldl (lasF a) (p.Round, p.Finding) := by
  intro l
  induction l with
  | nil => intro p; rfl
  | cons x r ih =>
   intro p
   simp only [List.foldl_cons]
   rw [ih]
   congr 1
   show ((if x.Kind = 4 ∧ x.From = a ∧ p.Round < x.Round then x else p).Round, (if x.Kind = 4 ∧ x.From = a ∧ p.Round < x.Round then x else p).Finding) = lasF a (p.Round, p.Finding) x
   unfold lasF
   split <;> rfl
 have h := sum_loop (body := arbiter_last_b2 l a) l hl (fun p i => (i, p.ID, p.Case, p.Kind, p.Round, p.From, p.To, p.Voted, p.Finding)) g (fun p => p) (fun _ _ => True) (a := (⟨0, 0, 0, 0, 0, 0, 0, 0⟩ : api_Letter)) rfl trivial (fun p i hi _ => ⟨by
  unfold arbiter_last_b2
  simp only [dlt hi, if_true, ix_nat hi, Option.bind_some, arbiter_last_j3, w64i hi hl, g]
  by_cases c1 : l[i].Kind = 4
  ·by_cases c2 : l[i].From = a
   ·by_cases c3 : p.Round < l[i].Round <;> simp [c1, c2, c3]
   ·simp [c1, c2]
  ·simp [c1], trivial⟩) (fun p _ => by
  unfold arbiter_last_b2
  simp [dge, arbiter_last_j1])
 exact ⟨_, h, key l _⟩
theorem has2 (l : List api_Letter) (hl : l.length ≤ 4000) (x : api_Letter) : arbiter_lawful_1__arbiter_lawful_2 x l = some (l.any fun y => arbiter_lawful_2 y x) := by
 unfold arbiter_lawful_1__arbiter_lawful_2 slices_ContainsFunc_api_Letter__arbiter_lawful_2 slices_IndexFunc_api_Letter__arbiter_lawful_2
 rw [ixOf_loop (fun y => arbiter_lawful_2 y x) l hl (fun i hi => by
  unfold slices_IndexFunc_api_Letter__arbiter_lawful_2_b2
  simp only [dlt hi, if_true, ix_nat hi, Option.bind_some, w64i hi hl]
  split <;> rfl) (by
  unfold slices_IndexFunc_api_Letter__arbiter_lawful_2_b2
  simp [dge, slices_IndexFunc_api_Letter__arbiter_lawful_2_j1])]
 simp only [Option.bind_some, ixOf_any]
theorem has3 (l : List api_Letter) (hl : l.length ≤ 4000) (x : api_Letter) : arbiter_lawful_1__arbiter_lawful_3 x l = some (l.any fun y => arbiter_lawful_3 y x) := by
 unfold arbiter_lawful_1__arbiter_lawful_3 slices_ContainsFunc_api_Letter__arbiter_lawful_3 slices_IndexFunc_api_Letter__arbiter_lawful_3
 rw [ixOf_loop (fun y => arbiter_lawful_3 y x) l hl (fun i hi => by
  unfold slices_IndexFunc_api_Letter__arbiter_lawful_3_b2
  simp only [dlt hi, if_true, ix_nat hi, Option.bind_some, w64i hi hl]
  split <;> rfl) (by
  unfold slices_IndexFunc_api_Letter__arbiter_lawful_3_b2
  simp [dge, slices_IndexFunc_api_Letter__arbiter_lawful_3_j1])]
 simp only [Option.bind_some, ixOf_any]
theorem has4 (l : List api_Letter) (hl : l.length ≤ 4000) (x : api_Letter) : arbiter_lawful_1__arbiter_lawful_4 x l = some (l.any fun y => arbiter_lawful_4 y x) := by
 unfold arbiter_lawful_1__arbiter_lawful_4 slices_ContainsFunc_api_Letter__arbiter_lawful_4 slices_IndexFunc_api_Letter__arbiter_lawful_4
 rw [ixOf_loop (fun y => arbiter_lawful_4 y x) l hl (fun i hi => by
  unfold slices_IndexFunc_api_Letter__arbiter_lawful_4_b2
  simp only [dlt hi, if_true, ix_nat hi, Option.bind_some, w64i hi hl]
  split <;> rfl) (by
  unfold slices_IndexFunc_api_Letter__arbiter_lawful_4_b2
  simp [dge, slices_IndexFunc_api_Letter__arbiter_lawful_4_j1])]
 simp only [Option.bind_some, ixOf_any]
theorem has5 (l : List api_Letter) (hl : l.length ≤ 4000) (x : api_Letter) : arbiter_lawful_1__arbiter_lawful_5 x l = some (l.any fun y => arbiter_lawful_5 y x) := by
 unfold arbiter_lawful_1__arbiter_lawful_5 slices_ContainsFunc_api_Letter__arbiter_lawful_5 slices_IndexFunc_api_Letter__arbiter_lawful_5
 rw [ixOf_loop (fun y => arbiter_lawful_5 y x) l hl (fun i hi => by
  unfold slices_IndexFunc_api_Letter__arbiter_lawful_5_b2
  simp only [dlt hi, if_true, ix_nat hi, Option.bind_some, w64i hi hl]
  split <;> rfl) (by
  unfold slices_IndexFunc_api_Letter__arbiter_lawful_5_b2
  simp [dge, slices_IndexFunc_api_Letter__arbiter_lawful_5_j1])]
 simp only [Option.bind_some, ixOf_any]
theorem has6 (l : List api_Letter) (hl : l.length ≤ 4000) (x : api_Letter) : arbiter_lawful_1__arbiter_lawful_6 x l = some (l.any fun y => arbiter_lawful_6 y x) := by
 unfold arbiter_lawful_1__arbiter_lawful_6 slices_ContainsFunc_api_Letter__arbiter_lawful_6 slices_IndexFunc_api_Letter__arbiter_lawful_6
 rw [ixOf_loop (fun y => arbiter_lawful_6 y x) l hl (fun i hi => by
  unfold slices_IndexFunc_api_Letter__arbiter_lawful_6_b2
  simp only [dlt hi, if_true, ix_nat hi, Option.bind_some, w64i hi hl]
  split <;> rfl) (by
  unfold slices_IndexFunc_api_Letter__arbiter_lawful_6_b2
  simp [dge, slices_IndexFunc_api_Letter__arbiter_lawful_6_j1])]
 simp only [Option.bind_some, ixOf_any]
def lawP (c : api_Court) (l : List api_Letter) (x : api_Letter) : Bool :=
 if x.Kind = 2 then decide (x.Voted = (lasS l x.From).1) && decide (x.Finding = (lasS l x.From).2) && l.any (fun y => arbiter_lawful_2 y x) && !l.any (fun y => arbiter_lawful_3 y x)
 else if x.Kind = 3 then ableP c l x.Round x.Finding && !l.any (fun y => arbiter_lawful_4 y x)
 else if x.Kind = 4 then l.any (fun y => arbiter_lawful_5 y x) && !l.any (fun y => arbiter_lawful_6 y x)
 else true
theorem lawful_eq (c : api_Court) (l : List api_Letter) (hl : l.length ≤ 4000) (x : api_Letter) : arbiter_lawful c l x = some (lawP c l x) := by
 unfold arbiter_lawful lawP
 by_cases k2 : x.Kind = 2
 ·obtain ⟨y, h1, h2⟩ := last_eq l hl x.From
  rw [← h2, if_pos (by simpa using k2), if_pos k2, h1]
  simp only [Option.bind_some, has2 l hl, has3 l hl]
  rw [gb_some, gb_some]
  ·intro h; simp only [h, Bool.false_and]
  ·intro h
   simp only [h, Bool.false_and]
 ·rw [if_neg (by simpa using k2), if_neg k2]
  by_cases k3 : x.Kind = 3
  ·rw [if_pos (by simpa using k3), if_pos k3, able_eq c l hl, Option.bind_some, has4 l hl, gb_some]
   intro h; simp only [h, Bool.false_and]
  ·rw [if_neg (by simpa using k3), if_neg k3]
   by_cases k4 : x.Kind = 4
   ·rw [if_pos (by simpa using k4), if_pos k4, has5 l hl, Option.bind_some, has6 l hl, gb_some]
    intro h; simp only [h, Bool.false_and]
   ·rw [if_neg (by simpa using k4), if_neg k4]
end Go.Mx
