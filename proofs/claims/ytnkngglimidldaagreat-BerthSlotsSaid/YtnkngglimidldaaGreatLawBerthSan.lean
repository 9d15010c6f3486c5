/- Plain laws, berths: the chapter's examples, by the kernel. Conditions: none. -/
import Derived.Test.YtnkngglimidldaaGreatM
set_option linter.unusedVariables false
namespace Go.Mx
def insK (x : Int) : List Int → List Int
 | [] => [x]
 | a :: l => if x ≤ a then x :: a :: l else a :: insK x l
def sortK : List Int → List Int
 | [] => []
 | a :: l => insK a (sortK l)
theorem insK_perm (x : Int) : ∀ l, (insK x l).Perm (x :: l)
 | [] => List.Perm.refl _
 | a :: l => by
  unfold insK
  split
  ·exact List.Perm.refl _
  ·exact ((insK_perm x l).cons a).trans (List.Perm.swap x a l)
theorem sortK_perm : ∀ l, (sortK l).Perm l
 | [] => List.Perm.refl _
 | a :: l => (insK_perm a (sortK l)).trans ((sortK_perm l).cons a)
theorem insK_sorted (x : Int) : ∀ {l : List Int}, l.Pairwise (· ≤ ·) → (insK x l).Pairwise (· ≤ ·)
 | [], _ => by simp [insK]
 | a :: l, h => by
  unfold insK
  rw [List.pairwise_cons] at h
  split
  ·rename_i e
   refine List.pairwise_cons.2 ⟨fun b hb => ?_, List.pairwise_cons.2 h⟩
   rcases List.mem_cons.1 hb with rfl | hb
   ·exact e
   ·have := h.1 b hb; omega
  ·rename_i e
   refine List.pairwise_cons.2 ⟨fun b hb => ?_, insK_sorted x h.2⟩
   rcases List.mem_cons.1 ((insK_perm x l).mem_iff.1 hb) with rfl | hb
   ·omega
   ·exact h.1 b hb
theorem sortK_sorted : ∀ l, (sortK l).Pairwise (· ≤ ·)
 | [] => .nil
 | a :: l => insK_sorted a (sortK_sorted l)
theorem sortK_eq (l : List Int) : srtI l = sortK l := List.Perm.eq_of_pairwise (le := (· ≤ ·)) (fun a b _ _ h1 h2 => by omega) (srtI_spec l).2 (sortK_sorted l) ((srtI_spec l).1.trans (sortK_perm l).symm)
def srtO_k (l : List Int) : Option (List Int) := if l.length ≤ 4294967296 then some (sortK l) else none
theorem srtO_keq : srtO = srtO_k := funext fun l => by unfold srtO srtO_k; rw [sortK_eq]
def berth_board_crowd_j1_k (b : berth_board) (ships : (List (Int × Bool))) (l : (List Int)) : Option api_Crowd :=
 Option.bind (srtO_k l) fun l1 =>
 Lp (berth_board_crowd_b3 b ships l1) fuel (0, [])
theorem berth_board_crowd_j1_keq : @berth_board_crowd_j1 = @berth_board_crowd_j1_k := by
 unfold berth_board_crowd_j1 berth_board_crowd_j1_k
 simp only [srtO_keq]
def berth_board_crowd_b5_k (b : berth_board) (ships : (List (Int × Bool))) : (Int × (List Int)) → Option ((Int × (List Int)) ⊕ api_Crowd)
 | (x3, l8) =>
  if decide (x3 < (b.calls.length : Int)) then
   Option.bind (ix b.calls x3) fun x2 =>
   if ((lookM x3 ships).getD false) then
    Option.bind (app l8 ([x2.ID])) fun l7 =>
    berth_board_crowd_j6 x3 l7
   else
    berth_board_crowd_j6 x3 l8
  else
   ((berth_board_crowd_j1_k b ships l8).map Sum.inr)
theorem berth_board_crowd_b5_keq : @berth_board_crowd_b5 = @berth_board_crowd_b5_k := by
 unfold berth_board_crowd_b5 berth_board_crowd_b5_k
 simp only [berth_board_crowd_j1_keq]
def berth_board_crowd_k (b : berth_board) (ships : (List (Int × Bool))) : Option api_Crowd :=
 Lp (berth_board_crowd_b5_k b ships) fuel (0, [])
theorem berth_board_crowd_keq : @berth_board_crowd = @berth_board_crowd_k := by
 unfold berth_board_crowd berth_board_crowd_k
 simp only [berth_board_crowd_b5_keq]
def berth_Full_j2_k (y1 : berth_board) (m2 : (List (Int × Bool))) : Option (api_Crowd × Bool × Int) :=
 Option.bind (berth_board_crowd_k y1 m2) fun y3 =>
 some (y3, true, 0)
theorem berth_Full_j2_keq : @berth_Full_j2 = @berth_Full_j2_k := by
 unfold berth_Full_j2 berth_Full_j2_k
 simp only [berth_board_crowd_keq]
def berth_Full_b3_k (l : (List api_Call)) (y1 : berth_board) (m1 : (List (Int × Int))) : (Bool × (List (Int × Bool))) → Option ((Bool × (List (Int × Bool))) ⊕ (api_Crowd × Bool × Int))
 | (more4, m7) =>
  if more4 then
   Lp (berth_Full_b4 l y1 m1) fuel (false, 0, m7)
  else
   ((berth_Full_j2_k y1 m7).map Sum.inr)
theorem berth_Full_b3_keq : @berth_Full_b3 = @berth_Full_b3_k := by
 unfold berth_Full_b3 berth_Full_b3_k
 simp only [berth_Full_j2_keq]
def berth_Full_j1_k (l : (List api_Call)) (y1 : berth_board) (m : (List (Int × Bool))) (m1 : (List (Int × Int))) : Option (api_Crowd × Bool × Int) :=
 if decide ((m.length : Int) = 0) then
  some ((⟨[], []⟩ : api_Crowd), false, 0)
 else
  Lp (berth_Full_b3_k l y1 m1) fuel (true, m)
theorem berth_Full_j1_keq : @berth_Full_j1 = @berth_Full_j1_k := by
 unfold berth_Full_j1 berth_Full_j1_k
 simp only [berth_Full_b3_keq]
def berth_Full_b8_k (l : (List api_Call)) (y1 : berth_board) (y2 : (List Int) × Int) : (Int × (List (Int × Bool)) × (List (Int × Int))) → Option ((Int × (List (Int × Bool)) × (List (Int × Int))) ⊕ (api_Crowd × Bool × Int))
 | (x5, m10, m11) =>
  if decide (x5 < (y2.1.length : Int)) then
   Option.bind (ix y2.1 x5) fun x4 =>
   if decide ((y1.slots.length : Int) ≤ x4) then
    berth_Full_j9 x5 (putM posI m10 x5 true) m11
   else
    berth_Full_j9 x5 m10 (putM posI m11 x4 x5)
  else
   ((berth_Full_j1_k l y1 m10 m11).map Sum.inr)
theorem berth_Full_b8_keq : @berth_Full_b8 = @berth_Full_b8_k := by
 unfold berth_Full_b8 berth_Full_b8_k
 simp only [berth_Full_j1_keq]
def berth_Full_k (h : api_Harbour) (l : (List api_Call)) : Option (api_Crowd × Bool × Int) :=
 Option.bind (berth_CheckCalls h l) fun y =>
 if !decide (y = 0) then
  some ((⟨[], []⟩ : api_Crowd), false, y)
 else
  Option.bind (berth_laid h l) fun y1 =>
  Option.bind (berth_board_best y1 []) fun y2 =>
  Lp (berth_Full_b8_k l y1 y2) fuel (0, [], [])
theorem berth_Full_keq : @berth_Full = @berth_Full_k := by
 unfold berth_Full berth_Full_k
 simp only [berth_Full_b8_keq]
def berth_CheckFull_j1_k (h : api_Harbour) (l : (List api_Call)) (x : api_Crowd) (m : (List (Int × Bool))) : Option (Int × Int) :=
 Option.bind (berth_laid h l) fun y1 =>
 Option.bind (berth_board_crowd_k y1 m) fun y2 =>
 gb (!(decide ((x.Calls.length : Int) = 0))) (slices_Equal_int x.Calls y2.Calls) fun y3 =>
 gb (!(((decide ((x.Calls.length : Int) = 0)) || (!y3)))) (slices_Equal_api_Slot x.Slots y2.Slots) fun y4 =>
 if ((((decide ((x.Calls.length : Int) = 0)) || (!y3)) || (!y4)) || (decide ((x.Calls.length : Int) ≤ (x.Slots.length : Int)))) then
  some (0, 8)
 else
  some (w64 ((x.Calls.length : Int) - (x.Slots.length : Int)), 0)
theorem berth_CheckFull_j1_keq : @berth_CheckFull_j1 = @berth_CheckFull_j1_k := by
 unfold berth_CheckFull_j1 berth_CheckFull_j1_k
 simp only [berth_board_crowd_keq]
def berth_CheckFull_b2_k (h : api_Harbour) (l : (List api_Call)) (x : api_Crowd) : (Int × (List (Int × Bool))) → Option ((Int × (List (Int × Bool))) ⊕ (Int × Int))
 | (x2, m2) =>
  if decide (x2 < (x.Calls.length : Int)) then
   Option.bind (ix x.Calls x2) fun x1 =>
   Option.bind (berth_first_api_Call__berth_callID l x1) fun y5 =>
   if decide (0 ≤ y5) then
    berth_CheckFull_j3 x2 (putM posI m2 y5 true)
   else
    berth_CheckFull_j3 x2 m2
  else
   ((berth_CheckFull_j1_k h l x m2).map Sum.inr)
theorem berth_CheckFull_b2_keq : @berth_CheckFull_b2 = @berth_CheckFull_b2_k := by
 unfold berth_CheckFull_b2 berth_CheckFull_b2_k
 simp only [berth_CheckFull_j1_keq]
def berth_CheckFull_k (h : api_Harbour) (l : (List api_Call)) (x : api_Crowd) : Option (Int × Int) :=
 Option.bind (berth_CheckCalls h l) fun y =>
 if !decide (y = 0) then
  some (0, y)
 else
  Lp (berth_CheckFull_b2_k h l x) fuel (0, [])
theorem berth_CheckFull_keq : @berth_CheckFull = @berth_CheckFull_k := by
 unfold berth_CheckFull berth_CheckFull_k
 simp only [berth_CheckFull_b2_keq]
def law06_sanity_k : Option Bool :=
 Option.bind (berth_Depth (law06_Harbour) 1 130) fun y =>
 Option.bind (berth_Touch (law06_Harbour) 2 700 (⟨60, 200⟩ : api_Span)) fun y1 =>
 Option.bind (berth_Touch (law06_Harbour) 2 600 (⟨60, 200⟩ : api_Span)) fun y2 =>
 Option.bind (law06_waiting 1) fun y3 =>
 Option.bind (ix y3 0) fun x =>
 Option.bind (berth_When (law06_Harbour) x (⟨0, 2⟩ : api_Slot)) fun y4 =>
 Option.bind (berth_Allow (law06_Harbour) (⟨0, 2⟩ : api_Slot) 120) fun y5 =>
 Option.bind (law06_waiting 3) fun y6 =>
 Option.bind (berth_Plan (law06_Harbour) y6) fun y7 =>
 Option.bind (law06_waiting 5) fun y8 =>
 Option.bind (berth_Full_k (law06_Harbour) y8) fun y9 =>
 Option.bind (law06_waiting 5) fun y10 =>
 Option.bind (berth_CheckFull_k (law06_Harbour) y10 y9.1) fun y11 =>
 if (((((((((!decide (y.2 = 0)) || (!decide (y1.2.2 = 0))) || (!decide (y2.2.2 = 0))) || (!decide (y4.2.2 = 0))) || (!decide (y5.2 = 0))) || (!decide (y7.2 = 0))) || (!decide (y9.2.2 = 0))) || (!decide (y11.2 = 0))) || (!decide ((y7.1.length : Int) = 3))) then
  some false
 else
  gb (((((((((decide (y.1 = 1000)) && y1.2.1) && (decide (y1.1 = 60))) && (!y2.2.1)) && y4.2.1) && (decide (y4.1 = (⟨120, 179⟩ : api_Span)))) && (decide (y5.1 = 650))))) (ix y7.1 2) fun x1 =>
  some ((((((((((((decide (y.1 = 1000)) && y1.2.1) && (decide (y1.1 = 60))) && (!y2.2.1)) && y4.2.1) && (decide (y4.1 = (⟨120, 179⟩ : api_Span)))) && (decide (y5.1 = 650))) && (decide (x1 = (⟨13, (⟨1, 1⟩ : api_Slot), (⟨240, 299⟩ : api_Span)⟩ : api_Stay)))) && y9.2.1) && (decide ((y9.1.Calls.length : Int) = 5))) && (decide ((y9.1.Slots.length : Int) = 4))) && (decide (y11.1 = 1)))
theorem law06_sanity_keq : @law06_sanity = @law06_sanity_k := by
 unfold law06_sanity law06_sanity_k
 simp only [berth_CheckFull_keq, berth_Full_keq]
theorem sanity06 : law06_sanity = some true := by
 rw [law06_sanity_keq]
 decide +kernel
end Go.Mx
