/- Plain laws, berths: the chapter's examples, by the kernel. Conditions: none. -/
import Derived.Test.YtnkngglimidldaaGreatM
set_option linter.unusedVariables false
namespace Go.Mx
def insK (x : Int) : List Int → List Int
 | [] => [x]
 | a :: l => if x ≤ a then x :: a :: l else a :: insK x l
def zFw : List Int → List Int
 | [] => []
 | a :: l => insK a (zFw l)
theorem zEw (x : Int) : ∀ l, (insK x l).Perm (x :: l)
 | [] => List.Perm.refl _
 | a :: l => by
  unfold insK
  split
  ·exact List.Perm.refl _
  ·exact ((zEw x l).cons a).trans (List.Perm.swap x a l)
theorem zFv : ∀ l, (zFw l).Perm l
 | [] => List.Perm.refl _
 | a :: l => (zEw a (zFw l)).trans ((zFv l).cons a)
theorem zFN (x : Int) : ∀ {l : List Int}, l.Pairwise (· ≤ ·) → (insK x l).Pairwise (· ≤ ·)
 | [], _ => by simp [insK]
 | a :: l, h => by
  unfold insK
  rw [List.pairwise_cons] at h
  split
  ·rename_i e
   refine List.pairwise_cons.2 ⟨fun b hb => ?_, List.pairwise_cons.2 h⟩
   rcases List.mem_cons.1 hb with rfl | hb
   ·exact e
   ·have := h.1 b hb; omega
  ·rename_i e
   refine List.pairwise_cons.2 ⟨fun b hb => ?_, zFN x h.2⟩
   rcases List.mem_cons.1 ((zEw x l).mem_iff.1 hb) with rfl | hb
   ·omega
   ·exact h.1 b hb
theorem zDq : ∀ l, (zFw l).Pairwise (· ≤ ·)
 | [] => .nil
 | a :: l => zFN a (zDq l)
theorem zLb (l : List Int) : srtI l = zFw l := List.Perm.eq_of_pairwise (le := (· ≤ ·)) (fun a b _ _ h1 h2 => by omega) (zHH l).2 (zDq l) ((zHH l).1.trans (zFv l).symm)
def zJn (l : List Int) : Option (List Int) := if l.length ≤ 4294967296 then some (zFw l) else none
theorem zLZ : srtO = zJn := funext fun l => by unfold srtO zJn; rw [zLb]
def YC (b : zK) (ships : (List (Int × Bool))) (l : (List Int)) : Option ZL :=
 Option.bind (zJn l) fun l1 =>
 Lp (Yx b ships l1) fuel (0, [])
theorem zBV : @jX = @YC := by
 unfold jX YC
 simp only [zLZ]
def YD (b : zK) (ships : (List (Int × Bool))) : (Int × (List Int)) → Option ((Int × (List Int)) ⊕ ZL)
 | (x3, l8) =>
  if decide (x3 < (b.calls.length : Int)) then
   Option.bind (ix b.calls x3) fun x2 =>
   if ((ZH x3 ships).getD false) then
    Option.bind (app l8 ([x2.ID])) fun l7 =>
    jC x3 l7
   else
    jC x3 l8
  else
   ((YC b ships l8).map Sum.inr)
theorem zBW : @J8 = @YD := by
 unfold J8 YD
 simp only [zBV]
def yN (b : zK) (ships : (List (Int × Bool))) : Option ZL :=
 Lp (YD b ships) fuel (0, [])
theorem qY : @JM = @yN := by
 unfold JM yN
 simp only [zBW]
def zAQ (y1 : zK) (m2 : (List (Int × Bool))) : Option (ZL × Bool × Int) :=
 Option.bind (yN y1 m2) fun y3 =>
 some (y3, true, 0)
theorem zEZ : @Yc = @zAQ := by
 unfold Yc zAQ
 simp only [qY]
def zAT (l : (List zN)) (y1 : zK) (m1 : (List (Int × Int))) : (Bool × (List (Int × Bool))) → Option ((Bool × (List (Int × Bool))) ⊕ (ZL × Bool × Int))
 | (more4, m7) =>
  if more4 then
   Lp (zBX l y1 m1) fuel (false, 0, m7)
  else
   ((zAQ y1 m7).map Sum.inr)
theorem zEc : @zAA = @zAT := by
 unfold zAA zAT
 simp only [zEZ]
def zAR (l : (List zN)) (y1 : zK) (m : (List (Int × Bool))) (m1 : (List (Int × Int))) : Option (ZL × Bool × Int) :=
 if decide ((m.length : Int) = 0) then
  some ((⟨[], []⟩ : ZL), false, 0)
 else
  Lp (zAT l y1 m1) fuel (true, m)
theorem zEa : @Yd = @zAR := by
 unfold Yd zAR
 simp only [zEc]
def zAS (l : (List zN)) (y1 : zK) (y2 : (List Int) × Int) : (Int × (List (Int × Bool)) × (List (Int × Int))) → Option ((Int × (List (Int × Bool)) × (List (Int × Int))) ⊕ (ZL × Bool × Int))
 | (x5, m10, m11) =>
  if decide (x5 < (y2.1.length : Int)) then
   Option.bind (ix y2.1 x5) fun x4 =>
   if decide ((y1.slots.length : Int) ≤ x4) then
    yG x5 (putM posI m10 x5 true) m11
   else
    yG x5 m10 (putM posI m11 x4 x5)
  else
   ((zAR l y1 m10 m11).map Sum.inr)
theorem zEb : @qz = @zAS := by
 unfold qz zAS
 simp only [zEa]
def zB6 (h : zL) (l : (List zN)) : Option (ZL × Bool × Int) :=
 Option.bind (Zo h l) fun y =>
 if !decide (y = 0) then
  some ((⟨[], []⟩ : ZL), false, y)
 else
  Option.bind (yF h l) fun y1 =>
  Option.bind (Zn y1 []) fun y2 =>
  Lp (zAS l y1 y2) fuel (0, [], [])
theorem zGp : @zA9 = @zB6 := by
 unfold zA9 zB6
 simp only [zEb]
def Y0 (h : zL) (l : (List zN)) (x : ZL) (m : (List (Int × Bool))) : Option (Int × Int) :=
 Option.bind (yF h l) fun y1 =>
 Option.bind (yN y1 m) fun y2 =>
 gb (!(decide ((x.Calls.length : Int) = 0))) (slices_Equal_int x.Calls y2.Calls) fun y3 =>
 gb (!(((decide ((x.Calls.length : Int) = 0)) || (!y3)))) (Js x.Slots y2.Slots) fun y4 =>
 if ((((decide ((x.Calls.length : Int) = 0)) || (!y3)) || (!y4)) || (decide ((x.Calls.length : Int) ≤ (x.Slots.length : Int)))) then
  some (0, 8)
 else
  some (w64 ((x.Calls.length : Int) - (x.Slots.length : Int)), 0)
theorem zB7 : @JA = @Y0 := by
 unfold JA Y0
 simp only [qY]
def Y1 (h : zL) (l : (List zN)) (x : ZL) : (Int × (List (Int × Bool))) → Option ((Int × (List (Int × Bool))) ⊕ (Int × Int))
 | (x2, m2) =>
  if decide (x2 < (x.Calls.length : Int)) then
   Option.bind (ix x.Calls x2) fun x1 =>
   Option.bind (ZB l x1) fun y5 =>
   if decide (0 ≤ y5) then
    jV x2 (putM posI m2 y5 true)
   else
    jV x2 m2
  else
   ((Y0 h l x m2).map Sum.inr)
theorem zB8 : @YF = @Y1 := by
 unfold YF Y1
 simp only [zB7]
def qQ (h : zL) (l : (List zN)) (x : ZL) : Option (Int × Int) :=
 Option.bind (Zo h l) fun y =>
 if !decide (y = 0) then
  some (0, y)
 else
  Lp (Y1 h l x) fuel (0, [])
theorem zDD : @YR = @qQ := by
 unfold YR qQ
 simp only [zB8]
def zCf : Option Bool :=
 Option.bind (zBE (ZZ) 1 130) fun y =>
 Option.bind (Q6 (ZZ) 2 700 (⟨60, 200⟩ : zD)) fun y1 =>
 Option.bind (Q6 (ZZ) 2 600 (⟨60, 200⟩ : zD)) fun y2 =>
 Option.bind (jc 1) fun y3 =>
 Option.bind (ix y3 0) fun x =>
 Option.bind (zB5 (ZZ) x (⟨0, 2⟩ : zF)) fun y4 =>
 Option.bind (zBF (ZZ) (⟨0, 2⟩ : zF) 120) fun y5 =>
 Option.bind (jc 3) fun y6 =>
 Option.bind (YE (ZZ) y6) fun y7 =>
 Option.bind (jc 5) fun y8 =>
 Option.bind (zB6 (ZZ) y8) fun y9 =>
 Option.bind (jc 5) fun y10 =>
 Option.bind (qQ (ZZ) y10 y9.1) fun y11 =>
 if (((((((((!decide (y.2 = 0)) || (!decide (y1.2.2 = 0))) || (!decide (y2.2.2 = 0))) || (!decide (y4.2.2 = 0))) || (!decide (y5.2 = 0))) || (!decide (y7.2 = 0))) || (!decide (y9.2.2 = 0))) || (!decide (y11.2 = 0))) || (!decide ((y7.1.length : Int) = 3))) then
  some false
 else
  gb (((((((((decide (y.1 = 1000)) && y1.2.1) && (decide (y1.1 = 60))) && (!y2.2.1)) && y4.2.1) && (decide (y4.1 = (⟨120, 179⟩ : zD)))) && (decide (y5.1 = 650))))) (ix y7.1 2) fun x1 =>
  some ((((((((((((decide (y.1 = 1000)) && y1.2.1) && (decide (y1.1 = 60))) && (!y2.2.1)) && y4.2.1) && (decide (y4.1 = (⟨120, 179⟩ : zD)))) && (decide (y5.1 = 650))) && (decide (x1 = (⟨13, (⟨1, 1⟩ : zF), (⟨240, 299⟩ : zD)⟩ : zP)))) && y9.2.1) && (decide ((y9.1.Calls.length : Int) = 5))) && (decide ((y9.1.Slots.length : Int) = 4))) && (decide (y11.1 = 1)))
theorem zEv : @J4 = @zCf := by
 unfold J4 zCf
 simp only [zDD, zGp]
theorem sanity06 : J4 = some true := by
 rw [zEv]
 decide +kernel
end Go.Mx
