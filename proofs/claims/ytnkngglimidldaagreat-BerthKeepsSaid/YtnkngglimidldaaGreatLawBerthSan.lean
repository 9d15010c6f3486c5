/- Plain laws, berths: the chapter's examples, by the kernel. Conditions: none. -/
import Derived.Test.YtnkngglimidldaaGreatM
set_option linter.unusedVariables false
namespace Go.Mx
def insK (x : Int) : List Int → List Int
 | [] => [x]
 | a :: l => if x ≤ a then x :: a :: l else a :: insK x l
def zFS : List Int → List Int
 | [] => []
 | a :: l => insK a (zFS l)
theorem zEQ (x : Int) : ∀ l, (insK x l).Perm (x :: l)
 | [] => List.Perm.refl _
 | a :: l => by
  unfold insK
  split
  ·exact List.Perm.refl _
  ·exact ((zEQ x l).cons a).trans (List.Perm.swap x a l)
theorem zFR : ∀ l, (zFS l).Perm l
 | [] => List.Perm.refl _
 | a :: l => (zEQ a (zFS l)).trans ((zFR l).cons a)
theorem zEs (x : Int) : ∀ {l : List Int}, l.Pairwise (· ≤ ·) → (insK x l).Pairwise (· ≤ ·)
 | [], _ => by simp [insK]
 | a :: l, h => by
  unfold insK
  rw [List.pairwise_cons] at h
  split
  ·rename_i e
   refine List.pairwise_cons.2 ⟨fun b hb => ?_, List.pairwise_cons.2 h⟩
   rcases List.mem_cons.1 hb with rfl | hb
   ·exact e
   ·have := h.1 b hb; omega
  ·rename_i e
   refine List.pairwise_cons.2 ⟨fun b hb => ?_, zEs x h.2⟩
   rcases List.mem_cons.1 ((zEQ x l).mem_iff.1 hb) with rfl | hb
   ·omega
   ·exact h.1 b hb
theorem zDI : ∀ l, (zFS l).Pairwise (· ≤ ·)
 | [] => .nil
 | a :: l => zEs a (zDI l)
theorem zLJ (l : List Int) : srtI l = zFS l := List.Perm.eq_of_pairwise (le := (· ≤ ·)) (fun a b _ _ h1 h2 => by omega) (zGp l).2 (zDI l) ((zGp l).1.trans (zFR l).symm)
def zJS (l : List Int) : Option (List Int) := if l.length ≤ 4294967296 then some (zFS l) else none
theorem zLH : srtO = zJS := funext fun l => by unfold srtO zJS; rw [zLJ]
def yR (b : zJ) (ships : (List (Int × Bool))) (l : (List Int)) : Option ZE :=
 Option.bind (zJS l) fun l1 =>
 Lp (YP b ships l1) fuel (0, [])
theorem zAq : @jN = @yR := by
 unfold jN yR
 simp only [zLH]
def yS (b : zJ) (ships : (List (Int × Bool))) : (Int × (List Int)) → Option ((Int × (List Int)) ⊕ ZE)
 | (x3, l8) =>
  if decide (x3 < (b.calls.length : Int)) then
   Option.bind (ix b.calls x3) fun x2 =>
   if ((ZA x3 ships).getD false) then
    Option.bind (app l8 ([x2.ID])) fun l7 =>
    Z2 x3 l7
   else
    Z2 x3 l8
  else
   ((yR b ships l8).map Sum.inr)
theorem zAr : @Jl = @yS := by
 unfold Jl yS
 simp only [zAq]
def J0 (b : zJ) (ships : (List (Int × Bool))) : Option ZE :=
 Lp (yS b ships) fuel (0, [])
theorem Qz : @j3 = @J0 := by
 unfold j3 J0
 simp only [zAr]
def qb (y1 : zJ) (m2 : (List (Int × Bool))) : Option (ZE × Bool × Int) :=
 Option.bind (J0 y1 m2) fun y3 =>
 some (y3, true, 0)
theorem zD1 : @yu = @qb := by
 unfold yu qb
 simp only [Qz]
def qe (l : (List zM)) (y1 : zJ) (m1 : (List (Int × Int))) : (Bool × (List (Int × Bool))) → Option ((Bool × (List (Int × Bool))) ⊕ (ZE × Bool × Int))
 | (more4, m7) =>
  if more4 then
   Lp (zAs l y1 m1) fuel (false, 0, m7)
  else
   ((qb y1 m7).map Sum.inr)
theorem zD4 : @qK = @qe := by
 unfold qK qe
 simp only [zD1]
def qc (l : (List zM)) (y1 : zJ) (m : (List (Int × Bool))) (m1 : (List (Int × Int))) : Option (ZE × Bool × Int) :=
 if decide ((m.length : Int) = 0) then
  some ((⟨[], []⟩ : ZE), false, 0)
 else
  Lp (qe l y1 m1) fuel (true, m)
theorem zD2 : @yw = @qc := by
 unfold yw qc
 simp only [zD4]
def qd (l : (List zM)) (y1 : zJ) (y2 : (List Int) × Int) : (Int × (List (Int × Bool)) × (List (Int × Int))) → Option ((Int × (List (Int × Bool)) × (List (Int × Int))) ⊕ (ZE × Bool × Int))
 | (x5, m10, m11) =>
  if decide (x5 < (y2.1.length : Int)) then
   Option.bind (ix y2.1 x5) fun x4 =>
   if decide ((y1.slots.length : Int) ≤ x4) then
    Jt x5 (putM posI m10 x5 true) m11
   else
    Jt x5 m10 (putM posI m11 x4 x5)
  else
   ((qc l y1 m10 m11).map Sum.inr)
theorem zD3 : @qJ = @qd := by
 unfold qJ qd
 simp only [zD2]
def zBU (h : zK) (l : (List zM)) : Option (ZE × Bool × Int) :=
 Option.bind (Zh h l) fun y =>
 if !decide (y = 0) then
  some ((⟨[], []⟩ : ZE), false, y)
 else
  Option.bind (Js h l) fun y1 =>
  Option.bind (Zg y1 []) fun y2 =>
  Lp (qd l y1 y2) fuel (0, [], [])
theorem zGM : @zAU = @zBU := by
 unfold zAU zBU
 simp only [zD3]
def YS (h : zK) (l : (List zM)) (x : ZE) (m : (List (Int × Bool))) : Option (Int × Int) :=
 Option.bind (Js h l) fun y1 =>
 Option.bind (J0 y1 m) fun y2 =>
 gb (!(decide ((x.Calls.length : Int) = 0))) (YX x.Calls y2.Calls) fun y3 =>
 gb (!(((decide ((x.Calls.length : Int) = 0)) || (!y3)))) (JY x.Slots y2.Slots) fun y4 =>
 if ((((decide ((x.Calls.length : Int) = 0)) || (!y3)) || (!y4)) || (decide ((x.Calls.length : Int) ≤ (x.Slots.length : Int)))) then
  some (0, 8)
 else
  some (w64 ((x.Calls.length : Int) - (x.Slots.length : Int)), 0)
theorem zBV : @jn = @YS := by
 unfold jn YS
 simp only [Qz]
def YT (h : zK) (l : (List zM)) (x : ZE) : (Int × (List (Int × Bool))) → Option ((Int × (List (Int × Bool))) ⊕ (Int × Int))
 | (x2, m2) =>
  if decide (x2 < (x.Calls.length : Int)) then
   Option.bind (ix x.Calls x2) fun x1 =>
   Option.bind (zv l x1) fun y5 =>
   if decide (0 ≤ y5) then
    jL x2 (putM posI m2 y5 true)
   else
    jL x2 m2
  else
   ((YS h l x m2).map Sum.inr)
theorem zBW : @yU = @YT := by
 unfold yU YT
 simp only [zBV]
def Qt (h : zK) (l : (List zM)) (x : ZE) : Option (Int × Int) :=
 Option.bind (Zh h l) fun y =>
 if !decide (y = 0) then
  some (0, y)
 else
  Lp (YT h l x) fuel (0, [])
theorem zCf : @yh = @Qt := by
 unfold yh Qt
 simp only [zBW]
def zB5 : Option Bool :=
 Option.bind (zAZ (ZR) 1 130) fun y =>
 Option.bind (QX (ZR) 2 700 (⟨60, 200⟩ : zD)) fun y1 =>
 Option.bind (QX (ZR) 2 600 (⟨60, 200⟩ : zD)) fun y2 =>
 Option.bind (jS 1) fun y3 =>
 Option.bind (ix y3 0) fun x =>
 Option.bind (zBT (ZR) x (⟨0, 2⟩ : zE)) fun y4 =>
 Option.bind (zAa (ZR) (⟨0, 2⟩ : zE) 120) fun y5 =>
 Option.bind (jS 3) fun y6 =>
 Option.bind (yT (ZR) y6) fun y7 =>
 Option.bind (jS 5) fun y8 =>
 Option.bind (zBU (ZR) y8) fun y9 =>
 Option.bind (jS 5) fun y10 =>
 Option.bind (Qt (ZR) y10 y9.1) fun y11 =>
 if (((((((((!decide (y.2 = 0)) || (!decide (y1.2.2 = 0))) || (!decide (y2.2.2 = 0))) || (!decide (y4.2.2 = 0))) || (!decide (y5.2 = 0))) || (!decide (y7.2 = 0))) || (!decide (y9.2.2 = 0))) || (!decide (y11.2 = 0))) || (!decide ((y7.1.length : Int) = 3))) then
  some false
 else
  gb (((((((((decide (y.1 = 1000)) && y1.2.1) && (decide (y1.1 = 60))) && (!y2.2.1)) && y4.2.1) && (decide (y4.1 = (⟨120, 179⟩ : zD)))) && (decide (y5.1 = 650))))) (ix y7.1 2) fun x1 =>
  some ((((((((((((decide (y.1 = 1000)) && y1.2.1) && (decide (y1.1 = 60))) && (!y2.2.1)) && y4.2.1) && (decide (y4.1 = (⟨120, 179⟩ : zD)))) && (decide (y5.1 = 650))) && (decide (x1 = (⟨13, (⟨1, 1⟩ : zE), (⟨240, 299⟩ : zD)⟩ : zO)))) && y9.2.1) && (decide ((y9.1.Calls.length : Int) = 5))) && (decide ((y9.1.Slots.length : Int) = 4))) && (decide (y11.1 = 1)))
theorem zEP : @Jh = @zB5 := by
 unfold Jh zB5
 simp only [zCf, zGM]
theorem sanity06 : Jh = some true := by
 rw [zEP]
 decide +kernel
end Go.Mx
