/- Functions of the program as plain functions. Conditions: none. Printed by a program (wip/tools/xg.py). -/
import Derived.Test.YtnkngglimidldaaGreatXl
set_option linter.unusedVariables false
namespace Go.Mx
structure zp where
 ID : Int
 Begin : Int
 Every : Int
 Heights : (List Int)
 deriving DecidableEq, Inhabited
structure yD where
 From : Int
 To : Int
 Add : Int
 deriving DecidableEq, Inhabited
structure zX where
 Level : Int
 Cycles : (List zp)
 Shifts : (List yD)
 deriving DecidableEq, Inhabited
structure zj where
 ID : Int
 Depth : Int
 deriving DecidableEq, Inhabited
structure zD where
 Lo : Int
 Hi : Int
 deriving DecidableEq, Inhabited
structure zK where
 Water : zX
 Berths : (List zj)
 Tides : (List zD)
 Keel : Int
 deriving DecidableEq, Inhabited
structure zM where
 ID : Int
 Draught : Int
 From : Int
 To : Int
 Long : Int
 deriving DecidableEq, Inhabited
structure zE where
 Tide : Int
 Berth : Int
 deriving DecidableEq, Inhabited
structure zO where
 Call : Int
 Slot : zE
 Span : zD
 deriving DecidableEq, Inhabited
def Qi (h : zK) : Option Bool :=
 some ((((decide ((h.Water.Cycles.length : Int) ≤ 8)) && (decide ((h.Water.Shifts.length : Int) ≤ 25))) && (decide ((h.Berths.length : Int) ≤ 10))) && ((decide ((h.Tides.length : Int) ≤ 3)) || ((decide (12 < (h.Tides.length : Int))) && (decide ((h.Tides.length : Int) ≤ 20)))))
def Qj (h : zK) : Int → Option (Int ⊕ Bool)
 | i =>
  if decide (i < (h.Tides.length : Int)) then
   Option.bind (ix h.Tides i) fun x =>
   Option.bind (ix h.Tides i) fun x1 =>
   if ((decide (240 ≤ (w64 (x.Hi - x1.Lo)))) && (decide ((w64 (x.Hi - x1.Lo)) < 1440))) then
    some (.inr false)
   else
    some (.inl (w64 (i + 1)))
  else
   ((Qi h).map Sum.inr)
def qV (h : zK) : Option Bool :=
 Lp (Qj h) fuel 0
def ZR : zK :=
 (⟨(⟨500, [(⟨1, 0, 60, [0, 100, 200, 100]⟩ : zp)], []⟩ : zX), [(⟨1, 300⟩ : zj), (⟨2, 100⟩ : zj)], [(⟨0, 239⟩ : zD), (⟨240, 479⟩ : zD)], 50⟩ : zK)
def zf (n : Int) (lo : Int) (hi : Int) : Bool :=
 ((decide (lo ≤ n)) && (decide (n ≤ hi)))
def Zk (n : Int) : Bool :=
 (zf n (-4000) 4000)
def Zo (tick : Int) : Bool :=
 (zf tick 0 1048576)
def jT (h : Int) : Bool :=
 !(Zk h)
def Zm : Option Int :=
 some (-1)
def Z5 (s : (List Int)) : Int → Option (Int ⊕ Int)
 | x1 =>
  if decide (x1 < (s.length : Int)) then
   Option.bind (ix s x1) fun x =>
   if (jT x) then
    some (.inr x1)
   else
    some (.inl (w64 (x1 + 1)))
  else
   ((Zm).map Sum.inr)
def Zb (s : (List Int)) : Option Int :=
 Lp (Z5 s) fuel 0
def ZF (s : (List Int)) : Option Bool :=
 Option.bind (Zb s) fun y =>
 some (decide (0 ≤ y))
def QG (c : zp) : Option Bool :=
 gb ((((((zf c.ID 1 1099511627776) && (Zo c.Begin)) && (zf c.Every 1 120)) && (zf (c.Heights.length : Int) 1 60)))) (ZF c.Heights) fun y =>
 some (((((zf c.ID 1 1099511627776) && (Zo c.Begin)) && (zf c.Every 1 120)) && (zf (c.Heights.length : Int) 1 60)) && (!y))
def yI (x : zp) (c : zp) : Bool :=
 decide (x.ID = c.ID)
def ZV : Option Int :=
 some (-1)
def ZM (s : (List zp)) (c : zp) : Int → Option (Int ⊕ Int)
 | x1 =>
  if decide (x1 < (s.length : Int)) then
   Option.bind (ix s x1) fun x =>
   if (yI x c) then
    some (.inr x1)
   else
    some (.inl (w64 (x1 + 1)))
  else
   ((ZV).map Sum.inr)
def zz (s : (List zp)) (c : zp) : Option Int :=
 Lp (ZM s c) fuel 0
def ZD (s : (List zp)) (c : zp) : Option Bool :=
 Option.bind (zz s c) fun y =>
 some (decide (0 ≤ y))
def qA : Option Int :=
 some 0
def Yw (w : zX) : (Int × Int) → Option ((Int × Int) ⊕ Int)
 | (last, x1) =>
  if decide (x1 < (w.Shifts.length : Int)) then
   Option.bind (ix w.Shifts x1) fun x =>
   if (((!(zf x.From (w64 (last + 1)) x.To)) || (decide (728 < x.To))) || (!(Zk x.Add))) then
    some (.inr 1)
   else
    some (.inl (x.To, w64 (x1 + 1)))
  else
   ((qA).map Sum.inr)
def JG (w : zX) : Option Int :=
 Lp (Yw w) fuel ((-1), 0)
def Yv (w : zX) : Int → Option (Int ⊕ Int)
 | x3 =>
  if decide (x3 < (w.Cycles.length : Int)) then
   Option.bind (ix w.Cycles x3) fun x2 =>
   Option.bind (QG x2) fun y =>
   if !y then
    some (.inr 1)
   else
    Option.bind (sub w.Cycles 0 x3) fun l =>
    Option.bind (ZD l x2) fun y1 =>
    if y1 then
     some (.inr 6)
    else
     some (.inl (w64 (x3 + 1)))
  else
   ((JG w).map Sum.inr)
def yJ (w : zX) : Option Int :=
 if !(Zk w.Level) then
  some 1
 else
  if ((decide (6 < (w.Cycles.length : Int))) || (decide (20 < (w.Shifts.length : Int)))) then
   some 2
  else
   Lp (Yv w) fuel 0
def zY (n : Int) (lo : Int) (hi : Int) : Bool :=
 ((decide (lo ≤ n)) && (decide (n ≤ hi)))
def Y5 (b : zj) : Int :=
 b.ID
def Zi (x : zj) (c : Int) : Bool :=
 decide ((Y5 x) = c)
def zq : Option Int :=
 some (-1)
def zh (s : (List zj)) (c : Int) : Int → Option (Int ⊕ Int)
 | x1 =>
  if decide (x1 < (s.length : Int)) then
   Option.bind (ix s x1) fun x =>
   if (Zi x c) then
    some (.inr x1)
   else
    some (.inl (w64 (x1 + 1)))
  else
   ((zq).map Sum.inr)
def zu (s : (List zj)) (c : Int) : Option Int :=
 Lp (zh s c) fuel 0
def zo (l : (List zj)) (id : Int) : Option Int :=
 Option.bind (zu l id) fun y =>
 some y
def je (s : zD) : Bool :=
 ((((decide (0 ≤ s.Lo)) && (decide (s.Lo ≤ s.Hi))) && (decide (s.Hi ≤ 1048576))) && (decide ((w64 (s.Hi - s.Lo)) < 1440)))
def YQ (h : zK) : Option Int :=
 if !(zY h.Keel 0 8000) then
  some 1
 else
  some 0
def Qs (h : zK) : (Int × Int) → Option ((Int × Int) ⊕ Int)
 | (last, x1) =>
  if decide (x1 < (h.Tides.length : Int)) then
   Option.bind (ix h.Tides x1) fun x =>
   if ((!(je x)) || (decide (x.Lo ≤ last))) then
    some (.inr 1)
   else
    some (.inl (x.Hi, w64 (x1 + 1)))
  else
   ((YQ h).map Sum.inr)
def YR (h : zK) : Option Int :=
 Lp (Qs h) fuel ((-1), 0)
def Qr (h : zK) : Int → Option (Int ⊕ Int)
 | x3 =>
  if decide (x3 < (h.Berths.length : Int)) then
   Option.bind (ix h.Berths x3) fun x2 =>
   if ((!(zY x2.ID 1 1099511627776)) || (!(zY x2.Depth 0 8000))) then
    some (.inr 1)
   else
    Option.bind (zo h.Berths x2.ID) fun y1 =>
    if decide (y1 < x3) then
     some (.inr 6)
    else
     some (.inl (w64 (x3 + 1)))
  else
   ((YR h).map Sum.inr)
def Jm (h : zK) : Option Int :=
 Option.bind (yJ h.Water) fun y =>
 if !decide (y = 0) then
  some y
 else
  if ((decide (6 < (h.Berths.length : Int))) || (decide (12 < (h.Tides.length : Int)))) then
   some 2
  else
   Lp (Qr h) fuel 0
def zBC (w : zX) : Option zX := if w.Cycles.length ≤ 9223372036854775807 then some w else none
def YV (w : zX) : Option (zX × zX) :=
 Option.bind (zBC w) fun y =>
 some (w, y)
def yG : Option Int :=
 some 0
def yH (w : zX) (tick : Int) : Int → Option (Int ⊕ Int)
 | x1 =>
  if decide (x1 < (w.Shifts.length : Int)) then
   Option.bind (ix w.Shifts x1) fun x =>
   Option.bind (quo tick 1440) fun q =>
   if (zf q x.From x.To) then
    some (.inr x.Add)
   else
    some (.inl (w64 (x1 + 1)))
  else
   ((yG).map Sum.inr)
def yW (w : zX) (tick : Int) : Option Int :=
 Lp (yH w tick) fuel 0
def qo (tick : Int) (c : zX) : Option Int :=
 Option.bind (yW c tick) fun y =>
 some y
def Q2 (a : Int) (b : Int) : Option (Int × Int) :=
 Option.bind (rem a b) fun q =>
 Option.bind (rem (w64 (q + b)) b) fun q1 =>
 Option.bind (quo (w64 (a - q1)) b) fun q2 =>
 some (q2, q1)
def zAB (c : zp) (tick : Int) : Option Int :=
 Option.bind (Q2 (w64 (tick - c.Begin)) c.Every) fun y =>
 Option.bind (Q2 y.1 (c.Heights.length : Int)) fun y1 =>
 Option.bind (ix c.Heights y1.2) fun x =>
 some x
def qn (tick : Int) (c : zp) : Option Int :=
 Option.bind (zAB c tick) fun y =>
 some y
def yz (h : Int) : Option Int :=
 some h
def y0 (tick : Int) (c : zX) (c1 : zX) : (Int × Int) → Option ((Int × Int) ⊕ Int)
 | (h1, i) =>
  if decide (i < (c.Cycles.length : Int)) then
   if decide (i = -1) then
    Option.bind (qo tick c1) fun y =>
    some (.inl (w64 (h1 + y), w64 (i + 1)))
   else
    Option.bind (ix c1.Cycles i) fun c2 =>
    Option.bind (qn tick c2) fun y1 =>
    some (.inl (w64 (h1 + y1), w64 (i + 1)))
  else
   ((yz h1).map Sum.inr)
def JR (tick : Int) (c : zX) (c1 : zX) : Option Int :=
 Lp (y0 tick c c1) fuel (c.Level, (-1))
def zBh (w : zX) (tick : Int) : Option (Int × Int) :=
 Option.bind (yJ w) fun y =>
 if !decide (y = 0) then
  some (0, y)
 else
  if !(Zo tick) then
   some (0, 1)
  else
   Option.bind (YV w) fun y1 =>
   Option.bind (JR tick y1.1 y1.2) fun y2 =>
   some (y2, 0)
def zAZ (h : zK) (id : Int) (tick : Int) : Option (Int × Int) :=
 Option.bind (Jm h) fun y =>
 if !decide (y = 0) then
  some (0, y)
 else
  Option.bind (zo h.Berths id) fun y1 =>
  if decide (y1 < 0) then
   some (0, 5)
  else
   Option.bind (zBh h.Water tick) fun y2 =>
   if !decide (y2.2 = 0) then
    some (0, 1)
   else
    Option.bind (ix h.Berths y1) fun x =>
    some (w64 (x.Depth + y2.1), 0)
def yQ (h : zK) (b : zj) (draught : Int) : Int :=
 w64 ((w64 (draught + h.Keel)) - b.Depth)
def QY (s : zD) : Int :=
 if (((decide (s.Lo < 0)) || (decide (s.Hi < s.Lo))) || (decide (1048576 < s.Hi))) then
  1
 else
  if decide (10080 ≤ (w64 (s.Hi - s.Lo))) then
   2
  else
   0
def zAC (w : zX) (s : zD) : Option Int :=
 Option.bind (yJ w) fun y =>
 if !decide (y = 0) then
  some y
 else
  some (QY s)
def ZJ (w : zX) (s : zD) : zX × zD :=
 (w, s)
def yX (height : Int) (Lo : Int) (Hi : Int) (Height : Int) (l : (List zD)) : Option ((List zD) × Int) :=
 if decide (Height < height) then
  some (l, 0)
 else
  gb ((decide (0 < (l.length : Int)))) (ix l (w64 ((l.length : Int) - 1))) fun x =>
  if ((decide (0 < (l.length : Int))) && (decide ((w64 (x.Hi + 1)) = Lo))) then
   Option.bind (ix l (w64 ((l.length : Int) - 1))) fun x1 =>
   some ((put l (w64 ((l.length : Int) - 1)) (⟨x1.Lo, Hi⟩ : zD)), 0)
  else
   Option.bind (app l ([(⟨Lo, Hi⟩ : zD)])) fun l1 =>
   some (l1, 0)
def Z3 (t : Int) (Lo1 : Int) (Height1 : Int) (l2 : (List zD)) : Option ((Int × Int × Int × Int × (List zD)) ⊕ ((List zD) × Int)) :=
 some (.inl (w64 (t + 1), Lo1, t, Height1, l2))
def Y9 (w : zX) (s : zD) (height : Int) (y1 : zX × zX) : (Int × Int × Int × Int × (List zD)) → Option ((Int × Int × Int × Int × (List zD)) ⊕ ((List zD) × Int))
 | (t, Lo2, Hi1, Height2, l5) =>
  if decide (t ≤ ((ZJ w s).2.Hi)) then
   Option.bind (JR t y1.1 y1.2) fun y3 =>
   if decide (y3 = Height2) then
    Z3 t Lo2 Height2 l5
   else
    if decide (Height2 < height) then
     Z3 t t y3 l5
    else
     gb ((decide (0 < (l5.length : Int)))) (ix l5 (w64 ((l5.length : Int) - 1))) fun x2 =>
     if ((decide (0 < (l5.length : Int))) && (decide ((w64 (x2.Hi + 1)) = Lo2))) then
      Option.bind (ix l5 (w64 ((l5.length : Int) - 1))) fun x3 =>
      Z3 t t y3 (put l5 (w64 ((l5.length : Int) - 1)) (⟨x3.Lo, Hi1⟩ : zD))
     else
      Option.bind (app l5 ([(⟨Lo2, Hi1⟩ : zD)])) fun l3 =>
      Z3 t t y3 l3
  else
   ((yX height Lo2 Hi1 Height2 l5).map Sum.inr)
def YW (w : zX) (s : zD) (height : Int) : Option ((List zD) × Int) :=
 Option.bind (zAC w s) fun y =>
 if !decide (y = 0) then
  some ([], y)
 else
  Option.bind (YV ((ZJ w s).1)) fun y1 =>
  Option.bind (JR ((ZJ w s).2.Lo) y1.1 y1.2) fun y2 =>
  Lp (Y9 w s height y1) fuel (w64 (((ZJ w s).2.Lo) + 1), (ZJ w s).2.Lo, (ZJ w s).2.Lo, y2, [])
def QX (h : zK) (id : Int) (draught : Int) (s : zD) : Option (Int × Bool × Int) :=
 Option.bind (Jm h) fun y =>
 if !decide (y = 0) then
  some (0, false, y)
 else
  Option.bind (zo h.Berths id) fun y1 =>
  if decide (y1 < 0) then
   some (0, false, 5)
  else
   if ((!(zY draught 0 8000)) || (!(je s))) then
    some (0, false, 1)
   else
    Option.bind (ix h.Berths y1) fun x =>
    Option.bind (YW h.Water s (yQ h x draught)) fun y2 =>
    if !decide (y2.2 = 0) then
     some (0, false, y2.2)
    else
     gb (!(decide ((y2.1.length : Int) = 0))) (ix y2.1 0) fun x1 =>
     if ((decide ((y2.1.length : Int) = 0)) || (decide (s.Lo < x1.Lo))) then
      some (s.Lo, true, 0)
     else
      Option.bind (ix y2.1 0) fun x2 =>
      if decide (x2.Hi < s.Hi) then
       Option.bind (ix y2.1 0) fun x3 =>
       some (w64 (x3.Hi + 1), true, 0)
      else
       some (0, false, 0)
def Yd (l : (List zM)) : Option (List zM) :=
 some l
def zA2 (n : Int) : (Int × (List zM)) → Option ((Int × (List zM)) ⊕ (List zM))
 | (i, l2) =>
  if decide (i < n) then
   Option.bind (app l2 ([(⟨w64 (11 + i), 700, 0, 1000, 60⟩ : zM)])) fun l1 =>
   some (.inl (w64 (i + 1), l1))
  else
   ((Yd l2).map Sum.inr)
def jS (n : Int) : Option (List zM) :=
 Lp (zA2 n) fuel (0, [])
def YO (c : zM) : Bool :=
 ((((((zY c.ID 1 1099511627776) && (zY c.Draught 0 8000)) && (decide (0 ≤ c.From))) && (decide (c.From ≤ c.To))) && (decide (c.To ≤ 1048576))) && (zY c.Long 1 1440))
def QL (h : zK) (x : zE) : Option (zj × Bool) :=
 Option.bind (zo h.Berths x.Berth) fun y =>
 if ((decide (y < 0)) || (!(zY x.Tide 0 (w64 ((h.Tides.length : Int) - 1))))) then
  some ((⟨0, 0⟩ : zj), false)
 else
  Option.bind (ix h.Berths y) fun x1 =>
  some (x1, true)
def qp : Option (zD × Int) :=
 some ((⟨0, 0⟩ : zD), 5)
def qq (long : Int) (y : (List zD) × Int) : Int → Option (Int ⊕ (zD × Int))
 | x1 =>
  if decide (x1 < (y.1.length : Int)) then
   Option.bind (ix y.1 x1) fun x =>
   if decide ((w64 (long - 1)) ≤ (w64 (x.Hi - x.Lo))) then
    some (.inr (x, 0))
   else
    some (.inl (w64 (x1 + 1)))
  else
   ((qp).map Sum.inr)
def zAv (w : zX) (s : zD) (height : Int) (long : Int) : Option (zD × Int) :=
 Option.bind (YW w s height) fun y =>
 if !decide (y.2 = 0) then
  some ((⟨0, 0⟩ : zD), y.2)
 else
  if decide (long < 1) then
   some ((⟨0, 0⟩ : zD), 1)
  else
   Lp (qq long y) fuel 0
def YL (h : zK) (c : zM) (x : zE) (b : zj) : Option (zD × Bool) :=
 Option.bind (ix h.Tides x.Tide) fun x1 =>
 if decide ((min x1.Hi c.To) < (max x1.Lo c.From)) then
  some ((⟨0, 0⟩ : zD), false)
 else
  Option.bind (zAv h.Water (⟨max x1.Lo c.From, min x1.Hi c.To⟩ : zD) (yQ h b c.Draught) c.Long) fun y =>
  if !decide (y.2 = 0) then
   some ((⟨0, 0⟩ : zD), false)
  else
   some ((⟨y.1.Lo, w64 ((w64 (y.1.Lo + c.Long)) - 1)⟩ : zD), true)
def zBT (h : zK) (c : zM) (x : zE) : Option (zD × Bool × Int) :=
 Option.bind (Jm h) fun y =>
 if !decide (y = 0) then
  some ((⟨0, 0⟩ : zD), false, y)
 else
  if !(YO c) then
   some ((⟨0, 0⟩ : zD), false, 1)
  else
   Option.bind (QL h x) fun y1 =>
   if !y1.2 then
    some ((⟨0, 0⟩ : zD), false, 5)
   else
    Option.bind (YL h c x y1.1) fun y2 =>
    some (y2.1, y2.2, 0)
def qL (draught : Int) (c : zK) (c1 : Int) (c2 : zE) (c3 : zj) : Option Bool :=
 Option.bind (YL c (⟨0, draught, 0, 1048576, c1⟩ : zM) c2 c3) fun y =>
 some y.2
def Qu (lo : Int) : Option (Int × Int) :=
 some (lo, 0)
def YU (lo1 : Int) (hi : Int) : Option ((Int × Int) ⊕ (Int × Int)) :=
 some (.inl (lo1, hi))
def zCK (h : zK) (x : zE) (long : Int) (y1 : zj × Bool) : (Int × Int) → Option ((Int × Int) ⊕ (Int × Int))
 | (lo2, hi1) =>
  if decide (lo2 < hi1) then
   Option.bind (quo (w64 ((w64 (lo2 + hi1)) + 1)) 2) fun q =>
   Option.bind (qL q h long x y1.1) fun y3 =>
   if y3 then
    YU q hi1
   else
    YU lo2 (w64 (q - 1))
  else
   ((Qu lo2).map Sum.inr)
def zAa (h : zK) (x : zE) (long : Int) : Option (Int × Int) :=
 Option.bind (Jm h) fun y =>
 if !decide (y = 0) then
  some (0, y)
 else
  Option.bind (QL h x) fun y1 =>
  if !y1.2 then
   some (0, 5)
  else
   if !(zY long 1 1440) then
    some (0, 1)
   else
    Option.bind (qL 0 h long x y1.1) fun y2 =>
    if !y2 then
     some (0, 5)
    else
     Lp (zCK h x long y1) fuel (0, 8000)
def Qq (c : zM) : Int :=
 c.ID
def Zq (x : zM) (c : Int) : Bool :=
 decide ((Qq x) = c)
def zt : Option Int :=
 some (-1)
def zm (s : (List zM)) (c : Int) : Int → Option (Int ⊕ Int)
 | x1 =>
  if decide (x1 < (s.length : Int)) then
   Option.bind (ix s x1) fun x =>
   if (Zq x c) then
    some (.inr x1)
   else
    some (.inl (w64 (x1 + 1)))
  else
   ((zt).map Sum.inr)
def zy (s : (List zM)) (c : Int) : Option Int :=
 Lp (zm s c) fuel 0
def zv (l : (List zM)) (id : Int) : Option Int :=
 Option.bind (zy l id) fun y =>
 some y
def J1 : Option Int :=
 some 0
def J2 (l : (List zM)) : Int → Option (Int ⊕ Int)
 | x1 =>
  if decide (x1 < (l.length : Int)) then
   Option.bind (ix l x1) fun x =>
   if !(YO x) then
    some (.inr 1)
   else
    Option.bind (zv l x.ID) fun y1 =>
    if decide (y1 < x1) then
     some (.inr 6)
    else
     some (.inl (w64 (x1 + 1)))
  else
   ((J1).map Sum.inr)
def Zh (h : zK) (l : (List zM)) : Option Int :=
 Option.bind (Jm h) fun y =>
 if !decide (y = 0) then
  some y
 else
  if decide (10 < (l.length : Int)) then
   some 2
  else
   Lp (J2 l) fuel 0
def zV (h : zK) : zK :=
 h
def YM (x2 : Int) (l : (List zE)) (m : (List (zE × zD))) : Option ((Int × (List zE) × (List (zE × zD))) ⊕ ((List zE) × (List (zE × zD)))) :=
 some (.inl (w64 (x2 + 1), l, m))
def YN (h : zK) (c : zM) (x2 : Int) : (Int × (List zE) × (List (zE × zD))) → Option ((Int × (List zE) × (List (zE × zD))) ⊕ ((Int × (List zE) × (List (zE × zD))) ⊕ ((List zE) × (List (zE × zD)))))
 | (x1, l3, m2) =>
  if decide (x1 < (((zV h).Berths).length : Int)) then
   Option.bind (ix ((zV h).Berths) x1) fun x =>
   Option.bind (YL h c (⟨x2, x.ID⟩ : zE) x) fun y =>
   if y.2 then
    Option.bind (app l3 ([(⟨x2, x.ID⟩ : zE)])) fun l1 =>
    some (.inl (w64 (x1 + 1), l1, (putM posE m2 (⟨x2, x.ID⟩ : zE) y.1)))
   else
    some (.inl (w64 (x1 + 1), l3, m2))
  else
   ((YM x2 l3 m2).map Sum.inr)
def Qo (h : zK) (c : zM) : (Int × (List zE) × (List (zE × zD))) → Option ((Int × (List zE) × (List (zE × zD))) ⊕ ((List zE) × (List (zE × zD))))
 | (x2, l2, m1) =>
  if decide (x2 < (((zV h).Tides).length : Int)) then
   Lp (YN h c x2) fuel (0, l2, m1)
  else
   some (.inr (l2, m1))
def QW (h : zK) (c : zM) : Option ((List zE) × (List (zE × zD))) :=
 Lp (Qo h c) fuel (0, [], [])
structure zJ where
 calls : (List zM)
 slots : (List zE)
 can : (List (List (zE × zD)))
 old : (List Int)
 deriving DecidableEq, Inhabited
def Y3 (x4 : Int) (l1 : (List zE)) : Option ((Int × (List zE)) ⊕ zJ) :=
 some (.inl (w64 (x4 + 1), l1))
def Y4 (h : zK) (x4 : Int) : (Int × (List zE)) → Option ((Int × (List zE)) ⊕ ((Int × (List zE)) ⊕ zJ))
 | (x1, l3) =>
  if decide (x1 < (((zV h).Berths).length : Int)) then
   Option.bind (ix ((zV h).Berths) x1) fun x =>
   Option.bind (app l3 ([(⟨x4, x.ID⟩ : zE)])) fun l2 =>
   some (.inl (w64 (x1 + 1), l2))
  else
   ((Y3 x4 l3).map Sum.inr)
def Y2 (l : (List zM)) (l10 : (List zE)) (l4 : (List (List (zE × zD)))) (l5 : (List Int)) : Option ((Int × (List zE)) ⊕ zJ) :=
 some (.inr (⟨l, l10, l4, l5⟩ : zJ))
def qH (h : zK) (l : (List zM)) (l10 : (List zE)) : (Int × (List (List (zE × zD))) × (List Int)) → Option ((Int × (List (List (zE × zD))) × (List Int)) ⊕ ((Int × (List zE)) ⊕ zJ))
 | (x3, l8, l9) =>
  if decide (x3 < (l.length : Int)) then
   Option.bind (ix l x3) fun x2 =>
   Option.bind (QW h x2) fun y =>
   Option.bind (app l8 ([y.2])) fun l6 =>
   Option.bind (app l9 ([(-1)])) fun l7 =>
   some (.inl (w64 (x3 + 1), l6, l7))
  else
   ((Y2 l l10 l8 l9).map Sum.inr)
def qI (h : zK) (l : (List zM)) : (Int × (List zE)) → Option ((Int × (List zE)) ⊕ zJ)
 | (x4, l10) =>
  if decide (x4 < (((zV h).Tides).length : Int)) then
   Lp (Y4 h x4) fuel (0, l10)
  else
   Lp (qH h l l10) fuel (0, [], [])
def Js (h : zK) (l : (List zM)) : Option zJ :=
 Lp (qI h l) fuel (0, [])
def Za (b : zJ) (ship : Int) (l2 : (List Int)) : Option (List Int) :=
 Option.bind (ix l2 (w64 ((b.slots.length : Int) + ship))) fun x =>
 some (put l2 (w64 ((b.slots.length : Int) + ship)) 0)
def ZT (x6 : Int) (l3 : (List Int)) : Option ((Int × (List Int)) ⊕ (List Int)) :=
 some (.inl (w64 (x6 + 1), l3))
def jP (b : zJ) (ship : Int) : (Int × (List Int)) → Option ((Int × (List Int)) ⊕ (List Int))
 | (x6, l4) =>
  if decide (x6 < (b.slots.length : Int)) then
   Option.bind (ix b.slots x6) fun x1 =>
   Option.bind (ix b.can ship) fun x2 =>
   if (ZA x1 x2).isSome then
    Option.bind (ix l4 x6) fun x3 =>
    Option.bind (ix b.old ship) fun x4 =>
    if decide (x4 = x6) then
     Option.bind (ix (put l4 x6 (-1000)) x6) fun x5 =>
     ZT x6 (put (put l4 x6 (-1000)) x6 (-1001))
    else
     ZT x6 (put l4 x6 (-1000))
   else
    ZT x6 l4
  else
   ((Za b ship l4).map Sum.inr)
def Zj (b : zJ) (ship : Int) (l1 : (List Int)) : Option (List Int) :=
 Lp (jP b ship) fuel (0, l1)
def jO (b : zJ) (ship : Int) (l : (List Int)) : (Int × (List Int)) → Option ((Int × (List Int)) ⊕ (List Int))
 | (x8, l5) =>
  if decide (x8 < (l.length : Int)) then
   Option.bind (ix l5 x8) fun x7 =>
   some (.inl (w64 (x8 + 1), (put l5 x8 1073741824)))
  else
   ((Zj b ship l5).map Sum.inr)
def jX (b : zJ) (ship : Int) : Option (List Int) :=
 Option.bind (mkS (w64 ((b.slots.length : Int) + (b.calls.length : Int))) (w64 ((b.slots.length : Int) + (b.calls.length : Int))) (0 : Int)) fun l =>
 Lp (jO b ship l) fuel (0, l)
def yd (sum : Int) (l5 : (List Int)) : Option ((List Int) × Int) :=
 some (l5, sum)
def j5 (k : Int) (sum1 : Int) (l6 : (List Int)) : Option ((Int × Int × (List Int)) ⊕ ((List Int) × Int)) :=
 some (.inl (sum1, w64 (k + 1), l6))
def Jc (cost : (List (List Int))) (places : Int) (l3 : (List Int)) : (Int × Int × (List Int)) → Option ((Int × Int × (List Int)) ⊕ ((List Int) × Int))
 | (sum2, k, l7) =>
  if decide (k ≤ places) then
   Option.bind (ix l3 k) fun x =>
   if decide (0 < x) then
    Option.bind (ix l3 k) fun x1 =>
    Option.bind (ix l7 (w64 (x1 - 1))) fun x2 =>
    Option.bind (ix l3 k) fun x3 =>
    Option.bind (ix cost (w64 (x3 - 1))) fun x4 =>
    Option.bind (ix x4 (w64 (k - 1))) fun x5 =>
    j5 k (w64 (sum2 + x5)) (put l7 (w64 (x1 - 1)) (w64 (k - 1)))
   else
    j5 k sum2 l7
  else
   ((yd sum2 l7).map Sum.inr)
def j6 (cost : (List (List Int))) (places : Int) (l3 : (List Int)) : Option ((List Int) × Int) :=
 Option.bind (mkS (cost.length : Int) (cost.length : Int) (0 : Int)) fun l4 =>
 Lp (Jc cost places l3) fuel (0, 1, l4)
def yb (i : Int) (l12 : (List Int)) (l13 : (List Int)) (l15 : (List Int)) : Option ((Int × (List Int) × (List Int) × (List Int)) ⊕ ((List Int) × Int)) :=
 some (.inl (w64 (i + 1), l12, l13, l15))
def ye (i : Int) (l12 : (List Int)) (l13 : (List Int)) (l14 : (List Int)) : (Int × (List Int)) → Option ((Int × (List Int)) ⊕ ((Int × (List Int) × (List Int) × (List Int)) ⊕ ((List Int) × Int)))
 | (at_1, l16) =>
  if !decide (at_1 = 0) then
   Option.bind (ix l14 at_1) fun x7 =>
   Option.bind (ix l16 x7) fun x8 =>
   Option.bind (ix l16 at_1) fun x9 =>
   Option.bind (ix l14 at_1) fun x10 =>
   some (.inl (x10, (put l16 at_1 x8)))
  else
   ((yb i l12 l13 l16).map Sum.inr)
def yc (i : Int) (l42 : (List Int)) (at_ : Int) (l12 : (List Int)) (l13 : (List Int)) (l14 : (List Int)) : Option ((Int × (List Int) × (List Int) × (List Int)) ⊕ ((List Int) × Int)) :=
 Lp (ye i l12 l13 l14) fuel (at_, (put l42 0 i))
def jR (i : Int) (l42 : (List Int)) (at_2 : Int) (l38 : (List Bool)) (next : Int) (l18 : (List Int)) (l19 : (List Int)) (l20 : (List Int)) (l21 : (List Int)) : Option ((Int × (List Int) × (List Int) × (List Int) × (List Int) × (List Bool)) ⊕ ((Int × (List Int) × (List Int) × (List Int)) ⊕ ((List Int) × Int))) :=
 Option.bind (ix (put l42 0 i) next) fun x13 =>
 if decide (x13 = 0) then
  ((yc i l42 next l19 l20 l18).map Sum.inr)
 else
  some (.inl (next, l19, l20, l21, l18, (put l38 at_2 true)))
def jk (x22 : Int) (l22 : (List Int)) (l23 : (List Int)) (l24 : (List Int)) : Option ((Int × (List Int) × (List Int) × (List Int)) ⊕ ((Int × (List Int) × (List Int) × (List Int) × (List Int) × (List Bool)) ⊕ ((Int × (List Int) × (List Int) × (List Int)) ⊕ ((List Int) × Int)))) :=
 some (.inl (w64 (x22 + 1), l22, l23, l24))
def JL (i : Int) (l42 : (List Int)) (at_2 : Int) (l38 : (List Bool)) (next : Int) (step : Int) (l18 : (List Int)) : (Int × (List Int) × (List Int) × (List Int)) → Option ((Int × (List Int) × (List Int) × (List Int)) ⊕ ((Int × (List Int) × (List Int) × (List Int) × (List Int) × (List Bool)) ⊕ ((Int × (List Int) × (List Int) × (List Int)) ⊕ ((List Int) × Int))))
 | (x22, l25, l26, l27) =>
  if decide (x22 < ((put l38 at_2 true).length : Int)) then
   Option.bind (ix (put l38 at_2 true) x22) fun x14 =>
   if x14 then
    Option.bind (ix (put l42 0 i) x22) fun x15 =>
    Option.bind (ix l25 x15) fun x16 =>
    Option.bind (ix l25 x15) fun x17 =>
    Option.bind (ix l26 x22) fun x18 =>
    Option.bind (ix l26 x22) fun x19 =>
    jk x22 (put l25 x15 (w64 (x16 + step))) (put l26 x22 (w64 (x18 - step))) l27
   else
    Option.bind (ix l27 x22) fun x20 =>
    Option.bind (ix l27 x22) fun x21 =>
    jk x22 l25 l26 (put l27 x22 (w64 (x20 - step)))
  else
   ((jR i l42 at_2 l38 next l18 l25 l26 l27).map Sum.inr)
def jm (i : Int) (l42 : (List Int)) (at_2 : Int) (l34 : (List Int)) (l35 : (List Int)) (l38 : (List Bool)) (next : Int) (step : Int) (l17 : (List Int)) (l18 : (List Int)) : Option ((Int × (List Int) × (List Int) × (List Int) × (List Int) × (List Bool)) ⊕ ((Int × (List Int) × (List Int) × (List Int)) ⊕ ((List Int) × Int))) :=
 Lp (JL i l42 at_2 l38 next step l18) fuel (0, l34, l35, l17)
def jQ (k1 : Int) (next1 : Int) (step1 : Int) (l28 : (List Int)) (l29 : (List Int)) : Option ((Int × Int × Int × (List Int) × (List Int)) ⊕ ((Int × (List Int) × (List Int) × (List Int) × (List Int) × (List Bool)) ⊕ ((Int × (List Int) × (List Int) × (List Int)) ⊕ ((List Int) × Int)))) :=
 some (.inl (next1, step1, w64 (k1 + 1), l28, l29))
def jj (next2 : Int) (step2 : Int) (k1 : Int) (l30 : (List Int)) (l31 : (List Int)) : Option ((Int × Int × Int × (List Int) × (List Int)) ⊕ ((Int × (List Int) × (List Int) × (List Int) × (List Int) × (List Bool)) ⊕ ((Int × (List Int) × (List Int) × (List Int)) ⊕ ((List Int) × Int)))) :=
 Option.bind (ix l30 k1) fun x29 =>
 if decide (x29 < step2) then
  Option.bind (ix l30 k1) fun x30 =>
  jQ k1 k1 x30 l30 l31
 else
  jQ k1 next2 step2 l30 l31
def JK (cost : (List (List Int))) (places : Int) (i : Int) (l42 : (List Int)) (at_2 : Int) (l34 : (List Int)) (l35 : (List Int)) (l38 : (List Bool)) (x12 : Int) : (Int × Int × Int × (List Int) × (List Int)) → Option ((Int × Int × Int × (List Int) × (List Int)) ⊕ ((Int × (List Int) × (List Int) × (List Int) × (List Int) × (List Bool)) ⊕ ((Int × (List Int) × (List Int) × (List Int)) ⊕ ((List Int) × Int))))
 | (next2, step2, k1, l32, l33) =>
  if decide (k1 ≤ places) then
   Option.bind (ix (put l38 at_2 true) k1) fun x23 =>
   if x23 then
    jQ k1 next2 step2 l32 l33
   else
    Option.bind (ix cost (w64 (x12 - 1))) fun x24 =>
    Option.bind (ix x24 (w64 (k1 - 1))) fun x25 =>
    Option.bind (ix l34 x12) fun x26 =>
    Option.bind (ix l35 k1) fun x27 =>
    Option.bind (ix l32 k1) fun x28 =>
    if decide ((w64 ((w64 (x25 - x26)) - x27)) < x28) then
     Option.bind (ix l32 k1) fun x31 =>
     Option.bind (ix l33 k1) fun x32 =>
     jj next2 step2 k1 (put l32 k1 (w64 ((w64 (x25 - x26)) - x27))) (put l33 k1 at_2)
    else
     jj next2 step2 k1 l32 l33
  else
   ((jm i l42 at_2 l34 l35 l38 next2 step2 l32 l33).map Sum.inr)
def yB (cost : (List (List Int))) (places : Int) (i : Int) (l42 : (List Int)) : (Int × (List Int) × (List Int) × (List Int) × (List Int) × (List Bool)) → Option ((Int × (List Int) × (List Int) × (List Int) × (List Int) × (List Bool)) ⊕ ((Int × (List Int) × (List Int) × (List Int)) ⊕ ((List Int) × Int)))
 | (at_2, l34, l35, l36, l37, l38) =>
  Option.bind (ix l38 at_2) fun x11 =>
  Option.bind (ix (put l42 0 i) at_2) fun x12 =>
  Lp (JK cost places i l42 at_2 l34 l35 l38 x12) fuel (0, 4294967296, 1, l36, l37)
def Jb (cost : (List (List Int))) (places : Int) (i : Int) (l40 : (List Int)) (l41 : (List Int)) (l42 : (List Int)) (l9 : (List Int)) (l10 : (List Bool)) (l11 : (List Int)) : Option ((Int × (List Int) × (List Int) × (List Int)) ⊕ ((List Int) × Int)) :=
 Lp (yB cost places i l42) fuel (0, l40, l41, l11, l9, l10)
def yA (cost : (List (List Int))) (places : Int) (i : Int) (l40 : (List Int)) (l41 : (List Int)) (l42 : (List Int)) (l8 : (List Int)) (l9 : (List Int)) (l10 : (List Bool)) : (Int × (List Int)) → Option ((Int × (List Int)) ⊕ ((Int × (List Int) × (List Int) × (List Int)) ⊕ ((List Int) × Int)))
 | (x34, l39) =>
  if decide (x34 < (l8.length : Int)) then
   Option.bind (ix l39 x34) fun x33 =>
   some (.inl (w64 (x34 + 1), (put l39 x34 4294967296)))
  else
   ((Jb cost places i l40 l41 l42 l9 l10 l39).map Sum.inr)
def yf (cost : (List (List Int))) (places : Int) : (Int × (List Int) × (List Int) × (List Int)) → Option ((Int × (List Int) × (List Int) × (List Int)) ⊕ ((List Int) × Int))
 | (i, l40, l41, l42) =>
  if decide (i ≤ (cost.length : Int)) then
   Option.bind (ix l42 0) fun x6 =>
   Option.bind (mkS (w64 (places + 1)) (w64 (places + 1)) (0 : Int)) fun l8 =>
   Option.bind (mkS (w64 (places + 1)) (w64 (places + 1)) (0 : Int)) fun l9 =>
   Option.bind (mkS (w64 (places + 1)) (w64 (places + 1)) false) fun l10 =>
   Lp (yA cost places i l40 l41 l42 l8 l9 l10) fuel (0, l8)
  else
   ((j6 cost places l42).map Sum.inr)
def JF (cost : (List (List Int))) (places : Int) : Option ((List Int) × Int) :=
 Option.bind (mkS (w64 ((cost.length : Int) + 1)) (w64 ((cost.length : Int) + 1)) (0 : Int)) fun l =>
 Option.bind (mkS (w64 (places + 1)) (w64 (places + 1)) (0 : Int)) fun l1 =>
 Option.bind (mkS (w64 (places + 1)) (w64 (places + 1)) (0 : Int)) fun l2 =>
 Lp (yf cost places) fuel (1, l, l1, l2)
def jc (b : zJ) (l : (List (List Int))) : Option ((List Int) × Int) :=
 Option.bind (JF l (w64 ((b.slots.length : Int) + (b.calls.length : Int)))) fun y =>
 some (y.1, y.2)
def Zz (x3 : Int) (l5 : (List (List Int))) (l1 : (List Int)) : Option ((Int × (List (List Int))) ⊕ ((List Int) × Int)) :=
 Option.bind (app l5 ([l1])) fun l2 =>
 some (.inl (w64 (x3 + 1), l2))
def jC (x2 : Int) (l3 : (List Int)) : Option ((Int × (List Int)) ⊕ ((Int × (List (List Int))) ⊕ ((List Int) × Int))) :=
 some (.inl (w64 (x2 + 1), l3))
def JC (x3 : Int) (l5 : (List (List Int))) (y1 : (List Int)) (k : Int) : (Int × (List Int)) → Option ((Int × (List Int)) ⊕ ((Int × (List (List Int))) ⊕ ((List Int) × Int)))
 | (x2, l4) =>
  if decide (x2 < (y1.length : Int)) then
   if !decide (x2 = k) then
    Option.bind (ix l4 x2) fun x1 =>
    jC x2 (put l4 x2 1073741824)
   else
    jC x2 l4
  else
   ((Zz x3 l5 l4).map Sum.inr)
def jD (x3 : Int) (l5 : (List (List Int))) (y1 : (List Int)) (k : Int) : Option ((Int × (List (List Int))) ⊕ ((List Int) × Int)) :=
 Lp (JC x3 l5 y1 k) fuel (0, y1)
def JD (b : zJ) (fixed : (List Int)) : (Int × (List (List Int))) → Option ((Int × (List (List Int))) ⊕ ((List Int) × Int))
 | (x3, l5) =>
  if decide (x3 < (b.calls.length : Int)) then
   Option.bind (jX b x3) fun y1 =>
   if decide (x3 < (fixed.length : Int)) then
    Option.bind (ix fixed x3) fun x =>
    if decide (x < 0) then
     jD x3 l5 y1 (w64 ((b.slots.length : Int) + x3))
    else
     jD x3 l5 y1 x
   else
    Zz x3 l5 y1
  else
   ((jc b l5).map Sum.inr)
def Zg (b : zJ) (fixed : (List Int)) : Option ((List Int) × Int) :=
 Lp (JD b fixed) fuel (0, [])
def zAx (l : List Int) : Option (List Int) := app [] l
def j9 (l : (List zO)) : Option (List zO) :=
 some l
def jA (x4 : Int) (l1 : (List Int)) (l2 : (List zO)) : Option ((Int × (List Int) × (List zO)) ⊕ (List zO)) :=
 some (.inl (w64 (x4 + 1), l1, l2))
def j8 (x4 : Int) (l8 : (List Int)) (l9 : (List zO)) : Option ((Int × (List Int) × (List zO)) ⊕ (List zO)) :=
 Option.bind (app l8 ([(-1)])) fun l3 =>
 jA x4 l3 l9
def Z9 (x3 : Int) : Option (Int ⊕ ((Int × (List Int) × (List zO)) ⊕ (List zO))) :=
 some (.inl (w64 (x3 + 1)))
def Jy (b : zJ) (y : (List Int) × Int) (x4 : Int) (l8 : (List Int)) (l9 : (List zO)) (x : zM) : Int → Option (Int ⊕ ((Int × (List Int) × (List zO)) ⊕ (List zO)))
 | x3 =>
  if decide (x3 < (b.slots.length : Int)) then
   Option.bind (ix b.slots x3) fun x1 =>
   Option.bind (ix b.can x4) fun x2 =>
   if !(ZA x1 x2).isSome then
    Z9 x3
   else
    Option.bind (app [] l8) fun l4 =>
    Option.bind (app l4 ([x3])) fun l5 =>
    Option.bind (Zg b l5) fun y1 =>
    if decide (y1.2 = y.2) then
     Option.bind (app l8 ([x3])) fun l6 =>
     Option.bind (app l9 ([(⟨x.ID, x1, ((ZA x1 x2).getD (⟨0, 0⟩ : zD))⟩ : zO)])) fun l7 =>
     ((jA x4 l6 l7).map Sum.inr)
    else
     Z9 x3
  else
   ((j8 x4 l8 l9).map Sum.inr)
def JA (b : zJ) (y : (List Int) × Int) : (Int × (List Int) × (List zO)) → Option ((Int × (List Int) × (List zO)) ⊕ (List zO))
 | (x4, l8, l9) =>
  if decide (x4 < (b.calls.length : Int)) then
   Option.bind (ix b.calls x4) fun x =>
   Lp (Jy b y x4 l8 l9 x) fuel 0
  else
   ((j9 l9).map Sum.inr)
def Z6 (b : zJ) : Option (List zO) :=
 Option.bind (Zg b []) fun y =>
 Lp (JA b y) fuel (0, [], [])
def yT (h : zK) (l : (List zM)) : Option ((List zO) × Int) :=
 Option.bind (Zh h l) fun y =>
 if !decide (y = 0) then
  some ([], y)
 else
  Option.bind (Js h l) fun y1 =>
  Option.bind (Z6 y1) fun y2 =>
  some (y2, 0)
structure ZE where
 Calls : (List Int)
 Slots : (List zE)
 deriving DecidableEq, Inhabited
def Yt (c : zM) (c1 : zJ) (c2 : zE) (c3 : (List (Int × Bool))) : Option Bool :=
 Option.bind (zv c1.calls c.ID) fun y =>
 Option.bind (ix c1.can y) fun x =>
 some (((ZA c2 x).isSome) && ((ZA y c3).getD false))
def ZO : Option Int :=
 some (-1)
def Z4 (s : (List zM)) (c : zJ) (c1 : zE) (c2 : (List (Int × Bool))) : Int → Option (Int ⊕ Int)
 | x1 =>
  if decide (x1 < (s.length : Int)) then
   Option.bind (ix s x1) fun x =>
   Option.bind (Yt x c c1 c2) fun y =>
   if y then
    some (.inr x1)
   else
    some (.inl (w64 (x1 + 1)))
  else
   ((ZO).map Sum.inr)
def Zl (s : (List zM)) (c : zJ) (c1 : zE) (c2 : (List (Int × Bool))) : Option Int :=
 Lp (Z4 s c c1 c2) fuel 0
def Ze (s : (List zM)) (c : zJ) (c1 : zE) (c2 : (List (Int × Bool))) : Option Bool :=
 Option.bind (Zl s c c1 c2) fun y =>
 some (decide (0 ≤ y))
def Jk (l1 : (List Int)) (l2 : (List zE)) : Option ZE :=
 some (⟨l1, l2⟩ : ZE)
def jy (x1 : Int) (l3 : (List zE)) : Option ((Int × (List zE)) ⊕ ZE) :=
 some (.inl (w64 (x1 + 1), l3))
def YP (b : zJ) (ships : (List (Int × Bool))) (l1 : (List Int)) : (Int × (List zE)) → Option ((Int × (List zE)) ⊕ ZE)
 | (x1, l5) =>
  if decide (x1 < (b.slots.length : Int)) then
   Option.bind (ix b.slots x1) fun x =>
   Option.bind (Ze b.calls b x ships) fun y =>
   if y then
    Option.bind (app l5 ([x])) fun l4 =>
    jy x1 l4
   else
    jy x1 l5
  else
   ((Jk l1 l5).map Sum.inr)
def jN (b : zJ) (ships : (List (Int × Bool))) (l : (List Int)) : Option ZE :=
 Option.bind (srtO l) fun l1 =>
 Lp (YP b ships l1) fuel (0, [])
def Z2 (x3 : Int) (l6 : (List Int)) : Option ((Int × (List Int)) ⊕ ZE) :=
 some (.inl (w64 (x3 + 1), l6))
def Jl (b : zJ) (ships : (List (Int × Bool))) : (Int × (List Int)) → Option ((Int × (List Int)) ⊕ ZE)
 | (x3, l8) =>
  if decide (x3 < (b.calls.length : Int)) then
   Option.bind (ix b.calls x3) fun x2 =>
   if ((ZA x3 ships).getD false) then
    Option.bind (app l8 ([x2.ID])) fun l7 =>
    Z2 x3 l7
   else
    Z2 x3 l8
  else
   ((jN b ships l8).map Sum.inr)
def j3 (b : zJ) (ships : (List (Int × Bool))) : Option ZE :=
 Lp (Jl b ships) fuel (0, [])
def yu (y1 : zJ) (m2 : (List (Int × Bool))) : Option (ZE × Bool × Int) :=
 Option.bind (j3 y1 m2) fun y3 =>
 some (y3, true, 0)
def Y7 (x3 : Int) (more : Bool) (m3 : (List (Int × Bool))) : Option ((Bool × Int × (List (Int × Bool))) ⊕ ((Bool × (List (Int × Bool))) ⊕ (ZE × Bool × Int))) :=
 some (.inl (more, w64 (x3 + 1), m3))
def Y6 (x2 : Int) (more1 : Bool) (m4 : (List (Int × Bool))) : Option ((Bool × Int × (List (Int × Bool))) ⊕ ((Bool × Int × (List (Int × Bool))) ⊕ ((Bool × (List (Int × Bool))) ⊕ (ZE × Bool × Int)))) :=
 some (.inl (more1, w64 (x2 + 1), m4))
def zCp (l : (List zM)) (y1 : zJ) (m1 : (List (Int × Int))) (x3 : Int) (x : zE) : (Bool × Int × (List (Int × Bool))) → Option ((Bool × Int × (List (Int × Bool))) ⊕ ((Bool × Int × (List (Int × Bool))) ⊕ ((Bool × (List (Int × Bool))) ⊕ (ZE × Bool × Int))))
 | (more2, x2, m5) =>
  if decide (x2 < (l.length : Int)) then
   Option.bind (ix y1.can x2) fun x1 =>
   if (((ZA x x1).isSome) && ((ZA x2 m5).getD false)) then
    Y6 x2 true (putM posI m5 ((ZA x3 m1).getD 0) true)
   else
    Y6 x2 more2 m5
  else
   ((Y7 x3 more2 m5).map Sum.inr)
def zAs (l : (List zM)) (y1 : zJ) (m1 : (List (Int × Int))) : (Bool × Int × (List (Int × Bool))) → Option ((Bool × Int × (List (Int × Bool))) ⊕ ((Bool × (List (Int × Bool))) ⊕ (ZE × Bool × Int)))
 | (more3, x3, m6) =>
  if decide (x3 < (y1.slots.length : Int)) then
   Option.bind (ix y1.slots x3) fun x =>
   if ((!(ZA x3 m1).isSome) || ((ZA ((ZA x3 m1).getD 0) m6).getD false)) then
    Y7 x3 more3 m6
   else
    Lp (zCp l y1 m1 x3 x) fuel (more3, 0, m6)
  else
   some (.inr (.inl (more3, m6)))
def qK (l : (List zM)) (y1 : zJ) (m1 : (List (Int × Int))) : (Bool × (List (Int × Bool))) → Option ((Bool × (List (Int × Bool))) ⊕ (ZE × Bool × Int))
 | (more4, m7) =>
  if more4 then
   Lp (zAs l y1 m1) fuel (false, 0, m7)
  else
   ((yu y1 m7).map Sum.inr)
def yw (l : (List zM)) (y1 : zJ) (m : (List (Int × Bool))) (m1 : (List (Int × Int))) : Option (ZE × Bool × Int) :=
 if decide ((m.length : Int) = 0) then
  some ((⟨[], []⟩ : ZE), false, 0)
 else
  Lp (qK l y1 m1) fuel (true, m)
def Jt (x5 : Int) (m8 : (List (Int × Bool))) (m9 : (List (Int × Int))) : Option ((Int × (List (Int × Bool)) × (List (Int × Int))) ⊕ (ZE × Bool × Int)) :=
 some (.inl (w64 (x5 + 1), m8, m9))
def qJ (l : (List zM)) (y1 : zJ) (y2 : (List Int) × Int) : (Int × (List (Int × Bool)) × (List (Int × Int))) → Option ((Int × (List (Int × Bool)) × (List (Int × Int))) ⊕ (ZE × Bool × Int))
 | (x5, m10, m11) =>
  if decide (x5 < (y2.1.length : Int)) then
   Option.bind (ix y2.1 x5) fun x4 =>
   if decide ((y1.slots.length : Int) ≤ x4) then
    Jt x5 (putM posI m10 x5 true) m11
   else
    Jt x5 m10 (putM posI m11 x4 x5)
  else
   ((yw l y1 m10 m11).map Sum.inr)
def zAU (h : zK) (l : (List zM)) : Option (ZE × Bool × Int) :=
 Option.bind (Zh h l) fun y =>
 if !decide (y = 0) then
  some ((⟨[], []⟩ : ZE), false, y)
 else
  Option.bind (Js h l) fun y1 =>
  Option.bind (Zg y1 []) fun y2 =>
  Lp (qJ l y1 y2) fuel (0, [], [])
def Jv : Option Bool :=
 some true
def qg (s1 : (List Int)) (s2 : (List Int)) : Int → Option (Int ⊕ Bool)
 | x2 =>
  if decide (x2 < (s1.length : Int)) then
   Option.bind (ix s1 x2) fun x =>
   Option.bind (ix s2 x2) fun x1 =>
   if !decide (x = x1) then
    some (.inr false)
   else
    some (.inl (w64 (x2 + 1)))
  else
   ((Jv).map Sum.inr)
def YX (s1 : (List Int)) (s2 : (List Int)) : Option Bool :=
 if !decide ((s1.length : Int) = (s2.length : Int)) then
  some false
 else
  Lp (qg s1 s2) fuel 0
def jq : Option Bool :=
 some true
def Yx (s1 : (List zE)) (s2 : (List zE)) : Int → Option (Int ⊕ Bool)
 | x2 =>
  if decide (x2 < (s1.length : Int)) then
   Option.bind (ix s1 x2) fun x =>
   Option.bind (ix s2 x2) fun x1 =>
   if !decide (x = x1) then
    some (.inr false)
   else
    some (.inl (w64 (x2 + 1)))
  else
   ((jq).map Sum.inr)
def JY (s1 : (List zE)) (s2 : (List zE)) : Option Bool :=
 if !decide ((s1.length : Int) = (s2.length : Int)) then
  some false
 else
  Lp (Yx s1 s2) fuel 0
def jn (h : zK) (l : (List zM)) (x : ZE) (m : (List (Int × Bool))) : Option (Int × Int) :=
 Option.bind (Js h l) fun y1 =>
 Option.bind (j3 y1 m) fun y2 =>
 gb (!(decide ((x.Calls.length : Int) = 0))) (YX x.Calls y2.Calls) fun y3 =>
 gb (!(((decide ((x.Calls.length : Int) = 0)) || (!y3)))) (JY x.Slots y2.Slots) fun y4 =>
 if ((((decide ((x.Calls.length : Int) = 0)) || (!y3)) || (!y4)) || (decide ((x.Calls.length : Int) ≤ (x.Slots.length : Int)))) then
  some (0, 8)
 else
  some (w64 ((x.Calls.length : Int) - (x.Slots.length : Int)), 0)
def jL (x2 : Int) (m1 : (List (Int × Bool))) : Option ((Int × (List (Int × Bool))) ⊕ (Int × Int)) :=
 some (.inl (w64 (x2 + 1), m1))
def yU (h : zK) (l : (List zM)) (x : ZE) : (Int × (List (Int × Bool))) → Option ((Int × (List (Int × Bool))) ⊕ (Int × Int))
 | (x2, m2) =>
  if decide (x2 < (x.Calls.length : Int)) then
   Option.bind (ix x.Calls x2) fun x1 =>
   Option.bind (zv l x1) fun y5 =>
   if decide (0 ≤ y5) then
    jL x2 (putM posI m2 y5 true)
   else
    jL x2 m2
  else
   ((jn h l x m2).map Sum.inr)
def yh (h : zK) (l : (List zM)) (x : ZE) : Option (Int × Int) :=
 Option.bind (Zh h l) fun y =>
 if !decide (y = 0) then
  some (0, y)
 else
  Lp (yU h l x) fuel (0, [])
def Jh : Option Bool :=
 Option.bind (zAZ (ZR) 1 130) fun y =>
 Option.bind (QX (ZR) 2 700 (⟨60, 200⟩ : zD)) fun y1 =>
 Option.bind (QX (ZR) 2 600 (⟨60, 200⟩ : zD)) fun y2 =>
 Option.bind (jS 1) fun y3 =>
 Option.bind (ix y3 0) fun x =>
 Option.bind (zBT (ZR) x (⟨0, 2⟩ : zE)) fun y4 =>
 Option.bind (zAa (ZR) (⟨0, 2⟩ : zE) 120) fun y5 =>
 Option.bind (jS 3) fun y6 =>
 Option.bind (yT (ZR) y6) fun y7 =>
 Option.bind (jS 5) fun y8 =>
 Option.bind (zAU (ZR) y8) fun y9 =>
 Option.bind (jS 5) fun y10 =>
 Option.bind (yh (ZR) y10 y9.1) fun y11 =>
 if (((((((((!decide (y.2 = 0)) || (!decide (y1.2.2 = 0))) || (!decide (y2.2.2 = 0))) || (!decide (y4.2.2 = 0))) || (!decide (y5.2 = 0))) || (!decide (y7.2 = 0))) || (!decide (y9.2.2 = 0))) || (!decide (y11.2 = 0))) || (!decide ((y7.1.length : Int) = 3))) then
  some false
 else
  gb (((((((((decide (y.1 = 1000)) && y1.2.1) && (decide (y1.1 = 60))) && (!y2.2.1)) && y4.2.1) && (decide (y4.1 = (⟨120, 179⟩ : zD)))) && (decide (y5.1 = 650))))) (ix y7.1 2) fun x1 =>
  some ((((((((((((decide (y.1 = 1000)) && y1.2.1) && (decide (y1.1 = 60))) && (!y2.2.1)) && y4.2.1) && (decide (y4.1 = (⟨120, 179⟩ : zD)))) && (decide (y5.1 = 650))) && (decide (x1 = (⟨13, (⟨1, 1⟩ : zE), (⟨240, 299⟩ : zD)⟩ : zO)))) && y9.2.1) && (decide ((y9.1.Calls.length : Int) = 5))) && (decide ((y9.1.Slots.length : Int) = 4))) && (decide (y11.1 = 1)))
def Qp (s : zO) : Int :=
 s.Call
def Zp (x : zO) (c : Int) : Bool :=
 decide ((Qp x) = c)
def zr : Option Int :=
 some (-1)
def zl (s : (List zO)) (c : Int) : Int → Option (Int ⊕ Int)
 | x1 =>
  if decide (x1 < (s.length : Int)) then
   Option.bind (ix s x1) fun x =>
   if (Zp x c) then
    some (.inr x1)
   else
    some (.inl (w64 (x1 + 1)))
  else
   ((zr).map Sum.inr)
def zx (s : (List zO)) (c : Int) : Option Int :=
 Lp (zl s c) fuel 0
def Zc (l : (List zO)) (id : Int) : Option Int :=
 Option.bind (zx l id) fun y =>
 some y
def QK (l : (List zO)) (id : Int) : Option (zO × Bool) :=
 Option.bind (Zc l id) fun y =>
 if decide (y < 0) then
  some ((⟨0, (⟨0, 0⟩ : zE), (⟨0, 0⟩ : zD)⟩ : zO), false)
 else
  Option.bind (ix l y) fun x =>
  some (x, true)
def jp : Option Int :=
 some (-1)
def jG (s : (List zE)) (v_ : zE) : Int → Option (Int ⊕ Int)
 | x1 =>
  if decide (x1 < (s.length : Int)) then
   Option.bind (ix s x1) fun x =>
   if decide (v_ = x) then
    some (.inr x1)
   else
    some (.inl (w64 (x1 + 1)))
  else
   ((jp).map Sum.inr)
def jg (s : (List zE)) (v_ : zE) : Option Int :=
 Lp (jG s v_) fuel 0
def yk (l : (List zM)) (l1 : (List zE)) (l2 : (List (List (zE × zD)))) (l4 : (List Int)) : Option ((List zO) × Int) :=
 Option.bind (Z6 (⟨l, l1, l2, l4⟩ : zJ)) fun y2 =>
 some (y2, 0)
def Jd (x2 : Int) (l5 : (List Int)) : Option ((Int × (List Int)) ⊕ ((List zO) × Int)) :=
 some (.inl (w64 (x2 + 1), l5))
def yn (l : (List zM)) (old : (List zO)) (l1 : (List zE)) (l2 : (List (List (zE × zD)))) : (Int × (List Int)) → Option ((Int × (List Int)) ⊕ ((List zO) × Int))
 | (x2, l6) =>
  if decide (x2 < (l.length : Int)) then
   Option.bind (ix l x2) fun x =>
   Option.bind (QK old x.ID) fun y3 =>
   if y3.2 then
    Option.bind (jg l1 y3.1.Slot) fun y4 =>
    Option.bind (ix l6 x2) fun x1 =>
    Jd x2 (put l6 x2 y4)
   else
    Jd x2 l6
  else
   ((yk l l1 l2 l6).map Sum.inr)
def yl (l : (List zM)) (old : (List zO)) (l1 : (List zE)) (l2 : (List (List (zE × zD)))) (l3 : (List Int)) : Option ((List zO) × Int) :=
 Lp (yn l old l1 l2) fuel (0, l3)
def yj (x7 : Int) (l7 : (List zE)) : Option ((Int × (List zE)) ⊕ ((List zO) × Int)) :=
 some (.inl (w64 (x7 + 1), l7))
def ym (h : zK) (x7 : Int) : (Int × (List zE)) → Option ((Int × (List zE)) ⊕ ((Int × (List zE)) ⊕ ((List zO) × Int)))
 | (x4, l9) =>
  if decide (x4 < (((zV h).Berths).length : Int)) then
   Option.bind (ix ((zV h).Berths) x4) fun x3 =>
   Option.bind (app l9 ([(⟨x7, x3.ID⟩ : zE)])) fun l8 =>
   some (.inl (w64 (x4 + 1), l8))
  else
   ((yj x7 l9).map Sum.inr)
def yi (l : (List zM)) (old : (List zO)) (l16 : (List zE)) (l10 : (List (List (zE × zD)))) (l11 : (List Int)) : Option ((Int × (List zE)) ⊕ ((List zO) × Int)) :=
 ((yl l old l16 l10 l11).map Sum.inr)
def QE (h : zK) (l : (List zM)) (old : (List zO)) (l16 : (List zE)) : (Int × (List (List (zE × zD))) × (List Int)) → Option ((Int × (List (List (zE × zD))) × (List Int)) ⊕ ((Int × (List zE)) ⊕ ((List zO) × Int)))
 | (x6, l14, l15) =>
  if decide (x6 < (l.length : Int)) then
   Option.bind (ix l x6) fun x5 =>
   Option.bind (QW h x5) fun y5 =>
   Option.bind (app l14 ([y5.2])) fun l12 =>
   Option.bind (app l15 ([(-1)])) fun l13 =>
   some (.inl (w64 (x6 + 1), l12, l13))
  else
   ((yi l old l16 l14 l15).map Sum.inr)
def QF (h : zK) (l : (List zM)) (old : (List zO)) : (Int × (List zE)) → Option ((Int × (List zE)) ⊕ ((List zO) × Int))
 | (x7, l16) =>
  if decide (x7 < (((zV h).Tides).length : Int)) then
   Lp (ym h x7) fuel (0, l16)
  else
   Lp (QE h l old l16) fuel (0, [], [])
def jt (h : zK) (l : (List zM)) (old : (List zO)) : Option ((List zO) × Int) :=
 Option.bind (Zh h l) fun y =>
 if !decide (y = 0) then
  some ([], y)
 else
  if decide (10 < (old.length : Int)) then
   some ([], 2)
  else
   Lp (QF h l old) fuel (0, [])
def JB (n : Int) : Option Int :=
 some n
def jB (x1 : Int) (n1 : Int) : Option ((Int × Int) ⊕ Int) :=
 some (.inl (n1, w64 (x1 + 1)))
def Jz (b : zJ) (y : (List Int) × Int) : (Int × Int) → Option ((Int × Int) ⊕ Int)
 | (n2, x1) =>
  if decide (x1 < (y.1.length : Int)) then
   Option.bind (ix y.1 x1) fun x =>
   if decide (x < (b.slots.length : Int)) then
    jB x1 (w64 (n2 + 1))
   else
    jB x1 n2
  else
   ((JB n2).map Sum.inr)
def JJ (b : zJ) : Option Int :=
 Option.bind (Zg b []) fun y =>
 Lp (Jz b y) fuel (0, 0)
def QM (h : zK) (l : (List zM)) : Option (Int × Int) :=
 Option.bind (Zh h l) fun y =>
 if !decide (y = 0) then
  some (0, y)
 else
  Option.bind (Js h l) fun y1 =>
  Option.bind (JJ y1) fun y2 =>
  some (y2, 0)
def JW : Option Int :=
 some 0
def JX (h : zK) (l : (List zM)) (p : (List zO)) : (Int × Int × (List (zE × Bool))) → Option ((Int × Int × (List (zE × Bool))) ⊕ Int)
 | (last, x2, m) =>
  if decide (x2 < (p.length : Int)) then
   Option.bind (ix p x2) fun x =>
   Option.bind (zv l x.Call) fun y1 =>
   Option.bind (QL h x.Slot) fun y2 =>
   if (((decide (y1 ≤ last)) || (!y2.2)) || ((ZA x.Slot m).getD false)) then
    some (.inr 8)
   else
    Option.bind (ix l y1) fun x1 =>
    Option.bind (YL h x1 x.Slot y2.1) fun y3 =>
    if ((!y3.2) || (!decide (y3.1 = x.Span))) then
     some (.inr 8)
    else
     some (.inl (y1, w64 (x2 + 1), (putM posE m x.Slot true)))
  else
   ((JW).map Sum.inr)
def yg (h : zK) (l : (List zM)) (p : (List zO)) : Option Int :=
 Option.bind (Zh h l) fun y =>
 if !decide (y = 0) then
  some y
 else
  Lp (JX h l p) fuel ((-1), 0, [])
def yL : Option Bool :=
 some true
def yM (a : (List zO)) (b : (List zO)) : Int → Option (Int ⊕ Bool)
 | i =>
  if decide (i < (a.length : Int)) then
   Option.bind (ix a i) fun x =>
   Option.bind (ix b i) fun x1 =>
   if !decide (x = x1) then
    some (.inr false)
   else
    some (.inl (w64 (i + 1)))
  else
   ((yL).map Sum.inr)
def Ja (a : (List zO)) (b : (List zO)) : Option Bool :=
 if !decide ((a.length : Int) = (b.length : Int)) then
  some false
 else
  Lp (yM a b) fuel 0
def jo (x : (List Int)) : Option (List Int) :=
 some x
def Yl (l1 : (List Int)) : Option (List Int) :=
 jo l1
def yC (k : Int) (l2 : (List Int)) : Option (Int ⊕ (List Int)) :=
 Option.bind (sub l2 k (l2.length : Int)) fun l3 =>
 Option.bind (clrE l2 k 0) fun l4 =>
 Option.bind (sub l4 0 k) fun l5 =>
 ((jo l5).map Sum.inr)
def JN (k21 : Int) (k1 : Int) (l6 : (List Int)) : Option ((Int × Int × (List Int)) ⊕ (Int ⊕ (List Int))) :=
 some (.inl (k1, w64 (k21 + 1), l6))
def Yn (a : Int) : (Int × Int × (List Int)) → Option ((Int × Int × (List Int)) ⊕ (Int ⊕ (List Int)))
 | (k2, k21, l7) =>
  if decide (k21 < ((List.drop (Int.toNat a) l7).length : Int)) then
   Option.bind (ix (List.drop (Int.toNat a) l7) k21) fun x3 =>
   Option.bind (ix (List.drop (Int.toNat a) l7) (w64 (k21 - 1))) fun x4 =>
   if !decide (x3 = x4) then
    Option.bind (ix (List.drop (Int.toNat a) l7) k21) fun x5 =>
    Option.bind (ix l7 k2) fun x6 =>
    JN k21 (w64 (k2 + 1)) (put l7 k2 x5)
   else
    JN k21 k2 l7
  else
   ((yC k2 l7).map Sum.inr)
def Yo (l1 : (List Int)) : Int → Option (Int ⊕ (List Int))
 | k3 =>
  if decide (k3 < (l1.length : Int)) then
   Option.bind (ix l1 k3) fun x1 =>
   Option.bind (ix l1 (w64 (k3 - 1))) fun x2 =>
   if decide (x1 = x2) then
    Option.bind (qslN l1 k3) fun a =>
    Lp (Yn a) fuel (k3, 1, l1)
   else
    some (.inl (w64 (k3 + 1)))
  else
   ((Yl l1).map Sum.inr)
def JP (l : (List Int)) : Option (List Int) :=
 Option.bind (srtO l) fun l1 =>
 if decide ((l1.length : Int) < 2) then
  jo l1
 else
  Lp (Yo l1) fuel 1
def JM (x8 : Int) (l8 : (List Int)) : Option ((Int × (List Int)) ⊕ (List Int)) :=
 some (.inl (w64 (x8 + 1), l8))
def Ym (old : (List zO)) (now : (List zO)) : (Int × (List Int)) → Option ((Int × (List Int)) ⊕ (List Int))
 | (x8, l10) =>
  if decide (x8 < (old.length : Int)) then
   Option.bind (ix old x8) fun x7 =>
   Option.bind (QK old x7.Call) fun y =>
   Option.bind (QK now x7.Call) fun y1 =>
   if ((!y1.2) || (!decide (y.1.Slot = y1.1.Slot))) then
    Option.bind (app l10 ([x7.Call])) fun l9 =>
    JM x8 l9
   else
    JM x8 l10
  else
   ((JP l10).map Sum.inr)
def Y8 (old : (List zO)) (now : (List zO)) : Option (List Int) :=
 Lp (Ym old now) fuel (0, [])
def Yf (n : Int) : Option Int :=
 some n
def Ye (x3 : Int) (n1 : Int) : Option ((Int × Int) ⊕ Int) :=
 some (.inl (n1, w64 (x3 + 1)))
def JI (x2 : Int) (n2 : Int) : Option ((Int × Int) ⊕ ((Int × Int) ⊕ Int)) :=
 some (.inl (n2, w64 (x2 + 1)))
def J6 (l : (List zM)) (x3 : Int) (x : Int) : (Int × Int) → Option ((Int × Int) ⊕ ((Int × Int) ⊕ Int))
 | (n3, x2) =>
  if decide (x2 < (l.length : Int)) then
   Option.bind (ix l x2) fun x1 =>
   if decide (x1.ID = x) then
    JI x2 (w64 (n3 + 1))
   else
    JI x2 n3
  else
   ((Ye x3 n3).map Sum.inr)
def Yg (l : (List zM)) (y : (List Int)) : (Int × Int) → Option ((Int × Int) ⊕ Int)
 | (n4, x3) =>
  if decide (x3 < (y.length : Int)) then
   Option.bind (ix y x3) fun x =>
   Lp (J6 l x3 x) fuel (n4, 0)
  else
   ((Yf n4).map Sum.inr)
def Jp (l : (List zM)) (old : (List zO)) (now : (List zO)) : Option Int :=
 Option.bind (Y8 old now) fun y =>
 Lp (Yg l y) fuel (0, 0)
def J7 (h : zK) (l : (List zM)) (old : (List zO)) : Option Bool :=
 Option.bind (qV h) fun y =>
 if (((!y) || (decide (5 < (l.length : Int)))) || (decide (10 < (old.length : Int)))) then
  Option.bind (Jh) fun y1 =>
  some y1
 else
  Option.bind (jt h l old) fun y2 =>
  Option.bind (yT h l) fun y3 =>
  Option.bind (QM h l) fun y4 =>
  if ((!decide (y2.2 = y3.2)) || (!decide (y3.2 = y4.2))) then
   some false
  else
   if !decide (y2.2 = 0) then
    Option.bind (Jh) fun y5 =>
    some y5
   else
    Option.bind (jt h l y3.1) fun y6 =>
    Option.bind (jt h l y2.1) fun y7 =>
    Option.bind (yg h l y2.1) fun y8 =>
    gb (!(((((!decide (y8 = 0)) || (!decide ((y2.1.length : Int) = y4.1))) || (!decide (y6.2 = 0))) || (!decide (y7.2 = 0))))) (Ja y6.1 y3.1) fun y9 =>
    gb (!((((((!decide (y8 = 0)) || (!decide ((y2.1.length : Int) = y4.1))) || (!decide (y6.2 = 0))) || (!decide (y7.2 = 0))) || (!y9)))) (Ja y7.1 y2.1) fun y10 =>
    if ((((((!decide (y8 = 0)) || (!decide ((y2.1.length : Int) = y4.1))) || (!decide (y6.2 = 0))) || (!decide (y7.2 = 0))) || (!y9)) || (!y10)) then
     some false
    else
     Option.bind (Jh) fun y11 =>
     gb ((y11)) (Jp l old y2.1) fun y12 =>
     gb ((y11)) (Jp l old y3.1) fun y13 =>
     some (y11 && (decide (y12 ≤ y13)))
end Go.Mx
