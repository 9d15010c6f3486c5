/- Functions of the program as plain functions. Conditions: none. Printed by a program (wip/tools/xg.py). -/
import Derived.Test.YtnkngglimidldaaGreatXl
set_option linter.unusedVariables false
namespace Go.Mx
structure zw where
 ID : Int
 Begin : Int
 Every : Int
 Heights : (List Int)
 deriving DecidableEq, Inhabited
structure yf where
 From : Int
 To : Int
 Add : Int
 deriving DecidableEq, Inhabited
structure zY where
 Level : Int
 Cycles : (List zw)
 Shifts : (List yf)
 deriving DecidableEq, Inhabited
structure zm where
 ID : Int
 Depth : Int
 deriving DecidableEq, Inhabited
structure zD where
 Lo : Int
 Hi : Int
 deriving DecidableEq, Inhabited
structure zL where
 Water : zY
 Berths : (List zm)
 Tides : (List zD)
 Keel : Int
 deriving DecidableEq, Inhabited
structure zN where
 ID : Int
 Draught : Int
 From : Int
 To : Int
 Long : Int
 deriving DecidableEq, Inhabited
structure zF where
 Tide : Int
 Berth : Int
 deriving DecidableEq, Inhabited
structure zP where
 Call : Int
 Slot : zF
 Span : zD
 deriving DecidableEq, Inhabited
def qF (h : zL) : Option Bool :=
 some ((((decide ((h.Water.Cycles.length : Int) ≤ 8)) && (decide ((h.Water.Shifts.length : Int) ≤ 25))) && (decide ((h.Berths.length : Int) ≤ 10))) && ((decide ((h.Tides.length : Int) ≤ 3)) || ((decide (12 < (h.Tides.length : Int))) && (decide ((h.Tides.length : Int) ≤ 20)))))
def qG (h : zL) : Int → Option (Int ⊕ Bool)
 | i =>
  if decide (i < (h.Tides.length : Int)) then
   Option.bind (ix h.Tides i) fun x =>
   Option.bind (ix h.Tides i) fun x1 =>
   if ((decide (240 ≤ (w64 (x.Hi - x1.Lo)))) && (decide ((w64 (x.Hi - x1.Lo)) < 1440))) then
    some (.inr false)
   else
    some (.inl (w64 (i + 1)))
  else
   ((qF h).map Sum.inr)
def zAK (h : zL) : Option Bool :=
 Lp (qG h) fuel 0
def ZZ : zL :=
 (⟨(⟨500, [(⟨1, 0, 60, [0, 100, 200, 100]⟩ : zw)], []⟩ : zY), [(⟨1, 300⟩ : zm), (⟨2, 100⟩ : zm)], [(⟨0, 239⟩ : zD), (⟨240, 479⟩ : zD)], 50⟩ : zL)
def zh (n : Int) (lo : Int) (hi : Int) : Bool :=
 ((decide (lo ≤ n)) && (decide (n ≤ hi)))
def Zr (n : Int) : Bool :=
 (zh n (-4000) 4000)
def Zw (tick : Int) : Bool :=
 (zh tick 0 1048576)
def jd (h : Int) : Bool :=
 !(Zr h)
def Zu : Option Int :=
 some (-1)
def jF (s : (List Int)) : Int → Option (Int ⊕ Int)
 | x1 =>
  if decide (x1 < (s.length : Int)) then
   Option.bind (ix s x1) fun x =>
   if (jd x) then
    some (.inr x1)
   else
    some (.inl (w64 (x1 + 1)))
  else
   ((Zu).map Sum.inr)
def Zi (s : (List Int)) : Option Int :=
 Lp (jF s) fuel 0
def ZM (s : (List Int)) : Option Bool :=
 Option.bind (Zi s) fun y =>
 some (decide (0 ≤ y))
def Qo (c : zw) : Option Bool :=
 gb ((((((zh c.ID 1 1099511627776) && (Zw c.Begin)) && (zh c.Every 1 120)) && (zh (c.Heights.length : Int) 1 60)))) (ZM c.Heights) fun y =>
 some (((((zh c.ID 1 1099511627776) && (Zw c.Begin)) && (zh c.Every 1 120)) && (zh (c.Heights.length : Int) 1 60)) && (!y))
def ym (x : zw) (c : zw) : Bool :=
 decide (x.ID = c.ID)
def Zd : Option Int :=
 some (-1)
def ZU (s : (List zw)) (c : zw) : Int → Option (Int ⊕ Int)
 | x1 =>
  if decide (x1 < (s.length : Int)) then
   Option.bind (ix s x1) fun x =>
   if (ym x c) then
    some (.inr x1)
   else
    some (.inl (w64 (x1 + 1)))
  else
   ((Zd).map Sum.inr)
def ZG (s : (List zw)) (c : zw) : Option Int :=
 Lp (ZU s c) fuel 0
def ZK (s : (List zw)) (c : zw) : Option Bool :=
 Option.bind (ZG s c) fun y =>
 some (decide (0 ≤ y))
def qj : Option Int :=
 some 0
def QU (w : zY) : (Int × Int) → Option ((Int × Int) ⊕ Int)
 | (last, x1) =>
  if decide (x1 < (w.Shifts.length : Int)) then
   Option.bind (ix w.Shifts x1) fun x =>
   if (((!(zh x.From (w64 (last + 1)) x.To)) || (decide (728 < x.To))) || (!(Zr x.Add))) then
    some (.inr 1)
   else
    some (.inl (x.To, w64 (x1 + 1)))
  else
   ((qj).map Sum.inr)
def Jd (w : zY) : Option Int :=
 Lp (QU w) fuel ((-1), 0)
def QT (w : zY) : Int → Option (Int ⊕ Int)
 | x3 =>
  if decide (x3 < (w.Cycles.length : Int)) then
   Option.bind (ix w.Cycles x3) fun x2 =>
   Option.bind (Qo x2) fun y =>
   if !y then
    some (.inr 1)
   else
    Option.bind (sub w.Cycles 0 x3) fun l =>
    Option.bind (ZK l x2) fun y1 =>
    if y1 then
     some (.inr 6)
    else
     some (.inl (w64 (x3 + 1)))
  else
   ((Jd w).map Sum.inr)
def yn (w : zY) : Option Int :=
 if !(Zr w.Level) then
  some 1
 else
  if ((decide (6 < (w.Cycles.length : Int))) || (decide (20 < (w.Shifts.length : Int)))) then
   some 2
  else
   Lp (QT w) fuel 0
def zZ (n : Int) (lo : Int) (hi : Int) : Bool :=
 ((decide (lo ≤ n)) && (decide (n ≤ hi)))
def Qe (b : zm) : Int :=
 b.ID
def Zp (x : zm) (c : Int) : Bool :=
 decide ((Qe x) = c)
def zx : Option Int :=
 some (-1)
def zk (s : (List zm)) (c : Int) : Int → Option (Int ⊕ Int)
 | x1 =>
  if decide (x1 < (s.length : Int)) then
   Option.bind (ix s x1) fun x =>
   if (Zp x c) then
    some (.inr x1)
   else
    some (.inl (w64 (x1 + 1)))
  else
   ((zx).map Sum.inr)
def ZA (s : (List zm)) (c : Int) : Option Int :=
 Lp (zk s c) fuel 0
def zu (l : (List zm)) (id : Int) : Option Int :=
 Option.bind (ZA l id) fun y =>
 some y
def jr (s : zD) : Bool :=
 ((((decide (0 ≤ s.Lo)) && (decide (s.Lo ≤ s.Hi))) && (decide (s.Hi ≤ 1048576))) && (decide ((w64 (s.Hi - s.Lo)) < 1440)))
def Yy (h : zL) : Option Int :=
 if !(zZ h.Keel 0 8000) then
  some 1
 else
  some 0
def qP (h : zL) : (Int × Int) → Option ((Int × Int) ⊕ Int)
 | (last, x1) =>
  if decide (x1 < (h.Tides.length : Int)) then
   Option.bind (ix h.Tides x1) fun x =>
   if ((!(jr x)) || (decide (x.Lo ≤ last))) then
    some (.inr 1)
   else
    some (.inl (x.Hi, w64 (x1 + 1)))
  else
   ((Yy h).map Sum.inr)
def Yz (h : zL) : Option Int :=
 Lp (qP h) fuel ((-1), 0)
def qO (h : zL) : Int → Option (Int ⊕ Int)
 | x3 =>
  if decide (x3 < (h.Berths.length : Int)) then
   Option.bind (ix h.Berths x3) fun x2 =>
   if ((!(zZ x2.ID 1 1099511627776)) || (!(zZ x2.Depth 0 8000))) then
    some (.inr 1)
   else
    Option.bind (zu h.Berths x2.ID) fun y1 =>
    if decide (y1 < x3) then
     some (.inr 6)
    else
     some (.inl (w64 (x3 + 1)))
  else
   ((Yz h).map Sum.inr)
def J9 (h : zL) : Option Int :=
 Option.bind (yn h.Water) fun y =>
 if !decide (y = 0) then
  some y
 else
  if ((decide (6 < (h.Berths.length : Int))) || (decide (12 < (h.Tides.length : Int)))) then
   some 2
  else
   Lp (qO h) fuel 0
def zBp (w : zY) : Option zY := if w.Cycles.length ≤ 9223372036854775807 then some w else none
def Y3 (w : zY) : Option (zY × zY) :=
 Option.bind (zBp w) fun y =>
 some (w, y)
def yj : Option Int :=
 some 0
def yl (w : zY) (tick : Int) : Int → Option (Int ⊕ Int)
 | x1 =>
  if decide (x1 < (w.Shifts.length : Int)) then
   Option.bind (ix w.Shifts x1) fun x =>
   Option.bind (quo tick 1440) fun q =>
   if (zh q x.From x.To) then
    some (.inr x.Add)
   else
    some (.inl (w64 (x1 + 1)))
  else
   ((yj).map Sum.inr)
def YG (w : zY) (tick : Int) : Option Int :=
 Lp (yl w tick) fuel 0
def zAd (tick : Int) (c : zY) : Option Int :=
 Option.bind (YG c tick) fun y =>
 some y
def qa (a : Int) (b : Int) : Option (Int × Int) :=
 Option.bind (rem a b) fun q =>
 Option.bind (rem (w64 (q + b)) b) fun q1 =>
 Option.bind (quo (w64 (a - q1)) b) fun q2 =>
 some (q2, q1)
def zAq (c : zw) (tick : Int) : Option Int :=
 Option.bind (qa (w64 (tick - c.Begin)) c.Every) fun y =>
 Option.bind (qa y.1 (c.Heights.length : Int)) fun y1 =>
 Option.bind (ix c.Heights y1.2) fun x =>
 some x
def zAc (tick : Int) (c : zw) : Option Int :=
 Option.bind (zAq c tick) fun y =>
 some y
def Yg (h : Int) : Option Int :=
 some h
def Yh (tick : Int) (c : zY) (c1 : zY) : (Int × Int) → Option ((Int × Int) ⊕ Int)
 | (h1, i) =>
  if decide (i < (c.Cycles.length : Int)) then
   if decide (i = -1) then
    Option.bind (zAd tick c1) fun y =>
    some (.inl (w64 (h1 + y), w64 (i + 1)))
   else
    Option.bind (ix c1.Cycles i) fun c2 =>
    Option.bind (zAc tick c2) fun y1 =>
    some (.inl (w64 (h1 + y1), w64 (i + 1)))
  else
   ((Yg h1).map Sum.inr)
def Jm (tick : Int) (c : zY) (c1 : zY) : Option Int :=
 Lp (Yh tick c c1) fuel (c.Level, (-1))
def zCJ (w : zY) (tick : Int) : Option (Int × Int) :=
 Option.bind (yn w) fun y =>
 if !decide (y = 0) then
  some (0, y)
 else
  if !(Zw tick) then
   some (0, 1)
  else
   Option.bind (Y3 w) fun y1 =>
   Option.bind (Jm tick y1.1 y1.2) fun y2 =>
   some (y2, 0)
def zBE (h : zL) (id : Int) (tick : Int) : Option (Int × Int) :=
 Option.bind (J9 h) fun y =>
 if !decide (y = 0) then
  some (0, y)
 else
  Option.bind (zu h.Berths id) fun y1 =>
  if decide (y1 < 0) then
   some (0, 5)
  else
   Option.bind (zCJ h.Water tick) fun y2 =>
   if !decide (y2.2 = 0) then
    some (0, 1)
   else
    Option.bind (ix h.Berths y1) fun x =>
    some (w64 (x.Depth + y2.1), 0)
def YB (h : zL) (b : zm) (draught : Int) : Int :=
 w64 ((w64 (draught + h.Keel)) - b.Depth)
def Q7 (s : zD) : Int :=
 if (((decide (s.Lo < 0)) || (decide (s.Hi < s.Lo))) || (decide (1048576 < s.Hi))) then
  1
 else
  if decide (10080 ≤ (w64 (s.Hi - s.Lo))) then
   2
  else
   0
def zAr (w : zY) (s : zD) : Option Int :=
 Option.bind (yn w) fun y =>
 if !decide (y = 0) then
  some y
 else
  some (Q7 s)
def ZQ (w : zY) (s : zD) : zY × zD :=
 (w, s)
def YH (height : Int) (Lo : Int) (Hi : Int) (Height : Int) (l : (List zD)) : Option ((List zD) × Int) :=
 if decide (Height < height) then
  some (l, 0)
 else
  gb ((decide (0 < (l.length : Int)))) (ix l (w64 ((l.length : Int) - 1))) fun x =>
  if ((decide (0 < (l.length : Int))) && (decide ((w64 (x.Hi + 1)) = Lo))) then
   Option.bind (ix l (w64 ((l.length : Int) - 1))) fun x1 =>
   some ((put l (w64 ((l.length : Int) - 1)) (⟨x1.Lo, Hi⟩ : zD)), 0)
  else
   Option.bind (app l ([(⟨Lo, Hi⟩ : zD)])) fun l1 =>
   some (l1, 0)
def jD (t : Int) (Lo1 : Int) (Height1 : Int) (l2 : (List zD)) : Option ((Int × Int × Int × Int × (List zD)) ⊕ ((List zD) × Int)) :=
 some (.inl (w64 (t + 1), Lo1, t, Height1, l2))
def Qi (w : zY) (s : zD) (height : Int) (y1 : zY × zY) : (Int × Int × Int × Int × (List zD)) → Option ((Int × Int × Int × Int × (List zD)) ⊕ ((List zD) × Int))
 | (t, Lo2, Hi1, Height2, l5) =>
  if decide (t ≤ ((ZQ w s).2.Hi)) then
   Option.bind (Jm t y1.1 y1.2) fun y3 =>
   if decide (y3 = Height2) then
    jD t Lo2 Height2 l5
   else
    if decide (Height2 < height) then
     jD t t y3 l5
    else
     gb ((decide (0 < (l5.length : Int)))) (ix l5 (w64 ((l5.length : Int) - 1))) fun x2 =>
     if ((decide (0 < (l5.length : Int))) && (decide ((w64 (x2.Hi + 1)) = Lo2))) then
      Option.bind (ix l5 (w64 ((l5.length : Int) - 1))) fun x3 =>
      jD t t y3 (put l5 (w64 ((l5.length : Int) - 1)) (⟨x3.Lo, Hi1⟩ : zD))
     else
      Option.bind (app l5 ([(⟨Lo2, Hi1⟩ : zD)])) fun l3 =>
      jD t t y3 l3
  else
   ((YH height Lo2 Hi1 Height2 l5).map Sum.inr)
def Y4 (w : zY) (s : zD) (height : Int) : Option ((List zD) × Int) :=
 Option.bind (zAr w s) fun y =>
 if !decide (y = 0) then
  some ([], y)
 else
  Option.bind (Y3 ((ZQ w s).1)) fun y1 =>
  Option.bind (Jm ((ZQ w s).2.Lo) y1.1 y1.2) fun y2 =>
  Lp (Qi w s height y1) fuel (w64 (((ZQ w s).2.Lo) + 1), (ZQ w s).2.Lo, (ZQ w s).2.Lo, y2, [])
def Q6 (h : zL) (id : Int) (draught : Int) (s : zD) : Option (Int × Bool × Int) :=
 Option.bind (J9 h) fun y =>
 if !decide (y = 0) then
  some (0, false, y)
 else
  Option.bind (zu h.Berths id) fun y1 =>
  if decide (y1 < 0) then
   some (0, false, 5)
  else
   if ((!(zZ draught 0 8000)) || (!(jr s))) then
    some (0, false, 1)
   else
    Option.bind (ix h.Berths y1) fun x =>
    Option.bind (Y4 h.Water s (YB h x draught)) fun y2 =>
    if !decide (y2.2 = 0) then
     some (0, false, y2.2)
    else
     gb (!(decide ((y2.1.length : Int) = 0))) (ix y2.1 0) fun x1 =>
     if ((decide ((y2.1.length : Int) = 0)) || (decide (s.Lo < x1.Lo))) then
      some (s.Lo, true, 0)
     else
      Option.bind (ix y2.1 0) fun x2 =>
      if decide (x2.Hi < s.Hi) then
       Option.bind (ix y2.1 0) fun x3 =>
       some (w64 (x3.Hi + 1), true, 0)
      else
       some (0, false, 0)
def QB (l : (List zN)) : Option (List zN) :=
 some l
def zBf (n : Int) : (Int × (List zN)) → Option ((Int × (List zN)) ⊕ (List zN))
 | (i, l2) =>
  if decide (i < n) then
   Option.bind (app l2 ([(⟨w64 (11 + i), 700, 0, 1000, 60⟩ : zN)])) fun l1 =>
   some (.inl (w64 (i + 1), l1))
  else
   ((QB l2).map Sum.inr)
def jc (n : Int) : Option (List zN) :=
 Lp (zBf n) fuel (0, [])
def Yw (c : zN) : Bool :=
 ((((((zZ c.ID 1 1099511627776) && (zZ c.Draught 0 8000)) && (decide (0 ≤ c.From))) && (decide (c.From ≤ c.To))) && (decide (c.To ≤ 1048576))) && (zZ c.Long 1 1440))
def Qt (h : zL) (x : zF) : Option (zm × Bool) :=
 Option.bind (zu h.Berths x.Berth) fun y =>
 if ((decide (y < 0)) || (!(zZ x.Tide 0 (w64 ((h.Tides.length : Int) - 1))))) then
  some ((⟨0, 0⟩ : zm), false)
 else
  Option.bind (ix h.Berths y) fun x1 =>
  some (x1, true)
def zAe : Option (zD × Int) :=
 some ((⟨0, 0⟩ : zD), 5)
def zAf (long : Int) (y : (List zD) × Int) : Int → Option (Int ⊕ (zD × Int))
 | x1 =>
  if decide (x1 < (y.1.length : Int)) then
   Option.bind (ix y.1 x1) fun x =>
   if decide ((w64 (long - 1)) ≤ (w64 (x.Hi - x.Lo))) then
    some (.inr (x, 0))
   else
    some (.inl (w64 (x1 + 1)))
  else
   ((zAe).map Sum.inr)
def zBZ (w : zY) (s : zD) (height : Int) (long : Int) : Option (zD × Int) :=
 Option.bind (Y4 w s height) fun y =>
 if !decide (y.2 = 0) then
  some ((⟨0, 0⟩ : zD), y.2)
 else
  if decide (long < 1) then
   some ((⟨0, 0⟩ : zD), 1)
  else
   Lp (zAf long y) fuel 0
def Yt (h : zL) (c : zN) (x : zF) (b : zm) : Option (zD × Bool) :=
 Option.bind (ix h.Tides x.Tide) fun x1 =>
 if decide ((min x1.Hi c.To) < (max x1.Lo c.From)) then
  some ((⟨0, 0⟩ : zD), false)
 else
  Option.bind (zBZ h.Water (⟨max x1.Lo c.From, min x1.Hi c.To⟩ : zD) (YB h b c.Draught) c.Long) fun y =>
  if !decide (y.2 = 0) then
   some ((⟨0, 0⟩ : zD), false)
  else
   some ((⟨y.1.Lo, w64 ((w64 (y.1.Lo + c.Long)) - 1)⟩ : zD), true)
def zB5 (h : zL) (c : zN) (x : zF) : Option (zD × Bool × Int) :=
 Option.bind (J9 h) fun y =>
 if !decide (y = 0) then
  some ((⟨0, 0⟩ : zD), false, y)
 else
  if !(Yw c) then
   some ((⟨0, 0⟩ : zD), false, 1)
  else
   Option.bind (Qt h x) fun y1 =>
   if !y1.2 then
    some ((⟨0, 0⟩ : zD), false, 5)
   else
    Option.bind (Yt h c x y1.1) fun y2 =>
    some (y2.1, y2.2, 0)
def zAB (draught : Int) (c : zL) (c1 : Int) (c2 : zF) (c3 : zm) : Option Bool :=
 Option.bind (Yt c (⟨0, draught, 0, 1048576, c1⟩ : zN) c2 c3) fun y =>
 some y.2
def qR (lo : Int) : Option (Int × Int) :=
 some (lo, 0)
def Y2 (lo1 : Int) (hi : Int) : Option ((Int × Int) ⊕ (Int × Int)) :=
 some (.inl (lo1, hi))
def zCu (h : zL) (x : zF) (long : Int) (y1 : zm × Bool) : (Int × Int) → Option ((Int × Int) ⊕ (Int × Int))
 | (lo2, hi1) =>
  if decide (lo2 < hi1) then
   Option.bind (quo (w64 ((w64 (lo2 + hi1)) + 1)) 2) fun q =>
   Option.bind (zAB q h long x y1.1) fun y3 =>
   if y3 then
    Y2 q hi1
   else
    Y2 lo2 (w64 (q - 1))
  else
   ((qR lo2).map Sum.inr)
def zBF (h : zL) (x : zF) (long : Int) : Option (Int × Int) :=
 Option.bind (J9 h) fun y =>
 if !decide (y = 0) then
  some (0, y)
 else
  Option.bind (Qt h x) fun y1 =>
  if !y1.2 then
   some (0, 5)
  else
   if !(zZ long 1 1440) then
    some (0, 1)
   else
    Option.bind (zAB 0 h long x y1.1) fun y2 =>
    if !y2 then
     some (0, 5)
    else
     Lp (zCu h x long y1) fuel (0, 8000)
def qN (c : zN) : Int :=
 c.ID
def Zy (x : zN) (c : Int) : Bool :=
 decide ((qN x) = c)
def zz : Option Int :=
 some (-1)
def zq (s : (List zN)) (c : Int) : Int → Option (Int ⊕ Int)
 | x1 =>
  if decide (x1 < (s.length : Int)) then
   Option.bind (ix s x1) fun x =>
   if (Zy x c) then
    some (.inr x1)
   else
    some (.inl (w64 (x1 + 1)))
  else
   ((zz).map Sum.inr)
def ZF (s : (List zN)) (c : Int) : Option Int :=
 Lp (zq s c) fuel 0
def ZB (l : (List zN)) (id : Int) : Option Int :=
 Option.bind (ZF l id) fun y =>
 some y
def yO : Option Int :=
 some 0
def yP (l : (List zN)) : Int → Option (Int ⊕ Int)
 | x1 =>
  if decide (x1 < (l.length : Int)) then
   Option.bind (ix l x1) fun x =>
   if !(Yw x) then
    some (.inr 1)
   else
    Option.bind (ZB l x.ID) fun y1 =>
    if decide (y1 < x1) then
     some (.inr 6)
    else
     some (.inl (w64 (x1 + 1)))
  else
   ((yO).map Sum.inr)
def Zo (h : zL) (l : (List zN)) : Option Int :=
 Option.bind (J9 h) fun y =>
 if !decide (y = 0) then
  some y
 else
  if decide (10 < (l.length : Int)) then
   some 2
  else
   Lp (yP l) fuel 0
def zW (h : zL) : zL :=
 h
def Yu (x2 : Int) (l : (List zF)) (m : (List (zF × zD))) : Option ((Int × (List zF) × (List (zF × zD))) ⊕ ((List zF) × (List (zF × zD)))) :=
 some (.inl (w64 (x2 + 1), l, m))
def Yv (h : zL) (c : zN) (x2 : Int) : (Int × (List zF) × (List (zF × zD))) → Option ((Int × (List zF) × (List (zF × zD))) ⊕ ((Int × (List zF) × (List (zF × zD))) ⊕ ((List zF) × (List (zF × zD)))))
 | (x1, l3, m2) =>
  if decide (x1 < (((zW h).Berths).length : Int)) then
   Option.bind (ix ((zW h).Berths) x1) fun x =>
   Option.bind (Yt h c (⟨x2, x.ID⟩ : zF) x) fun y =>
   if y.2 then
    Option.bind (app l3 ([(⟨x2, x.ID⟩ : zF)])) fun l1 =>
    some (.inl (w64 (x1 + 1), l1, (putM posE m2 (⟨x2, x.ID⟩ : zF) y.1)))
   else
    some (.inl (w64 (x1 + 1), l3, m2))
  else
   ((Yu x2 l3 m2).map Sum.inr)
def qL (h : zL) (c : zN) : (Int × (List zF) × (List (zF × zD))) → Option ((Int × (List zF) × (List (zF × zD))) ⊕ ((List zF) × (List (zF × zD))))
 | (x2, l2, m1) =>
  if decide (x2 < (((zW h).Tides).length : Int)) then
   Lp (Yv h c x2) fuel (0, l2, m1)
  else
   some (.inr (l2, m1))
def Q5 (h : zL) (c : zN) : Option ((List zF) × (List (zF × zD))) :=
 Lp (qL h c) fuel (0, [], [])
structure zK where
 calls : (List zN)
 slots : (List zF)
 can : (List (List (zF × zD)))
 old : (List Int)
 deriving DecidableEq, Inhabited
def Qc (x4 : Int) (l1 : (List zF)) : Option ((Int × (List zF)) ⊕ zK) :=
 some (.inl (w64 (x4 + 1), l1))
def Qd (h : zL) (x4 : Int) : (Int × (List zF)) → Option ((Int × (List zF)) ⊕ ((Int × (List zF)) ⊕ zK))
 | (x1, l3) =>
  if decide (x1 < (((zW h).Berths).length : Int)) then
   Option.bind (ix ((zW h).Berths) x1) fun x =>
   Option.bind (app l3 ([(⟨x4, x.ID⟩ : zF)])) fun l2 =>
   some (.inl (w64 (x1 + 1), l2))
  else
   ((Qc x4 l3).map Sum.inr)
def Qb (l : (List zN)) (l10 : (List zF)) (l4 : (List (List (zF × zD)))) (l5 : (List Int)) : Option ((Int × (List zF)) ⊕ zK) :=
 some (.inr (⟨l, l10, l4, l5⟩ : zK))
def qx (h : zL) (l : (List zN)) (l10 : (List zF)) : (Int × (List (List (zF × zD))) × (List Int)) → Option ((Int × (List (List (zF × zD))) × (List Int)) ⊕ ((Int × (List zF)) ⊕ zK))
 | (x3, l8, l9) =>
  if decide (x3 < (l.length : Int)) then
   Option.bind (ix l x3) fun x2 =>
   Option.bind (Q5 h x2) fun y =>
   Option.bind (app l8 ([y.2])) fun l6 =>
   Option.bind (app l9 ([(-1)])) fun l7 =>
   some (.inl (w64 (x3 + 1), l6, l7))
  else
   ((Qb l l10 l8 l9).map Sum.inr)
def qy (h : zL) (l : (List zN)) : (Int × (List zF)) → Option ((Int × (List zF)) ⊕ zK)
 | (x4, l10) =>
  if decide (x4 < (((zW h).Tides).length : Int)) then
   Lp (Qd h x4) fuel (0, l10)
  else
   Lp (qx h l l10) fuel (0, [], [])
def yF (h : zL) (l : (List zN)) : Option zK :=
 Lp (qy h l) fuel (0, [])
def Zh (b : zK) (ship : Int) (l2 : (List Int)) : Option (List Int) :=
 Option.bind (ix l2 (w64 ((b.slots.length : Int) + ship))) fun x =>
 some (put l2 (w64 ((b.slots.length : Int) + ship)) 0)
def Zb (x6 : Int) (l3 : (List Int)) : Option ((Int × (List Int)) ⊕ (List Int)) :=
 some (.inl (w64 (x6 + 1), l3))
def jZ (b : zK) (ship : Int) : (Int × (List Int)) → Option ((Int × (List Int)) ⊕ (List Int))
 | (x6, l4) =>
  if decide (x6 < (b.slots.length : Int)) then
   Option.bind (ix b.slots x6) fun x1 =>
   Option.bind (ix b.can ship) fun x2 =>
   if (ZH x1 x2).isSome then
    Option.bind (ix l4 x6) fun x3 =>
    Option.bind (ix b.old ship) fun x4 =>
    if decide (x4 = x6) then
     Option.bind (ix (put l4 x6 (-1000)) x6) fun x5 =>
     Zb x6 (put (put l4 x6 (-1000)) x6 (-1001))
    else
     Zb x6 (put l4 x6 (-1000))
   else
    Zb x6 l4
  else
   ((Zh b ship l4).map Sum.inr)
def Zq (b : zK) (ship : Int) (l1 : (List Int)) : Option (List Int) :=
 Lp (jZ b ship) fuel (0, l1)
def jY (b : zK) (ship : Int) (l : (List Int)) : (Int × (List Int)) → Option ((Int × (List Int)) ⊕ (List Int))
 | (x8, l5) =>
  if decide (x8 < (l.length : Int)) then
   Option.bind (ix l5 x8) fun x7 =>
   some (.inl (w64 (x8 + 1), (put l5 x8 1073741824)))
  else
   ((Zq b ship l5).map Sum.inr)
def jg (b : zK) (ship : Int) : Option (List Int) :=
 Option.bind (mkS (w64 ((b.slots.length : Int) + (b.calls.length : Int))) (w64 ((b.slots.length : Int) + (b.calls.length : Int))) (0 : Int)) fun l =>
 Lp (jY b ship l) fuel (0, l)
def YN (sum : Int) (l5 : (List Int)) : Option ((List Int) × Int) :=
 some (l5, sum)
def JP (k : Int) (sum1 : Int) (l6 : (List Int)) : Option ((Int × Int × (List Int)) ⊕ ((List Int) × Int)) :=
 some (.inl (sum1, w64 (k + 1), l6))
def Jw (cost : (List (List Int))) (places : Int) (l3 : (List Int)) : (Int × Int × (List Int)) → Option ((Int × Int × (List Int)) ⊕ ((List Int) × Int))
 | (sum2, k, l7) =>
  if decide (k ≤ places) then
   Option.bind (ix l3 k) fun x =>
   if decide (0 < x) then
    Option.bind (ix l3 k) fun x1 =>
    Option.bind (ix l7 (w64 (x1 - 1))) fun x2 =>
    Option.bind (ix l3 k) fun x3 =>
    Option.bind (ix cost (w64 (x3 - 1))) fun x4 =>
    Option.bind (ix x4 (w64 (k - 1))) fun x5 =>
    JP k (w64 (sum2 + x5)) (put l7 (w64 (x1 - 1)) (w64 (k - 1)))
   else
    JP k sum2 l7
  else
   ((YN sum2 l7).map Sum.inr)
def JR (cost : (List (List Int))) (places : Int) (l3 : (List Int)) : Option ((List Int) × Int) :=
 Option.bind (mkS (cost.length : Int) (cost.length : Int) (0 : Int)) fun l4 =>
 Lp (Jw cost places l3) fuel (0, 1, l4)
def YL (i : Int) (l12 : (List Int)) (l13 : (List Int)) (l15 : (List Int)) : Option ((Int × (List Int) × (List Int) × (List Int)) ⊕ ((List Int) × Int)) :=
 some (.inl (w64 (i + 1), l12, l13, l15))
def YO (i : Int) (l12 : (List Int)) (l13 : (List Int)) (l14 : (List Int)) : (Int × (List Int)) → Option ((Int × (List Int)) ⊕ ((Int × (List Int) × (List Int) × (List Int)) ⊕ ((List Int) × Int)))
 | (at_1, l16) =>
  if !decide (at_1 = 0) then
   Option.bind (ix l14 at_1) fun x7 =>
   Option.bind (ix l16 x7) fun x8 =>
   Option.bind (ix l16 at_1) fun x9 =>
   Option.bind (ix l14 at_1) fun x10 =>
   some (.inl (x10, (put l16 at_1 x8)))
  else
   ((YL i l12 l13 l16).map Sum.inr)
def YM (i : Int) (l42 : (List Int)) (at_ : Int) (l12 : (List Int)) (l13 : (List Int)) (l14 : (List Int)) : Option ((Int × (List Int) × (List Int) × (List Int)) ⊕ ((List Int) × Int)) :=
 Lp (YO i l12 l13 l14) fuel (at_, (put l42 0 i))
def jb (i : Int) (l42 : (List Int)) (at_2 : Int) (l38 : (List Bool)) (next : Int) (l18 : (List Int)) (l19 : (List Int)) (l20 : (List Int)) (l21 : (List Int)) : Option ((Int × (List Int) × (List Int) × (List Int) × (List Int) × (List Bool)) ⊕ ((Int × (List Int) × (List Int) × (List Int)) ⊕ ((List Int) × Int))) :=
 Option.bind (ix (put l42 0 i) next) fun x13 =>
 if decide (x13 = 0) then
  ((YM i l42 next l19 l20 l18).map Sum.inr)
 else
  some (.inl (next, l19, l20, l21, l18, (put l38 at_2 true)))
def j5 (x22 : Int) (l22 : (List Int)) (l23 : (List Int)) (l24 : (List Int)) : Option ((Int × (List Int) × (List Int) × (List Int)) ⊕ ((Int × (List Int) × (List Int) × (List Int) × (List Int) × (List Bool)) ⊕ ((Int × (List Int) × (List Int) × (List Int)) ⊕ ((List Int) × Int)))) :=
 some (.inl (w64 (x22 + 1), l22, l23, l24))
def Ji (i : Int) (l42 : (List Int)) (at_2 : Int) (l38 : (List Bool)) (next : Int) (step : Int) (l18 : (List Int)) : (Int × (List Int) × (List Int) × (List Int)) → Option ((Int × (List Int) × (List Int) × (List Int)) ⊕ ((Int × (List Int) × (List Int) × (List Int) × (List Int) × (List Bool)) ⊕ ((Int × (List Int) × (List Int) × (List Int)) ⊕ ((List Int) × Int))))
 | (x22, l25, l26, l27) =>
  if decide (x22 < ((put l38 at_2 true).length : Int)) then
   Option.bind (ix (put l38 at_2 true) x22) fun x14 =>
   if x14 then
    Option.bind (ix (put l42 0 i) x22) fun x15 =>
    Option.bind (ix l25 x15) fun x16 =>
    Option.bind (ix l25 x15) fun x17 =>
    Option.bind (ix l26 x22) fun x18 =>
    Option.bind (ix l26 x22) fun x19 =>
    j5 x22 (put l25 x15 (w64 (x16 + step))) (put l26 x22 (w64 (x18 - step))) l27
   else
    Option.bind (ix l27 x22) fun x20 =>
    Option.bind (ix l27 x22) fun x21 =>
    j5 x22 l25 l26 (put l27 x22 (w64 (x20 - step)))
  else
   ((jb i l42 at_2 l38 next l18 l25 l26 l27).map Sum.inr)
def j6 (i : Int) (l42 : (List Int)) (at_2 : Int) (l34 : (List Int)) (l35 : (List Int)) (l38 : (List Bool)) (next : Int) (step : Int) (l17 : (List Int)) (l18 : (List Int)) : Option ((Int × (List Int) × (List Int) × (List Int) × (List Int) × (List Bool)) ⊕ ((Int × (List Int) × (List Int) × (List Int)) ⊕ ((List Int) × Int))) :=
 Lp (Ji i l42 at_2 l38 next step l18) fuel (0, l34, l35, l17)
def ja (k1 : Int) (next1 : Int) (step1 : Int) (l28 : (List Int)) (l29 : (List Int)) : Option ((Int × Int × Int × (List Int) × (List Int)) ⊕ ((Int × (List Int) × (List Int) × (List Int) × (List Int) × (List Bool)) ⊕ ((Int × (List Int) × (List Int) × (List Int)) ⊕ ((List Int) × Int)))) :=
 some (.inl (next1, step1, w64 (k1 + 1), l28, l29))
def j4 (next2 : Int) (step2 : Int) (k1 : Int) (l30 : (List Int)) (l31 : (List Int)) : Option ((Int × Int × Int × (List Int) × (List Int)) ⊕ ((Int × (List Int) × (List Int) × (List Int) × (List Int) × (List Bool)) ⊕ ((Int × (List Int) × (List Int) × (List Int)) ⊕ ((List Int) × Int)))) :=
 Option.bind (ix l30 k1) fun x29 =>
 if decide (x29 < step2) then
  Option.bind (ix l30 k1) fun x30 =>
  ja k1 k1 x30 l30 l31
 else
  ja k1 next2 step2 l30 l31
def Jh (cost : (List (List Int))) (places : Int) (i : Int) (l42 : (List Int)) (at_2 : Int) (l34 : (List Int)) (l35 : (List Int)) (l38 : (List Bool)) (x12 : Int) : (Int × Int × Int × (List Int) × (List Int)) → Option ((Int × Int × Int × (List Int) × (List Int)) ⊕ ((Int × (List Int) × (List Int) × (List Int) × (List Int) × (List Bool)) ⊕ ((Int × (List Int) × (List Int) × (List Int)) ⊕ ((List Int) × Int))))
 | (next2, step2, k1, l32, l33) =>
  if decide (k1 ≤ places) then
   Option.bind (ix (put l38 at_2 true) k1) fun x23 =>
   if x23 then
    ja k1 next2 step2 l32 l33
   else
    Option.bind (ix cost (w64 (x12 - 1))) fun x24 =>
    Option.bind (ix x24 (w64 (k1 - 1))) fun x25 =>
    Option.bind (ix l34 x12) fun x26 =>
    Option.bind (ix l35 k1) fun x27 =>
    Option.bind (ix l32 k1) fun x28 =>
    if decide ((w64 ((w64 (x25 - x26)) - x27)) < x28) then
     Option.bind (ix l32 k1) fun x31 =>
     Option.bind (ix l33 k1) fun x32 =>
     j4 next2 step2 k1 (put l32 k1 (w64 ((w64 (x25 - x26)) - x27))) (put l33 k1 at_2)
    else
     j4 next2 step2 k1 l32 l33
  else
   ((j6 i l42 at_2 l34 l35 l38 next2 step2 l32 l33).map Sum.inr)
def yZ (cost : (List (List Int))) (places : Int) (i : Int) (l42 : (List Int)) : (Int × (List Int) × (List Int) × (List Int) × (List Int) × (List Bool)) → Option ((Int × (List Int) × (List Int) × (List Int) × (List Int) × (List Bool)) ⊕ ((Int × (List Int) × (List Int) × (List Int)) ⊕ ((List Int) × Int)))
 | (at_2, l34, l35, l36, l37, l38) =>
  Option.bind (ix l38 at_2) fun x11 =>
  Option.bind (ix (put l42 0 i) at_2) fun x12 =>
  Lp (Jh cost places i l42 at_2 l34 l35 l38 x12) fuel (0, 4294967296, 1, l36, l37)
def Jv (cost : (List (List Int))) (places : Int) (i : Int) (l40 : (List Int)) (l41 : (List Int)) (l42 : (List Int)) (l9 : (List Int)) (l10 : (List Bool)) (l11 : (List Int)) : Option ((Int × (List Int) × (List Int) × (List Int)) ⊕ ((List Int) × Int)) :=
 Lp (yZ cost places i l42) fuel (0, l40, l41, l11, l9, l10)
def yY (cost : (List (List Int))) (places : Int) (i : Int) (l40 : (List Int)) (l41 : (List Int)) (l42 : (List Int)) (l8 : (List Int)) (l9 : (List Int)) (l10 : (List Bool)) : (Int × (List Int)) → Option ((Int × (List Int)) ⊕ ((Int × (List Int) × (List Int) × (List Int)) ⊕ ((List Int) × Int)))
 | (x34, l39) =>
  if decide (x34 < (l8.length : Int)) then
   Option.bind (ix l39 x34) fun x33 =>
   some (.inl (w64 (x34 + 1), (put l39 x34 4294967296)))
  else
   ((Jv cost places i l40 l41 l42 l9 l10 l39).map Sum.inr)
def YP (cost : (List (List Int))) (places : Int) : (Int × (List Int) × (List Int) × (List Int)) → Option ((Int × (List Int) × (List Int) × (List Int)) ⊕ ((List Int) × Int))
 | (i, l40, l41, l42) =>
  if decide (i ≤ (cost.length : Int)) then
   Option.bind (ix l42 0) fun x6 =>
   Option.bind (mkS (w64 (places + 1)) (w64 (places + 1)) (0 : Int)) fun l8 =>
   Option.bind (mkS (w64 (places + 1)) (w64 (places + 1)) (0 : Int)) fun l9 =>
   Option.bind (mkS (w64 (places + 1)) (w64 (places + 1)) false) fun l10 =>
   Lp (yY cost places i l40 l41 l42 l8 l9 l10) fuel (0, l8)
  else
   ((JR cost places l42).map Sum.inr)
def Jc (cost : (List (List Int))) (places : Int) : Option ((List Int) × Int) :=
 Option.bind (mkS (w64 ((cost.length : Int) + 1)) (w64 ((cost.length : Int) + 1)) (0 : Int)) fun l =>
 Option.bind (mkS (w64 (places + 1)) (w64 (places + 1)) (0 : Int)) fun l1 =>
 Option.bind (mkS (w64 (places + 1)) (w64 (places + 1)) (0 : Int)) fun l2 =>
 Lp (YP cost places) fuel (1, l, l1, l2)
def jo (b : zK) (l : (List (List Int))) : Option ((List Int) × Int) :=
 Option.bind (Jc l (w64 ((b.slots.length : Int) + (b.calls.length : Int)))) fun y =>
 some (y.1, y.2)
def jA (x3 : Int) (l5 : (List (List Int))) (l1 : (List Int)) : Option ((Int × (List (List Int))) ⊕ ((List Int) × Int)) :=
 Option.bind (app l5 ([l1])) fun l2 =>
 some (.inl (w64 (x3 + 1), l2))
def jM (x2 : Int) (l3 : (List Int)) : Option ((Int × (List Int)) ⊕ ((Int × (List (List Int))) ⊕ ((List Int) × Int))) :=
 some (.inl (w64 (x2 + 1), l3))
def JZ (x3 : Int) (l5 : (List (List Int))) (y1 : (List Int)) (k : Int) : (Int × (List Int)) → Option ((Int × (List Int)) ⊕ ((Int × (List (List Int))) ⊕ ((List Int) × Int)))
 | (x2, l4) =>
  if decide (x2 < (y1.length : Int)) then
   if !decide (x2 = k) then
    Option.bind (ix l4 x2) fun x1 =>
    jM x2 (put l4 x2 1073741824)
   else
    jM x2 l4
  else
   ((jA x3 l5 l4).map Sum.inr)
def jN (x3 : Int) (l5 : (List (List Int))) (y1 : (List Int)) (k : Int) : Option ((Int × (List (List Int))) ⊕ ((List Int) × Int)) :=
 Lp (JZ x3 l5 y1 k) fuel (0, y1)
def Ja (b : zK) (fixed : (List Int)) : (Int × (List (List Int))) → Option ((Int × (List (List Int))) ⊕ ((List Int) × Int))
 | (x3, l5) =>
  if decide (x3 < (b.calls.length : Int)) then
   Option.bind (jg b x3) fun y1 =>
   if decide (x3 < (fixed.length : Int)) then
    Option.bind (ix fixed x3) fun x =>
    if decide (x < 0) then
     jN x3 l5 y1 (w64 ((b.slots.length : Int) + x3))
    else
     jN x3 l5 y1 x
   else
    jA x3 l5 y1
  else
   ((jo b l5).map Sum.inr)
def Zn (b : zK) (fixed : (List Int)) : Option ((List Int) × Int) :=
 Lp (Ja b fixed) fuel (0, [])
def slices_Clone_int (l : List Int) : Option (List Int) := app [] l
def JW (l : (List zP)) : Option (List zP) :=
 some l
def jK (x4 : Int) (l1 : (List Int)) (l2 : (List zP)) : Option ((Int × (List Int) × (List zP)) ⊕ (List zP)) :=
 some (.inl (w64 (x4 + 1), l1, l2))
def JV (x4 : Int) (l8 : (List Int)) (l9 : (List zP)) : Option ((Int × (List Int) × (List zP)) ⊕ (List zP)) :=
 Option.bind (app l8 ([(-1)])) fun l3 =>
 jK x4 l3 l9
def jJ (x3 : Int) : Option (Int ⊕ ((Int × (List Int) × (List zP)) ⊕ (List zP))) :=
 some (.inl (w64 (x3 + 1)))
def yL (b : zK) (y : (List Int) × Int) (x4 : Int) (l8 : (List Int)) (l9 : (List zP)) (x : zN) : Int → Option (Int ⊕ ((Int × (List Int) × (List zP)) ⊕ (List zP)))
 | x3 =>
  if decide (x3 < (b.slots.length : Int)) then
   Option.bind (ix b.slots x3) fun x1 =>
   Option.bind (ix b.can x4) fun x2 =>
   if !(ZH x1 x2).isSome then
    jJ x3
   else
    Option.bind (app [] l8) fun l4 =>
    Option.bind (app l4 ([x3])) fun l5 =>
    Option.bind (Zn b l5) fun y1 =>
    if decide (y1.2 = y.2) then
     Option.bind (app l8 ([x3])) fun l6 =>
     Option.bind (app l9 ([(⟨x.ID, x1, ((ZH x1 x2).getD (⟨0, 0⟩ : zD))⟩ : zP)])) fun l7 =>
     ((jK x4 l6 l7).map Sum.inr)
    else
     jJ x3
  else
   ((JV x4 l8 l9).map Sum.inr)
def JX (b : zK) (y : (List Int) × Int) : (Int × (List Int) × (List zP)) → Option ((Int × (List Int) × (List zP)) ⊕ (List zP))
 | (x4, l8, l9) =>
  if decide (x4 < (b.calls.length : Int)) then
   Option.bind (ix b.calls x4) fun x =>
   Lp (yL b y x4 l8 l9 x) fuel 0
  else
   ((JW l9).map Sum.inr)
def jG (b : zK) : Option (List zP) :=
 Option.bind (Zn b []) fun y =>
 Lp (JX b y) fuel (0, [], [])
def YE (h : zL) (l : (List zN)) : Option ((List zP) × Int) :=
 Option.bind (Zo h l) fun y =>
 if !decide (y = 0) then
  some ([], y)
 else
  Option.bind (yF h l) fun y1 =>
  Option.bind (jG y1) fun y2 =>
  some (y2, 0)
structure ZL where
 Calls : (List Int)
 Slots : (List zF)
 deriving DecidableEq, Inhabited
def QR (c : zN) (c1 : zK) (c2 : zF) (c3 : (List (Int × Bool))) : Option Bool :=
 Option.bind (ZB c1.calls c.ID) fun y =>
 Option.bind (ix c1.can y) fun x =>
 some (((ZH c2 x).isSome) && ((ZH y c3).getD false))
def ZW : Option Int :=
 some (-1)
def jE (s : (List zN)) (c : zK) (c1 : zF) (c2 : (List (Int × Bool))) : Int → Option (Int ⊕ Int)
 | x1 =>
  if decide (x1 < (s.length : Int)) then
   Option.bind (ix s x1) fun x =>
   Option.bind (QR x c c1 c2) fun y =>
   if y then
    some (.inr x1)
   else
    some (.inl (w64 (x1 + 1)))
  else
   ((ZW).map Sum.inr)
def Zt (s : (List zN)) (c : zK) (c1 : zF) (c2 : (List (Int × Bool))) : Option Int :=
 Lp (jE s c c1 c2) fuel 0
def Zl (s : (List zN)) (c : zK) (c1 : zF) (c2 : (List (Int × Bool))) : Option Bool :=
 Option.bind (Zt s c c1 c2) fun y =>
 some (decide (0 ≤ y))
def J7 (l1 : (List Int)) (l2 : (List zF)) : Option ZL :=
 some (⟨l1, l2⟩ : ZL)
def JK (x1 : Int) (l3 : (List zF)) : Option ((Int × (List zF)) ⊕ ZL) :=
 some (.inl (w64 (x1 + 1), l3))
def Yx (b : zK) (ships : (List (Int × Bool))) (l1 : (List Int)) : (Int × (List zF)) → Option ((Int × (List zF)) ⊕ ZL)
 | (x1, l5) =>
  if decide (x1 < (b.slots.length : Int)) then
   Option.bind (ix b.slots x1) fun x =>
   Option.bind (Zl b.calls b x ships) fun y =>
   if y then
    Option.bind (app l5 ([x])) fun l4 =>
    JK x1 l4
   else
    JK x1 l5
  else
   ((J7 l1 l5).map Sum.inr)
def jX (b : zK) (ships : (List (Int × Bool))) (l : (List Int)) : Option ZL :=
 Option.bind (srtO l) fun l1 =>
 Lp (Yx b ships l1) fuel (0, [])
def jC (x3 : Int) (l6 : (List Int)) : Option ((Int × (List Int)) ⊕ ZL) :=
 some (.inl (w64 (x3 + 1), l6))
def J8 (b : zK) (ships : (List (Int × Bool))) : (Int × (List Int)) → Option ((Int × (List Int)) ⊕ ZL)
 | (x3, l8) =>
  if decide (x3 < (b.calls.length : Int)) then
   Option.bind (ix b.calls x3) fun x2 =>
   if ((ZH x3 ships).getD false) then
    Option.bind (app l8 ([x2.ID])) fun l7 =>
    jC x3 l7
   else
    jC x3 l8
  else
   ((jX b ships l8).map Sum.inr)
def JM (b : zK) (ships : (List (Int × Bool))) : Option ZL :=
 Lp (J8 b ships) fuel (0, [])
def Yc (y1 : zK) (m2 : (List (Int × Bool))) : Option (ZL × Bool × Int) :=
 Option.bind (JM y1 m2) fun y3 =>
 some (y3, true, 0)
def Qg (x3 : Int) (more : Bool) (m3 : (List (Int × Bool))) : Option ((Bool × Int × (List (Int × Bool))) ⊕ ((Bool × (List (Int × Bool))) ⊕ (ZL × Bool × Int))) :=
 some (.inl (more, w64 (x3 + 1), m3))
def Qf (x2 : Int) (more1 : Bool) (m4 : (List (Int × Bool))) : Option ((Bool × Int × (List (Int × Bool))) ⊕ ((Bool × Int × (List (Int × Bool))) ⊕ ((Bool × (List (Int × Bool))) ⊕ (ZL × Bool × Int)))) :=
 some (.inl (more1, w64 (x2 + 1), m4))
def zDN (l : (List zN)) (y1 : zK) (m1 : (List (Int × Int))) (x3 : Int) (x : zF) : (Bool × Int × (List (Int × Bool))) → Option ((Bool × Int × (List (Int × Bool))) ⊕ ((Bool × Int × (List (Int × Bool))) ⊕ ((Bool × (List (Int × Bool))) ⊕ (ZL × Bool × Int))))
 | (more2, x2, m5) =>
  if decide (x2 < (l.length : Int)) then
   Option.bind (ix y1.can x2) fun x1 =>
   if (((ZH x x1).isSome) && ((ZH x2 m5).getD false)) then
    Qf x2 true (putM posI m5 ((ZH x3 m1).getD 0) true)
   else
    Qf x2 more2 m5
  else
   ((Qg x3 more2 m5).map Sum.inr)
def zBX (l : (List zN)) (y1 : zK) (m1 : (List (Int × Int))) : (Bool × Int × (List (Int × Bool))) → Option ((Bool × Int × (List (Int × Bool))) ⊕ ((Bool × (List (Int × Bool))) ⊕ (ZL × Bool × Int)))
 | (more3, x3, m6) =>
  if decide (x3 < (y1.slots.length : Int)) then
   Option.bind (ix y1.slots x3) fun x =>
   if ((!(ZH x3 m1).isSome) || ((ZH ((ZH x3 m1).getD 0) m6).getD false)) then
    Qg x3 more3 m6
   else
    Lp (zDN l y1 m1 x3 x) fuel (more3, 0, m6)
  else
   some (.inr (.inl (more3, m6)))
def zAA (l : (List zN)) (y1 : zK) (m1 : (List (Int × Int))) : (Bool × (List (Int × Bool))) → Option ((Bool × (List (Int × Bool))) ⊕ (ZL × Bool × Int))
 | (more4, m7) =>
  if more4 then
   Lp (zBX l y1 m1) fuel (false, 0, m7)
  else
   ((Yc y1 m7).map Sum.inr)
def Yd (l : (List zN)) (y1 : zK) (m : (List (Int × Bool))) (m1 : (List (Int × Int))) : Option (ZL × Bool × Int) :=
 if decide ((m.length : Int) = 0) then
  some ((⟨[], []⟩ : ZL), false, 0)
 else
  Lp (zAA l y1 m1) fuel (true, m)
def yG (x5 : Int) (m8 : (List (Int × Bool))) (m9 : (List (Int × Int))) : Option ((Int × (List (Int × Bool)) × (List (Int × Int))) ⊕ (ZL × Bool × Int)) :=
 some (.inl (w64 (x5 + 1), m8, m9))
def qz (l : (List zN)) (y1 : zK) (y2 : (List Int) × Int) : (Int × (List (Int × Bool)) × (List (Int × Int))) → Option ((Int × (List (Int × Bool)) × (List (Int × Int))) ⊕ (ZL × Bool × Int))
 | (x5, m10, m11) =>
  if decide (x5 < (y2.1.length : Int)) then
   Option.bind (ix y2.1 x5) fun x4 =>
   if decide ((y1.slots.length : Int) ≤ x4) then
    yG x5 (putM posI m10 x5 true) m11
   else
    yG x5 m10 (putM posI m11 x4 x5)
  else
   ((Yd l y1 m10 m11).map Sum.inr)
def zA9 (h : zL) (l : (List zN)) : Option (ZL × Bool × Int) :=
 Option.bind (Zo h l) fun y =>
 if !decide (y = 0) then
  some ((⟨[], []⟩ : ZL), false, y)
 else
  Option.bind (yF h l) fun y1 =>
  Option.bind (Zn y1 []) fun y2 =>
  Lp (qz l y1 y2) fuel (0, [], [])
def yI : Option Bool :=
 some true
def zAV (s1 : (List Int)) (s2 : (List Int)) : Int → Option (Int ⊕ Bool)
 | x2 =>
  if decide (x2 < (s1.length : Int)) then
   Option.bind (ix s1 x2) fun x =>
   Option.bind (ix s2 x2) fun x1 =>
   if !decide (x = x1) then
    some (.inr false)
   else
    some (.inl (w64 (x2 + 1)))
  else
   ((yI).map Sum.inr)
def slices_Equal_int (s1 : (List Int)) (s2 : (List Int)) : Option Bool :=
 if !decide ((s1.length : Int) = (s2.length : Int)) then
  some false
 else
  Lp (zAV s1 s2) fuel 0
def JD : Option Bool :=
 some true
def QV (s1 : (List zF)) (s2 : (List zF)) : Int → Option (Int ⊕ Bool)
 | x2 =>
  if decide (x2 < (s1.length : Int)) then
   Option.bind (ix s1 x2) fun x =>
   Option.bind (ix s2 x2) fun x1 =>
   if !decide (x = x1) then
    some (.inr false)
   else
    some (.inl (w64 (x2 + 1)))
  else
   ((JD).map Sum.inr)
def Js (s1 : (List zF)) (s2 : (List zF)) : Option Bool :=
 if !decide ((s1.length : Int) = (s2.length : Int)) then
  some false
 else
  Lp (QV s1 s2) fuel 0
def JA (h : zL) (l : (List zN)) (x : ZL) (m : (List (Int × Bool))) : Option (Int × Int) :=
 Option.bind (yF h l) fun y1 =>
 Option.bind (JM y1 m) fun y2 =>
 gb (!(decide ((x.Calls.length : Int) = 0))) (slices_Equal_int x.Calls y2.Calls) fun y3 =>
 gb (!(((decide ((x.Calls.length : Int) = 0)) || (!y3)))) (Js x.Slots y2.Slots) fun y4 =>
 if ((((decide ((x.Calls.length : Int) = 0)) || (!y3)) || (!y4)) || (decide ((x.Calls.length : Int) ≤ (x.Slots.length : Int)))) then
  some (0, 8)
 else
  some (w64 ((x.Calls.length : Int) - (x.Slots.length : Int)), 0)
def jV (x2 : Int) (m1 : (List (Int × Bool))) : Option ((Int × (List (Int × Bool))) ⊕ (Int × Int)) :=
 some (.inl (w64 (x2 + 1), m1))
def YF (h : zL) (l : (List zN)) (x : ZL) : (Int × (List (Int × Bool))) → Option ((Int × (List (Int × Bool))) ⊕ (Int × Int))
 | (x2, m2) =>
  if decide (x2 < (x.Calls.length : Int)) then
   Option.bind (ix x.Calls x2) fun x1 =>
   Option.bind (ZB l x1) fun y5 =>
   if decide (0 ≤ y5) then
    jV x2 (putM posI m2 y5 true)
   else
    jV x2 m2
  else
   ((JA h l x m2).map Sum.inr)
def YR (h : zL) (l : (List zN)) (x : ZL) : Option (Int × Int) :=
 Option.bind (Zo h l) fun y =>
 if !decide (y = 0) then
  some (0, y)
 else
  Lp (YF h l x) fuel (0, [])
def J4 : Option Bool :=
 Option.bind (zBE (ZZ) 1 130) fun y =>
 Option.bind (Q6 (ZZ) 2 700 (⟨60, 200⟩ : zD)) fun y1 =>
 Option.bind (Q6 (ZZ) 2 600 (⟨60, 200⟩ : zD)) fun y2 =>
 Option.bind (jc 1) fun y3 =>
 Option.bind (ix y3 0) fun x =>
 Option.bind (zB5 (ZZ) x (⟨0, 2⟩ : zF)) fun y4 =>
 Option.bind (zBF (ZZ) (⟨0, 2⟩ : zF) 120) fun y5 =>
 Option.bind (jc 3) fun y6 =>
 Option.bind (YE (ZZ) y6) fun y7 =>
 Option.bind (jc 5) fun y8 =>
 Option.bind (zA9 (ZZ) y8) fun y9 =>
 Option.bind (jc 5) fun y10 =>
 Option.bind (YR (ZZ) y10 y9.1) fun y11 =>
 if (((((((((!decide (y.2 = 0)) || (!decide (y1.2.2 = 0))) || (!decide (y2.2.2 = 0))) || (!decide (y4.2.2 = 0))) || (!decide (y5.2 = 0))) || (!decide (y7.2 = 0))) || (!decide (y9.2.2 = 0))) || (!decide (y11.2 = 0))) || (!decide ((y7.1.length : Int) = 3))) then
  some false
 else
  gb (((((((((decide (y.1 = 1000)) && y1.2.1) && (decide (y1.1 = 60))) && (!y2.2.1)) && y4.2.1) && (decide (y4.1 = (⟨120, 179⟩ : zD)))) && (decide (y5.1 = 650))))) (ix y7.1 2) fun x1 =>
  some ((((((((((((decide (y.1 = 1000)) && y1.2.1) && (decide (y1.1 = 60))) && (!y2.2.1)) && y4.2.1) && (decide (y4.1 = (⟨120, 179⟩ : zD)))) && (decide (y5.1 = 650))) && (decide (x1 = (⟨13, (⟨1, 1⟩ : zF), (⟨240, 299⟩ : zD)⟩ : zP)))) && y9.2.1) && (decide ((y9.1.Calls.length : Int) = 5))) && (decide ((y9.1.Slots.length : Int) = 4))) && (decide (y11.1 = 1)))
def qM (s : zP) : Int :=
 s.Call
def Zx (x : zP) (c : Int) : Bool :=
 decide ((qM x) = c)
def zy : Option Int :=
 some (-1)
def zo (s : (List zP)) (c : Int) : Int → Option (Int ⊕ Int)
 | x1 =>
  if decide (x1 < (s.length : Int)) then
   Option.bind (ix s x1) fun x =>
   if (Zx x c) then
    some (.inr x1)
   else
    some (.inl (w64 (x1 + 1)))
  else
   ((zy).map Sum.inr)
def ZE (s : (List zP)) (c : Int) : Option Int :=
 Lp (zo s c) fuel 0
def Zj (l : (List zP)) (id : Int) : Option Int :=
 Option.bind (ZE l id) fun y =>
 some y
def Qs (l : (List zP)) (id : Int) : Option (zP × Bool) :=
 Option.bind (Zj l id) fun y =>
 if decide (y < 0) then
  some ((⟨0, (⟨0, 0⟩ : zF), (⟨0, 0⟩ : zD)⟩ : zP), false)
 else
  Option.bind (ix l y) fun x =>
  some (x, true)
def JC : Option Int :=
 some (-1)
def jQ (s : (List zF)) (v_ : zF) : Int → Option (Int ⊕ Int)
 | x1 =>
  if decide (x1 < (s.length : Int)) then
   Option.bind (ix s x1) fun x =>
   if decide (v_ = x) then
    some (.inr x1)
   else
    some (.inl (w64 (x1 + 1)))
  else
   ((JC).map Sum.inr)
def jw (s : (List zF)) (v_ : zF) : Option Int :=
 Lp (jQ s v_) fuel 0
def YU (l : (List zN)) (l1 : (List zF)) (l2 : (List (List (zF × zD)))) (l4 : (List Int)) : Option ((List zP) × Int) :=
 Option.bind (jG (⟨l, l1, l2, l4⟩ : zK)) fun y2 =>
 some (y2, 0)
def Jy (x2 : Int) (l5 : (List Int)) : Option ((Int × (List Int)) ⊕ ((List zP) × Int)) :=
 some (.inl (w64 (x2 + 1), l5))
def YX (l : (List zN)) (old : (List zP)) (l1 : (List zF)) (l2 : (List (List (zF × zD)))) : (Int × (List Int)) → Option ((Int × (List Int)) ⊕ ((List zP) × Int))
 | (x2, l6) =>
  if decide (x2 < (l.length : Int)) then
   Option.bind (ix l x2) fun x =>
   Option.bind (Qs old x.ID) fun y3 =>
   if y3.2 then
    Option.bind (jw l1 y3.1.Slot) fun y4 =>
    Option.bind (ix l6 x2) fun x1 =>
    Jy x2 (put l6 x2 y4)
   else
    Jy x2 l6
  else
   ((YU l l1 l2 l6).map Sum.inr)
def YV (l : (List zN)) (old : (List zP)) (l1 : (List zF)) (l2 : (List (List (zF × zD)))) (l3 : (List Int)) : Option ((List zP) × Int) :=
 Lp (YX l old l1 l2) fuel (0, l3)
def YT (x7 : Int) (l7 : (List zF)) : Option ((Int × (List zF)) ⊕ ((List zP) × Int)) :=
 some (.inl (w64 (x7 + 1), l7))
def YW (h : zL) (x7 : Int) : (Int × (List zF)) → Option ((Int × (List zF)) ⊕ ((Int × (List zF)) ⊕ ((List zP) × Int)))
 | (x4, l9) =>
  if decide (x4 < (((zW h).Berths).length : Int)) then
   Option.bind (ix ((zW h).Berths) x4) fun x3 =>
   Option.bind (app l9 ([(⟨x7, x3.ID⟩ : zF)])) fun l8 =>
   some (.inl (w64 (x4 + 1), l8))
  else
   ((YT x7 l9).map Sum.inr)
def YS (l : (List zN)) (old : (List zP)) (l16 : (List zF)) (l10 : (List (List (zF × zD)))) (l11 : (List Int)) : Option ((Int × (List zF)) ⊕ ((List zP) × Int)) :=
 ((YV l old l16 l10 l11).map Sum.inr)
def Qm (h : zL) (l : (List zN)) (old : (List zP)) (l16 : (List zF)) : (Int × (List (List (zF × zD))) × (List Int)) → Option ((Int × (List (List (zF × zD))) × (List Int)) ⊕ ((Int × (List zF)) ⊕ ((List zP) × Int)))
 | (x6, l14, l15) =>
  if decide (x6 < (l.length : Int)) then
   Option.bind (ix l x6) fun x5 =>
   Option.bind (Q5 h x5) fun y5 =>
   Option.bind (app l14 ([y5.2])) fun l12 =>
   Option.bind (app l15 ([(-1)])) fun l13 =>
   some (.inl (w64 (x6 + 1), l12, l13))
  else
   ((YS l old l16 l14 l15).map Sum.inr)
def Qn (h : zL) (l : (List zN)) (old : (List zP)) : (Int × (List zF)) → Option ((Int × (List zF)) ⊕ ((List zP) × Int))
 | (x7, l16) =>
  if decide (x7 < (((zW h).Tides).length : Int)) then
   Lp (YW h x7) fuel (0, l16)
  else
   Lp (Qm h l old l16) fuel (0, [], [])
def JG (h : zL) (l : (List zN)) (old : (List zP)) : Option ((List zP) × Int) :=
 Option.bind (Zo h l) fun y =>
 if !decide (y = 0) then
  some ([], y)
 else
  if decide (10 < (old.length : Int)) then
   some ([], 2)
  else
   Lp (Qn h l old) fuel (0, [])
def JY (n : Int) : Option Int :=
 some n
def jL (x1 : Int) (n1 : Int) : Option ((Int × Int) ⊕ Int) :=
 some (.inl (n1, w64 (x1 + 1)))
def yM (b : zK) (y : (List Int) × Int) : (Int × Int) → Option ((Int × Int) ⊕ Int)
 | (n2, x1) =>
  if decide (x1 < (y.1.length : Int)) then
   Option.bind (ix y.1 x1) fun x =>
   if decide (x < (b.slots.length : Int)) then
    jL x1 (w64 (n2 + 1))
   else
    jL x1 n2
  else
   ((JY n2).map Sum.inr)
def Jg (b : zK) : Option Int :=
 Option.bind (Zn b []) fun y =>
 Lp (yM b y) fuel (0, 0)
def Qu (h : zL) (l : (List zN)) : Option (Int × Int) :=
 Option.bind (Zo h l) fun y =>
 if !decide (y = 0) then
  some (0, y)
 else
  Option.bind (yF h l) fun y1 =>
  Option.bind (Jg y1) fun y2 =>
  some (y2, 0)
def Jq : Option Int :=
 some 0
def Jr (h : zL) (l : (List zN)) (p : (List zP)) : (Int × Int × (List (zF × Bool))) → Option ((Int × Int × (List (zF × Bool))) ⊕ Int)
 | (last, x2, m) =>
  if decide (x2 < (p.length : Int)) then
   Option.bind (ix p x2) fun x =>
   Option.bind (ZB l x.Call) fun y1 =>
   Option.bind (Qt h x.Slot) fun y2 =>
   if (((decide (y1 ≤ last)) || (!y2.2)) || ((ZH x.Slot m).getD false)) then
    some (.inr 8)
   else
    Option.bind (ix l y1) fun x1 =>
    Option.bind (Yt h x1 x.Slot y2.1) fun y3 =>
    if ((!y3.2) || (!decide (y3.1 = x.Span))) then
     some (.inr 8)
    else
     some (.inl (y1, w64 (x2 + 1), (putM posE m x.Slot true)))
  else
   ((Jq).map Sum.inr)
def YQ (h : zL) (l : (List zN)) (p : (List zP)) : Option Int :=
 Option.bind (Zo h l) fun y =>
 if !decide (y = 0) then
  some y
 else
  Lp (Jr h l p) fuel ((-1), 0, [])
def yu : Option Bool :=
 some true
def yw (a : (List zP)) (b : (List zP)) : Int → Option (Int ⊕ Bool)
 | i =>
  if decide (i < (a.length : Int)) then
   Option.bind (ix a i) fun x =>
   Option.bind (ix b i) fun x1 =>
   if !decide (x = x1) then
    some (.inr false)
   else
    some (.inl (w64 (i + 1)))
  else
   ((yu).map Sum.inr)
def Ju (a : (List zP)) (b : (List zP)) : Option Bool :=
 if !decide ((a.length : Int) = (b.length : Int)) then
  some false
 else
  Lp (yw a b) fuel 0
def JB (x : (List Int)) : Option (List Int) :=
 some x
def QJ (l1 : (List Int)) : Option (List Int) :=
 JB l1
def yc (k : Int) (l2 : (List Int)) : Option (Int ⊕ (List Int)) :=
 Option.bind (sub l2 k (l2.length : Int)) fun l3 =>
 Option.bind (clrE l2 k 0) fun l4 =>
 Option.bind (sub l4 0 k) fun l5 =>
 ((JB l5).map Sum.inr)
def Jk (k21 : Int) (k1 : Int) (l6 : (List Int)) : Option ((Int × Int × (List Int)) ⊕ (Int ⊕ (List Int))) :=
 some (.inl (k1, w64 (k21 + 1), l6))
def QL (a : Int) : (Int × Int × (List Int)) → Option ((Int × Int × (List Int)) ⊕ (Int ⊕ (List Int)))
 | (k2, k21, l7) =>
  if decide (k21 < ((List.drop (Int.toNat a) l7).length : Int)) then
   Option.bind (ix (List.drop (Int.toNat a) l7) k21) fun x3 =>
   Option.bind (ix (List.drop (Int.toNat a) l7) (w64 (k21 - 1))) fun x4 =>
   if !decide (x3 = x4) then
    Option.bind (ix (List.drop (Int.toNat a) l7) k21) fun x5 =>
    Option.bind (ix l7 k2) fun x6 =>
    Jk k21 (w64 (k2 + 1)) (put l7 k2 x5)
   else
    Jk k21 k2 l7
  else
   ((yc k2 l7).map Sum.inr)
def QM (l1 : (List Int)) : Int → Option (Int ⊕ (List Int))
 | k3 =>
  if decide (k3 < (l1.length : Int)) then
   Option.bind (ix l1 k3) fun x1 =>
   Option.bind (ix l1 (w64 (k3 - 1))) fun x2 =>
   if decide (x1 = x2) then
    Option.bind (qslN l1 k3) fun a =>
    Lp (QL a) fuel (k3, 1, l1)
   else
    some (.inl (w64 (k3 + 1)))
  else
   ((QJ l1).map Sum.inr)
def Jl (l : (List Int)) : Option (List Int) :=
 Option.bind (srtO l) fun l1 =>
 if decide ((l1.length : Int) < 2) then
  JB l1
 else
  Lp (QM l1) fuel 1
def Jj (x8 : Int) (l8 : (List Int)) : Option ((Int × (List Int)) ⊕ (List Int)) :=
 some (.inl (w64 (x8 + 1), l8))
def QK (old : (List zP)) (now : (List zP)) : (Int × (List Int)) → Option ((Int × (List Int)) ⊕ (List Int))
 | (x8, l10) =>
  if decide (x8 < (old.length : Int)) then
   Option.bind (ix old x8) fun x7 =>
   Option.bind (Qs old x7.Call) fun y =>
   Option.bind (Qs now x7.Call) fun y1 =>
   if ((!y1.2) || (!decide (y.1.Slot = y1.1.Slot))) then
    Option.bind (app l10 ([x7.Call])) fun l9 =>
    Jj x8 l9
   else
    Jj x8 l10
  else
   ((Jl l10).map Sum.inr)
def Qh (old : (List zP)) (now : (List zP)) : Option (List Int) :=
 Lp (QK old now) fuel (0, [])
def QD (n : Int) : Option Int :=
 some n
def QC (x3 : Int) (n1 : Int) : Option ((Int × Int) ⊕ Int) :=
 some (.inl (n1, w64 (x3 + 1)))
def Jf (x2 : Int) (n2 : Int) : Option ((Int × Int) ⊕ ((Int × Int) ⊕ Int)) :=
 some (.inl (n2, w64 (x2 + 1)))
def yT (l : (List zN)) (x3 : Int) (x : Int) : (Int × Int) → Option ((Int × Int) ⊕ ((Int × Int) ⊕ Int))
 | (n3, x2) =>
  if decide (x2 < (l.length : Int)) then
   Option.bind (ix l x2) fun x1 =>
   if decide (x1.ID = x) then
    Jf x2 (w64 (n3 + 1))
   else
    Jf x2 n3
  else
   ((QC x3 n3).map Sum.inr)
def QE (l : (List zN)) (y : (List Int)) : (Int × Int) → Option ((Int × Int) ⊕ Int)
 | (n4, x3) =>
  if decide (x3 < (y.length : Int)) then
   Option.bind (ix y x3) fun x =>
   Lp (yT l x3 x) fuel (n4, 0)
  else
   ((QD n4).map Sum.inr)
def yC (l : (List zN)) (old : (List zP)) (now : (List zP)) : Option Int :=
 Option.bind (Qh old now) fun y =>
 Lp (QE l y) fuel (0, 0)
def yU (h : zL) (l : (List zN)) (old : (List zP)) : Option Bool :=
 Option.bind (zAK h) fun y =>
 if (((!y) || (decide (5 < (l.length : Int)))) || (decide (10 < (old.length : Int)))) then
  Option.bind (J4) fun y1 =>
  some y1
 else
  Option.bind (JG h l old) fun y2 =>
  Option.bind (YE h l) fun y3 =>
  Option.bind (Qu h l) fun y4 =>
  if ((!decide (y2.2 = y3.2)) || (!decide (y3.2 = y4.2))) then
   some false
  else
   if !decide (y2.2 = 0) then
    Option.bind (J4) fun y5 =>
    some y5
   else
    Option.bind (JG h l y3.1) fun y6 =>
    Option.bind (JG h l y2.1) fun y7 =>
    Option.bind (YQ h l y2.1) fun y8 =>
    gb (!(((((!decide (y8 = 0)) || (!decide ((y2.1.length : Int) = y4.1))) || (!decide (y6.2 = 0))) || (!decide (y7.2 = 0))))) (Ju y6.1 y3.1) fun y9 =>
    gb (!((((((!decide (y8 = 0)) || (!decide ((y2.1.length : Int) = y4.1))) || (!decide (y6.2 = 0))) || (!decide (y7.2 = 0))) || (!y9)))) (Ju y7.1 y2.1) fun y10 =>
    if ((((((!decide (y8 = 0)) || (!decide ((y2.1.length : Int) = y4.1))) || (!decide (y6.2 = 0))) || (!decide (y7.2 = 0))) || (!y9)) || (!y10)) then
     some false
    else
     Option.bind (J4) fun y11 =>
     gb ((y11)) (yC l old y2.1) fun y12 =>
     gb ((y11)) (yC l old y3.1) fun y13 =>
     some (y11 && (decide (y12 ≤ y13)))
end Go.Mx
