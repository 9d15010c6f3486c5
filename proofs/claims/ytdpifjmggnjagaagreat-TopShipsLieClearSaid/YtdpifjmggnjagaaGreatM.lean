/- Functions of the program as plain functions. Conditions: none. Printed by a program (wip/tools/xg.py). -/
import Derived.Test.YtdpifjmggnjagaaGreatXl
set_option linter.unusedVariables false
namespace Go.Mx
structure zz where
 ID:Int
 Begin:Int
 Every:Int
 Heights:(List Int)
 deriving DecidableEq,Inhabited
structure Y4 where
 From:Int
 To:Int
 Add:Int
 deriving DecidableEq,Inhabited
structure zW where
 Level:Int
 Cycles:(List zz)
 Shifts:(List Y4)
 deriving DecidableEq,Inhabited
structure zy where
 ID:Int
 Depth:Int
 deriving DecidableEq,Inhabited
structure zB where
 Lo:Int
 Hi:Int
 deriving DecidableEq,Inhabited
structure zN where
 Water:zW
 Berths:(List zy)
 Tides:(List zB)
 Keel:Int
 deriving DecidableEq,Inhabited
structure zq where
 ID:Int
 Room:Int
 Lever:Int
 Height:Int
 deriving DecidableEq,Inhabited
structure zf where
 X:Int
 Y:Int
 deriving DecidableEq,Inhabited
structure ZX where
 Knots:(List zf)
 Err:Int
 deriving DecidableEq,Inhabited
structure zH where
 ID:Int
 Light:Int
 Lever:Int
 Height:Int
 Holds:(List zq)
 Mean:ZX
 Mtac:ZX
 Turn:Int
 Least:Int
 deriving DecidableEq,Inhabited
structure zQ where
 Holds:(List zB)
 All:zB
 deriving DecidableEq,Inhabited
structure ZO where
 Ship:zH
 Load:zQ
 From:Int
 To:Int
 Long:Int
 deriving DecidableEq,Inhabited
def zEW : zH :=
 (⟨1,400,0,100,[(⟨1,400,50,60⟩:zq),(⟨2,400,-50,150⟩:zq)],(⟨[(⟨10,100⟩:zf),(⟨30,500⟩:zf)],0⟩:ZX),(⟨[(⟨10,160⟩:zf),(⟨30,140⟩:zf)],0⟩:ZX),10,30⟩:zH)
def Q7 (s:zH) (l:zQ):Bool :=
 ((((((decide ((s.Holds.length:Int)≤6))&&(decide ((s.Mean.Knots.length:Int)≤40)))&&(decide ((s.Mtac.Knots.length:Int)≤40)))&&(decide ((l.Holds.length:Int)≤6)))&&(decide ((w64 (l.All.Hi - l.All.Lo))≤300)))&&(decide (l.All.Lo≤l.All.Hi)))
def zT (n:Int) (lo:Int) (hi:Int):Bool :=
 ((decide (lo≤n))&&(decide (n≤hi)))
def JF (lever:Int) (height:Int):Bool :=
 ((zT lever (-20000) 20000)&&(zT height 0 5000))
def qi (x:zq) (c:zq):Bool :=
 decide (x.ID=c.ID)
def Z6 : Option Int :=
 some (-1)
def jQ (s:(List zq)) (c:zq):Int→Option (Int ⊕ Int)
 | x1 =>
  if decide (x1<(s.length:Int)) then
   (ix s x1).bind fun x =>
   if (qi x c) then
    some (.inr x1)
   else
    some (.inl (w64 (x1+1)))
  else
   ((Z6).map Sum.inr)
def Zn (s:(List zq)) (c:zq):Option Int :=
 Lp (jQ s c) fuel 0
def Zg (s:(List zq)) (c:zq):Option Bool :=
 (Zn s c).bind fun y =>
 some (decide (0≤y))
def zAS (n:Int):Option Int :=
 some n
def zAT (s:zH):(Int×Int)→Option ((Int×Int) ⊕ Int)
 | (n1,x1) =>
  if decide (x1<(s.Holds.length:Int)) then
   (ix s.Holds x1).bind fun x =>
   some (.inl (w64 (n1+x.Room),w64 (x1+1)))
  else
   ((zAS n1).map Sum.inr)
def zBq (s:zH):Option Int :=
 Lp (zAT s) fuel (s.Light,0)
def jc (n:Int) (lo:Int) (hi:Int):Bool :=
 ((decide (lo≤n))&&(decide (n≤hi)))
def zBW : Option Int :=
 some 0
def qM (c:ZX):(Int×Int)→Option ((Int×Int) ⊕ Int)
 | (last,x1) =>
  if decide (x1<(c.Knots.length:Int)) then
   (ix c.Knots x1).bind fun x =>
   if ((!(jc x.X (w64 (last+1)) 2000))||(!(jc x.Y (-65536) 65536))) then
    some (.inr 1)
   else
    some (.inl (x.X,w64 (x1+1)))
  else
   ((zBW).map Sum.inr)
def zA5 (c:ZX):Option Int :=
 if decide (40<(c.Knots.length:Int)) then
  some 2
 else
  if ((decide ((c.Knots.length:Int)=0))||(!(jc c.Err 0 4000))) then
   some 1
  else
   Lp (qM c) fuel (-1,0)
def jv (c:ZX):ZX :=
 c
structure Zv where
 p:zf
 q:zf
 deriving DecidableEq,Inhabited
def ZG (x:Zv):Int :=
 w64 (x.q.Y - x.p.Y)
def Qe (c:ZX):(Int×Bool×Bool)→Option ((Int×Bool×Bool) ⊕ Int)
 | (i,up,down) =>
  if decide (i<(((jv c).Knots).length:Int)) then
   (ix ((jv c).Knots) (w64 (i - 1))).bind fun x =>
   (ix ((jv c).Knots) i).bind fun x1 =>
   some (.inl (w64 (i+1),(up&&(decide (0<(ZG (⟨x,x1⟩:Zv))))),(down&&(decide ((ZG (⟨x,x1⟩:Zv))<0)))))
  else
   if up then
    some (.inr 1)
   else
    if down then
     some (.inr (-1))
    else
     some (.inr 0)
def zBU (c:ZX):Option Int :=
 Lp (Qe c) fuel (1,true,true)
def zBV (c:ZX):Option (Int×Int) :=
 (zA5 c).bind fun y =>
 if !decide (y=0) then
  some (0,y)
 else
  (zBU c).bind fun y1 =>
  some (y1,0)
structure qF where
 Curve:ZX
 deriving DecidableEq,Inhabited
def YU (t:qF):Option zB :=
 (ix t.Curve.Knots 0).bind fun x =>
 (ix t.Curve.Knots (w64 ((t.Curve.Knots.length:Int) - 1))).bind fun x1 =>
 some (⟨w64 (x.X*40),w64 (x1.X*40)⟩:zB)
def Qm (k:zf):Bool :=
 decide (k.Y<0)
def Zz : Option Int :=
 some (-1)
def jP (s:(List zf)):Int→Option (Int ⊕ Int)
 | x1 =>
  if decide (x1<(s.length:Int)) then
   (ix s x1).bind fun x =>
   if (Qm x) then
    some (.inr x1)
   else
    some (.inl (w64 (x1+1)))
  else
   ((Zz).map Sum.inr)
def Zl (s:(List zf)):Option Int :=
 Lp (jP s) fuel 0
def Ze (s:(List zf)):Option Bool :=
 (Zl s).bind fun y =>
 some (decide (0≤y))
def zAy (s:zH) (c:ZX):Option Int :=
 (YU (⟨c⟩:qF)).bind fun y =>
 gb (!(decide (s.Light<y.Lo))) (zBq s) fun y1 =>
 gb (!(((decide (s.Light<y.Lo))||(decide (y.Hi<y1))))) (Ze c.Knots) fun y2 =>
 if (((decide (s.Light<y.Lo))||(decide (y.Hi<y1)))||y2) then
  some 1
 else
  some 0
def Yn : Option Int :=
 some 0
def Yo (vals:(List Int)):Int→Option (Int ⊕ Int)
 | x1 =>
  if decide (x1<(vals.length:Int)) then
   (ix vals x1).bind fun x =>
   if !decide (x=0) then
    some (.inr x)
   else
    some (.inl (w64 (x1+1)))
  else
   ((Yn).map Sum.inr)
def Y0 (vals:(List Int)):Option Int :=
 Lp (Yo vals) fuel 0
def Qq (s:zH):Option Int :=
 (zBV s.Mean).bind fun y1 =>
 if !decide (y1.1=1) then
  some 1
 else
  (zAy s s.Mean).bind fun y2 =>
  (zAy s s.Mtac).bind fun y3 =>
  (Y0 ([y2,y3])).bind fun y4 =>
  some y4
def zAX (s:zH):Int→Option (Int ⊕ Int)
 | x1 =>
  if decide (x1<(([s.Mean,s.Mtac]).length:Int)) then
   (ix ([s.Mean,s.Mtac]) x1).bind fun x =>
   (zA5 x).bind fun y5 =>
   if !decide (y5=0) then
    some (.inr y5)
   else
    some (.inl (w64 (x1+1)))
  else
   ((Qq s).map Sum.inr)
def Qr (s:zH):Option Int :=
 (zBq s).bind fun y =>
 if decide (65536<y) then
  some 1
 else
  Lp (zAX s) fuel 0
def zAW (s:zH):Int→Option (Int ⊕ Int)
 | x3 =>
  if decide (x3<(s.Holds.length:Int)) then
   (ix s.Holds x3).bind fun x2 =>
   if (((!(zT x2.ID 1 1099511627776))||(!(zT x2.Room 0 65536)))||(!(JF x2.Lever x2.Height))) then
    some (.inr 1)
   else
    (sub s.Holds 0 x3).bind fun l =>
    (Zg l x2).bind fun y6 =>
    if y6 then
     some (.inr 6)
    else
     some (.inl (w64 (x3+1)))
  else
   ((Qr s).map Sum.inr)
def zBt (s:zH):Option Int :=
 if (((((!(zT s.ID 1 1099511627776))||(!(zT s.Light 1 65536)))||(!(JF s.Lever s.Height)))||(!(zT s.Turn 1 1048576)))||(!(zT s.Least 0 5000))) then
  some 1
 else
  if decide (8<(s.Holds.length:Int)) then
   some 2
  else
   Lp (zAW s) fuel 0
def zBK (Lo:Int) (Hi:Int):Option zB :=
 some (⟨Lo,Hi⟩:zB)
def zBL (l:(List zB)):(Int×Int×Int)→Option ((Int×Int×Int) ⊕ zB)
 | (x1,Lo1,Hi1) =>
  if decide (x1<(l.length:Int)) then
   (ix l x1).bind fun x =>
   some (.inl (w64 (x1+1),w64 (Lo1+x.Lo),w64 (Hi1+x.Hi)))
  else
   ((zBK Lo1 Hi1).map Sum.inr)
def zCt (l:(List zB)):Option zB :=
 Lp (zBL l) fuel (0,0,0)
def ZC (a:Int) (b:Int):Int :=
 if decide (a<b) then
  b
 else
  a
def YT (l:zQ):Option zB :=
 (zCt l.Holds).bind fun y =>
 some (⟨ZC y.Lo l.All.Lo,min y.Hi l.All.Hi⟩:zB)
def yI (l:zQ):Option Int :=
 (YT l).bind fun y1 =>
 if (((decide (l.All.Lo<0))||(decide (l.All.Hi<l.All.Lo)))||(decide (65536<l.All.Hi))) then
  some 1
 else
  if decide (4000≤(w64 (l.All.Hi - l.All.Lo))) then
   some 2
  else
   if decide (y1.Hi<y1.Lo) then
    some 9
   else
    some 0
def yJ (s:zH) (l:zQ):Int→Option (Int ⊕ Int)
 | x2 =>
  if decide (x2<(l.Holds.length:Int)) then
   (ix l.Holds x2).bind fun x =>
   gb (!(((decide (x.Lo<0))||(decide (x.Hi<x.Lo))))) (ix s.Holds x2) fun x1 =>
   if (((decide (x.Lo<0))||(decide (x.Hi<x.Lo)))||(decide (x1.Room<x.Hi))) then
    some (.inr 1)
   else
    some (.inl (w64 (x2+1)))
  else
   ((yI l).map Sum.inr)
def JK (s:zH) (l:zQ):Option Int :=
 (zBt s).bind fun y =>
 if !decide (y=0) then
  some y
 else
  if !decide ((l.Holds.length:Int)=(s.Holds.length:Int)) then
   some 1
  else
   Lp (yJ s l) fuel 0
structure zV where
 ID:Int
 Draught:Int
 From:Int
 To:Int
 Long:Int
 deriving DecidableEq,Inhabited
def zBO (l:(List Int)):Option (List Int) :=
 some l
def qI (s:zH):(Int×(List Int))→Option ((Int×(List Int)) ⊕ (List Int))
 | (x1,l2) =>
  if decide (x1<(s.Holds.length:Int)) then
   (ix s.Holds x1).bind fun x =>
   (app l2 ([x.Lever])).bind fun l1 =>
   some (.inl (w64 (x1+1),l1))
  else
   ((zBO l2).map Sum.inr)
def zAz (s:zH):Option (List Int) :=
 Lp (qI s) fuel (0,[])
def zBr (l:zQ):zQ :=
 l
def cmp_isNaN_int (x:Int):Bool :=
 !decide (x=x)
def cmp_Compare_int (x:Int) (y:Int):Int :=
 if (cmp_isNaN_int x) then
  if (cmp_isNaN_int y) then
   0
  else
   (-1)
 else
  if (cmp_isNaN_int y) then
   1
  else
   if decide (x<y) then
    (-1)
   else
    if decide (y<x) then
     1
    else
     0
def zA0 (a:Int) (b:Int) (c:(List Int)):Option Int :=
 (ix c b).bind fun x =>
 (ix c a).bind fun x1 =>
 some (cmp_Compare_int x x1)
def zCK (n:Int):Option Int :=
 some n
def zCL (x:(List Int)):(Int×Int)→Option ((Int×Int) ⊕ Int)
 | (n1,x2) =>
  if decide (x2<(x.length:Int)) then
   (ix x x2).bind fun x1 =>
   some (.inl (w64 (n1+x1),w64 (x2+1)))
  else
   ((zCK n1).map Sum.inr)
def zBM (x:(List Int)):Option Int :=
 Lp (zCL x) fuel (0,0)
def zCl (l4:(List Int)):Option (List Int) :=
 some l4
def zCm (l:zQ) (l3:(List Int)):(Int×Int×(List Int))→Option ((Int×Int×(List Int)) ⊕ (List Int))
 | (x5,left,l5) =>
  if decide (x5<(l3.length:Int)) then
   (ix l3 x5).bind fun x =>
   (ix l.Holds x).bind fun x1 =>
   (ix l.Holds x).bind fun x2 =>
   (ix l5 x).bind fun x3 =>
   (ix l5 x).bind fun x4 =>
   some (.inl (w64 (x5+1),w64 (left - (min left (w64 (x1.Hi - x2.Lo)))),put l5 x (w64 (x3+(min left (w64 (x1.Hi - x2.Lo)))))))
  else
   ((zCl l5).map Sum.inr)
def qg (l:zQ) (total:Int) (l1:(List Int)) (l2:(List Int)) (l3:(List Int)):Option (List Int) :=
 (zGz l1 l3).bind fun _ =>
 (zBM l2).bind fun y =>
 Lp (zCm l l3) fuel (0,w64 (total - y),l2)
def zCk (l1:(List Int)) (blockSize:Int):Option (Int ⊕ (List Int)) :=
 if decide ((w64 (0+blockSize))<(l1.length:Int)) then
  none
 else
  some (.inl (w64 (blockSize*2)))
def zHO (l1:(List Int)) (blockSize:Int):Unit→Option (Unit ⊕ (Int ⊕ (List Int)))
 | () =>
  if decide ((w64 (2*blockSize))≤(l1.length:Int)) then
   none
  else
   ((zCk l1 blockSize).map Sum.inr)
def zEd (l:zQ) (total:Int) (l1:(List Int)) (l2:(List Int)) (l7:(List Int)):Int→Option (Int ⊕ (List Int))
 | blockSize =>
  if decide (blockSize<(l1.length:Int)) then
   Lp (zHO l1 blockSize) fuel ()
  else
   ((qg l total l1 l2 l7).map Sum.inr)
def qd (l:zQ) (total:Int) (l1:(List Int)) (l2:(List Int)) (l7:(List Int)):Option (List Int) :=
 Lp (zEd l total l1 l2 l7) fuel 20
def Qn (i:Int) (l8:(List Int)):Option ((Int×(List Int)) ⊕ (List Int)) :=
 some (.inl (w64 (i+1),l8))
def yt (form:(List Int)) (a:Int) (i:Int):(Int×(List Int))→Option ((Int×(List Int)) ⊕ ((Int×(List Int)) ⊕ (List Int)))
 | (j,l9) =>
  gb (decide (a<j)) (ix l9 j) fun x6 =>
  gb (decide (a<j)) (ix l9 (w64 (j - 1))) fun x7 =>
  gb (decide (a<j)) (zA0 x6 x7 form) fun y1 =>
  if ((decide (a<j))&&(decide (y1<0))) then
   (ix l9 (w64 (j - 1))).bind fun x8 =>
   (ix l9 j).bind fun x9 =>
   (ix l9 j).bind fun x10 =>
   (ix (put l9 j x8) (w64 (j - 1))).bind fun x11 =>
   some (.inl (w64 (j - 1),put (put l9 j x8) (w64 (j - 1)) x9))
  else
   ((Qn i l9).map Sum.inr)
def zDu (l:zQ) (form:(List Int)) (total:Int) (l1:(List Int)) (l2:(List Int)) (a:Int) (l6:(List Int)):(Int×(List Int))→Option ((Int×(List Int)) ⊕ (List Int))
 | (i,l10) =>
  if decide (i<(l1.length:Int)) then
   Lp (yt form a i) fuel (i,l10)
  else
   (zGz l6 l10).bind fun _ =>
   ((qd l total l1 l2 l10).map Sum.inr)
def qf (l:zQ) (form:(List Int)) (total:Int) (l1:(List Int)) (l2:(List Int)) (a:Int) (l6:(List Int)):Option (List Int) :=
 Lp (zDu l form total l1 l2 a l6) fuel (w64 (a+1),l6)
def zB7 (b:Int) (l11:(List Int)):Option ((Int×Int×(List Int)) ⊕ (List Int)) :=
 some (.inl (b,w64 (b+20),l11))
def zB6 (i1:Int) (l12:(List Int)):Option ((Int×(List Int)) ⊕ ((Int×Int×(List Int)) ⊕ (List Int))) :=
 some (.inl (w64 (i1+1),l12))
def zGD (form:(List Int)) (a1:Int) (i1:Int):(Int×(List Int))→Option ((Int×(List Int)) ⊕ ((Int×(List Int)) ⊕ ((Int×Int×(List Int)) ⊕ (List Int))))
 | (j1,l13) =>
  gb (decide (a1<j1)) (ix l13 j1) fun x12 =>
  gb (decide (a1<j1)) (ix l13 (w64 (j1 - 1))) fun x13 =>
  gb (decide (a1<j1)) (zA0 x12 x13 form) fun y2 =>
  if ((decide (a1<j1))&&(decide (y2<0))) then
   (ix l13 (w64 (j1 - 1))).bind fun x14 =>
   (ix l13 j1).bind fun x15 =>
   (ix l13 j1).bind fun x16 =>
   (ix (put l13 j1 x14) (w64 (j1 - 1))).bind fun x17 =>
   some (.inl (w64 (j1 - 1),put (put l13 j1 x14) (w64 (j1 - 1)) x15))
  else
   ((zB6 i1 l13).map Sum.inr)
def zGE (form:(List Int)) (a1:Int) (b:Int) (l15:(List Int)):(Int×(List Int))→Option ((Int×(List Int)) ⊕ ((Int×Int×(List Int)) ⊕ (List Int)))
 | (i1,l14) =>
  if decide (i1<b) then
   Lp (zGD form a1 i1) fuel (i1,l14)
  else
   (zGz l15 l14).bind fun _ =>
   ((zB7 b l14).map Sum.inr)
def zDt (l:zQ) (form:(List Int)) (total:Int) (l1:(List Int)) (l2:(List Int)):(Int×Int×(List Int))→Option ((Int×Int×(List Int)) ⊕ (List Int))
 | (a1,b,l15) =>
  if decide (b≤(l1.length:Int)) then
   Lp (zGE form a1 b l15) fuel (w64 (a1+1),l15)
  else
   ((qf l form total l1 l2 a1 l15).map Sum.inr)
def qh (l:zQ) (form:(List Int)) (total:Int) (l1:(List Int)) (l2:(List Int)):Option (List Int) :=
 Lp (zDt l form total l1 l2) fuel (0,20,l1)
def zAU (l:zQ) (form:(List Int)) (total:Int):(Int×(List Int)×(List Int))→Option ((Int×(List Int)×(List Int)) ⊕ (List Int))
 | (x19,l18,l19) =>
  if decide (x19<(l.Holds.length:Int)) then
   (ix l.Holds x19).bind fun x18 =>
   (app l19 ([x18.Lo])).bind fun l16 =>
   (app l18 ([x19])).bind fun l17 =>
   some (.inl (w64 (x19+1),l17,l16))
  else
   ((qh l form total l18 l19).map Sum.inr)
def zCu (l:zQ) (form:(List Int)) (total:Int):Option (List Int) :=
 Lp (zAU l form total) fuel (0,[],[])
def YJ (k:zf) (c:Int):Bool :=
 decide (c≤(w64 (k.X*40)))
def Zx : Option Int :=
 some (-1)
def jL (s:(List zf)) (c:Int):Int→Option (Int ⊕ Int)
 | x1 =>
  if decide (x1<(s.length:Int)) then
   (ix s x1).bind fun x =>
   if (YJ x c) then
    some (.inr x1)
   else
    some (.inl (w64 (x1+1)))
  else
   ((Zx).map Sum.inr)
def Zf (s:(List zf)) (c:Int):Option Int :=
 Lp (jL s c) fuel 0
def yn (t:qF) (mass:Int):Option (Int×Int) :=
 (Zf t.Curve.Knots mass).bind fun y =>
 (ix t.Curve.Knots y).bind fun x =>
 if decide ((w64 (x.X*40))=mass) then
  some (x.Y,1)
 else
  (ix t.Curve.Knots (w64 (y - 1))).bind fun x1 =>
  some (w64 ((w64 (x1.Y*(w64 ((w64 (x.X - x1.X))*40))))+(w64 ((w64 (x.Y - x1.Y))*(w64 (mass - (w64 (x1.X*40))))))),w64 ((w64 (x.X - x1.X))*40))
def zAQ (n:Int):Option Int :=
 some n
def zAR (form:(List Int)) (x:(List Int)):(Int×Int)→Option ((Int×Int) ⊕ Int)
 | (n1,x3) =>
  if decide (x3<(form.length:Int)) then
   (ix form x3).bind fun x1 =>
   (ix x x3).bind fun x2 =>
   some (.inl (w64 (n1+(w64 (x1*x2))),w64 (x3+1)))
  else
   ((zAQ n1).map Sum.inr)
def zBp (form:(List Int)) (x:(List Int)):Option Int :=
 Lp (zAR form x) fuel (0,0)
def zCM (s:zH) (x:(List Int)):Option Int :=
 (zAz s).bind fun y =>
 (zBp y x).bind fun y1 =>
 some (w64 ((w64 (s.Light*s.Lever))+y1))
def zBs (a:Int) (b:Int):Option Int :=
 (rem a b).bind fun q =>
 (rem (w64 (q+b)) b).bind fun q1 =>
 (quo (w64 (a - q1)) b).bind fun q2 =>
 some q2
def Qo (sign:Int) (c:Int) (c1:zH) (c2:(List Int)) (c3:Int):Option zB :=
 (zCM c1 c2).bind fun y =>
 (zBs (w64 ((w64 ((w64 (c*2))*c1.Turn))+(w64 ((w64 (sign*y))*c3)))) (w64 ((w64 (c3*2))*c1.Turn))).bind fun y1 =>
 (zBs (w64 (0 - (w64 ((w64 ((w64 (c*2))*c1.Turn))+(w64 ((w64 (sign*y))*c3)))))) (w64 ((w64 (c3*2))*c1.Turn))).bind fun y2 =>
 some (⟨w64 (y1 - c1.Mean.Err),w64 ((w64 (0 - y2))+c1.Mean.Err)⟩:zB)
structure Jf where
 Fore:zB
 Aft:zB
 deriving DecidableEq,Inhabited
def zA1 (s:zH) (x:(List Int)):Option Jf :=
 (zBM x).bind fun y =>
 (yn (⟨s.Mean⟩:qF) (w64 (s.Light+y))).bind fun y1 =>
 (Qo 1 y1.1 s x y1.2).bind fun y2 =>
 (Qo (-1) y1.1 s x y1.2).bind fun y3 =>
 some (⟨y2,y3⟩:Jf)
def QX (t:Int) (deep:Int) (at_:(List Int)) (some_:Bool):Option ((Int×Int×(List Int)×Bool) ⊕ (Int×(List Int)×Int)) :=
 some (.inl (w64 (t+1),deep,at_,some_))
def YK (x1:Int) (deep1:Int) (at_1:(List Int)) (some_1:Bool):Option ((Int×Int×(List Int)×Bool) ⊕ ((Int×Int×(List Int)×Bool) ⊕ (Int×(List Int)×Int))) :=
 some (.inl (w64 (x1+1),deep1,at_1,some_1))
def QZ (s:zH) (l:zQ) (y1:(List Int)) (l1:(List Int)) (t:Int):(Int×Int×(List Int)×Bool)→Option ((Int×Int×(List Int)×Bool) ⊕ ((Int×Int×(List Int)×Bool) ⊕ (Int×(List Int)×Int)))
 | (x1,deep2,at_2,some_2) =>
  if decide (x1<(([y1,l1]).length:Int)) then
   (ix ([y1,l1]) x1).bind fun x =>
   (zCu l x t).bind fun y3 =>
   (zA1 s y3).bind fun y4 =>
   if ((!some_2)||(decide (deep2<(ZC y4.Fore.Hi y4.Aft.Hi)))) then
    YK x1 (ZC y4.Fore.Hi y4.Aft.Hi) y3 true
   else
    YK x1 deep2 at_2 some_2
  else
   ((QX t deep2 at_2 some_2).map Sum.inr)
def zCa (s:zH) (l:zQ) (y1:(List Int)) (l1:(List Int)) (y2:zB):(Int×Int×(List Int)×Bool)→Option ((Int×Int×(List Int)×Bool) ⊕ (Int×(List Int)×Int))
 | (t,deep3,at_3,some_3) =>
  if decide (t≤y2.Hi) then
   Lp (QZ s l y1 l1 t) fuel (0,deep3,at_3,some_3)
  else
   some (.inr (deep3,at_3,0))
def YL (s:zH) (l:zQ) (y1:(List Int)) (l1:(List Int)):Option (Int×(List Int)×Int) :=
 (YT (zBr l)).bind fun y2 =>
 Lp (zCa s l y1 l1 y2) fuel (y2.Lo,0,[],false)
def QY (s:zH) (l:zQ) (y1:(List Int)):(Int×(List Int))→Option ((Int×(List Int)) ⊕ (Int×(List Int)×Int))
 | (x3,l3) =>
  if decide (x3<(y1.length:Int)) then
   (ix y1 x3).bind fun x2 =>
   (app l3 ([w64 (0 - x2)])).bind fun l2 =>
   some (.inl (w64 (x3+1),l2))
  else
   ((YL s l y1 l3).map Sum.inr)
def yh (s:zH) (l:zQ):Option (Int×(List Int)×Int) :=
 (JK s l).bind fun y =>
 if !decide (y=0) then
  some (0,[],y)
 else
  (zAz s).bind fun y1 =>
  Lp (QY s l y1) fuel (0,[])
def zA9 (l1:(List zV)):Option ((List zV)×Bool) :=
 some (l1,true)
def zCy (l:(List ZO)):(Int×(List zV))→Option ((Int×(List zV)) ⊕ ((List zV)×Bool))
 | (x1,l3) =>
  if decide (x1<(l.length:Int)) then
   (ix l x1).bind fun x =>
   gb (!(!(Q7 x.Ship x.Load))) (JK x.Ship x.Load) fun y =>
   if ((!(Q7 x.Ship x.Load))||(!decide (y=0))) then
    some (.inr ([],false))
   else
    (yh x.Ship x.Load).bind fun y1 =>
    if ((!decide (y1.2.2=0))||(decide (8000<y1.1))) then
     some (.inr ([],false))
    else
     (app l3 ([(⟨w64 (x1+1),max 0 y1.1,x.From,x.To,x.Long⟩:zV)])).bind fun l2 =>
     some (.inl (w64 (x1+1),l2))
  else
   ((zA9 l3).map Sum.inr)
def zAt (l:(List ZO)):Option ((List zV)×Bool) :=
 Lp (zCy l) fuel (0,[])
def zB4 : zN :=
 (⟨(⟨500,[(⟨1,0,60,[0,100,200,100]⟩:zz)],[]⟩:zW),[(⟨1,300⟩:zy),(⟨2,100⟩:zy)],[(⟨0,239⟩:zB),(⟨240,479⟩:zB)],50⟩:zN)
def zu (n:Int) (lo:Int) (hi:Int):Bool :=
 ((decide (lo≤n))&&(decide (n≤hi)))
def jZ (n:Int):Bool :=
 (zu n (-4000) 4000)
def ji (tick:Int):Bool :=
 (zu tick 0 1048576)
def Ja (h:Int):Bool :=
 !(jZ h)
def jJ : Option Int :=
 some (-1)
def jq (s:(List Int)):Int→Option (Int ⊕ Int)
 | x1 =>
  if decide (x1<(s.length:Int)) then
   (ix s x1).bind fun x =>
   if (Ja x) then
    some (.inr x1)
   else
    some (.inl (w64 (x1+1)))
  else
   ((jJ).map Sum.inr)
def Z9 (s:(List Int)):Option Int :=
 Lp (jq s) fuel 0
def ZR (s:(List Int)):Option Bool :=
 (Z9 s).bind fun y =>
 some (decide (0≤y))
def zAk (c:zz):Option Bool :=
 gb ((((((zu c.ID 1 1099511627776)&&(ji c.Begin))&&(zu c.Every 1 120))&&(zu (c.Heights.length:Int) 1 60)))) (ZR c.Heights) fun y =>
 some (((((zu c.ID 1 1099511627776)&&(ji c.Begin))&&(zu c.Every 1 120))&&(zu (c.Heights.length:Int) 1 60))&&(!y))
def QH (x:zz) (c:zz):Bool :=
 decide (x.ID=c.ID)
def Z0 : Option Int :=
 some (-1)
def Zd (s:(List zz)) (c:zz):Int→Option (Int ⊕ Int)
 | x1 =>
  if decide (x1<(s.length:Int)) then
   (ix s x1).bind fun x =>
   if (QH x c) then
    some (.inr x1)
   else
    some (.inl (w64 (x1+1)))
  else
   ((Z0).map Sum.inr)
def ZJ (s:(List zz)) (c:zz):Option Int :=
 Lp (Zd s c) fuel 0
def ZP (s:(List zz)) (c:zz):Option Bool :=
 (ZJ s c).bind fun y =>
 some (decide (0≤y))
def zBy : Option Int :=
 some 0
def zAL (w:zW):(Int×Int)→Option ((Int×Int) ⊕ Int)
 | (last,x1) =>
  if decide (x1<(w.Shifts.length:Int)) then
   (ix w.Shifts x1).bind fun x =>
   if (((!(zu x.From (w64 (last+1)) x.To))||(decide (728<x.To)))||(!(jZ x.Add))) then
    some (.inr 1)
   else
    some (.inl (x.To,w64 (x1+1)))
  else
   ((zBy).map Sum.inr)
def ym (w:zW):Option Int :=
 Lp (zAL w) fuel (-1,0)
def zAK (w:zW):Int→Option (Int ⊕ Int)
 | x3 =>
  if decide (x3<(w.Cycles.length:Int)) then
   (ix w.Cycles x3).bind fun x2 =>
   (zAk x2).bind fun y =>
   if !y then
    some (.inr 1)
   else
    (sub w.Cycles 0 x3).bind fun l =>
    (ZP l x2).bind fun y1 =>
    if y1 then
     some (.inr 6)
    else
     some (.inl (w64 (x3+1)))
  else
   ((ym w).map Sum.inr)
def QI (w:zW):Option Int :=
 if !(jZ w.Level) then
  some 1
 else
  if ((decide (6<(w.Cycles.length:Int)))||(decide (20<(w.Shifts.length:Int)))) then
   some 2
  else
   Lp (zAK w) fuel 0
def Zk (n:Int) (lo:Int) (hi:Int):Bool :=
 ((decide (lo≤n))&&(decide (n≤hi)))
def zAb (b:zy):Int :=
 b.ID
def jF (x:zy) (c:Int):Bool :=
 decide ((zAb x)=c)
def ZA : Option Int :=
 some (-1)
def zh (s:(List zy)) (c:Int):Int→Option (Int ⊕ Int)
 | x1 =>
  if decide (x1<(s.length:Int)) then
   (ix s x1).bind fun x =>
   if (jF x c) then
    some (.inr x1)
   else
    some (.inl (w64 (x1+1)))
  else
   ((ZA).map Sum.inr)
def ZF (s:(List zy)) (c:Int):Option Int :=
 Lp (zh s c) fuel 0
def Z5 (l:(List zy)) (id:Int):Option Int :=
 (ZF l id).bind fun y =>
 some y
def QD (s:zB):Bool :=
 ((((decide (0≤s.Lo))&&(decide (s.Lo≤s.Hi)))&&(decide (s.Hi≤1048576)))&&(decide ((w64 (s.Hi - s.Lo))<1440)))
def qQ (h:zN):Option Int :=
 if !(Zk h.Keel 0 8000) then
  some 1
 else
  some 0
def zBb (h:zN):(Int×Int)→Option ((Int×Int) ⊕ Int)
 | (last,x1) =>
  if decide (x1<(h.Tides.length:Int)) then
   (ix h.Tides x1).bind fun x =>
   if ((!(QD x))||(decide (x.Lo≤last))) then
    some (.inr 1)
   else
    some (.inl (x.Hi,w64 (x1+1)))
  else
   ((qQ h).map Sum.inr)
def qR (h:zN):Option Int :=
 Lp (zBb h) fuel (-1,0)
def zBa (h:zN):Int→Option (Int ⊕ Int)
 | x3 =>
  if decide (x3<(h.Berths.length:Int)) then
   (ix h.Berths x3).bind fun x2 =>
   if ((!(Zk x2.ID 1 1099511627776))||(!(Zk x2.Depth 0 8000))) then
    some (.inr 1)
   else
    (Z5 h.Berths x2.ID).bind fun y1 =>
    if decide (y1<x3) then
     some (.inr 6)
    else
     some (.inl (w64 (x3+1)))
  else
   ((qR h).map Sum.inr)
def zCT (h:zN):Option Int :=
 (QI h.Water).bind fun y =>
 if !decide (y=0) then
  some y
 else
  if ((decide (6<(h.Berths.length:Int)))||(decide (12<(h.Tides.length:Int)))) then
   some 2
  else
   Lp (zBa h) fuel 0
def zA6 (c:zV):Bool :=
 ((((((Zk c.ID 1 1099511627776)&&(Zk c.Draught 0 8000))&&(decide (0≤c.From)))&&(decide (c.From≤c.To)))&&(decide (c.To≤1048576)))&&(Zk c.Long 1 1440))
def zBZ (c:zV):Int :=
 c.ID
def jM (x:zV) (c:Int):Bool :=
 decide ((zBZ x)=c)
def ZE : Option Int :=
 some (-1)
def zk (s:(List zV)) (c:Int):Int→Option (Int ⊕ Int)
 | x1 =>
  if decide (x1<(s.length:Int)) then
   (ix s x1).bind fun x =>
   if (jM x c) then
    some (.inr x1)
   else
    some (.inl (w64 (x1+1)))
  else
   ((ZE).map Sum.inr)
def ZI (s:(List zV)) (c:Int):Option Int :=
 Lp (zk s c) fuel 0
def Za (l:(List zV)) (id:Int):Option Int :=
 (ZI l id).bind fun y =>
 some y
def Yq : Option Int :=
 some 0
def Yr (l:(List zV)):Int→Option (Int ⊕ Int)
 | x1 =>
  if decide (x1<(l.length:Int)) then
   (ix l x1).bind fun x =>
   if !(zA6 x) then
    some (.inr 1)
   else
    (Za l x.ID).bind fun y1 =>
    if decide (y1<x1) then
     some (.inr 6)
    else
     some (.inl (w64 (x1+1)))
  else
   ((Yq).map Sum.inr)
def Jr (h:zN) (l:(List zV)):Option Int :=
 (zCT h).bind fun y =>
 if !decide (y=0) then
  some y
 else
  if decide (10<(l.length:Int)) then
   some 2
  else
   Lp (Yr l) fuel 0
structure zK where
 Tide:Int
 Berth:Int
 deriving DecidableEq,Inhabited
structure Zi where
 Call:Int
 Slot:zK
 Span:zB
 deriving DecidableEq,Inhabited
def ze (h:zN):zN :=
 h
def qx (h:zN) (b:zy) (draught:Int):Int :=
 w64 ((w64 (draught+h.Keel)) - b.Depth)
def zBA (s:zB):Int :=
 if (((decide (s.Lo<0))||(decide (s.Hi<s.Lo)))||(decide (1048576<s.Hi))) then
  1
 else
  if decide (10080≤(w64 (s.Hi - s.Lo))) then
   2
  else
   0
def zC0 (w:zW) (s:zB):Option Int :=
 (QI w).bind fun y =>
 if !decide (y=0) then
  some y
 else
  some (zBA s)
def Zc (w:zW) (s:zB):zW×zB :=
 (w,s)
def zEN (w:zW):Option zW:=if w.Cycles.length≤9223372036854775807 then some w else none
def qY (w:zW):Option (zW×zW) :=
 (zEN w).bind fun y =>
 some (w,y)
def QF : Option Int :=
 some 0
def QG (w:zW) (tick:Int):Int→Option (Int ⊕ Int)
 | x1 =>
  if decide (x1<(w.Shifts.length:Int)) then
   (ix w.Shifts x1).bind fun x =>
   (quo tick 1440).bind fun q =>
   if (zu q x.From x.To) then
    some (.inr x.Add)
   else
    some (.inl (w64 (x1+1)))
  else
   ((QF).map Sum.inr)
def QQ (w:zW) (tick:Int):Option Int :=
 Lp (QG w tick) fuel 0
def zCf (tick:Int) (c:zW):Option Int :=
 (QQ c tick).bind fun y =>
 some y
def zBl (a:Int) (b:Int):Option (Int×Int) :=
 (rem a b).bind fun q =>
 (rem (w64 (q+b)) b).bind fun q1 =>
 (quo (w64 (a - q1)) b).bind fun q2 =>
 some (q2,q1)
def zCz (c:zz) (tick:Int):Option Int :=
 (zBl (w64 (tick - c.Begin)) c.Every).bind fun y =>
 (zBl y.1 (c.Heights.length:Int)).bind fun y1 =>
 (ix c.Heights y1.2).bind fun x =>
 some x
def zCe (tick:Int) (c:zz):Option Int :=
 (zCz c tick).bind fun y =>
 some y
def Qx (h:Int):Option Int :=
 some h
def Qy (tick:Int) (c:zW) (c1:zW):(Int×Int)→Option ((Int×Int) ⊕ Int)
 | (h1,i) =>
  if decide (i<(c.Cycles.length:Int)) then
   if decide (i = -1) then
    (zCf tick c1).bind fun y =>
    some (.inl (w64 (h1+y),w64 (i+1)))
   else
    (ix c1.Cycles i).bind fun c2 =>
    (zCe tick c2).bind fun y1 =>
    some (.inl (w64 (h1+y1),w64 (i+1)))
  else
   ((Qx h1).map Sum.inr)
def yz (tick:Int) (c:zW) (c1:zW):Option Int :=
 Lp (Qy tick c c1) fuel (c.Level,-1)
def QR (height:Int) (Lo:Int) (Hi:Int) (Height:Int) (l:(List zB)):Option ((List zB)×Int) :=
 if decide (Height<height) then
  some (l,0)
 else
  gb ((decide (0<(l.length:Int)))) (ix l (w64 ((l.length:Int) - 1))) fun x =>
  if ((decide (0<(l.length:Int)))&&(decide ((w64 (x.Hi+1))=Lo))) then
   (ix l (w64 ((l.length:Int) - 1))).bind fun x1 =>
   some ((put l (w64 ((l.length:Int) - 1)) (⟨x1.Lo,Hi⟩:zB)),0)
  else
   (app l ([(⟨Lo,Hi⟩:zB)])).bind fun l1 =>
   some (l1,0)
def jo (t:Int) (Lo1:Int) (Height1:Int) (l2:(List zB)):Option ((Int×Int×Int×Int×(List zB)) ⊕ ((List zB)×Int)) :=
 some (.inl (w64 (t+1),Lo1,t,Height1,l2))
def zAd (w:zW) (s:zB) (height:Int) (y1:zW×zW):(Int×Int×Int×Int×(List zB))→Option ((Int×Int×Int×Int×(List zB)) ⊕ ((List zB)×Int))
 | (t,Lo2,Hi1,Height2,l5) =>
  if decide (t≤((Zc w s).2.Hi)) then
   (yz t y1.1 y1.2).bind fun y3 =>
   if decide (y3=Height2) then
    jo t Lo2 Height2 l5
   else
    if decide (Height2<height) then
     jo t t y3 l5
    else
     gb ((decide (0<(l5.length:Int)))) (ix l5 (w64 ((l5.length:Int) - 1))) fun x2 =>
     if ((decide (0<(l5.length:Int)))&&(decide ((w64 (x2.Hi+1))=Lo2))) then
      (ix l5 (w64 ((l5.length:Int) - 1))).bind fun x3 =>
      jo t t y3 (put l5 (w64 ((l5.length:Int) - 1)) (⟨x3.Lo,Hi1⟩:zB))
     else
      (app l5 ([(⟨Lo2,Hi1⟩:zB)])).bind fun l3 =>
      jo t t y3 l3
  else
   ((QR height Lo2 Hi1 Height2 l5).map Sum.inr)
def zBB (w:zW) (s:zB) (height:Int):Option ((List zB)×Int) :=
 (zC0 w s).bind fun y =>
 if !decide (y=0) then
  some ([],y)
 else
  (qY ((Zc w s).1)).bind fun y1 =>
  (yz ((Zc w s).2.Lo) y1.1 y1.2).bind fun y2 =>
  Lp (zAd w s height y1) fuel (w64 (((Zc w s).2.Lo)+1),(Zc w s).2.Lo,(Zc w s).2.Lo,y2,[])
def zCg : Option (zB×Int) :=
 some ((⟨0,0⟩:zB),5)
def zCh (long:Int) (y:(List zB)×Int):Int→Option (Int ⊕ (zB×Int))
 | x1 =>
  if decide (x1<(y.1.length:Int)) then
   (ix y.1 x1).bind fun x =>
   if decide ((w64 (long - 1))≤(w64 (x.Hi - x.Lo))) then
    some (.inr (x,0))
   else
    some (.inl (w64 (x1+1)))
  else
   ((zCg).map Sum.inr)
def zDz (w:zW) (s:zB) (height:Int) (long:Int):Option (zB×Int) :=
 (zBB w s height).bind fun y =>
 if !decide (y.2=0) then
  some ((⟨0,0⟩:zB),y.2)
 else
  if decide (long<1) then
   some ((⟨0,0⟩:zB),1)
  else
   Lp (zCh long y) fuel 0
def zDS (h:zN) (c:zV) (x:zK) (b:zy):Option (zB×Bool) :=
 (ix h.Tides x.Tide).bind fun x1 =>
 if decide ((min x1.Hi c.To)<(max x1.Lo c.From)) then
  some ((⟨0,0⟩:zB),false)
 else
  (zDz h.Water (⟨max x1.Lo c.From,min x1.Hi c.To⟩:zB) (qx h b c.Draught) c.Long).bind fun y =>
  if !decide (y.2=0) then
   some ((⟨0,0⟩:zB),false)
  else
   some ((⟨y.1.Lo,w64 ((w64 (y.1.Lo+c.Long)) - 1)⟩:zB),true)
def qN (x2:Int) (l:(List zK)) (m:(List (zK×zB))):Option ((Int×(List zK)×(List (zK×zB))) ⊕ ((List zK)×(List (zK×zB)))) :=
 some (.inl (w64 (x2+1),l,m))
def qO (h:zN) (c:zV) (x2:Int):(Int×(List zK)×(List (zK×zB)))→Option ((Int×(List zK)×(List (zK×zB))) ⊕ ((Int×(List zK)×(List (zK×zB))) ⊕ ((List zK)×(List (zK×zB)))))
 | (x1,l3,m2) =>
  if decide (x1<(((ze h).Berths).length:Int)) then
   (ix ((ze h).Berths) x1).bind fun x =>
   (zDS h c (⟨x2,x.ID⟩:zK) x).bind fun y =>
   if y.2 then
    (app l3 ([(⟨x2,x.ID⟩:zK)])).bind fun l1 =>
    some (.inl (w64 (x1+1),l1,(putM posE m2 (⟨x2,x.ID⟩:zK) y.1)))
   else
    some (.inl (w64 (x1+1),l3,m2))
  else
   ((qN x2 l3 m2).map Sum.inr)
def zBY (h:zN) (c:zV):(Int×(List zK)×(List (zK×zB)))→Option ((Int×(List zK)×(List (zK×zB))) ⊕ ((List zK)×(List (zK×zB))))
 | (x2,l2,m1) =>
  if decide (x2<(((ze h).Tides).length:Int)) then
   Lp (qO h c x2) fuel (0,l2,m1)
  else
   some (.inr (l2,m1))
def zCS (h:zN) (c:zV):Option ((List zK)×(List (zK×zB))) :=
 Lp (zBY h c) fuel (0,[],[])
structure zI where
 calls:(List zV)
 slots:(List zK)
 can:(List (List (zK×zB)))
 old:(List Int)
 deriving DecidableEq,Inhabited
def zAZ (x4:Int) (l1:(List zK)):Option ((Int×(List zK)) ⊕ zI) :=
 some (.inl (w64 (x4+1),l1))
def zAa (h:zN) (x4:Int):(Int×(List zK))→Option ((Int×(List zK)) ⊕ ((Int×(List zK)) ⊕ zI))
 | (x1,l3) =>
  if decide (x1<(((ze h).Berths).length:Int)) then
   (ix ((ze h).Berths) x1).bind fun x =>
   (app l3 ([(⟨x4,x.ID⟩:zK)])).bind fun l2 =>
   some (.inl (w64 (x1+1),l2))
  else
   ((zAZ x4 l3).map Sum.inr)
def zAY (l:(List zV)) (l10:(List zK)) (l4:(List (List (zK×zB)))) (l5:(List Int)):Option ((Int×(List zK)) ⊕ zI) :=
 some (.inr (⟨l,l10,l4,l5⟩:zI))
def zCA (h:zN) (l:(List zV)) (l10:(List zK)):(Int×(List (List (zK×zB)))×(List Int))→Option ((Int×(List (List (zK×zB)))×(List Int)) ⊕ ((Int×(List zK)) ⊕ zI))
 | (x3,l8,l9) =>
  if decide (x3<(l.length:Int)) then
   (ix l x3).bind fun x2 =>
   (zCS h x2).bind fun y =>
   (app l8 ([y.2])).bind fun l6 =>
   (app l9 ([-1])).bind fun l7 =>
   some (.inl (w64 (x3+1),l6,l7))
  else
   ((zAY l l10 l8 l9).map Sum.inr)
def zCB (h:zN) (l:(List zV)):(Int×(List zK))→Option ((Int×(List zK)) ⊕ zI)
 | (x4,l10) =>
  if decide (x4<(((ze h).Tides).length:Int)) then
   Lp (zAa h x4) fuel (0,l10)
  else
   Lp (zCA h l l10) fuel (0,[],[])
def zAr (h:zN) (l:(List zV)):Option zI :=
 Lp (zCB h l) fuel (0,[])
def Z7 (b:zI) (ship:Int) (l2:(List Int)):Option (List Int) :=
 (ix l2 (w64 ((b.slots.length:Int)+ship))).bind fun x =>
 some (put l2 (w64 ((b.slots.length:Int)+ship)) 0)
def Zw (x6:Int) (l3:(List Int)):Option ((Int×(List Int)) ⊕ (List Int)) :=
 some (.inl (w64 (x6+1),l3))
def JV (b:zI) (ship:Int):(Int×(List Int))→Option ((Int×(List Int)) ⊕ (List Int))
 | (x6,l4) =>
  if decide (x6<(b.slots.length:Int)) then
   (ix b.slots x6).bind fun x1 =>
   (ix b.can ship).bind fun x2 =>
   if (za x1 x2).isSome then
    (ix l4 x6).bind fun x3 =>
    (ix b.old ship).bind fun x4 =>
    if decide (x4=x6) then
     (ix (put l4 x6 (-1000)) x6).bind fun x5 =>
     Zw x6 (put (put l4 x6 (-1000)) x6 (-1001))
    else
     Zw x6 (put l4 x6 (-1000))
   else
    Zw x6 l4
  else
   ((Z7 b ship l4).map Sum.inr)
def jG (b:zI) (ship:Int) (l1:(List Int)):Option (List Int) :=
 Lp (JV b ship) fuel (0,l1)
def JU (b:zI) (ship:Int) (l:(List Int)):(Int×(List Int))→Option ((Int×(List Int)) ⊕ (List Int))
 | (x8,l5) =>
  if decide (x8<(l.length:Int)) then
   (ix l5 x8).bind fun x7 =>
   some (.inl (w64 (x8+1),put l5 x8 1073741824))
  else
   ((jG b ship l5).map Sum.inr)
def Je (b:zI) (ship:Int):Option (List Int) :=
 (mkS (w64 ((b.slots.length:Int)+(b.calls.length:Int))) (w64 ((b.slots.length:Int)+(b.calls.length:Int))) (0:Int)).bind fun l =>
 Lp (JU b ship l) fuel (0,l)
def Qh (sum:Int) (l5:(List Int)):Option ((List Int)×Int) :=
 some (l5,sum)
def yQ (k:Int) (sum1:Int) (l6:(List Int)):Option ((Int×Int×(List Int)) ⊕ ((List Int)×Int)) :=
 some (.inl (sum1,w64 (k+1),l6))
def YP (cost:(List (List Int))) (places:Int) (l3:(List Int)):(Int×Int×(List Int))→Option ((Int×Int×(List Int)) ⊕ ((List Int)×Int))
 | (sum2,k,l7) =>
  if decide (k≤places) then
   (ix l3 k).bind fun x =>
   if decide (0<x) then
    (ix l3 k).bind fun x1 =>
    (ix l7 (w64 (x1 - 1))).bind fun x2 =>
    (ix l3 k).bind fun x3 =>
    (ix cost (w64 (x3 - 1))).bind fun x4 =>
    (ix x4 (w64 (k - 1))).bind fun x5 =>
    yQ k (w64 (sum2+x5)) (put l7 (w64 (x1 - 1)) (w64 (k - 1)))
   else
    yQ k sum2 l7
  else
   ((Qh sum2 l7).map Sum.inr)
def yR (cost:(List (List Int))) (places:Int) (l3:(List Int)):Option ((List Int)×Int) :=
 (mkS (cost.length:Int) (cost.length:Int) (0:Int)).bind fun l4 =>
 Lp (YP cost places l3) fuel (0,1,l4)
def Qf (i:Int) (l12:(List Int)) (l13:(List Int)) (l15:(List Int)):Option ((Int×(List Int)×(List Int)×(List Int)) ⊕ ((List Int)×Int)) :=
 some (.inl (w64 (i+1),l12,l13,l15))
def Qi (i:Int) (l12:(List Int)) (l13:(List Int)) (l14:(List Int)):(Int×(List Int))→Option ((Int×(List Int)) ⊕ ((Int×(List Int)×(List Int)×(List Int)) ⊕ ((List Int)×Int)))
 | (at_1,l16) =>
  if !decide (at_1=0) then
   (ix l14 at_1).bind fun x7 =>
   (ix l16 x7).bind fun x8 =>
   (ix l16 at_1).bind fun x9 =>
   (ix l14 at_1).bind fun x10 =>
   some (.inl (x10,put l16 at_1 x8))
  else
   ((Qf i l12 l13 l16).map Sum.inr)
def Qg (i:Int) (l42:(List Int)) (at_:Int) (l12:(List Int)) (l13:(List Int)) (l14:(List Int)):Option ((Int×(List Int)×(List Int)×(List Int)) ⊕ ((List Int)×Int)) :=
 Lp (Qi i l12 l13 l14) fuel (at_,put l42 0 i)
def JX (i:Int) (l42:(List Int)) (at_2:Int) (l38:(List Bool)) (next:Int) (l18:(List Int)) (l19:(List Int)) (l20:(List Int)) (l21:(List Int)):Option ((Int×(List Int)×(List Int)×(List Int)×(List Int)×(List Bool)) ⊕ ((Int×(List Int)×(List Int)×(List Int)) ⊕ ((List Int)×Int))) :=
 (ix (put l42 0 i) next).bind fun x13 =>
 if decide (x13=0) then
  ((Qg i l42 next l19 l20 l18).map Sum.inr)
 else
  some (.inl (next,l19,l20,l21,l18,put l38 at_2 true))
def Jo (x22:Int) (l22:(List Int)) (l23:(List Int)) (l24:(List Int)):Option ((Int×(List Int)×(List Int)×(List Int)) ⊕ ((Int×(List Int)×(List Int)×(List Int)×(List Int)×(List Bool)) ⊕ ((Int×(List Int)×(List Int)×(List Int)) ⊕ ((List Int)×Int)))) :=
 some (.inl (w64 (x22+1),l22,l23,l24))
def yx (i:Int) (l42:(List Int)) (at_2:Int) (l38:(List Bool)) (next:Int) (step:Int) (l18:(List Int)):(Int×(List Int)×(List Int)×(List Int))→Option ((Int×(List Int)×(List Int)×(List Int)) ⊕ ((Int×(List Int)×(List Int)×(List Int)×(List Int)×(List Bool)) ⊕ ((Int×(List Int)×(List Int)×(List Int)) ⊕ ((List Int)×Int))))
 | (x22,l25,l26,l27) =>
  if decide (x22<((put l38 at_2 true).length:Int)) then
   (ix (put l38 at_2 true) x22).bind fun x14 =>
   if x14 then
    (ix (put l42 0 i) x22).bind fun x15 =>
    (ix l25 x15).bind fun x16 =>
    (ix l25 x15).bind fun x17 =>
    (ix l26 x22).bind fun x18 =>
    (ix l26 x22).bind fun x19 =>
    Jo x22 (put l25 x15 (w64 (x16+step))) (put l26 x22 (w64 (x18 - step))) l27
   else
    (ix l27 x22).bind fun x20 =>
    (ix l27 x22).bind fun x21 =>
    Jo x22 l25 l26 (put l27 x22 (w64 (x20 - step)))
  else
   ((JX i l42 at_2 l38 next l18 l25 l26 l27).map Sum.inr)
def Jp (i:Int) (l42:(List Int)) (at_2:Int) (l34:(List Int)) (l35:(List Int)) (l38:(List Bool)) (next:Int) (step:Int) (l17:(List Int)) (l18:(List Int)):Option ((Int×(List Int)×(List Int)×(List Int)×(List Int)×(List Bool)) ⊕ ((Int×(List Int)×(List Int)×(List Int)) ⊕ ((List Int)×Int))) :=
 Lp (yx i l42 at_2 l38 next step l18) fuel (0,l34,l35,l17)
def JW (k1:Int) (next1:Int) (step1:Int) (l28:(List Int)) (l29:(List Int)):Option ((Int×Int×Int×(List Int)×(List Int)) ⊕ ((Int×(List Int)×(List Int)×(List Int)×(List Int)×(List Bool)) ⊕ ((Int×(List Int)×(List Int)×(List Int)) ⊕ ((List Int)×Int)))) :=
 some (.inl (next1,step1,w64 (k1+1),l28,l29))
def Jn (next2:Int) (step2:Int) (k1:Int) (l30:(List Int)) (l31:(List Int)):Option ((Int×Int×Int×(List Int)×(List Int)) ⊕ ((Int×(List Int)×(List Int)×(List Int)×(List Int)×(List Bool)) ⊕ ((Int×(List Int)×(List Int)×(List Int)) ⊕ ((List Int)×Int)))) :=
 (ix l30 k1).bind fun x29 =>
 if decide (x29<step2) then
  (ix l30 k1).bind fun x30 =>
  JW k1 k1 x30 l30 l31
 else
  JW k1 next2 step2 l30 l31
def yw (cost:(List (List Int))) (places:Int) (i:Int) (l42:(List Int)) (at_2:Int) (l34:(List Int)) (l35:(List Int)) (l38:(List Bool)) (x12:Int):(Int×Int×Int×(List Int)×(List Int))→Option ((Int×Int×Int×(List Int)×(List Int)) ⊕ ((Int×(List Int)×(List Int)×(List Int)×(List Int)×(List Bool)) ⊕ ((Int×(List Int)×(List Int)×(List Int)) ⊕ ((List Int)×Int))))
 | (next2,step2,k1,l32,l33) =>
  if decide (k1≤places) then
   (ix (put l38 at_2 true) k1).bind fun x23 =>
   if x23 then
    JW k1 next2 step2 l32 l33
   else
    (ix cost (w64 (x12 - 1))).bind fun x24 =>
    (ix x24 (w64 (k1 - 1))).bind fun x25 =>
    (ix l34 x12).bind fun x26 =>
    (ix l35 k1).bind fun x27 =>
    (ix l32 k1).bind fun x28 =>
    if decide ((w64 ((w64 (x25 - x26)) - x27))<x28) then
     (ix l32 k1).bind fun x31 =>
     (ix l33 k1).bind fun x32 =>
     Jn next2 step2 k1 (put l32 k1 (w64 ((w64 (x25 - x26)) - x27))) (put l33 k1 at_2)
    else
     Jn next2 step2 k1 l32 l33
  else
   ((Jp i l42 at_2 l34 l35 l38 next2 step2 l32 l33).map Sum.inr)
def Y3 (cost:(List (List Int))) (places:Int) (i:Int) (l42:(List Int)):(Int×(List Int)×(List Int)×(List Int)×(List Int)×(List Bool))→Option ((Int×(List Int)×(List Int)×(List Int)×(List Int)×(List Bool)) ⊕ ((Int×(List Int)×(List Int)×(List Int)) ⊕ ((List Int)×Int)))
 | (at_2,l34,l35,l36,l37,l38) =>
  (ix l38 at_2).bind fun x11 =>
  (ix (put l42 0 i) at_2).bind fun x12 =>
  Lp (yw cost places i l42 at_2 l34 l35 l38 x12) fuel (0,4294967296,1,l36,l37)
def YO (cost:(List (List Int))) (places:Int) (i:Int) (l40:(List Int)) (l41:(List Int)) (l42:(List Int)) (l9:(List Int)) (l10:(List Bool)) (l11:(List Int)):Option ((Int×(List Int)×(List Int)×(List Int)) ⊕ ((List Int)×Int)) :=
 Lp (Y3 cost places i l42) fuel (0,l40,l41,l11,l9,l10)
def Y2 (cost:(List (List Int))) (places:Int) (i:Int) (l40:(List Int)) (l41:(List Int)) (l42:(List Int)) (l8:(List Int)) (l9:(List Int)) (l10:(List Bool)):(Int×(List Int))→Option ((Int×(List Int)) ⊕ ((Int×(List Int)×(List Int)×(List Int)) ⊕ ((List Int)×Int)))
 | (x34,l39) =>
  if decide (x34<(l8.length:Int)) then
   (ix l39 x34).bind fun x33 =>
   some (.inl (w64 (x34+1),put l39 x34 4294967296))
  else
   ((YO cost places i l40 l41 l42 l9 l10 l39).map Sum.inr)
def Qj (cost:(List (List Int))) (places:Int):(Int×(List Int)×(List Int)×(List Int))→Option ((Int×(List Int)×(List Int)×(List Int)) ⊕ ((List Int)×Int))
 | (i,l40,l41,l42) =>
  if decide (i≤(cost.length:Int)) then
   (ix l42 0).bind fun x6 =>
   (mkS (w64 (places+1)) (w64 (places+1)) (0:Int)).bind fun l8 =>
   (mkS (w64 (places+1)) (w64 (places+1)) (0:Int)).bind fun l9 =>
   (mkS (w64 (places+1)) (w64 (places+1)) false).bind fun l10 =>
   Lp (Y2 cost places i l40 l41 l42 l8 l9 l10) fuel (0,l8)
  else
   ((yR cost places l42).map Sum.inr)
def yj (cost:(List (List Int))) (places:Int):Option ((List Int)×Int) :=
 (mkS (w64 ((cost.length:Int)+1)) (w64 ((cost.length:Int)+1)) (0:Int)).bind fun l =>
 (mkS (w64 (places+1)) (w64 (places+1)) (0:Int)).bind fun l1 =>
 (mkS (w64 (places+1)) (w64 (places+1)) (0:Int)).bind fun l2 =>
 Lp (Qj cost places) fuel (1,l,l1,l2)
def Jg (b:zI) (l:(List (List Int))):Option ((List Int)×Int) :=
 (yj l (w64 ((b.slots.length:Int)+(b.calls.length:Int)))).bind fun y =>
 some (y.1,y.2)
def jY (x3:Int) (l5:(List (List Int))) (l1:(List Int)):Option ((Int×(List (List Int))) ⊕ ((List Int)×Int)) :=
 (app l5 ([l1])).bind fun l2 =>
 some (.inl (w64 (x3+1),l2))
def JB (x2:Int) (l3:(List Int)):Option ((Int×(List Int)) ⊕ ((Int×(List (List Int))) ⊕ ((List Int)×Int))) :=
 some (.inl (w64 (x2+1),l3))
def yc (x3:Int) (l5:(List (List Int))) (y1:(List Int)) (k:Int):(Int×(List Int))→Option ((Int×(List Int)) ⊕ ((Int×(List (List Int))) ⊕ ((List Int)×Int)))
 | (x2,l4) =>
  if decide (x2<(y1.length:Int)) then
   if !decide (x2=k) then
    (ix l4 x2).bind fun x1 =>
    JB x2 (put l4 x2 1073741824)
   else
    JB x2 l4
  else
   ((jY x3 l5 l4).map Sum.inr)
def JC (x3:Int) (l5:(List (List Int))) (y1:(List Int)) (k:Int):Option ((Int×(List (List Int))) ⊕ ((List Int)×Int)) :=
 Lp (yc x3 l5 y1 k) fuel (0,y1)
def yf (b:zI) (fixed:(List Int)):(Int×(List (List Int)))→Option ((Int×(List (List Int))) ⊕ ((List Int)×Int))
 | (x3,l5) =>
  if decide (x3<(b.calls.length:Int)) then
   (Je b x3).bind fun y1 =>
   if decide (x3<(fixed.length:Int)) then
    (ix fixed x3).bind fun x =>
    if decide (x<0) then
     JC x3 l5 y1 (w64 ((b.slots.length:Int)+x3))
    else
     JC x3 l5 y1 x
   else
    jY x3 l5 y1
  else
   ((Jg b l5).map Sum.inr)
def jX (b:zI) (fixed:(List Int)):Option ((List Int)×Int) :=
 Lp (yf b fixed) fuel (0,[])
def slices_Clone_int (l:List Int):Option (List Int):=app [] l
def yX (l:(List Zi)):Option (List Zi) :=
 some l
def JA (x4:Int) (l1:(List Int)) (l2:(List Zi)):Option ((Int×(List Int)×(List Zi)) ⊕ (List Zi)) :=
 some (.inl (w64 (x4+1),l1,l2))
def yV (x4:Int) (l8:(List Int)) (l9:(List Zi)):Option ((Int×(List Int)×(List Zi)) ⊕ (List Zi)) :=
 (app l8 ([-1])).bind fun l3 =>
 JA x4 l3 l9
def jy (x3:Int):Option (Int ⊕ ((Int×(List Int)×(List Zi)) ⊕ (List Zi))) :=
 some (.inl (w64 (x3+1)))
def Yp (b:zI) (y:(List Int)×Int) (x4:Int) (l8:(List Int)) (l9:(List Zi)) (x:zV):Int→Option (Int ⊕ ((Int×(List Int)×(List Zi)) ⊕ (List Zi)))
 | x3 =>
  if decide (x3<(b.slots.length:Int)) then
   (ix b.slots x3).bind fun x1 =>
   (ix b.can x4).bind fun x2 =>
   if !(za x1 x2).isSome then
    jy x3
   else
    (app [] l8).bind fun l4 =>
    (app l4 ([x3])).bind fun l5 =>
    (jX b l5).bind fun y1 =>
    if decide (y1.2=y.2) then
     (app l8 ([x3])).bind fun l6 =>
     (app l9 ([(⟨x.ID,x1,((za x1 x2).getD (⟨0,0⟩:zB))⟩:Zi)])).bind fun l7 =>
     ((JA x4 l6 l7).map Sum.inr)
    else
     jy x3
  else
   ((yV x4 l8 l9).map Sum.inr)
def yY (b:zI) (y:(List Int)×Int):(Int×(List Int)×(List Zi))→Option ((Int×(List Int)×(List Zi)) ⊕ (List Zi))
 | (x4,l8,l9) =>
  if decide (x4<(b.calls.length:Int)) then
   (ix b.calls x4).bind fun x =>
   Lp (Yp b y x4 l8 l9 x) fuel 0
  else
   ((yX l9).map Sum.inr)
def Y1 (b:zI):Option (List Zi) :=
 (jX b []).bind fun y =>
 Lp (yY b y) fuel (0,[],[])
def qP (h:zN) (l:(List zV)):Option ((List Zi)×Int) :=
 (Jr h l).bind fun y =>
 if !decide (y=0) then
  some ([],y)
 else
  (zAr h l).bind fun y1 =>
  (Y1 y1).bind fun y2 =>
  some (y2,0)
def Y8 : Option Bool :=
 (zAt ([(⟨zEW,(⟨[(⟨100,100⟩:zB),(⟨200,200⟩:zB)],(⟨300,300⟩:zB)⟩:zQ),0,400,30⟩:ZO)])).bind fun y =>
 if ((!y.2)||(!decide ((y.1.length:Int)=1))) then
  some false
 else
  (qP (zB4) y.1).bind fun y1 =>
  gb ((((decide (y1.2=0))&&(decide ((y1.1.length:Int)=1))))) (ix y.1 0) fun x =>
  some (((decide (y1.2=0))&&(decide ((y1.1.length:Int)=1)))&&(decide (x.Draught=500)))
def QU (l:zQ) (all1:Int) (l2:(List Int)):Option ((List Int)×Bool) :=
 some (l2,(decide (l.All.Lo≤all1))&&(decide (all1≤l.All.Hi)))
def zCZ (l:zQ):(Int×Int×(List Int))→Option ((Int×Int×(List Int)) ⊕ ((List Int)×Bool))
 | (all2,x4,l3) =>
  if decide (x4<(l.Holds.length:Int)) then
   (ix l.Holds x4).bind fun x =>
   (ix l3 x4).bind fun x1 =>
   (ix l3 x4).bind fun x2 =>
   (ix l3 x4).bind fun x3 =>
   some (.inl (w64 ((w64 (all2+(max x.Lo (min x.Hi (w64 ((w64 (x1+(max 0 (w64 (l.All.Lo - all2))))) - (max 0 (w64 (all2 - l.All.Hi))))))))) - x2),w64 (x4+1),put l3 x4 (max x.Lo (min x.Hi (w64 ((w64 (x1+(max 0 (w64 (l.All.Lo - all2))))) - (max 0 (w64 (all2 - l.All.Hi)))))))))
  else
   ((QU l all2 l3).map Sum.inr)
def YI (l:zQ) (all:Int) (l1:(List Int)):Option ((List Int)×Bool) :=
 Lp (zCZ l) fuel (all,0,l1)
def yP (all3:Int) (x7:Int) (l5:(List Int)) (n:Int):Option ((Int×Int×(List Int)) ⊕ ((List Int)×Bool)) :=
 (app l5 ([n])).bind fun l4 =>
 some (.inl (w64 (all3+n),w64 (x7+1),l4))
def zCY (l:zQ) (by_:(List Int)):(Int×Int×(List Int))→Option ((Int×Int×(List Int)) ⊕ ((List Int)×Bool))
 | (all3,x7,l5) =>
  if decide (x7<(l.Holds.length:Int)) then
   (ix l.Holds x7).bind fun x5 =>
   if decide (x7<(by_.length:Int)) then
    (ix by_ x7).bind fun x6 =>
    (rem (w64 x6) (w64 ((w64 (x5.Hi - x5.Lo))+1))).bind fun q =>
    yP all3 x7 l5 (w64 (x5.Lo+q))
   else
    yP all3 x7 l5 x5.Lo
  else
   ((YI l all3 l5).map Sum.inr)
def QK (l:zQ) (by_:(List Int)):Option ((List Int)×Bool) :=
 Lp (zCY l by_) fuel (0,0,[])
def zBN : Option Int :=
 some 0
def qG (x4:Int):Option (Int ⊕ Int) :=
 some (.inl (w64 (x4+1)))
def Yu (s:zH) (x4:Int) (x:(List Int)):Int→Option (Int ⊕ (Int ⊕ Int))
 | x3 =>
  if decide (x3<(x.length:Int)) then
   (ix x x3).bind fun x1 =>
   (ix s.Holds x3).bind fun x2 =>
   if !(zT x1 0 x2.Room) then
    some (.inr (.inr 1))
   else
    some (.inl (w64 (x3+1)))
  else
   ((qG x4).map Sum.inr)
def qH (s:zH) (l:(List (List Int))):Int→Option (Int ⊕ Int)
 | x4 =>
  if decide (x4<(l.length:Int)) then
   (ix l x4).bind fun x =>
   if !decide ((x.length:Int)=(s.Holds.length:Int)) then
    some (.inr 1)
   else
    Lp (Yu s x4 x) fuel 0
  else
   ((zBN).map Sum.inr)
def QC (s:zH) (l:(List (List Int))):Option Int :=
 (zBt s).bind fun y =>
 if !decide (y=0) then
  some y
 else
  Lp (qH s l) fuel 0
def zA3 (s:zH) (x:(List Int)):Option (Jf×Int) :=
 (QC s ([x])).bind fun y =>
 if !decide (y=0) then
  some ((⟨(⟨0,0⟩:zB),(⟨0,0⟩:zB)⟩:Jf),y)
 else
  (zA1 s x).bind fun y1 =>
  some (y1,0)
def zAu (w:zW) (tick:Int):Option (Int×Int) :=
 (QI w).bind fun y =>
 if !decide (y=0) then
  some (0,y)
 else
  if !(ji tick) then
   some (0,1)
  else
   (qY w).bind fun y1 =>
   (yz tick y1.1 y1.2).bind fun y2 =>
   some (y2,0)
def zDH (s:zH) (l:zQ) (depth:Int) (keel:Int):Option (Bool×Int) :=
 (yh s l).bind fun y =>
 if !decide (y.2.2=0) then
  some (false,y.2.2)
 else
  if ((!(zT depth 0 65536))||(!(zT keel 0 5000))) then
   some (false,1)
  else
   some (decide ((w64 (y.1+keel))≤depth),0)
def zDW : Option Bool :=
 some true
def zDY (h:zN) (g:ZO) (x:Zi) (y1:Jf×Int) (ground:Int):Int→Option (Int ⊕ Bool)
 | n =>
  if decide (n≤x.Span.Hi) then
   (zAu h.Water n).bind fun y2 =>
   if ((!decide (y2.2=0))||(decide ((w64 (ground+y2.1))<(w64 ((max (max y1.1.Fore.Hi y1.1.Aft.Hi) 0)+h.Keel))))) then
    some (.inr false)
   else
    (zDH g.Ship g.Load (min (w64 (ground+y2.1)) 65536) (min h.Keel 5000)).bind fun y3 =>
    if ((!decide (y3.2=0))||(!y3.1)) then
     some (.inr false)
    else
     some (.inl (w64 (n+1)))
  else
   ((zDW).map Sum.inr)
def zAs (h:zN) (g:ZO) (x:Zi) (y1:Jf×Int) (ground:Int):Option Bool :=
 Lp (zDY h g x y1 ground) fuel x.Span.Lo
def Q8 (x2:Int) (ground1:Int):Option ((Int×Int) ⊕ Bool) :=
 some (.inl (ground1,w64 (x2+1)))
def zDX (h:zN) (g:ZO) (x:Zi) (y1:Jf×Int):(Int×Int)→Option ((Int×Int) ⊕ Bool)
 | (ground2,x2) =>
  if decide (x2<(h.Berths.length:Int)) then
   (ix h.Berths x2).bind fun x1 =>
   if decide (x1.ID=x.Slot.Berth) then
    Q8 x2 x1.Depth
   else
    Q8 x2 ground2
  else
   ((zAs h g x y1 ground2).map Sum.inr)
def zEt (h:zN) (g:ZO) (x:Zi) (by_:(List Int)):Option Bool :=
 (QK g.Load by_).bind fun y =>
 (zA3 g.Ship y.1).bind fun y1 =>
 if ((!y.2)||(!decide (y1.2=0))) then
  some false
 else
  Lp (zDX h g x y1) fuel (0,0)
structure Zu where
 Calls:(List Int)
 Slots:(List zK)
 deriving DecidableEq,Inhabited
def yZ (c:zV) (c1:zI) (c2:zK) (c3:(List (Int×Bool))):Option Bool :=
 (Za c1.calls c.ID).bind fun y =>
 (ix c1.can y).bind fun x =>
 some (((za c2 x).isSome)&&((za y c3).getD false))
def Zh : Option Int :=
 some (-1)
def jA (s:(List zV)) (c:zI) (c1:zK) (c2:(List (Int×Bool))):Int→Option (Int ⊕ Int)
 | x1 =>
  if decide (x1<(s.length:Int)) then
   (ix s x1).bind fun x =>
   (yZ x c c1 c2).bind fun y =>
   if y then
    some (.inr x1)
   else
    some (.inl (w64 (x1+1)))
  else
   ((Zh).map Sum.inr)
def ZV (s:(List zV)) (c:zI) (c1:zK) (c2:(List (Int×Bool))):Option Int :=
 Lp (jA s c c1 c2) fuel 0
def ZQ (s:(List zV)) (c:zI) (c1:zK) (c2:(List (Int×Bool))):Option Bool :=
 (ZV s c c1 c2).bind fun y =>
 some (decide (0≤y))
def J9 (l1:(List Int)) (l2:(List zK)):Option Zu :=
 some (⟨l1,l2⟩:Zu)
def jm (x1:Int) (l3:(List zK)):Option ((Int×(List zK)) ⊕ Zu) :=
 some (.inl (w64 (x1+1),l3))
def yB (b:zI) (ships:(List (Int×Bool))) (l1:(List Int)):(Int×(List zK))→Option ((Int×(List zK)) ⊕ Zu)
 | (x1,l5) =>
  if decide (x1<(b.slots.length:Int)) then
   (ix b.slots x1).bind fun x =>
   (ZQ b.calls b x ships).bind fun y =>
   if y then
    (app l5 ([x])).bind fun l4 =>
    jm x1 l4
   else
    jm x1 l5
  else
   ((J9 l1 l5).map Sum.inr)
def JR (b:zI) (ships:(List (Int×Bool))) (l:(List Int)):Option Zu :=
 (srtO l).bind fun l1 =>
 Lp (yB b ships l1) fuel (0,[])
def jk (x3:Int) (l6:(List Int)):Option ((Int×(List Int)) ⊕ Zu) :=
 some (.inl (w64 (x3+1),l6))
def yA (b:zI) (ships:(List (Int×Bool))):(Int×(List Int))→Option ((Int×(List Int)) ⊕ Zu)
 | (x3,l8) =>
  if decide (x3<(b.calls.length:Int)) then
   (ix b.calls x3).bind fun x2 =>
   if ((za x3 ships).getD false) then
    (app l8 ([x2.ID])).bind fun l7 =>
    jk x3 l7
   else
    jk x3 l8
  else
   ((JR b ships l8).map Sum.inr)
def yL (b:zI) (ships:(List (Int×Bool))):Option Zu :=
 Lp (yA b ships) fuel (0,[])
def J4 (y1:zI) (m2:(List (Int×Bool))):Option (Zu×Bool×Int) :=
 (yL y1 m2).bind fun y3 =>
 some (y3,true,0)
def Yh (x3:Int) (more:Bool) (m3:(List (Int×Bool))):Option ((Bool×Int×(List (Int×Bool))) ⊕ ((Bool×(List (Int×Bool))) ⊕ (Zu×Bool×Int))) :=
 some (.inl (more,w64 (x3+1),m3))
def Yg (x2:Int) (more1:Bool) (m4:(List (Int×Bool))):Option ((Bool×Int×(List (Int×Bool))) ⊕ ((Bool×Int×(List (Int×Bool))) ⊕ ((Bool×(List (Int×Bool))) ⊕ (Zu×Bool×Int)))) :=
 some (.inl (more1,w64 (x2+1),m4))
def zCC (l:(List zV)) (y1:zI) (m1:(List (Int×Int))) (x3:Int) (x:zK):(Bool×Int×(List (Int×Bool)))→Option ((Bool×Int×(List (Int×Bool))) ⊕ ((Bool×Int×(List (Int×Bool))) ⊕ ((Bool×(List (Int×Bool))) ⊕ (Zu×Bool×Int))))
 | (more2,x2,m5) =>
  if decide (x2<(l.length:Int)) then
   (ix y1.can x2).bind fun x1 =>
   if (((za x x1).isSome)&&((za x2 m5).getD false)) then
    Yg x2 true (putM posI m5 ((za x3 m1).getD 0) true)
   else
    Yg x2 more2 m5
  else
   ((Yh x3 more2 m5).map Sum.inr)
def zCD (l:(List zV)) (y1:zI) (m1:(List (Int×Int))):(Bool×Int×(List (Int×Bool)))→Option ((Bool×Int×(List (Int×Bool))) ⊕ ((Bool×(List (Int×Bool))) ⊕ (Zu×Bool×Int)))
 | (more3,x3,m6) =>
  if decide (x3<(y1.slots.length:Int)) then
   (ix y1.slots x3).bind fun x =>
   if ((!(za x3 m1).isSome)||((za ((za x3 m1).getD 0) m6).getD false)) then
    Yh x3 more3 m6
   else
    Lp (zCC l y1 m1 x3 x) fuel (more3,0,m6)
  else
   some (.inr (.inl (more3,m6)))
def Qu (l:(List zV)) (y1:zI) (m1:(List (Int×Int))):(Bool×(List (Int×Bool)))→Option ((Bool×(List (Int×Bool))) ⊕ (Zu×Bool×Int))
 | (more4,m7) =>
  if more4 then
   Lp (zCD l y1 m1) fuel (false,0,m7)
  else
   ((J4 y1 m7).map Sum.inr)
def Qt (l:(List zV)) (y1:zI) (m:(List (Int×Bool))) (m1:(List (Int×Int))):Option (Zu×Bool×Int) :=
 if decide ((m.length:Int)=0) then
  some ((⟨[],[]⟩:Zu),false,0)
 else
  Lp (Qu l y1 m1) fuel (true,m)
def Yf (x5:Int) (m8:(List (Int×Bool))) (m9:(List (Int×Int))):Option ((Int×(List (Int×Bool))×(List (Int×Int))) ⊕ (Zu×Bool×Int)) :=
 some (.inl (w64 (x5+1),m8,m9))
def zAc (l:(List zV)) (y1:zI) (y2:(List Int)×Int):(Int×(List (Int×Bool))×(List (Int×Int)))→Option ((Int×(List (Int×Bool))×(List (Int×Int))) ⊕ (Zu×Bool×Int))
 | (x5,m10,m11) =>
  if decide (x5<(y2.1.length:Int)) then
   (ix y2.1 x5).bind fun x4 =>
   if decide ((y1.slots.length:Int)≤x4) then
    Yf x5 (putM posI m10 x5 true) m11
   else
    Yf x5 m10 (putM posI m11 x4 x5)
  else
   ((Qt l y1 m10 m11).map Sum.inr)
def zBw (h:zN) (l:(List zV)):Option (Zu×Bool×Int) :=
 (Jr h l).bind fun y =>
 if !decide (y=0) then
  some ((⟨[],[]⟩:Zu),false,y)
 else
  (zAr h l).bind fun y1 =>
  (jX y1 []).bind fun y2 =>
  Lp (zAc l y1 y2) fuel (0,[],[])
def yS : Option Bool :=
 some true
def Yl (s1:(List Int)) (s2:(List Int)):Int→Option (Int ⊕ Bool)
 | x2 =>
  if decide (x2<(s1.length:Int)) then
   (ix s1 x2).bind fun x =>
   (ix s2 x2).bind fun x1 =>
   if !decide (x=x1) then
    some (.inr false)
   else
    some (.inl (w64 (x2+1)))
  else
   ((yS).map Sum.inr)
def slices_Equal_int (s1:(List Int)) (s2:(List Int)):Option Bool :=
 if !decide ((s1.length:Int)=(s2.length:Int)) then
  some false
 else
  Lp (Yl s1 s2) fuel 0
def JI : Option Bool :=
 some true
def Ju (s1:(List zK)) (s2:(List zK)):Int→Option (Int ⊕ Bool)
 | x2 =>
  if decide (x2<(s1.length:Int)) then
   (ix s1 x2).bind fun x =>
   (ix s2 x2).bind fun x1 =>
   if !decide (x=x1) then
    some (.inr false)
   else
    some (.inl (w64 (x2+1)))
  else
   ((JI).map Sum.inr)
def Jk (s1:(List zK)) (s2:(List zK)):Option Bool :=
 if !decide ((s1.length:Int)=(s2.length:Int)) then
  some false
 else
  Lp (Ju s1 s2) fuel 0
def Jq (h:zN) (l:(List zV)) (x:Zu) (m:(List (Int×Bool))):Option (Int×Int) :=
 (zAr h l).bind fun y1 =>
 (yL y1 m).bind fun y2 =>
 gb (!(decide ((x.Calls.length:Int)=0))) (slices_Equal_int x.Calls y2.Calls) fun y3 =>
 gb (!(((decide ((x.Calls.length:Int)=0))||(!y3)))) (Jk x.Slots y2.Slots) fun y4 =>
 if ((((decide ((x.Calls.length:Int)=0))||(!y3))||(!y4))||(decide ((x.Calls.length:Int)≤(x.Slots.length:Int)))) then
  some (0,8)
 else
  some (w64 ((x.Calls.length:Int) - (x.Slots.length:Int)),0)
def JN (x2:Int) (m1:(List (Int×Bool))):Option ((Int×(List (Int×Bool))) ⊕ (Int×Int)) :=
 some (.inl (w64 (x2+1),m1))
def YE (h:zN) (l:(List zV)) (x:Zu):(Int×(List (Int×Bool)))→Option ((Int×(List (Int×Bool))) ⊕ (Int×Int))
 | (x2,m2) =>
  if decide (x2<(x.Calls.length:Int)) then
   (ix x.Calls x2).bind fun x1 =>
   (Za l x1).bind fun y5 =>
   if decide (0≤y5) then
    JN x2 (putM posI m2 y5 true)
   else
    JN x2 m2
  else
   ((Jq h l x m2).map Sum.inr)
def Qk (h:zN) (l:(List zV)) (x:Zu):Option (Int×Int) :=
 (Jr h l).bind fun y =>
 if !decide (y=0) then
  some (0,y)
 else
  Lp (YE h l x) fuel (0,[])
structure ZH where
 Hold:Int
 Mass:Int
 deriving DecidableEq,Inhabited
structure zA where
 a0:Int
 a1:Int
 a2:Int
 a3:Int
 a4:Int
 a5:Int
 a6:Int
 a7:Int
 deriving DecidableEq,Inhabited
def zA.toL (x:zA):List Int:=[x.a0,x.a1,x.a2,x.a3,x.a4,x.a5,x.a6,x.a7]
def zA.ofL : List Int→zA
 | [a0,a1,a2,a3,a4,a5,a6,a7]=>⟨a0,a1,a2,a3,a4,a5,a6,a7⟩
 | _=>default
def zA.set (x:zA) (i:Int) (v:Int):zA:=zA.ofL (put x.toL i v)
theorem zA.toL_of : ∀ {l:List Int},l.length=8→(zA.ofL l).toL=l
 | [a0,a1,a2,a3,a4,a5,a6,a7],_=>rfl
theorem zA.zEM (x:zA) (i:Int) (v:Int):(x.set i v).toL=put x.toL i v:=zA.toL_of (by simp [put,zA.toL])
structure zR where
 ship:zH
 from_:(List Int)
 to:(List Int)
 step:Int
 deriving DecidableEq,Inhabited
def J7 (u:zR) (hold:Int):Option Int :=
 (ix u.from_ hold).bind fun x =>
 (ix u.to hold).bind fun x1 =>
 (quo (w64 ((w64 ((w64 (x - x1))+u.step)) - 1)) u.step).bind fun q =>
 some q
def zDF (s:zH) (total:Int):Option (Int×Int) :=
 (yn (⟨s.Mtac⟩:qF) (w64 (s.Light+total))).bind fun y =>
 some (w64 ((w64 (y.1 - (w64 ((w64 (s.Mtac.Err+s.Least))*y.2))))*(w64 (s.Light+total))),y.2)
def zAh (l:(List Int)):Option (List Int) :=
 some l
def QW (s:zH):(Int×(List Int))→Option ((Int×(List Int)) ⊕ (List Int))
 | (x1,l2) =>
  if decide (x1<(s.Holds.length:Int)) then
   (ix s.Holds x1).bind fun x =>
   (app l2 ([x.Height])).bind fun l1 =>
   some (.inl (w64 (x1+1),l1))
  else
   ((zAh l2).map Sum.inr)
def zBP (s:zH):Option (List Int) :=
 Lp (QW s) fuel (0,[])
def zEA (s:zH) (x:(List Int)):Option Int :=
 (zBP s).bind fun y =>
 (zBp y x).bind fun y1 =>
 some (w64 ((w64 (s.Light*s.Height))+y1))
def QB (s:zH) (x:(List Int)):Option Bool :=
 (zBM x).bind fun y =>
 (zDF s y).bind fun y1 =>
 (zEA s x).bind fun y2 =>
 some (decide ((w64 (y2*y1.2))≤y1.1))
def J2 (l:(List Int)):Option (List Int) :=
 some l
def JJ (u:zR) (d:zA):(Int×(List Int))→Option ((Int×(List Int)) ⊕ (List Int))
 | (x2,l2) =>
  if decide (x2<(u.from_.length:Int)) then
   (ix u.from_ x2).bind fun x =>
   (ix (zA.toL d) x2).bind fun y =>
   (ix u.to x2).bind fun x1 =>
   (app l2 ([ZC (w64 (x - (w64 (y*u.step)))) x1])).bind fun l1 =>
   some (.inl (w64 (x2+1),l1))
  else
   ((J2 l2).map Sum.inr)
def ja (u:zR) (d:zA):Option (List Int) :=
 Lp (JJ u d) fuel (0,[])
def Jv (l1:(List ZH)):Option ((List ZH)×Int) :=
 some (l1,0)
def Jz (l:(List ZH)):(Int×Int×(List ZH))→Option ((Int×Int×(List ZH)) ⊕ ((List ZH)×Int))
 | (i,j,l2) =>
  if decide (i<j) then
   (ix l2 j).bind fun x =>
   (ix l2 i).bind fun x1 =>
   (ix l2 i).bind fun x2 =>
   (ix (put l2 i x) j).bind fun x3 =>
   some (.inl (w64 (i+1),w64 (j - 1),put (put l2 i x) j x1))
  else
   (zGz l l2).bind fun _ =>
   ((Jv l2).map Sum.inr)
def jW (l:(List ZH)):Option ((List ZH)×Int) :=
 Lp (Jz l) fuel (0,w64 ((l.length:Int) - 1),l)
def Jy (u:zR) (m:(List (zA×Int))):((List ZH)×zA)→Option (((List ZH)×zA) ⊕ ((List ZH)×Int))
 | (l4,at_) =>
  if decide (0≤((za at_ m).getD 0)) then
   (ix (zA.toL at_) ((za at_ m).getD 0)).bind fun y =>
   (ix (zA.toL at_) ((za at_ m).getD 0)).bind fun y1 =>
   (ja u (zA.set at_ ((za at_ m).getD 0) (w64 (y - 1)))).bind fun y2 =>
   (ix y2 ((za at_ m).getD 0)).bind fun x4 =>
   (ja u at_).bind fun y3 =>
   (ix y3 ((za at_ m).getD 0)).bind fun x5 =>
   (app l4 ([(⟨(za at_ m).getD 0,w64 (x4 - x5)⟩:ZH)])).bind fun l3 =>
   some (.inl (l3,zA.set at_ ((za at_ m).getD 0) (w64 (y - 1))))
  else
   ((jW l4).map Sum.inr)
def Zq (u:zR) (end_:zA) (m:(List (zA×Int))):Option ((List ZH)×Int) :=
 if !(za end_ m).isSome then
  some ([],5)
 else
  Lp (Jy u m) fuel ([],end_)
def jI (x7:Int) (a1:Int) (m1:(List (zA×Int))) (l5:(List zA)):Option ((Int×Int×(List (zA×Int))×(List zA)) ⊕ ((Int×(List (zA×Int))×(List zA)) ⊕ ((List ZH)×Int))) :=
 some (.inl (a1,w64 (x7+1),m1,l5))
def Jw (u:zR) (end_:zA) (x6:zA):(Int×Int×(List (zA×Int))×(List zA))→Option ((Int×Int×(List (zA×Int))×(List zA)) ⊕ ((Int×(List (zA×Int))×(List zA)) ⊕ ((List ZH)×Int)))
 | (a2,x7,m2,l7) =>
  if decide (x7<(u.from_.length:Int)) then
   (ix (zA.toL x6) x7).bind fun y4 =>
   (ix (zA.toL x6) x7).bind fun y5 =>
   gb (!((za (zA.set x6 x7 (w64 (y4+1))) m2).isSome)) (ix (zA.toL (zA.set x6 x7 (w64 (y4+1)))) x7) fun y6 =>
   gb (!((za (zA.set x6 x7 (w64 (y4+1))) m2).isSome)) (ix (zA.toL end_) x7) fun y7 =>
   gb (!((((za (zA.set x6 x7 (w64 (y4+1))) m2).isSome)||(decide (y7<y6))))) (ja u (zA.set x6 x7 (w64 (y4+1)))) fun y8 =>
   gb (!((((za (zA.set x6 x7 (w64 (y4+1))) m2).isSome)||(decide (y7<y6))))) (QB u.ship y8) fun y9 =>
   if ((((za (zA.set x6 x7 (w64 (y4+1))) m2).isSome)||(decide (y7<y6)))||(!y9)) then
    jI x7 a2 m2 l7
   else
    if decide ((zA.set x6 x7 (w64 (y4+1)))=end_) then
     (((Zq u end_ (putM posE m2 (zA.set x6 x7 (w64 (y4+1))) x7)).map Sum.inr).map Sum.inr)
    else
     (qapp l7 a2 ([zA.set x6 x7 (w64 (y4+1))])).bind fun l6 =>
     jI x7 0 (putM posE m2 (zA.set x6 x7 (w64 (y4+1))) x7) l6
  else
   some (.inr (.inl (a2,m2,l7)))
def Yc (u:zR) (end_:zA):(Int×(List (zA×Int))×(List zA))→Option ((Int×(List (zA×Int))×(List zA)) ⊕ ((List ZH)×Int))
 | (a3,m3,l8) =>
  if decide (0<((List.drop (Int.toNat a3) l8).length:Int)) then
   (ix (List.drop (Int.toNat a3) l8) 0).bind fun x6 =>
   (qsl l8 a3 1).bind fun a =>
   Lp (Jw u end_ x6) fuel (a,0,m3,l8)
  else
   ((Zq u end_ m3).map Sum.inr)
def JH (u:zR) (end_:zA):Option ((List ZH)×Int) :=
 Lp (Yc u end_) fuel (0,(putM posE [] (⟨0,0,0,0,0,0,0,0⟩:zA) (-1)),[(⟨0,0,0,0,0,0,0,0⟩:zA)])
def J3 (s:zH) (from_:(List Int)) (to:(List Int)) (step:Int) (states:Int) (all:Int) (end_:zA):Option ((List ZH)×Int) :=
 if ((decide (2000<states))||(decide (60<all))) then
  some ([],2)
 else
  (QB s from_).bind fun y1 =>
  gb (!(!y1)) (QB s to) fun y2 =>
  if ((!y1)||(!y2)) then
   some ([],4)
  else
   (JH (⟨s,from_,to,step⟩:zR) end_).bind fun y3 =>
   some (y3.1,y3.2)
def zAV (s:zH) (from_:(List Int)) (to:(List Int)) (step:Int):(Int×Int×Int×zA)→Option ((Int×Int×Int×zA) ⊕ ((List ZH)×Int))
 | (states1,all1,x,end_1) =>
  if decide (x<(from_.length:Int)) then
   (J7 (⟨s,from_,to,step⟩:zR) x).bind fun y4 =>
   (ix (zA.toL end_1) x).bind fun y5 =>
   (ix (zA.toL (zA.set end_1 x y4)) x).bind fun y6 =>
   (ix (zA.toL (zA.set end_1 x y4)) x).bind fun y7 =>
   some (.inl (min (w64 (states1*(w64 (y6+1)))) 2001,w64 (all1+y7),w64 (x+1),zA.set end_1 x y4))
  else
   ((J3 s from_ to step states1 all1 end_1).map Sum.inr)
def Yd (s:zH) (from_:(List Int)) (to:(List Int)) (step:Int):Option ((List ZH)×Int) :=
 if !(zT step 1 65536) then
  some ([],1)
 else
  Lp (zAV s from_ to step) fuel (1,0,0,(⟨0,0,0,0,0,0,0,0⟩:zA))
def Qp (s:zH) (from_:(List Int)) (to:(List Int)) (step:Int):Int→Option (Int ⊕ ((List ZH)×Int))
 | x3 =>
  if decide (x3<(from_.length:Int)) then
   (ix to x3).bind fun x1 =>
   (ix from_ x3).bind fun x2 =>
   if decide (x2<x1) then
    some (.inr ([],1))
   else
    some (.inl (w64 (x3+1)))
  else
   ((Yd s from_ to step).map Sum.inr)
def zDG (s:zH) (from_:(List Int)) (to:(List Int)) (step:Int):Option ((List ZH)×Int) :=
 (QC s ([from_,to])).bind fun y =>
 if !decide (y=0) then
  some ([],y)
 else
  Lp (Qp s from_ to step) fuel 0
def QM (bad:Int) (l1:(List Int)):Option ((List Int)×Int×Int) :=
 some (l1,bad,0)
def Jm (x4:Int) (bad1:Int) (l2:(List Int)):Option ((Int×Int×(List Int)) ⊕ ((List Int)×Int×Int)) :=
 some (.inl (bad1,w64 (x4+1),l2))
def YB (s:zH) (drops:(List ZH)):(Int×Int×(List Int))→Option ((Int×Int×(List Int)) ⊕ ((List Int)×Int×Int))
 | (bad2,x4,l3) =>
  if decide (x4<(drops.length:Int)) then
   (ix drops x4).bind fun x =>
   gb (!(!(zT x.Hold 0 (w64 ((l3.length:Int) - 1))))) (ix l3 x.Hold) fun x1 =>
   if ((!(zT x.Hold 0 (w64 ((l3.length:Int) - 1))))||(!(zT x.Mass 1 x1))) then
    some (.inr ([],0,1))
   else
    (ix l3 x.Hold).bind fun x2 =>
    (ix l3 x.Hold).bind fun x3 =>
    gb (decide (bad2<0)) (QB s (put l3 x.Hold (w64 (x2 - x.Mass)))) fun y1 =>
    if ((decide (bad2<0))&&(!y1)) then
     Jm x4 x4 (put l3 x.Hold (w64 (x2 - x.Mass)))
    else
     Jm x4 bad2 (put l3 x.Hold (w64 (x2 - x.Mass)))
  else
   ((QM bad2 l3).map Sum.inr)
def YM (s:zH) (from_:(List Int)) (drops:(List ZH)):Option ((List Int)×Int×Int) :=
 (QC s ([from_])).bind fun y =>
 if !decide (y=0) then
  some ([],0,y)
 else
  if decide (60<(drops.length:Int)) then
   some ([],0,2)
  else
   (app [] from_).bind fun l =>
   Lp (YB s drops) fuel (-1,0,l)
def Yv (s:zH) (l:zQ) (out:(List zB)) (l1:(List zB)):Option (zQ×Int) :=
 (zCt out).bind fun y1 =>
 if decide (l.All.Hi<y1.Lo) then
  some ((⟨[],(⟨0,0⟩:zB)⟩:zQ),1)
 else
  (JK s (⟨l1,(⟨ZC 0 (w64 (l.All.Lo - y1.Hi)),w64 (l.All.Hi - y1.Lo)⟩:zB)⟩:zQ)).bind fun y2 =>
  if !decide (y2=0) then
   some ((⟨[],(⟨0,0⟩:zB)⟩:zQ),y2)
  else
   some ((⟨l1,(⟨ZC 0 (w64 (l.All.Lo - y1.Hi)),w64 (l.All.Hi - y1.Lo)⟩:zB)⟩:zQ),0)
def qJ (s:zH) (l:zQ) (out:(List zB)):(Int×(List zB))→Option ((Int×(List zB)) ⊕ (zQ×Int))
 | (x3,l3) =>
  if decide (x3<(out.length:Int)) then
   (ix out x3).bind fun x =>
   (ix l.Holds x3).bind fun x1 =>
   gb (!(((decide (x.Lo<0))||(decide (x.Hi<x.Lo))))) (ix s.Holds x3) fun x2 =>
   if ((((decide (x.Lo<0))||(decide (x.Hi<x.Lo)))||(decide (x2.Room<x.Hi)))||(decide (x1.Hi<x.Lo))) then
    some (.inr ((⟨[],(⟨0,0⟩:zB)⟩:zQ),1))
   else
    (app l3 ([(⟨ZC 0 (w64 (x1.Lo - x.Hi)),w64 (x1.Hi - x.Lo)⟩:zB)])).bind fun l2 =>
    some (.inl (w64 (x3+1),l2))
  else
   ((Yv s l out l3).map Sum.inr)
def zA2 (s:zH) (l:zQ) (out:(List zB)):Option (zQ×Int) :=
 (JK s l).bind fun y =>
 if !decide (y=0) then
  some ((⟨[],(⟨0,0⟩:zB)⟩:zQ),y)
 else
  if !decide ((out.length:Int)=(l.Holds.length:Int)) then
   some ((⟨[],(⟨0,0⟩:zB)⟩:zQ),1)
  else
   Lp (qJ s l out) fuel (0,[])
def zBQ (l:zQ) (x:(List Int)):Option Bool :=
 (zBM x).bind fun y =>
 some (zT y l.All.Lo l.All.Hi)
def zBR (l:zQ) (x:(List Int)):Int→Option (Int ⊕ Bool)
 | x4 =>
  if decide (x4<(x.length:Int)) then
   (ix x x4).bind fun x1 =>
   (ix l.Holds x4).bind fun x2 =>
   (ix l.Holds x4).bind fun x3 =>
   if !(zT x1 x2.Lo x3.Hi) then
    some (.inr false)
   else
    some (.inl (w64 (x4+1)))
  else
   ((zBQ l x).map Sum.inr)
def zEB (l:zQ) (x:(List Int)):Option Bool :=
 if !decide ((x.length:Int)=(l.Holds.length:Int)) then
  some false
 else
  Lp (zBR l x) fuel 0
def zEC (s:zH) (l:zQ) (x:(List Int)):Option Bool :=
 (JK s l).bind fun y =>
 gb (decide (y=0)) (zEB l x) fun y1 =>
 some ((decide (y=0))&&y1)
def zA8 : Option Bool :=
 some true
def qW (g:ZO) (y1:(List ZH)×Int) (y3:zQ×Int):(Int×(List Int))→Option ((Int×(List Int)) ⊕ Bool)
 | (x3,l4) =>
  if decide (x3<(y1.1.length:Int)) then
   (ix y1.1 x3).bind fun x =>
   if ((decide (x.Hold<0))||(decide ((l4.length:Int)≤x.Hold))) then
    some (.inr false)
   else
    (ix l4 x.Hold).bind fun x1 =>
    (ix l4 x.Hold).bind fun x2 =>
    (zEC g.Ship y3.1 (put l4 x.Hold (w64 (x1 - x.Mass)))).bind fun y4 =>
    if !y4 then
     some (.inr false)
    else
     (zA3 g.Ship (put l4 x.Hold (w64 (x1 - x.Mass)))).bind fun y5 =>
     (yh g.Ship y3.1).bind fun y6 =>
     if (((!decide (y5.2=0))||(!decide (y6.2.2=0)))||(decide (y6.1<(max y5.1.Fore.Hi y5.1.Aft.Hi)))) then
      some (.inr false)
     else
      some (.inl (w64 (x3+1),put l4 x.Hold (w64 (x1 - x.Mass))))
  else
   ((zA8).map Sum.inr)
def qU (g:ZO) (y:(List Int)×Bool) (y1:(List ZH)×Int) (l2:(List zB)):Option Bool :=
 (zA2 g.Ship g.Load l2).bind fun y3 =>
 if !decide (y3.2=0) then
  some (decide (y3.2=2))
 else
  (app [] y.1).bind fun l3 =>
  Lp (qW g y1 y3) fuel (0,l3)
def zCd (g:ZO) (y:(List Int)×Bool) (l1:(List Int)) (y1:(List ZH)×Int):(Int×(List zB))→Option ((Int×(List zB)) ⊕ Bool)
 | (x6,l6) =>
  if decide (x6<(y.1.length:Int)) then
   (ix y.1 x6).bind fun x4 =>
   (ix l1 x6).bind fun x5 =>
   (app l6 ([(⟨0,w64 (x4 - x5)⟩:zB)])).bind fun l5 =>
   some (.inl (w64 (x6+1),l5))
  else
   ((qU g y y1 l6).map Sum.inr)
def qV (g:ZO) (y:(List Int)×Bool) (l1:(List Int)):Option Bool :=
 (zDG g.Ship y.1 l1 50).bind fun y1 =>
 if !decide (y1.2=0) then
  some (((decide (y1.2=4))||(decide (y1.2=5)))||(decide (y1.2=2)))
 else
  (YM g.Ship y.1 y1.1).bind fun y2 =>
  if (((!decide (y2.2.2=0))||(!decide (y2.2.1=(-1))))||(!decide ((y2.1.length:Int)=(l1.length:Int)))) then
   some false
  else
   Lp (zCd g y l1 y1) fuel (0,[])
def QE (x11:Int) (l7:(List Int)):Option ((Int×(List Int)) ⊕ Bool) :=
 some (.inl (w64 (x11+1),l7))
def zCc (g:ZO) (out:(List Int)) (y:(List Int)×Bool) (l:(List Int)):(Int×(List Int))→Option ((Int×(List Int)) ⊕ Bool)
 | (x11,l8) =>
  if decide (x11<(l.length:Int)) then
   if decide (x11<(out.length:Int)) then
    (ix l8 x11).bind fun x7 =>
    (ix out x11).bind fun x8 =>
    (ix l8 x11).bind fun x9 =>
    (rem (w64 x8) (w64 (x9+1))).bind fun q =>
    (ix l8 x11).bind fun x10 =>
    QE x11 (put l8 x11 (w64 (x7 - q)))
   else
    QE x11 l8
  else
   ((qV g y l8).map Sum.inr)
def zDy (g:ZO) (by_:(List Int)) (out:(List Int)):Option Bool :=
 (QK g.Load by_).bind fun y =>
 if !y.2 then
  some false
 else
  (app [] y.1).bind fun l =>
  Lp (zCc g out y l) fuel (0,l)
def JP : Option Bool :=
 (Y8).bind fun y6 =>
 some y6
def yF (l:(List ZO)) (by_:(List Int)) (out:(List Int)):Int→Option (Int ⊕ Bool)
 | x1 =>
  if decide (x1<(l.length:Int)) then
   (ix l x1).bind fun x =>
   (zDy x by_ out).bind fun y7 =>
   if !y7 then
    some (.inr false)
   else
    some (.inl (w64 (x1+1)))
  else
   ((JP).map Sum.inr)
def jN (l:(List ZO)) (by_:(List Int)) (out:(List Int)):Option Bool :=
 Lp (yF l by_ out) fuel 0
def jf (h:zN) (l:(List ZO)) (by_:(List Int)) (out:(List Int)) (y1:(List zV)×Bool) (y3:(List Zi)×Int):Option Bool :=
 (zBw h y1.1).bind fun y5 =>
 if ((!decide (y5.2.2=0))||(!(y5.2.1==(decide ((y3.1.length:Int)<(y1.1.length:Int)))))) then
  some false
 else
  if y5.2.1 then
   (Qk h y1.1 y5.1).bind fun y8 =>
   if ((!decide (y8.2=0))||(!decide (y8.1=(w64 ((y1.1.length:Int) - (y3.1.length:Int)))))) then
    some false
   else
    jN l by_ out
  else
   jN l by_ out
def yE (h:zN) (l:(List ZO)) (by_:(List Int)) (out:(List Int)) (y1:(List zV)×Bool) (y3:(List Zi)×Int):Int→Option (Int ⊕ Bool)
 | x4 =>
  if decide (x4<(y3.1.length:Int)) then
   (ix y3.1 x4).bind fun x2 =>
   gb (!(((decide (x2.Call<1))||(decide ((l.length:Int)<x2.Call))))) (ix l (w64 (x2.Call - 1))) fun x3 =>
   gb (!(((decide (x2.Call<1))||(decide ((l.length:Int)<x2.Call))))) (zEt h x3 x2 by_) fun y9 =>
   if (((decide (x2.Call<1))||(decide ((l.length:Int)<x2.Call)))||(!y9)) then
    some (.inr false)
   else
    some (.inl (w64 (x4+1)))
  else
   ((jf h l by_ out y1 y3).map Sum.inr)
def jg (h:zN) (l:(List ZO)) (by_:(List Int)) (out:(List Int)):Option Bool :=
 (zAt l).bind fun y1 =>
 if !y1.2 then
  (Y8).bind fun y2 =>
  some y2
 else
  (qP h y1.1).bind fun y3 =>
  if !decide (y3.2=0) then
   (Y8).bind fun y4 =>
   some y4
  else
   Lp (yE h l by_ out y1 y3) fuel 0
def yD (h:zN) (l:(List ZO)) (by_:(List Int)) (out:(List Int)):Int→Option (Int ⊕ Bool)
 | x6 =>
  if decide (x6<(h.Tides.length:Int)) then
   (ix h.Tides x6).bind fun x5 =>
   if decide (240≤(w64 (x5.Hi - x5.Lo))) then
    (Y8).bind fun y10 =>
    some (.inr y10)
   else
    some (.inl (w64 (x6+1)))
  else
   ((jg h l by_ out).map Sum.inr)
def J5 (h:zN) (l:(List ZO)) (by_:(List Int)) (out:(List Int)):Option Bool :=
 if ((((decide (3<(l.length:Int)))||(decide (3<(h.Tides.length:Int))))||(decide (6<(h.Berths.length:Int))))||(decide (6<(h.Water.Cycles.length:Int)))) then
  (Y8).bind fun y =>
  some y
 else
  Lp (yD h l by_ out) fuel 0
end Go.Mx
