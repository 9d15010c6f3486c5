/- Functions of the program as plain functions. Conditions: none. Printed by a program (wip/tools/xg.py). -/
import Derived.Test.YtggkidlcohickaaGreatXl
set_option linter.unusedVariables false
namespace Go.Mx
structure zD where
 Arbiters:Int
 deriving DecidableEq,Inhabited
def ZG (n:Int) (lo:Int) (hi:Int):Bool :=
 ((decide (lo≤n))&&(decide (n≤hi)))
def zo (c:zD):Int :=
 if !(ZG c.Arbiters 3 7) then
  1
 else
  0
def Zw (c:zD):Option Int :=
 if !decide ((zo c)=0) then
  some 0
 else
  Option.bind (quo c.Arbiters 2) fun q =>
  some (w64 (q+1))
structure zA where
 ID:Int
 Case:Int
 Kind:Int
 Round:Int
 From:Int
 To:Int
 Voted:Int
 Finding:Int
 deriving DecidableEq,Inhabited
def Jp (ID:Int) (Case:Int) (Kind:Int) (Round:Int) (From:Int) (To:Int) (Voted:Int) (Finding:Int):Option (Int×Bool) :=
 some (Finding,decide (0<Voted))
def JC (x1:Int) (ID1:Int) (Case1:Int) (Kind1:Int) (Round1:Int) (From1:Int) (To1:Int) (Voted1:Int) (Finding1:Int):Option ((Int×Int×Int×Int×Int×Int×Int×Int×Int) ⊕ (Int×Bool)) :=
 some (.inl (w64 (x1+1),ID1,Case1,Kind1,Round1,From1,To1,Voted1,Finding1))
def Jq (l:(List zA)):(Int×Int×Int×Int×Int×Int×Int×Int×Int)→Option ((Int×Int×Int×Int×Int×Int×Int×Int×Int) ⊕ (Int×Bool))
 | (x1,ID2,Case2,Kind2,Round2,From2,To2,Voted2,Finding2) =>
  if decide (x1<(l.length:Int)) then
   Option.bind (ix l x1) fun x =>
   if decide (Voted2<x.Voted) then
    JC x1 x.ID x.Case x.Kind x.Round x.From x.To x.Voted x.Finding
   else
    JC x1 ID2 Case2 Kind2 Round2 From2 To2 Voted2 Finding2
  else
   ((Jp ID2 Case2 Kind2 Round2 From2 To2 Voted2 Finding2).map Sum.inr)
def YH (l:(List zA)):Option (Int×Bool) :=
 Lp (Jq l) fuel (0,0,0,0,0,0,0,0,0)
def yX (r_:Int):Option Int :=
 some r_
def Q3 (c:zD) (arbiter:Int):Int→Option (Int ⊕ Int)
 | r_1 =>
  Option.bind (rem (w64 (r_1 - 1)) c.Arbiters) fun q =>
  if !decide (q=arbiter) then
   some (.inl (w64 (r_1+1)))
  else
   ((yX r_1).map Sum.inr)
def QK (c:zD) (arbiter:Int) (round:Int):Option Int :=
 Lp (Q3 c arbiter) fuel (w64 (round+1))
def zW (c:zD) (a:Int):Bool :=
 (ZG a 0 (w64 (c.Arbiters - 1)))
def Zj (id:Int):Bool :=
 (ZG id 1 1099511627776)
def jL (n:Int):Bool :=
 (ZG n 0 65536)
def jB : Option Int :=
 some (-1)
def J4 (s:(List Int)) (v_:Int):Int→Option (Int ⊕ Int)
 | x1 =>
  if decide (x1<(s.length:Int)) then
   Option.bind (ix s x1) fun x =>
   if decide (v_=x) then
    some (.inr x1)
   else
    some (.inl (w64 (x1+1)))
  else
   ((jB).map Sum.inr)
def slices_Index_int (s:(List Int)) (v_:Int):Option Int :=
 Lp (J4 s v_) fuel 0
def slices_Contains_int (s:(List Int)) (v_:Int):Option Bool :=
 Option.bind (slices_Index_int s v_) fun y =>
 some (decide (0≤y))
def jq (l:zA) (c:Int):Bool :=
 decide (l.ID=c)
def zf : Option Int :=
 some (-1)
def zz (s:(List zA)) (c:Int):Int→Option (Int ⊕ Int)
 | x1 =>
  if decide (x1<(s.length:Int)) then
   Option.bind (ix s x1) fun x =>
   if (jq x c) then
    some (.inr x1)
   else
    some (.inl (w64 (x1+1)))
  else
   ((zf).map Sum.inr)
def ZI (s:(List zA)) (c:Int):Option Int :=
 Lp (zz s c) fuel 0
def jR (x:zA) (c:zA):Bool :=
 decide (x.From=c.From)
def zY : Option Int :=
 some (-1)
def zk (s:(List zA)) (c:zA):Int→Option (Int ⊕ Int)
 | x1 =>
  if decide (x1<(s.length:Int)) then
   Option.bind (ix s x1) fun x =>
   if (jR x c) then
    some (.inr x1)
   else
    some (.inl (w64 (x1+1)))
  else
   ((zY).map Sum.inr)
def zy (s:(List zA)) (c:zA):Option Int :=
 Lp (zk s c) fuel 0
def zZ (s:(List zA)) (c:zA):Option Bool :=
 Option.bind (zy s c) fun y =>
 some (decide (0≤y))
def jo (x:zA) (c:zA):Bool :=
 ((decide (x.From=c.From))&&(decide (x.Round=c.Round)))
def ze : Option Int :=
 some (-1)
def zx (s:(List zA)) (c:zA):Int→Option (Int ⊕ Int)
 | x1 =>
  if decide (x1<(s.length:Int)) then
   Option.bind (ix s x1) fun x =>
   if (jo x c) then
    some (.inr x1)
   else
    some (.inl (w64 (x1+1)))
  else
   ((ze).map Sum.inr)
def ZH (s:(List zA)) (c:zA):Option Int :=
 Lp (zx s c) fuel 0
def zg (s:(List zA)) (c:zA):Option Bool :=
 Option.bind (ZH s c) fun y =>
 some (decide (0≤y))
structure zB where
 Case:Int
 Round:Int
 Finding:Int
 deriving DecidableEq,Inhabited
def cmp_isNaN_int (x:Int):Bool :=
 !decide (x=x)
def cmp_Compare_int (x:Int) (y:Int):Int :=
 if (cmp_isNaN_int x) then
  if (cmp_isNaN_int y) then
   0
  else
   (-1)
 else
  if (cmp_isNaN_int y) then
   1
  else
   if decide (x<y) then
    (-1)
   else
    if decide (y<x) then
     1
    else
     0
def yh : Option Int :=
 some 0
def zX (vals:(List Int)):Int→Option (Int ⊕ Int)
 | x1 =>
  if decide (x1<(vals.length:Int)) then
   Option.bind (ix vals x1) fun x =>
   if !decide (x=0) then
    some (.inr x)
   else
    some (.inl (w64 (x1+1)))
  else
   ((yh).map Sum.inr)
def Qc (vals:(List Int)):Option Int :=
 Lp (zX vals) fuel 0
def Qi (a:zB) (b:zB):Option Int :=
 Option.bind (Qc ([cmp_Compare_int a.Case b.Case,cmp_Compare_int a.Round b.Round,cmp_Compare_int a.Finding b.Finding])) fun y =>
 some y
def zQ (x y:zB):Bool:=decide (x.Case<y.Case)||(decide (x.Case=y.Case)&&(decide (x.Round<y.Round)||(decide (x.Round=y.Round)&&decide (x.Finding<y.Finding))))
def Zp (l1:(List zB)):Option (List zB) :=
 Option.bind (zDB zQ l1) fun l2 =>
 some l2
def ZY (l3:(List zB)):Option (List zB) :=
 some l3
def Zg (c:zD):zB×(List (Int×Bool))→(List zB)→Option (List zB)
 | (k,v_),l5 =>
  Option.bind (Zw c) fun y =>
  if decide (y≤(v_.length:Int)) then
   Option.bind (app l5 ([k])) fun l4 =>
   ZY l4
  else
   ZY l5
def Zo (l5:(List zB)):Option (List zB) :=
 Zp l5
def Z6 (c:zD) (m:(List (zB×(List (Int×Bool))))):Option (List zB) :=
 Option.bind (QO (Zg c) m []) fun vE_3 =>
 Zo vE_3
def Zn (x1:Int) (m1:(List (zB×(List (Int×Bool))))):Option ((Int×(List (zB×(List (Int×Bool))))) ⊕ (List zB)) :=
 some (.inl (w64 (x1+1),m1))
def Zm (x1:Int) (x:zA) (m2:(List (zB×(List (Int×Bool))))):Option ((Int×(List (zB×(List (Int×Bool))))) ⊕ (List zB)) :=
 Option.bind (zO (⟨x.Case,x.Round,x.Finding⟩:zB) m2) fun m3 =>
 Zn x1 (putM posE m2 (⟨x.Case,x.Round,x.Finding⟩:zB) (putM posI m3 x.From true))
def Jg (c:zD) (l:(List zA)):(Int×(List (zB×(List (Int×Bool)))))→Option ((Int×(List (zB×(List (Int×Bool))))) ⊕ (List zB))
 | (x1,m4) =>
  if decide (x1<(l.length:Int)) then
   Option.bind (ix l x1) fun x =>
   if !decide (x.Kind=4) then
    Zn x1 m4
   else
    if (!(zO (⟨x.Case,x.Round,x.Finding⟩:zB) m4).isSome) then
     Zm x1 x (putM posE m4 (⟨x.Case,x.Round,x.Finding⟩:zB) [])
    else
     Zm x1 x m4
  else
   ((Z6 c m4).map Sum.inr)
def ZW (c:zD) (l:(List zA)):Option (List zB) :=
 Lp (Jg c l) fuel (0,[])
def jS (n:Int) (lo:Int) (hi:Int):Bool :=
 ((decide (lo≤n))&&(decide (n≤hi)))
def JR (c:zD):Int :=
 if !(jS c.Arbiters 3 7) then
  1
 else
  0
structure QL where
 Promised:Int
 Voted:Int
 Finding:Int
 Opened:Int
 deriving DecidableEq,Inhabited
structure zS where
 Arbiter:Int
 Case:Int
 Book:QL
 Wish:Int
 Wishes:Bool
 Round:Int
 List:(List zA)
 Proposed:Bool
 deriving DecidableEq,Inhabited
structure zH where
 C:zD
 Named:(List Int)
 Seats:(List zS)
 Got:(List zA)
 Way:(List zA)
 All:(List zA)
 Number:Int
 deriving DecidableEq,Inhabited
structure zGL where
 W:zH
 E:Int
 deriving DecidableEq,Inhabited
def zMj (c:zD):zGL :=
 (⟨(⟨c,[],[],[],[],[],0⟩:zH),JR c⟩:zGL)
structure ZO where
 Kind:Int
 A:Int
 Case:Int
 Finding:Int
 N:Int
 deriving DecidableEq,Inhabited
def zB4 : Option Bool :=
 some false
def qa (w:zH) (id:Int):Int→Option (Int ⊕ Bool)
 | i =>
  if decide (i<(w.Named.length:Int)) then
   Option.bind (ix w.Named i) fun x =>
   if decide (x=id) then
    some (.inr true)
   else
    some (.inl (w64 (i+1)))
  else
   ((zB4).map Sum.inr)
def zAJ (w:zH) (id:Int):Option Bool :=
 Lp (qa w id) fuel 0
def zAK (w:zH) (id:Int):Option Bool :=
 Option.bind (zAJ w id) fun y =>
 some (y||(decide ((w.Named.length:Int)<40)))
def zFc : Option Int :=
 some (-1)
def zB5 (w:zH) (arbiter:Int) (id:Int):Int→Option (Int ⊕ Int)
 | i =>
  if decide (i<(w.Seats.length:Int)) then
   Option.bind (ix w.Seats i) fun x =>
   gb (decide (x.Arbiter=arbiter)) (ix w.Seats i) fun x1 =>
   if ((decide (x.Arbiter=arbiter))&&(decide (x1.Case=id))) then
    some (.inr i)
   else
    some (.inl (w64 (i+1)))
  else
   ((zFc).map Sum.inr)
def zD6 (w:zH) (arbiter:Int) (id:Int):Option Int :=
 Lp (zB5 w arbiter id) fuel 0
def zAs (w:zH) (arbiter:Int) (id:Int):Option zS :=
 Option.bind (zD6 w arbiter id) fun y =>
 if decide (y<0) then
  some (⟨arbiter,id,(⟨0,0,0,0⟩:QL),0,false,0,[],false⟩:zS)
 else
  Option.bind (ix w.Seats y) fun x =>
  some x
def zAe (w:zH) (id:Int) (k:Int):Option zH :=
 Option.bind (sub w.Named 0 k) fun l =>
 Option.bind (app [] l) fun l1 =>
 Option.bind (app l1 ([id])) fun l2 =>
 Option.bind (sub w.Named k w.Named.length) fun l3 =>
 Option.bind (app l2 l3) fun l4 =>
 some (⟨w.C,l4,w.Seats,w.Got,w.Way,w.All,w.Number⟩:zH)
def zAf (w:zH) (id:Int):Int→Option (Int ⊕ zH)
 | k1 =>
  gb ((decide (k1<(w.Named.length:Int)))) (ix w.Named k1) fun x =>
  if ((decide (k1<(w.Named.length:Int)))&&(decide (x<id))) then
   some (.inl (w64 (k1+1)))
  else
   ((zAe w id k1).map Sum.inr)
def zBM (w:zH) (id:Int):Option zH :=
 Option.bind (zAJ w id) fun y =>
 if y then
  some w
 else
  Lp (zAf w id) fuel 0
def zD5 (w:zH) (l1:(List zS)):Option zH :=
 some (⟨w.C,w.Named,l1,w.Got,w.Way,w.All,w.Number⟩:zH)
def Yo (w:zH) (s:zS):Option zH :=
 Option.bind (zD6 w s.Arbiter s.Case) fun y =>
 Option.bind (app [] w.Seats) fun l =>
 if decide (y<0) then
  Option.bind (app l ([s])) fun l2 =>
  zD5 w l2
 else
  Option.bind (ix l y) fun x =>
  zD5 w (put l y s)
def Ja (c:zD):Option Int :=
 if !decide ((JR c)=0) then
  some 0
 else
  Option.bind (quo c.Arbiters 2) fun q =>
  some (w64 (q+1))
def zDD (best:Int) (out:Int):Option (Int×Bool) :=
 some (out,decide (0<best))
def zAc (i:Int) (best1:Int) (out1:Int):Option ((Int×Int×Int) ⊕ (Int×Bool)) :=
 some (.inl (best1,out1,w64 (i+1)))
def zAd (l:(List zA)):(Int×Int×Int)→Option ((Int×Int×Int) ⊕ (Int×Bool))
 | (best2,out2,i) =>
  if decide (i<(l.length:Int)) then
   Option.bind (ix l i) fun x =>
   if decide (best2<x.Voted) then
    Option.bind (ix l i) fun x1 =>
    Option.bind (ix l i) fun x2 =>
    zAc i x1.Voted x2.Finding
   else
    zAc i best2 out2
  else
   ((zDD best2 out2).map Sum.inr)
def zDX (l:(List zA)):Option (Int×Bool) :=
 Lp (zAd l) fuel (0,0,0)
def zAa (w:zH) (l2:(List zA)) (Way:(List zA)):Option zH :=
 some (⟨w.C,w.Named,w.Seats,w.Got,Way,l2,w64 (w.Number+1)⟩:zH)
def QU (w:zH) (l:zA):Option zH :=
 Option.bind (app [] w.All) fun l1 =>
 Option.bind (app l1 ([(⟨w64 (w.Number+1),l.Case,l.Kind,l.Round,l.From,l.To,l.Voted,l.Finding⟩:zA)])) fun l2 =>
 if decide ((w.Way.length:Int)<200) then
  Option.bind (app [] w.Way) fun l3 =>
  Option.bind (app l3 ([(⟨w64 (w.Number+1),l.Case,l.Kind,l.Round,l.From,l.To,l.Voted,l.Finding⟩:zA)])) fun l4 =>
  zAa w l2 l4
 else
  zAa w l2 w.Way
def zE5 (Arbiters:Int) (Named:(List Int)) (Seats:(List zS)) (Got:(List zA)) (Way:(List zA)) (All:(List zA)) (Number:Int):Option zH :=
 some (⟨(⟨Arbiters⟩:zD),Named,Seats,Got,Way,All,Number⟩:zH)
def QT (l:zA):(Int×Int×(List Int)×(List zS)×(List zA)×(List zA)×(List zA)×Int×Int)→Option ((Int×Int×(List Int)×(List zS)×(List zA)×(List zA)×(List zA)×Int×Int) ⊕ zH)
 | (a,Arbiters1,Named1,Seats1,Got1,Way1,All1,Number1,To) =>
  if decide (a<Arbiters1) then
   Option.bind (QU (⟨(⟨Arbiters1⟩:zD),Named1,Seats1,Got1,Way1,All1,Number1⟩:zH) (⟨l.ID,l.Case,l.Kind,l.Round,l.From,a,l.Voted,l.Finding⟩:zA)) fun y =>
   some (.inl (w64 (a+1),y.C.Arbiters,y.Named,y.Seats,y.Got,y.Way,y.All,y.Number,a))
  else
   ((zE5 Arbiters1 Named1 Seats1 Got1 Way1 All1 Number1).map Sum.inr)
def Js (w:zH) (l:zA):Option zH :=
 Lp (QT l) fuel (0,w.C.Arbiters,w.Named,w.Seats,w.Got,w.Way,w.All,w.Number,l.To)
def YJ (w:zH) (s:zS) (finding:Int):Option zH :=
 Option.bind (Yo w (⟨s.Arbiter,s.Case,s.Book,s.Wish,s.Wishes,s.Round,s.List,true⟩:zS)) fun y2 =>
 Option.bind (Js y2 (⟨0,s.Case,3,s.Round,s.Arbiter,0,0,finding⟩:zA)) fun y3 =>
 some y3
def Qf (w:zH) (s:zS):Option zH :=
 gb (!(((decide (s.Round=0))||s.Proposed))) (Ja w.C) fun y =>
 if (((decide (s.Round=0))||s.Proposed)||(decide ((s.List.length:Int)<y))) then
  some w
 else
  Option.bind (zDX s.List) fun y1 =>
  if ((!y1.2)&&(!s.Wishes)) then
   some w
  else
   if !y1.2 then
    YJ w s s.Wish
   else
    YJ w s y1.1
def qV (w:zH) (a:ZO):Option (zH×Int) :=
 if ((((!(jS a.A 0 (w64 (w.C.Arbiters - 1))))||(!(jS a.Case 1 1099511627776)))||(!(jS a.Finding 0 65536)))||(!decide (a.N=0))) then
  some (w,1)
 else
  Option.bind (zAK w a.Case) fun y =>
  if !y then
   some (w,2)
  else
   Option.bind (zAs w a.A a.Case) fun y1 =>
   if y1.Wishes then
    some (w,6)
   else
    Option.bind (zBM w a.Case) fun y2 =>
    Option.bind (Yo y2 (⟨y1.Arbiter,y1.Case,y1.Book,a.Finding,true,y1.Round,y1.List,y1.Proposed⟩:zS)) fun y3 =>
    Option.bind (Qf y3 (⟨y1.Arbiter,y1.Case,y1.Book,a.Finding,true,y1.Round,y1.List,y1.Proposed⟩:zS)) fun y4 =>
    some (y4,0)
def zDF (r_:Int):Option (Int×Int) :=
 if decide (1048576<r_) then
  some (0,2)
 else
  some (r_,0)
def zDG (c:zD) (arbiter:Int):Int→Option (Int ⊕ (Int×Int))
 | r_1 =>
  Option.bind (rem (w64 (r_1 - 1)) c.Arbiters) fun q =>
  if !decide (q=arbiter) then
   some (.inl (w64 (r_1+1)))
  else
   ((zDF r_1).map Sum.inr)
def zDY (c:zD) (arbiter:Int) (round:Int):Option (Int×Int) :=
 if !decide ((JR c)=0) then
  some (0,JR c)
 else
  if ((!(jS arbiter 0 (w64 (c.Arbiters - 1))))||(!(jS round 0 1048576))) then
   some (0,1)
  else
   Lp (zDG c arbiter) fuel (w64 (round+1))
def Qm (w:zH) (a:ZO):Option (zH×Int) :=
 if ((((!(jS a.A 0 (w64 (w.C.Arbiters - 1))))||(!(jS a.Case 1 1099511627776)))||(!decide (a.Finding=0)))||(!decide (a.N=0))) then
  some (w,1)
 else
  Option.bind (zAK w a.Case) fun y =>
  Option.bind (zAs w a.A a.Case) fun y1 =>
  Option.bind (zDY w.C a.A (max y1.Book.Promised y1.Book.Opened)) fun y2 =>
  if ((!y)||(!decide (y2.2=0))) then
   some (w,2)
  else
   Option.bind (zBM w a.Case) fun y3 =>
   Option.bind (Yo y3 (⟨y1.Arbiter,y1.Case,(⟨y1.Book.Promised,y1.Book.Voted,y1.Book.Finding,y2.1⟩:QL),y1.Wish,y1.Wishes,y2.1,[],false⟩:zS)) fun y4 =>
   Option.bind (Js y4 (⟨0,a.Case,1,y2.1,a.A,0,0,0⟩:zA)) fun y5 =>
   some (y5,0)
def zD4 : Option Int :=
 some (-1)
def zBL (w:zH) (id:Int):Int→Option (Int ⊕ Int)
 | i =>
  if decide (i<(w.Way.length:Int)) then
   Option.bind (ix w.Way i) fun x =>
   if decide (x.ID=id) then
    some (.inr i)
   else
    some (.inl (w64 (i+1)))
  else
   ((zD4).map Sum.inr)
def zE4 (w:zH) (id:Int):Option Int :=
 Lp (zBL w id) fuel 0
def zAb (w:zH) (l:zA) (y:zS):Option zH :=
 Option.bind (app [] y.List) fun l1 =>
 Option.bind (app l1 ([l])) fun l2 =>
 Option.bind (Yo w (⟨y.Arbiter,y.Case,y.Book,y.Wish,y.Wishes,y.Round,l2,y.Proposed⟩:zS)) fun y4 =>
 Option.bind (Qf y4 (⟨y.Arbiter,y.Case,y.Book,y.Wish,y.Wishes,y.Round,l2,y.Proposed⟩:zS)) fun y5 =>
 some y5
def YW (w:zH) (l:zA) (y:zS):Int→Option (Int ⊕ zH)
 | i =>
  if decide (i<(y.List.length:Int)) then
   Option.bind (ix y.List i) fun x =>
   if decide (x.From=l.From) then
    some (.inr w)
   else
    some (.inl (w64 (i+1)))
  else
   ((zAb w l y).map Sum.inr)
def Jt (w:zH) (l:zA):Option zH :=
 Option.bind (zAs w l.To l.Case) fun y =>
 if decide (l.Kind=1) then
  if ((decide (l.Round<y.Book.Promised))||(decide (l.Round≤y.Book.Voted))) then
   some w
  else
   Option.bind (Yo w (⟨y.Arbiter,y.Case,(⟨l.Round,y.Book.Voted,y.Book.Finding,y.Book.Opened⟩:QL),y.Wish,y.Wishes,y.Round,y.List,y.Proposed⟩:zS)) fun y1 =>
   Option.bind (QU y1 (⟨0,l.Case,2,l.Round,l.To,l.From,y.Book.Voted,y.Book.Finding⟩:zA)) fun y2 =>
   some y2
 else
  if decide (l.Kind=2) then
   if !decide (y.Round=l.Round) then
    some w
   else
    Lp (YW w l y) fuel 0
  else
   if decide (l.Kind=3) then
    if decide (l.Round<y.Book.Promised) then
     some w
    else
     Option.bind (Yo w (⟨y.Arbiter,y.Case,(⟨l.Round,l.Round,l.Finding,y.Book.Opened⟩:QL),y.Wish,y.Wishes,y.Round,y.List,y.Proposed⟩:zS)) fun y6 =>
     Option.bind (Js y6 (⟨0,l.Case,4,l.Round,l.To,0,0,l.Finding⟩:zA)) fun y7 =>
     some y7
   else
    Option.bind (app [] w.Got) fun l3 =>
    Option.bind (app l3 ([l])) fun l4 =>
    some (⟨w.C,w.Named,w.Seats,l4,w.Way,w.All,w.Number⟩:zH)
def zDC (Arbiters:Int) (Named:(List Int)) (Seats:(List zS)) (Got:(List zA)) (Way:(List zA)) (All:(List zA)) (Number:Int):Option (zH×Int) :=
 some ((⟨(⟨Arbiters⟩:zD),Named,Seats,Got,Way,All,Number⟩:zH),0)
def qZ (w:zH) (a:ZO):Option (zH×Int) :=
 if (((!decide (a.A=0))||(!decide (a.Case=0)))||(!decide (a.Finding=0))) then
  some (w,1)
 else
  Option.bind (zE4 w a.N) fun y =>
  if decide (y<0) then
   some (w,5)
  else
   Option.bind (ix w.Way y) fun x =>
   if decide (a.Kind=5) then
    if decide (200≤(w.Way.length:Int)) then
     some (w,2)
    else
     Option.bind (QU w x) fun y1 =>
     some (y1,0)
   else
    Option.bind (sub w.Way 0 y) fun l =>
    Option.bind (app [] l) fun l1 =>
    Option.bind (sub w.Way (w64 (y+1)) w.Way.length) fun l2 =>
    Option.bind (app l1 l2) fun l3 =>
    if decide (a.Kind=3) then
     Option.bind (Jt (⟨w.C,w.Named,w.Seats,w.Got,l3,w.All,w.Number⟩:zH) x) fun y3 =>
     zDC y3.C.Arbiters y3.Named y3.Seats y3.Got y3.Way y3.All y3.Number
    else
     zDC w.C.Arbiters w.Named w.Seats w.Got l3 w.All w.Number
def zBi (w:zH) (l:(List zS)):Option (zH×Int) :=
 some ((⟨w.C,w.Named,l,w.Got,w.Way,w.All,w.Number⟩:zH),0)
def Qv (i:Int) (l2:(List zS)) (x:zS) (Round:Int) (List_:(List zA)) (Proposed:Bool):Option ((Int×(List zS)) ⊕ (zH×Int)) :=
 Option.bind (app l2 ([(⟨x.Arbiter,x.Case,x.Book,x.Wish,x.Wishes,Round,List_,Proposed⟩:zS)])) fun l1 =>
 some (.inl (w64 (i+1),l1))
def yU (w:zH) (a:ZO):(Int×(List zS))→Option ((Int×(List zS)) ⊕ (zH×Int))
 | (i,l2) =>
  if decide (i<(w.Seats.length:Int)) then
   Option.bind (ix w.Seats i) fun x =>
   if decide (x.Arbiter=a.A) then
    Qv i l2 x 0 [] false
   else
    Qv i l2 x x.Round x.List x.Proposed
  else
   ((zBi w l2).map Sum.inr)
def Y2 (w:zH) (a:ZO):Option (zH×Int) :=
 if ((((!(jS a.A 0 (w64 (w.C.Arbiters - 1))))||(!decide (a.Case=0)))||(!decide (a.Finding=0)))||(!decide (a.N=0))) then
  some (w,1)
 else
  Lp (yU w a) fuel (0,[])
def zJO (w:zH) (a:ZO):Option (zH×Int) :=
 if decide (a.Kind=1) then
  Option.bind (qV w a) fun y =>
  some (y.1,y.2)
 else
  if decide (a.Kind=2) then
   Option.bind (Qm w a) fun y1 =>
   some (y1.1,y1.2)
  else
   if (((decide (a.Kind=3))||(decide (a.Kind=4)))||(decide (a.Kind=5))) then
    Option.bind (qZ w a) fun y2 =>
    some (y2.1,y2.2)
   else
    if decide (a.Kind=6) then
     Option.bind (Y2 w a) fun y3 =>
     some (y3.1,y3.2)
    else
     some (w,1)
def zR (l:zA) (r_:zB):Bool :=
 ((((decide (l.Kind=4))&&(decide (l.Case=r_.Case)))&&(decide (l.Round=r_.Round)))&&(decide (l.Finding=r_.Finding)))
def zB2 (n:Int):Option Int :=
 some n
def qW (a:Int) (n1:Int):Option ((Int×Int) ⊕ Int) :=
 some (.inl (n1,w64 (a+1)))
def zB1 (n2:Int) (a:Int) (found:Bool):Option ((Int×Int) ⊕ Int) :=
 if found then
  qW a (w64 (n2+1))
 else
  qW a n2
def qX (l:(List zA)) (r_:zB) (n2:Int) (a:Int):(Bool×Int)→Option ((Bool×Int) ⊕ ((Int×Int) ⊕ Int))
 | (found1,i) =>
  if decide (i<(l.length:Int)) then
   gb (!(found1)) (ix l i) fun x =>
   gb (!(found1)&&(zR x r_)) (ix l i) fun x1 =>
   some (.inl ((found1||((zR x r_)&&(decide (x1.From=a)))),w64 (i+1)))
  else
   ((zB1 n2 a found1).map Sum.inr)
def qY (c:zD) (l:(List zA)) (r_:zB):(Int×Int)→Option ((Int×Int) ⊕ Int)
 | (n2,a) =>
  if decide (a<c.Arbiters) then
   Lp (qX l r_ n2 a) fuel (false,0)
  else
   ((zB2 n2).map Sum.inr)
def zB3 (c:zD) (l:(List zA)) (r_:zB):Option Int :=
 Lp (qY c l r_) fuel (0,0)
def Y3 (a:zB) (b:zB):Bool :=
 if !decide (a.Case=b.Case) then
  decide (a.Case<b.Case)
 else
  if !decide (a.Round=b.Round) then
   decide (a.Round<b.Round)
  else
   decide (a.Finding<b.Finding)
def zAr (l1:(List zB)):Option (List zB) :=
 some l1
def YI (i:Int) (l2:(List zB)):Option ((Int×(List zB)) ⊕ (List zB)) :=
 some (.inl (w64 (i+1),l2))
def QV (i:Int) (l6:(List zB)) (x:zA) (x1:zA) (x2:zA) (k:Int):Option ((Int×(List zB)) ⊕ (List zB)) :=
 gb ((decide (k<(l6.length:Int)))) (ix l6 k) fun x4 =>
 if ((decide (k<(l6.length:Int)))&&(decide (x4=(⟨x.Case,x1.Round,x2.Finding⟩:zB)))) then
  YI i l6
 else
  Option.bind (sub l6 0 k) fun l3 =>
  Option.bind (app [] l3) fun l4 =>
  Option.bind (app l4 ([(⟨x.Case,x1.Round,x2.Finding⟩:zB)])) fun l5 =>
  Option.bind (sub l6 k (l6.length:Int)) fun l7 =>
  Option.bind (app l5 l7) fun l8 =>
  YI i l8
def J6 (i:Int) (l6:(List zB)) (x:zA) (x1:zA) (x2:zA):Int→Option (Int ⊕ ((Int×(List zB)) ⊕ (List zB)))
 | k1 =>
  gb ((decide (k1<(l6.length:Int)))) (ix l6 k1) fun x5 =>
  if ((decide (k1<(l6.length:Int)))&&(Y3 x5 (⟨x.Case,x1.Round,x2.Finding⟩:zB))) then
   some (.inl (w64 (k1+1)))
  else
   ((QV i l6 x x1 x2 k1).map Sum.inr)
def QW (c:zD) (l:(List zA)):(Int×(List zB))→Option ((Int×(List zB)) ⊕ (List zB))
 | (i,l6) =>
  if decide (i<(l.length:Int)) then
   Option.bind (ix l i) fun x =>
   Option.bind (ix l i) fun x1 =>
   Option.bind (ix l i) fun x2 =>
   Option.bind (ix l i) fun x3 =>
   gb (!(!decide (x3.Kind=4))) (zB3 c l (⟨x.Case,x1.Round,x2.Finding⟩:zB)) fun y =>
   gb (!(!decide (x3.Kind=4))) (Ja c) fun y1 =>
   if ((!decide (x3.Kind=4))||(decide (y<y1))) then
    YI i l6
   else
    Lp (J6 i l6 x x1 x2) fuel 0
  else
   ((zAr l6).map Sum.inr)
def jG (c:zD) (l:(List zA)):Option (List zB) :=
 Lp (QW c l) fuel (0,[])
def zB9 (w:zH) (l:(List zA)):Option (List zB) :=
 Option.bind (jG w.C l) fun y =>
 some y
def qc (i:Int) (l1:(List zA)):Option ((Int×(List zA)) ⊕ (List zB)) :=
 some (.inl (w64 (i+1),l1))
def Y5 (w:zH) (arbiter:Int):(Int×(List zA))→Option ((Int×(List zA)) ⊕ (List zB))
 | (i,l3) =>
  if decide (i<(w.Got.length:Int)) then
   Option.bind (ix w.Got i) fun x =>
   if decide (x.To=arbiter) then
    Option.bind (ix w.Got i) fun x1 =>
    Option.bind (app l3 ([x1])) fun l2 =>
    qc i l2
   else
    qc i l3
  else
   ((zB9 w l3).map Sum.inr)
def zCA (w:zH) (arbiter:Int):Option (List zB) :=
 Lp (Y5 w arbiter) fuel (0,[])
def J3 (c:zD) (round:Int):Option Int :=
 if ((!decide ((zo c)=0))||(!(ZG round 1 1048576))) then
  some 0
 else
  Option.bind (rem (w64 (round - 1)) c.Arbiters) fun q =>
  some q
def yI (c:zD) (l:zA):Option Bool :=
 if (((((((!decide ((zo c)=0))||(!(Zj l.Case)))||(!(ZG l.Round 1 1048576)))||(!(zW c l.From)))||(!(zW c l.To)))||(!(ZG l.ID 0 1099511627776)))||(!(jL l.Finding))) then
  some false
 else
  Option.bind (J3 c l.Round) fun y =>
  if decide (l.Kind=1) then
   some (((decide (l.From=y))&&(decide (l.Voted=0)))&&(decide (l.Finding=0)))
  else
   if decide (l.Kind=2) then
    some (((decide (l.To=y))&&(ZG l.Voted 0 (w64 (l.Round - 1))))&&((decide (0<l.Voted))||(decide (l.Finding=0))))
   else
    if decide (l.Kind=3) then
     some ((decide (l.From=y))&&(decide (l.Voted=0)))
    else
     if decide (l.Kind=4) then
      some (decide (l.Voted=0))
     else
      some false
def QJ (x:zA) (c:zD):Option Bool :=
 Option.bind (yI c x) fun y =>
 some (!y)
def zm : Option Int :=
 some (-1)
def ZL (s:(List zA)) (c:zD):Int→Option (Int ⊕ Int)
 | x1 =>
  if decide (x1<(s.length:Int)) then
   Option.bind (ix s x1) fun x =>
   Option.bind (QJ x c) fun y =>
   if y then
    some (.inr x1)
   else
    some (.inl (w64 (x1+1)))
  else
   ((zm).map Sum.inr)
def ZE (s:(List zA)) (c:zD):Option Int :=
 Lp (ZL s c) fuel 0
def ZM (s:(List zA)) (c:zD):Option Bool :=
 Option.bind (ZE s c) fun y =>
 some (decide (0≤y))
def yR (c:zD) (l:(List zA)):Option Int :=
 if !decide ((zo c)=0) then
  some (zo c)
 else
  if decide (2000<(l.length:Int)) then
   some 2
  else
   Option.bind (ZM l c) fun y =>
   if y then
    some 7
   else
    some 0
def Zl (l:zA):zA :=
 (⟨0,l.Case,l.Kind,l.Round,l.From,0,l.Voted,l.Finding⟩:zA)
def zBp (c:zD) (l:(List zA)):Option ((List zB)×Int) :=
 Option.bind (yR c l) fun y =>
 if !decide (y=0) then
  some ([],y)
 else
  Option.bind (ZW c l) fun y1 =>
  some (y1,0)
def zn (x:zA):zB :=
 if !decide (x.Kind=4) then
 (⟨0,0,0⟩:zB)
 else
 (⟨x.Case,x.Round,x.Finding⟩:zB)
def jW (c:zD) (votes:(List zA)):Option (zB×Int) :=
 Option.bind (Zw c) fun y1 =>
 if decide ((votes.length:Int)<y1) then
 some ((⟨0,0,0⟩:zB),8)
 else
 Option.bind (ix votes 0) fun x =>
 some (zn x,0)
def JP (c:zD) (votes:(List zA)):(Int×(List (Int×Bool)))→Option ((Int×(List (Int×Bool))) ⊕ (zB×Int))
 | (x3,m) =>
 if decide (x3<(votes.length:Int)) then
 Option.bind (ix votes x3) fun x1 =>
 gb (!(!decide (x1.Kind=4))) (ix votes 0) fun x2 =>
 if (((!decide (x1.Kind=4))||(!decide ((zn x1)=(zn x2))))||((zO x1.From m).getD false)) then
  some (.inr ((⟨0,0,0⟩:zB),8))
 else
  some (.inl (w64 (x3+1),putM posI m x1.From true))
 else
 ((jW c votes).map Sum.inr)
def JG (c:zD) (votes:(List zA)):Option (zB×Int) :=
 Option.bind (yR c votes) fun y =>
 if !decide (y=0) then
 some ((⟨0,0,0⟩:zB),y)
 else
 Lp (JP c votes) fuel (0,[])
def Yp (c:zD) (round:Int):Option Int :=
 if ((!decide ((JR c)=0))||(!(jS round 1 1048576))) then
 some 0
 else
 Option.bind (rem (w64 (round - 1)) c.Arbiters) fun q =>
 some q
def zBN (c:zD) (l:zA):Option Bool :=
 if (((((((!decide ((JR c)=0))||(!(jS l.ID 0 1099511627776)))||(!(jS l.Case 1 1099511627776)))||(!(jS l.Round 1 1048576)))||(!(jS l.From 0 (w64 (c.Arbiters - 1)))))||(!(jS l.To 0 (w64 (c.Arbiters - 1)))))||(!(jS l.Finding 0 65536))) then
 some false
 else
 if decide (l.Kind=1) then
 Option.bind (Yp c l.Round) fun y =>
 some (((decide (l.From=y))&&(decide (l.Voted=0)))&&(decide (l.Finding=0)))
 else
 if decide (l.Kind=2) then
  Option.bind (Yp c l.Round) fun y1 =>
  some (((decide (l.To=y1))&&(jS l.Voted 0 (w64 (l.Round - 1))))&&((decide (0<l.Voted))||(decide (l.Finding=0))))
 else
  if decide (l.Kind=3) then
  Option.bind (Yp c l.Round) fun y2 =>
  some ((decide (l.From=y2))&&(decide (l.Voted=0)))
  else
  some ((decide (l.Kind=4))&&(decide (l.Voted=0)))
def zBh : Option Int :=
 some 0
def Yd (c:zD) (l:(List zA)):Int→Option (Int ⊕ Int)
 | i =>
 if decide (i<(l.length:Int)) then
 Option.bind (ix l i) fun x =>
 Option.bind (zBN c x) fun y =>
 if !y then
  some (.inr 7)
 else
  some (.inl (w64 (i+1)))
 else
 ((zBh).map Sum.inr)
def Y0 (c:zD) (l:(List zA)):Option Int :=
 if !decide ((JR c)=0) then
 some (JR c)
 else
 if decide (2000<(l.length:Int)) then
 some 2
 else
 Lp (Yd c l) fuel 0
def zCB (x:zA) (x1:zA) (x2:zA):Option (zB×Int) :=
 some ((⟨x.Case,x1.Round,x2.Finding⟩:zB),0)
def Qn (i:Int) (is_:Bool):Option (Int ⊕ (zB×Int)) :=
 if !is_ then
 some (.inr ((⟨0,0,0⟩:zB),8))
 else
 some (.inl (w64 (i+1)))
def ji (l:(List zA)) (i:Int):(Bool×Int)→Option ((Bool×Int) ⊕ (Int ⊕ (zB×Int)))
 | (is_1,k) =>
 if decide (k<i) then
 gb (is_1) (ix l k) fun x4 =>
 gb (is_1) (ix l i) fun x5 =>
 some (.inl (is_1&&(!decide (x4.From=x5.From)),w64 (k+1)))
 else
 ((Qn i is_1).map Sum.inr)
def YC (l:(List zA)) (x:zA) (x1:zA) (x2:zA):Int→Option (Int ⊕ (zB×Int))
 | i =>
 if decide (i<(l.length:Int)) then
 Option.bind (ix l i) fun x3 =>
 Lp (ji l i) fuel ((zR x3 (⟨x.Case,x1.Round,x2.Finding⟩:zB)),0)
 else
 ((zCB x x1 x2).map Sum.inr)
def zAL (c:zD) (l:(List zA)):Option (zB×Int) :=
 Option.bind (Y0 c l) fun y =>
 if !decide (y=0) then
 some ((⟨0,0,0⟩:zB),y)
 else
 Option.bind (Ja c) fun y1 =>
 if decide ((l.length:Int)<y1) then
 some ((⟨0,0,0⟩:zB),8)
 else
 Option.bind (ix l 0) fun x =>
 Option.bind (ix l 0) fun x1 =>
 Option.bind (ix l 0) fun x2 =>
 Lp (YC l x x1 x2) fuel 0
def yY (r_:zB) (c:Int):Bool :=
 decide (r_.Case=c)
def zi : Option Int :=
 some (-1)
def ZJ (s:(List zB)) (c:Int):Int→Option (Int ⊕ Int)
 | x1 =>
 if decide (x1<(s.length:Int)) then
 Option.bind (ix s x1) fun x =>
 if (yY x c) then
  some (.inr x1)
 else
  some (.inl (w64 (x1+1)))
 else
 ((zi).map Sum.inr)
def zt (s:(List zB)) (c:Int):Option Int :=
 Lp (ZJ s c) fuel 0
def yG (l1:(List zA)):Option ((List zA)×Int) :=
 some (l1,0)
def JX (x2:Int) (l2:(List zA)) (m:(List (Int×Bool))):Option ((Int×(List zA)×(List (Int×Bool))) ⊕ ((List zA)×Int)) :=
 some (.inl (w64 (x2+1),l2,m))
def yH (c:zD) (l:(List zA)) (y1:(List zB)) (y2:Int):(Int×(List zA)×(List (Int×Bool)))→Option ((Int×(List zA)×(List (Int×Bool))) ⊕ ((List zA)×Int))
 | (x2,l4,m1) =>
 if decide (x2<(l.length:Int)) then
 Option.bind (ix l x2) fun x =>
 Option.bind (Zw c) fun y3 =>
 gb ((decide ((l4.length:Int)<y3))) (ix y1 y2) fun x1 =>
 if (((decide ((l4.length:Int)<y3))&&(decide ((zn x)=x1)))&&(!((zO x.From m1).getD false))) then
  Option.bind (app l4 ([x])) fun l3 =>
  JX x2 l3 (putM posI m1 x.From true)
 else
  JX x2 l4 m1
 else
 ((yG l4).map Sum.inr)
def Yc (c:zD) (l:(List zA)) (id:Int):Option ((List zA)×Int) :=
 Option.bind (yR c l) fun y =>
 if !decide (y=0) then
 some ([],y)
 else
 if !(Zj id) then
 some ([],1)
 else
 Option.bind (ZW c l) fun y1 =>
 Option.bind (zt y1 id) fun y2 =>
 if decide (y2<0) then
  some ([],5)
 else
  Lp (yH c l y1 y2) fuel (0,[],[])
def Jj (a:zA) (b:zA):Bool :=
 ((((((decide (a.Case=b.Case))&&(decide (a.Kind=b.Kind)))&&(decide (a.Round=b.Round)))&&(decide (a.From=b.From)))&&(decide (a.Voted=b.Voted)))&&(decide (a.Finding=b.Finding)))
structure zB6 where
 L:(List zB)
 E:Int
 deriving DecidableEq,Inhabited
def zDE (c:zD) (l:(List zA)):Option zB6 :=
 Option.bind (Y0 c l) fun y =>
 if !decide (y=0) then
 some (⟨[],y⟩:zB6)
 else
 Option.bind (jG c l) fun y1 =>
 some (⟨y1,0⟩:zB6)
structure JE where
 L:(List zA)
 E:Int
 deriving DecidableEq,Inhabited
def qb (l1:(List zA)):Option JE :=
 some (⟨l1,0⟩:JE)
def zB8 (i:Int) (l2:(List zA)):Option ((Int×(List zA)) ⊕ JE) :=
 some (.inl (w64 (i+1),l2))
def zB7 (l:(List zA)) (i:Int) (l4:(List zA)) (is_:Bool):Option ((Int×(List zA)) ⊕ JE) :=
 if is_ then
 Option.bind (ix l i) fun x2 =>
 Option.bind (app l4 ([x2])) fun l3 =>
 zB8 i l3
 else
 zB8 i l4
def YB (l:(List zA)) (i:Int) (l4:(List zA)):(Bool×Int)→Option ((Bool×Int) ⊕ ((Int×(List zA)) ⊕ JE))
 | (is_1,n) =>
 if decide (n<(l4.length:Int)) then
 gb (is_1) (ix l4 n) fun x3 =>
 gb (is_1) (ix l i) fun x4 =>
 some (.inl (is_1&&(!decide (x3.From=x4.From)),w64 (n+1)))
 else
 ((zB7 l i l4 is_1).map Sum.inr)
def Y4 (c:zD) (l:(List zA)) (y1:(List zB)) (k:Int):(Int×(List zA))→Option ((Int×(List zA)) ⊕ JE)
 | (i,l4) =>
 gb ((decide (i<(l.length:Int)))) (Ja c) fun y2 =>
 if ((decide (i<(l.length:Int)))&&(decide ((l4.length:Int)<y2))) then
 Option.bind (ix l i) fun x =>
 Option.bind (ix y1 k) fun x1 =>
 Lp (YB l i l4) fuel (zR x x1,0)
 else
 ((qb l4).map Sum.inr)
def jH (c:zD) (l:(List zA)) (y1:(List zB)) (k:Int):Option JE :=
 if decide (k=(y1.length:Int)) then
 some (⟨[],5⟩:JE)
 else
 Lp (Y4 c l y1 k) fuel (0,[])
def YA (c:zD) (l:(List zA)) (id:Int) (y1:(List zB)):Int→Option (Int ⊕ JE)
 | k1 =>
 gb ((decide (k1<(y1.length:Int)))) (ix y1 k1) fun x5 =>
 if ((decide (k1<(y1.length:Int)))&&(!decide (x5.Case=id))) then
 some (.inl (w64 (k1+1)))
 else
 ((jH c l y1 k1).map Sum.inr)
def zFd (c:zD) (l:(List zA)) (id:Int):Option JE :=
 Option.bind (Y0 c l) fun y =>
 if !decide (y=0) then
 some (⟨[],y⟩:JE)
 else
 if !(jS id 1 1099511627776) then
 some (⟨[],1⟩:JE)
 else
 Option.bind (jG c l) fun y1 =>
 Lp (YA c l id y1) fuel 0
structure zF where
 ID:Int
 Known:Int
 Kind:Int
 Day:Int
 Bill:Int
 Account:Int
 Amount:Int
 deriving DecidableEq,Inhabited
def Zv (n:Int) (lo:Int) (hi:Int):Bool :=
 ((decide (lo≤n))&&(decide (n≤hi)))
def Jf (n:Int):Bool :=
 (Zv n 0 728)
def jP (n:Int):Bool :=
 (Zv n 1 1099511627776)
def JL (n:Int):Bool :=
 (Zv n 10 1099511627776)
def jf (x:zF) (x1:Bool):Bool :=
 if x1 then
  (((JL x.Account)&&(decide (1≤x.Amount)))&&(decide (x.Bill=0)))
 else
  if decide (x.Kind=7) then
   decide ((⟨0,0,0,0,x.Bill,x.Account,x.Amount⟩:zF)=(⟨0,0,0,0,0,0,0⟩:zF))
  else
   false
def yc (x:zF):Bool :=
 if ((((!(Zv x.ID 1 1099511627776))||(!(Jf x.Known)))||(!(Jf x.Day)))||(!(Zv x.Amount 0 16777216))) then
  false
 else
  if decide (x.Kind=1) then
   ((jP x.Bill)&&(JL x.Account))
  else
   if decide (x.Kind=2) then
    ((jP x.Bill)&&(decide ((⟨0,0,0,x.Day,0,x.Account,0⟩:zF)=(⟨0,0,0,0,0,0,0⟩:zF))))
   else
    if decide (x.Kind=3) then
     jf x (decide (x.Kind=3))
    else
     if decide (x.Kind=4) then
      jf x (decide (x.Kind=4))
     else
      if decide (x.Kind=5) then
       jf x (decide (x.Kind=5))
      else
       jf x (decide (x.Kind=6))
def jl (y:zF) (c:zF):Bool :=
 ((decide (y.ID=c.ID))&&(!decide (y=c)))
def zu : Option Int :=
 some (-1)
def ZQ (s:(List zF)) (c:zF):Int→Option (Int ⊕ Int)
 | x1 =>
  if decide (x1<(s.length:Int)) then
   Option.bind (ix s x1) fun x =>
   if (jl x c) then
    some (.inr x1)
   else
    some (.inl (w64 (x1+1)))
  else
   ((zu).map Sum.inr)
def ZU (s:(List zF)) (c:zF):Option Int :=
 Lp (ZQ s c) fuel 0
def zw (s:(List zF)) (c:zF):Option Bool :=
 Option.bind (ZU s c) fun y =>
 some (decide (0≤y))
def Yg : Option Int :=
 some 0
def Yh (l:(List zF)):Int→Option (Int ⊕ Int)
 | x1 =>
  if decide (x1<(l.length:Int)) then
   Option.bind (ix l x1) fun x =>
   if !(yc x) then
    some (.inr 1)
   else
    Option.bind (sub l 0 x1) fun l1 =>
    Option.bind (zw l1 x) fun y =>
    if y then
     some (.inr 6)
    else
     some (.inl (w64 (x1+1)))
  else
   ((Yg).map Sum.inr)
def JM (l:(List zF)):Option Int :=
 if decide (60<(l.length:Int)) then
  some 2
 else
  Lp (Yh l) fuel 0
def QB (n:Int):Bool :=
 !(Jf n)
def Zb : Option Int :=
 some (-1)
def jh (s:(List Int)):Int→Option (Int ⊕ Int)
 | x1 =>
  if decide (x1<(s.length:Int)) then
   Option.bind (ix s x1) fun x =>
   if (QB x) then
    some (.inr x1)
   else
    some (.inl (w64 (x1+1)))
  else
   ((Zb).map Sum.inr)
def jC (s:(List Int)):Option Int :=
 Lp (jh s) fuel 0
def Zc (s:(List Int)):Option Bool :=
 Option.bind (jC s) fun y =>
 some (decide (0≤y))
def jT (l:(List zF)) (days:(List Int)):Option Int :=
 Option.bind (JM l) fun y =>
 if !decide (y=0) then
  some y
 else
  Option.bind (Zc days) fun y1 =>
  if y1 then
   some 1
  else
   some 0
structure yL where
 Account:Int
 Amount:Int
 deriving DecidableEq,Inhabited
def ZX (account:Int) (contra:Int) (amount:Int):(List yL) :=
 [(⟨account,amount⟩:yL),(⟨contra,w64 (0 - amount)⟩:yL)]
def Yf (a:zF) (b:zF):Option Int :=
 Option.bind (Qc ([cmp_Compare_int a.Known b.Known,cmp_Compare_int a.ID b.ID])) fun y =>
 some y
def Yy : Option Bool :=
 some true
def Q6 (a:(List zF)) (b:(List zF)):Int→Option (Int ⊕ Bool)
 | x2 =>
  if decide (x2<(a.length:Int)) then
   Option.bind (ix a x2) fun x =>
   Option.bind (ix b x2) fun x1 =>
   if !decide (x=x1) then
    some (.inr false)
   else
    some (.inl (w64 (x2+1)))
  else
   ((Yy).map Sum.inr)
def zAm (a:(List zF)) (b:(List zF)):Option Bool :=
 if !decide ((a.length:Int)=(b.length:Int)) then
  some false
 else
  Lp (Q6 a b) fuel 0
def ZV (x y:zF):Bool:=decide (x.Known<y.Known)||(decide (x.Known=y.Known)&&decide (x.ID<y.ID))
def je (x:(List zF)):Option (List zF) :=
 some x
def YK (l2:(List zF)):Option (List zF) :=
 je l2
def yB (k:Int) (l3:(List zF)):Option (Int ⊕ (List zF)) :=
 Option.bind (sub l3 k (l3.length:Int)) fun l4 =>
 Option.bind (clrE l3 k (⟨0,0,0,0,0,0,0⟩:zF)) fun l5 =>
 Option.bind (sub l5 0 k) fun l6 =>
 ((je l6).map Sum.inr)
def JW (k21:Int) (k1:Int) (l7:(List zF)):Option ((Int×Int×(List zF)) ⊕ (Int ⊕ (List zF))) :=
 some (.inl (k1,w64 (k21+1),l7))
def YL (a:Int):(Int×Int×(List zF))→Option ((Int×Int×(List zF)) ⊕ (Int ⊕ (List zF)))
 | (k2,k21,l8) =>
  if decide (k21<((List.drop (Int.toNat a) l8).length:Int)) then
   Option.bind (ix (List.drop (Int.toNat a) l8) k21) fun x3 =>
   Option.bind (ix (List.drop (Int.toNat a) l8) (w64 (k21 - 1))) fun x4 =>
   if !decide (x3=x4) then
    Option.bind (ix (List.drop (Int.toNat a) l8) k21) fun x5 =>
    Option.bind (ix l8 k2) fun x6 =>
    JW k21 (w64 (k2+1)) (put l8 k2 x5)
   else
    JW k21 k2 l8
  else
   ((yB k2 l8).map Sum.inr)
def YM (l2:(List zF)):Int→Option (Int ⊕ (List zF))
 | k3 =>
  if decide (k3<(l2.length:Int)) then
   Option.bind (ix l2 k3) fun x1 =>
   Option.bind (ix l2 (w64 (k3 - 1))) fun x2 =>
   if decide (x1=x2) then
    Option.bind (qslN l2 k3) fun a =>
    Lp (YL a) fuel (k3,1,l2)
   else
    some (.inl (w64 (k3+1)))
  else
   ((YK l2).map Sum.inr)
def JU (l:(List zF)):Option (List zF) :=
 Option.bind (app [] l) fun l1 =>
 Option.bind (zDB ZV l1) fun l2 =>
 if decide ((l2.length:Int)<2) then
  je l2
 else
  Lp (YM l2) fuel 1
end Go.Mx
