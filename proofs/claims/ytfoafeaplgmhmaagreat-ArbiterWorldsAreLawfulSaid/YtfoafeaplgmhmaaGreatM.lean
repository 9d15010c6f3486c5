/- Functions of the program as plain functions. Conditions: none. Printed by a program (wip/tools/xg.py). -/
import Derived.Test.YtfoafeaplgmhmaaGreatXl
set_option linter.unusedVariables false
namespace Go.Mx
structure zG where
 Arbiters:Int
 deriving DecidableEq,Inhabited
def zP (n:Int) (lo:Int) (hi:Int):Bool :=
 ((decide (lo≤n))&&(decide (n≤hi)))
def za (c:zG):Int :=
 if !(zP c.Arbiters 3 7) then
  1
 else
  0
def jP (c:zG):Option Int :=
 if !decide ((za c)=0) then
  some 0
 else
  Option.bind (quo c.Arbiters 2) fun q =>
  some (w64 (q+1))
structure zA where
 ID:Int
 Case:Int
 Kind:Int
 Round:Int
 From:Int
 To:Int
 Voted:Int
 Finding:Int
 deriving DecidableEq,Inhabited
def yJ (ID:Int) (Case:Int) (Kind:Int) (Round:Int) (From:Int) (To:Int) (Voted:Int) (Finding:Int):Option (Int×Bool) :=
 some (Finding,decide (0<Voted))
def Jb (x1:Int) (ID1:Int) (Case1:Int) (Kind1:Int) (Round1:Int) (From1:Int) (To1:Int) (Voted1:Int) (Finding1:Int):Option ((Int×Int×Int×Int×Int×Int×Int×Int×Int) ⊕ (Int×Bool)) :=
 some (.inl (w64 (x1+1),ID1,Case1,Kind1,Round1,From1,To1,Voted1,Finding1))
def yK (l:(List zA)):(Int×Int×Int×Int×Int×Int×Int×Int×Int)→Option ((Int×Int×Int×Int×Int×Int×Int×Int×Int) ⊕ (Int×Bool))
 | (x1,ID2,Case2,Kind2,Round2,From2,To2,Voted2,Finding2) =>
  if decide (x1<(l.length:Int)) then
   Option.bind (ix l x1) fun x =>
   if decide (Voted2<x.Voted) then
    Jb x1 x.ID x.Case x.Kind x.Round x.From x.To x.Voted x.Finding
   else
    Jb x1 ID2 Case2 Kind2 Round2 From2 To2 Voted2 Finding2
  else
   ((yJ ID2 Case2 Kind2 Round2 From2 To2 Voted2 Finding2).map Sum.inr)
def Yb (l:(List zA)):Option (Int×Bool) :=
 Lp (yK l) fuel (0,0,0,0,0,0,0,0,0)
def YE (r_:Int):Option Int :=
 some r_
def qP (c:zG) (arbiter:Int):Int→Option (Int ⊕ Int)
 | r_1 =>
  Option.bind (rem (w64 (r_1 - 1)) c.Arbiters) fun q =>
  if !decide (q=arbiter) then
   some (.inl (w64 (r_1+1)))
  else
   ((YE r_1).map Sum.inr)
def Qi (c:zG) (arbiter:Int) (round:Int):Option Int :=
 Lp (qP c arbiter) fuel (w64 (round+1))
def zN (c:zG) (a:Int):Bool :=
 (zP a 0 (w64 (c.Arbiters - 1)))
def zZ (id:Int):Bool :=
 (zP id 1 1099511627776)
def Zd (n:Int):Bool :=
 (zP n 0 65536)
def jc : Option Int :=
 some (-1)
def yc (s:(List Int)) (v_:Int):Int→Option (Int ⊕ Int)
 | x1 =>
  if decide (x1<(s.length:Int)) then
   Option.bind (ix s x1) fun x =>
   if decide (v_=x) then
    some (.inr x1)
   else
    some (.inl (w64 (x1+1)))
  else
   ((jc).map Sum.inr)
def slices_Index_int (s:(List Int)) (v_:Int):Option Int :=
 Lp (yc s v_) fuel 0
def slices_Contains_int (s:(List Int)) (v_:Int):Option Bool :=
 Option.bind (slices_Index_int s v_) fun y =>
 some (decide (0≤y))
def JR (l:zA) (c:Int):Bool :=
 decide (l.ID=c)
def zi : Option Int :=
 some (-1)
def ZE (s:(List zA)) (c:Int):Int→Option (Int ⊕ Int)
 | x1 =>
  if decide (x1<(s.length:Int)) then
   Option.bind (ix s x1) fun x =>
   if (JR x c) then
    some (.inr x1)
   else
    some (.inl (w64 (x1+1)))
  else
   ((zi).map Sum.inr)
def ZL (s:(List zA)) (c:Int):Option Int :=
 Lp (ZE s c) fuel 0
def jv (x:zA) (c:zA):Bool :=
 decide (x.From=c.From)
def zb : Option Int :=
 some (-1)
def zx (s:(List zA)) (c:zA):Int→Option (Int ⊕ Int)
 | x1 =>
  if decide (x1<(s.length:Int)) then
   Option.bind (ix s x1) fun x =>
   if (jv x c) then
    some (.inr x1)
   else
    some (.inl (w64 (x1+1)))
  else
   ((zb).map Sum.inr)
def ZC (s:(List zA)) (c:zA):Option Int :=
 Lp (zx s c) fuel 0
def ze (s:(List zA)) (c:zA):Option Bool :=
 Option.bind (ZC s c) fun y =>
 some (decide (0≤y))
def JP (x:zA) (c:zA):Bool :=
 ((decide (x.From=c.From))&&(decide (x.Round=c.Round)))
def zh : Option Int :=
 some (-1)
def ZB (s:(List zA)) (c:zA):Int→Option (Int ⊕ Int)
 | x1 =>
  if decide (x1<(s.length:Int)) then
   Option.bind (ix s x1) fun x =>
   if (JP x c) then
    some (.inr x1)
   else
    some (.inl (w64 (x1+1)))
  else
   ((zh).map Sum.inr)
def ZK (s:(List zA)) (c:zA):Option Int :=
 Lp (ZB s c) fuel 0
def zk (s:(List zA)) (c:zA):Option Bool :=
 Option.bind (ZK s c) fun y =>
 some (decide (0≤y))
structure zF where
 Case:Int
 Round:Int
 Finding:Int
 deriving DecidableEq,Inhabited
def cmp_isNaN_int (x:Int):Bool :=
 !decide (x=x)
def cmp_Compare_int (x:Int) (y:Int):Int :=
 if (cmp_isNaN_int x) then
  if (cmp_isNaN_int y) then
   0
  else
   (-1)
 else
  if (cmp_isNaN_int y) then
   1
  else
   if decide (x<y) then
    (-1)
   else
    if decide (y<x) then
     1
    else
     0
def Y2 : Option Int :=
 some 0
def Zr (vals:(List Int)):Int→Option (Int ⊕ Int)
 | x1 =>
  if decide (x1<(vals.length:Int)) then
   Option.bind (ix vals x1) fun x =>
   if !decide (x=0) then
    some (.inr x)
   else
    some (.inl (w64 (x1+1)))
  else
   ((Y2).map Sum.inr)
def zB5 (vals:(List Int)):Option Int :=
 Lp (Zr vals) fuel 0
def Q5 (a:zF) (b:zF):Option Int :=
 Option.bind (zB5 ([(cmp_Compare_int a.Case b.Case),(cmp_Compare_int a.Round b.Round),(cmp_Compare_int a.Finding b.Finding)])) fun y =>
 some y
def zQ (x y:zF):Bool:=decide (x.Case<y.Case)||(decide (x.Case=y.Case)&&(decide (x.Round<y.Round)||(decide (x.Round=y.Round)&&decide (x.Finding<y.Finding))))
def jI (l1:(List zF)):Option (List zF) :=
 Option.bind (zGH zQ l1) fun l2 =>
 some l2
def Zu (l3:(List zF)):Option (List zF) :=
 some l3
def jC (c:zG):zF×(List (Int×Bool))→(List zF)→Option (List zF)
 | (k,v_),l5 =>
  Option.bind (jP c) fun y =>
  if decide (y≤(v_.length:Int)) then
   Option.bind (app l5 ([k])) fun l4 =>
   Zu l4
  else
   Zu l5
def jH (l5:(List zF)):Option (List zF) :=
 jI l5
def jW (c:zG) (m:(List (zF×(List (Int×Bool))))):Option (List zF) :=
 Option.bind (Qn (jC c) m []) fun vE_3 =>
 jH vE_3
def jG (x1:Int) (m1:(List (zF×(List (Int×Bool))))):Option ((Int×(List (zF×(List (Int×Bool))))) ⊕ (List zF)) :=
 some (.inl (w64 (x1+1),m1))
def jF (x1:Int) (x:zA) (m2:(List (zF×(List (Int×Bool))))):Option ((Int×(List (zF×(List (Int×Bool))))) ⊕ (List zF)) :=
 Option.bind (zY (⟨x.Case,x.Round,x.Finding⟩:zF) m2) fun m3 =>
 jG x1 (putM posE m2 (⟨x.Case,x.Round,x.Finding⟩:zF) (putM posI m3 x.From true))
def J2 (c:zG) (l:(List zA)):(Int×(List (zF×(List (Int×Bool)))))→Option ((Int×(List (zF×(List (Int×Bool))))) ⊕ (List zF))
 | (x1,m4) =>
  if decide (x1<(l.length:Int)) then
   Option.bind (ix l x1) fun x =>
   if !decide (x.Kind=4) then
    jG x1 m4
   else
    if (!(zY (⟨x.Case,x.Round,x.Finding⟩:zF) m4).isSome) then
     jF x1 x (putM posE m4 (⟨x.Case,x.Round,x.Finding⟩:zF) [])
    else
     jF x1 x m4
  else
   ((jW c m4).map Sum.inr)
def jY (c:zG) (l:(List zA)):Option (List zF) :=
 Lp (J2 c l) fuel (0,[])
def JG (n:Int) (lo:Int) (hi:Int):Bool :=
 ((decide (lo≤n))&&(decide (n≤hi)))
def Jm (c:zG):Int :=
 if !(JG c.Arbiters 3 7) then
  1
 else
  0
structure Ye where
 Promised:Int
 Voted:Int
 Finding:Int
 Opened:Int
 deriving DecidableEq,Inhabited
structure zT where
 Arbiter:Int
 Case:Int
 Book:Ye
 Wish:Int
 Wishes:Bool
 Round:Int
 List:(List zA)
 Proposed:Bool
 deriving DecidableEq,Inhabited
structure zI where
 C:zG
 Named:(List Int)
 Seats:(List zT)
 Got:(List zA)
 Way:(List zA)
 All:(List zA)
 Number:Int
 deriving DecidableEq,Inhabited
structure zGT where
 W:zI
 E:Int
 deriving DecidableEq,Inhabited
def zMU (c:zG):zGT :=
 (⟨(⟨c,[],[],[],[],[],0⟩:zI),(Jm c)⟩:zGT)
structure Zn where
 Kind:Int
 A:Int
 Case:Int
 Finding:Int
 N:Int
 deriving DecidableEq,Inhabited
def zCX : Option Bool :=
 some false
def zAG (w:zI) (id:Int):Int→Option (Int ⊕ Bool)
 | i =>
  if decide (i<(w.Named.length:Int)) then
   Option.bind (ix w.Named i) fun x =>
   if decide (x=id) then
    some (.inr true)
   else
    some (.inl (w64 (i+1)))
  else
   ((zCX).map Sum.inr)
def zAj (w:zI) (id:Int):Option Bool :=
 Lp (zAG w id) fuel 0
def zAk (w:zI) (id:Int):Option Bool :=
 Option.bind (zAj w id) fun y =>
 some (y||(decide ((w.Named.length:Int)<40)))
def zFk : Option Int :=
 some (-1)
def zCY (w:zI) (arbiter:Int) (id:Int):Int→Option (Int ⊕ Int)
 | i =>
  if decide (i<(w.Seats.length:Int)) then
   Option.bind (ix w.Seats i) fun x =>
   gb ((decide (x.Arbiter=arbiter))) (ix w.Seats i) fun x1 =>
   if ((decide (x.Arbiter=arbiter))&&(decide (x1.Case=id))) then
    some (.inr i)
   else
    some (.inl (w64 (i+1)))
  else
   ((zFk).map Sum.inr)
def zEP (w:zI) (arbiter:Int) (id:Int):Option Int :=
 Lp (zCY w arbiter id) fuel 0
def zBO (w:zI) (arbiter:Int) (id:Int):Option zT :=
 Option.bind (zEP w arbiter id) fun y =>
 if decide (y<0) then
  some (⟨arbiter,id,(⟨0,0,0,0⟩:Ye),0,false,0,[],false⟩:zT)
 else
  Option.bind (ix w.Seats y) fun x =>
  some x
def zA3 (w:zI) (id:Int) (k:Int):Option zI :=
 Option.bind (sub w.Named 0 k) fun l =>
 Option.bind (app [] l) fun l1 =>
 Option.bind (app l1 ([id])) fun l2 =>
 Option.bind (sub w.Named k w.Named.length) fun l3 =>
 Option.bind (app l2 l3) fun l4 =>
 some (⟨w.C,l4,w.Seats,w.Got,w.Way,w.All,w.Number⟩:zI)
def zA4 (w:zI) (id:Int):Int→Option (Int ⊕ zI)
 | k1 =>
  gb ((decide (k1<(w.Named.length:Int)))) (ix w.Named k1) fun x =>
  if ((decide (k1<(w.Named.length:Int)))&&(decide (x<id))) then
   some (.inl (w64 (k1+1)))
  else
   ((zA3 w id k1).map Sum.inr)
def zBq (w:zI) (id:Int):Option zI :=
 Option.bind (zAj w id) fun y =>
 if y then
  some w
 else
  Lp (zA4 w id) fuel 0
def zEN (w:zI) (l1:(List zT)):Option zI :=
 some (⟨w.C,w.Named,l1,w.Got,w.Way,w.All,w.Number⟩:zI)
def QI (w:zI) (s:zT):Option zI :=
 Option.bind (zEP w s.Arbiter s.Case) fun y =>
 Option.bind (app [] w.Seats) fun l =>
 if decide (y<0) then
  Option.bind (app l ([s])) fun l2 =>
  zEN w l2
 else
  Option.bind (ix l y) fun x =>
  zEN w (put l y s)
def yl (c:zG):Option Int :=
 if !decide ((Jm c)=0) then
  some 0
 else
  Option.bind (quo c.Arbiters 2) fun q =>
  some (w64 (q+1))
def zDW (best:Int) (out:Int):Option (Int×Bool) :=
 some (out,decide (0<best))
def zA1 (i:Int) (best1:Int) (out1:Int):Option ((Int×Int×Int) ⊕ (Int×Bool)) :=
 some (.inl (best1,out1,w64 (i+1)))
def zA2 (l:(List zA)):(Int×Int×Int)→Option ((Int×Int×Int) ⊕ (Int×Bool))
 | (best2,out2,i) =>
  if decide (i<(l.length:Int)) then
   Option.bind (ix l i) fun x =>
   if decide (best2<x.Voted) then
    Option.bind (ix l i) fun x1 =>
    Option.bind (ix l i) fun x2 =>
    zA1 i x1.Voted x2.Finding
   else
    zA1 i best2 out2
  else
   ((zDW best2 out2).map Sum.inr)
def zDv (l:(List zA)):Option (Int×Bool) :=
 Lp (zA2 l) fuel (0,0,0)
def zAz (w:zI) (l2:(List zA)) (Way:(List zA)):Option zI :=
 some (⟨w.C,w.Named,w.Seats,w.Got,Way,l2,w64 (w.Number+1)⟩:zI)
def Qt (w:zI) (l:zA):Option zI :=
 Option.bind (app [] w.All) fun l1 =>
 Option.bind (app l1 ([(⟨w64 (w.Number+1),l.Case,l.Kind,l.Round,l.From,l.To,l.Voted,l.Finding⟩:zA)])) fun l2 =>
 if decide ((w.Way.length:Int)<200) then
  Option.bind (app [] w.Way) fun l3 =>
  Option.bind (app l3 ([(⟨w64 (w.Number+1),l.Case,l.Kind,l.Round,l.From,l.To,l.Voted,l.Finding⟩:zA)])) fun l4 =>
  zAz w l2 l4
 else
  zAz w l2 w.Way
def zFL (Arbiters:Int) (Named:(List Int)) (Seats:(List zT)) (Got:(List zA)) (Way:(List zA)) (All:(List zA)) (Number:Int):Option zI :=
 some (⟨(⟨Arbiters⟩:zG),Named,Seats,Got,Way,All,Number⟩:zI)
def Qs (l:zA):(Int×Int×(List Int)×(List zT)×(List zA)×(List zA)×(List zA)×Int×Int)→Option ((Int×Int×(List Int)×(List zT)×(List zA)×(List zA)×(List zA)×Int×Int) ⊕ zI)
 | (a,Arbiters1,Named1,Seats1,Got1,Way1,All1,Number1,To) =>
  if decide (a<Arbiters1) then
   Option.bind (Qt (⟨(⟨Arbiters1⟩:zG),Named1,Seats1,Got1,Way1,All1,Number1⟩:zI) (⟨l.ID,l.Case,l.Kind,l.Round,l.From,a,l.Voted,l.Finding⟩:zA)) fun y =>
   some (.inl (w64 (a+1),y.C.Arbiters,y.Named,y.Seats,y.Got,y.Way,y.All,y.Number,a))
  else
   ((zFL Arbiters1 Named1 Seats1 Got1 Way1 All1 Number1).map Sum.inr)
def yM (w:zI) (l:zA):Option zI :=
 Lp (Qs l) fuel (0,w.C.Arbiters,w.Named,w.Seats,w.Got,w.Way,w.All,w.Number,l.To)
def Yg (w:zI) (s:zT) (finding:Int):Option zI :=
 Option.bind (QI w (⟨s.Arbiter,s.Case,s.Book,s.Wish,s.Wishes,s.Round,s.List,true⟩:zT)) fun y2 =>
 Option.bind (yM y2 (⟨0,s.Case,3,s.Round,s.Arbiter,0,0,finding⟩:zA)) fun y3 =>
 some y3
def Q0 (w:zI) (s:zT):Option zI :=
 gb (!(((decide (s.Round=0))||s.Proposed))) (yl w.C) fun y =>
 if (((decide (s.Round=0))||s.Proposed)||(decide ((s.List.length:Int)<y))) then
  some w
 else
  Option.bind (zDv s.List) fun y1 =>
  if ((!y1.2)&&(!s.Wishes)) then
   some w
  else
   if !y1.2 then
    Yg w s s.Wish
   else
    Yg w s y1.1
def qy (w:zI) (a:Zn):Option (zI×Int) :=
 if ((((!(JG a.A 0 (w64 (w.C.Arbiters - 1))))||(!(JG a.Case 1 1099511627776)))||(!(JG a.Finding 0 65536)))||(!decide (a.N=0))) then
  some (w,1)
 else
  Option.bind (zAk w a.Case) fun y =>
  if !y then
   some (w,2)
  else
   Option.bind (zBO w a.A a.Case) fun y1 =>
   if y1.Wishes then
    some (w,6)
   else
    Option.bind (zBq w a.Case) fun y2 =>
    Option.bind (QI y2 (⟨y1.Arbiter,y1.Case,y1.Book,a.Finding,true,y1.Round,y1.List,y1.Proposed⟩:zT)) fun y3 =>
    Option.bind (Q0 y3 (⟨y1.Arbiter,y1.Case,y1.Book,a.Finding,true,y1.Round,y1.List,y1.Proposed⟩:zT)) fun y4 =>
    some (y4,0)
def zDZ (r_:Int):Option (Int×Int) :=
 if decide (1048576<r_) then
  some (0,2)
 else
  some (r_,0)
def zDa (c:zG) (arbiter:Int):Int→Option (Int ⊕ (Int×Int))
 | r_1 =>
  Option.bind (rem (w64 (r_1 - 1)) c.Arbiters) fun q =>
  if !decide (q=arbiter) then
   some (.inl (w64 (r_1+1)))
  else
   ((zDZ r_1).map Sum.inr)
def zDx (c:zG) (arbiter:Int) (round:Int):Option (Int×Int) :=
 if !decide ((Jm c)=0) then
  some (0,(Jm c))
 else
  if ((!(JG arbiter 0 (w64 (c.Arbiters - 1))))||(!(JG round 0 1048576))) then
   some (0,1)
  else
   Lp (zDa c arbiter) fuel (w64 (round+1))
def Q9 (w:zI) (a:Zn):Option (zI×Int) :=
 if ((((!(JG a.A 0 (w64 (w.C.Arbiters - 1))))||(!(JG a.Case 1 1099511627776)))||(!decide (a.Finding=0)))||(!decide (a.N=0))) then
  some (w,1)
 else
  Option.bind (zAk w a.Case) fun y =>
  Option.bind (zBO w a.A a.Case) fun y1 =>
  Option.bind (zDx w.C a.A (max y1.Book.Promised y1.Book.Opened)) fun y2 =>
  if ((!y)||(!decide (y2.2=0))) then
   some (w,2)
  else
   Option.bind (zBq w a.Case) fun y3 =>
   Option.bind (QI y3 (⟨y1.Arbiter,y1.Case,(⟨y1.Book.Promised,y1.Book.Voted,y1.Book.Finding,y2.1⟩:Ye),y1.Wish,y1.Wishes,y2.1,[],false⟩:zT)) fun y4 =>
   Option.bind (yM y4 (⟨0,a.Case,1,y2.1,a.A,0,0,0⟩:zA)) fun y5 =>
   some (y5,0)
def zEM : Option Int :=
 some (-1)
def zBo (w:zI) (id:Int):Int→Option (Int ⊕ Int)
 | i =>
  if decide (i<(w.Way.length:Int)) then
   Option.bind (ix w.Way i) fun x =>
   if decide (x.ID=id) then
    some (.inr i)
   else
    some (.inl (w64 (i+1)))
  else
   ((zEM).map Sum.inr)
def zFK (w:zI) (id:Int):Option Int :=
 Lp (zBo w id) fuel 0
def zA0 (w:zI) (l:zA) (y:zT):Option zI :=
 Option.bind (app [] y.List) fun l1 =>
 Option.bind (app l1 ([l])) fun l2 =>
 Option.bind (QI w (⟨y.Arbiter,y.Case,y.Book,y.Wish,y.Wishes,y.Round,l2,y.Proposed⟩:zT)) fun y4 =>
 Option.bind (Q0 y4 (⟨y.Arbiter,y.Case,y.Book,y.Wish,y.Wishes,y.Round,l2,y.Proposed⟩:zT)) fun y5 =>
 some y5
def Yw (w:zI) (l:zA) (y:zT):Int→Option (Int ⊕ zI)
 | i =>
  if decide (i<(y.List.length:Int)) then
   Option.bind (ix y.List i) fun x =>
   if decide (x.From=l.From) then
    some (.inr w)
   else
    some (.inl (w64 (i+1)))
  else
   ((zA0 w l y).map Sum.inr)
def yO (w:zI) (l:zA):Option zI :=
 Option.bind (zBO w l.To l.Case) fun y =>
 if decide (l.Kind=1) then
  if ((decide (l.Round<y.Book.Promised))||(decide (l.Round≤y.Book.Voted))) then
   some w
  else
   Option.bind (QI w (⟨y.Arbiter,y.Case,(⟨l.Round,y.Book.Voted,y.Book.Finding,y.Book.Opened⟩:Ye),y.Wish,y.Wishes,y.Round,y.List,y.Proposed⟩:zT)) fun y1 =>
   Option.bind (Qt y1 (⟨0,l.Case,2,l.Round,l.To,l.From,y.Book.Voted,y.Book.Finding⟩:zA)) fun y2 =>
   some y2
 else
  if decide (l.Kind=2) then
   if !decide (y.Round=l.Round) then
    some w
   else
    Lp (Yw w l y) fuel 0
  else
   if decide (l.Kind=3) then
    if decide (l.Round<y.Book.Promised) then
     some w
    else
     Option.bind (QI w (⟨y.Arbiter,y.Case,(⟨l.Round,l.Round,l.Finding,y.Book.Opened⟩:Ye),y.Wish,y.Wishes,y.Round,y.List,y.Proposed⟩:zT)) fun y6 =>
     Option.bind (yM y6 (⟨0,l.Case,4,l.Round,l.To,0,0,l.Finding⟩:zA)) fun y7 =>
     some y7
   else
    Option.bind (app [] w.Got) fun l3 =>
    Option.bind (app l3 ([l])) fun l4 =>
    some (⟨w.C,w.Named,w.Seats,l4,w.Way,w.All,w.Number⟩:zI)
def zDV (Arbiters:Int) (Named:(List Int)) (Seats:(List zT)) (Got:(List zA)) (Way:(List zA)) (All:(List zA)) (Number:Int):Option (zI×Int) :=
 some ((⟨(⟨Arbiters⟩:zG),Named,Seats,Got,Way,All,Number⟩:zI),0)
def zAF (w:zI) (a:Zn):Option (zI×Int) :=
 if (((!decide (a.A=0))||(!decide (a.Case=0)))||(!decide (a.Finding=0))) then
  some (w,1)
 else
  Option.bind (zFK w a.N) fun y =>
  if decide (y<0) then
   some (w,5)
  else
   Option.bind (ix w.Way y) fun x =>
   if decide (a.Kind=5) then
    if decide (200≤(w.Way.length:Int)) then
     some (w,2)
    else
     Option.bind (Qt w x) fun y1 =>
     some (y1,0)
   else
    Option.bind (sub w.Way 0 y) fun l =>
    Option.bind (app [] l) fun l1 =>
    Option.bind (sub w.Way (w64 (y+1)) w.Way.length) fun l2 =>
    Option.bind (app l1 l2) fun l3 =>
    if decide (a.Kind=3) then
     Option.bind (yO (⟨w.C,w.Named,w.Seats,w.Got,l3,w.All,w.Number⟩:zI) x) fun y3 =>
     zDV y3.C.Arbiters y3.Named y3.Seats y3.Got y3.Way y3.All y3.Number
    else
     zDV w.C.Arbiters w.Named w.Seats w.Got l3 w.All w.Number
def zCD (w:zI) (l:(List zT)):Option (zI×Int) :=
 some ((⟨w.C,w.Named,l,w.Got,w.Way,w.All,w.Number⟩:zI),0)
def qK (i:Int) (l2:(List zT)) (x:zT) (Round:Int) (List_:(List zA)) (Proposed:Bool):Option ((Int×(List zT)) ⊕ (zI×Int)) :=
 Option.bind (app l2 ([(⟨x.Arbiter,x.Case,x.Book,x.Wish,x.Wishes,Round,List_,Proposed⟩:zT)])) fun l1 =>
 some (.inl (w64 (i+1),l1))
def YC (w:zI) (a:Zn):(Int×(List zT))→Option ((Int×(List zT)) ⊕ (zI×Int))
 | (i,l2) =>
  if decide (i<(w.Seats.length:Int)) then
   Option.bind (ix w.Seats i) fun x =>
   if decide (x.Arbiter=a.A) then
    qK i l2 x 0 [] false
   else
    qK i l2 x x.Round x.List x.Proposed
  else
   ((zCD w l2).map Sum.inr)
def QS (w:zI) (a:Zn):Option (zI×Int) :=
 if ((((!(JG a.A 0 (w64 (w.C.Arbiters - 1))))||(!decide (a.Case=0)))||(!decide (a.Finding=0)))||(!decide (a.N=0))) then
  some (w,1)
 else
  Lp (YC w a) fuel (0,[])
def zJc (w:zI) (a:Zn):Option (zI×Int) :=
 if decide (a.Kind=1) then
  Option.bind (qy w a) fun y =>
  some (y.1,y.2)
 else
  if decide (a.Kind=2) then
   Option.bind (Q9 w a) fun y1 =>
   some (y1.1,y1.2)
  else
   if (((decide (a.Kind=3))||(decide (a.Kind=4)))||(decide (a.Kind=5))) then
    Option.bind (zAF w a) fun y2 =>
    some (y2.1,y2.2)
   else
    if decide (a.Kind=6) then
     Option.bind (QS w a) fun y3 =>
     some (y3.1,y3.2)
    else
     some (w,1)
def jT (l:zA) (r_:zF):Bool :=
 ((((decide (l.Kind=4))&&(decide (l.Case=r_.Case)))&&(decide (l.Round=r_.Round)))&&(decide (l.Finding=r_.Finding)))
def zCU (n:Int):Option Int :=
 some n
def qz (a:Int) (n1:Int):Option ((Int×Int) ⊕ Int) :=
 some (.inl (n1,w64 (a+1)))
def zCT (n2:Int) (a:Int) (found:Bool):Option ((Int×Int) ⊕ Int) :=
 if found then
  qz a (w64 (n2+1))
 else
  qz a n2
def zAA (l:(List zA)) (r_:zF) (n2:Int) (a:Int):(Bool×Int)→Option ((Bool×Int) ⊕ ((Int×Int) ⊕ Int))
 | (found1,i) =>
  if decide (i<(l.length:Int)) then
   gb (!(found1)) (ix l i) fun x =>
   gb (!(found1)&&((jT x r_))) (ix l i) fun x1 =>
   some (.inl ((found1||((jT x r_)&&(decide (x1.From=a)))),w64 (i+1)))
  else
   ((zCT n2 a found1).map Sum.inr)
def zAB (c:zG) (l:(List zA)) (r_:zF):(Int×Int)→Option ((Int×Int) ⊕ Int)
 | (n2,a) =>
  if decide (a<c.Arbiters) then
   Lp (zAA l r_ n2 a) fuel (false,0)
  else
   ((zCU n2).map Sum.inr)
def zCV (c:zG) (l:(List zA)) (r_:zF):Option Int :=
 Lp (zAB c l r_) fuel (0,0)
def QT (a:zF) (b:zF):Bool :=
 if !decide (a.Case=b.Case) then
  decide (a.Case<b.Case)
 else
  if !decide (a.Round=b.Round) then
   decide (a.Round<b.Round)
  else
   decide (a.Finding<b.Finding)
def zBN (l1:(List zF)):Option (List zF) :=
 some l1
def Yf (i:Int) (l2:(List zF)):Option ((Int×(List zF)) ⊕ (List zF)) :=
 some (.inl (w64 (i+1),l2))
def Qu (i:Int) (l6:(List zF)) (x:zA) (x1:zA) (x2:zA) (k:Int):Option ((Int×(List zF)) ⊕ (List zF)) :=
 gb ((decide (k<(l6.length:Int)))) (ix l6 k) fun x4 =>
 if ((decide (k<(l6.length:Int)))&&(decide (x4=(⟨x.Case,x1.Round,x2.Finding⟩:zF)))) then
  Yf i l6
 else
  Option.bind (sub l6 0 k) fun l3 =>
  Option.bind (app [] l3) fun l4 =>
  Option.bind (app l4 ([(⟨x.Case,x1.Round,x2.Finding⟩:zF)])) fun l5 =>
  Option.bind (sub l6 k (l6.length:Int)) fun l7 =>
  Option.bind (app l5 l7) fun l8 =>
  Yf i l8
def yj (i:Int) (l6:(List zF)) (x:zA) (x1:zA) (x2:zA):Int→Option (Int ⊕ ((Int×(List zF)) ⊕ (List zF)))
 | k1 =>
  gb ((decide (k1<(l6.length:Int)))) (ix l6 k1) fun x5 =>
  if ((decide (k1<(l6.length:Int)))&&(QT x5 (⟨x.Case,x1.Round,x2.Finding⟩:zF))) then
   some (.inl (w64 (k1+1)))
  else
   ((Qu i l6 x x1 x2 k1).map Sum.inr)
def Qv (c:zG) (l:(List zA)):(Int×(List zF))→Option ((Int×(List zF)) ⊕ (List zF))
 | (i,l6) =>
  if decide (i<(l.length:Int)) then
   Option.bind (ix l i) fun x =>
   Option.bind (ix l i) fun x1 =>
   Option.bind (ix l i) fun x2 =>
   Option.bind (ix l i) fun x3 =>
   gb (!(!decide (x3.Kind=4))) (zCV c l (⟨x.Case,x1.Round,x2.Finding⟩:zF)) fun y =>
   gb (!(!decide (x3.Kind=4))) (yl c) fun y1 =>
   if ((!decide (x3.Kind=4))||(decide (y<y1))) then
    Yf i l6
   else
    Lp (yj i l6 x x1 x2) fuel 0
  else
   ((zBN l6).map Sum.inr)
def yN (c:zG) (l:(List zA)):Option (List zF) :=
 Lp (Qv c l) fuel (0,[])
def zCa (w:zI) (l:(List zA)):Option (List zF) :=
 Option.bind (yN w.C l) fun y =>
 some y
def zAH (i:Int) (l1:(List zA)):Option ((Int×(List zA)) ⊕ (List zF)) :=
 some (.inl (w64 (i+1),l1))
def QU (w:zI) (arbiter:Int):(Int×(List zA))→Option ((Int×(List zA)) ⊕ (List zF))
 | (i,l3) =>
  if decide (i<(w.Got.length:Int)) then
   Option.bind (ix w.Got i) fun x =>
   if decide (x.To=arbiter) then
    Option.bind (ix w.Got i) fun x1 =>
    Option.bind (app l3 ([x1])) fun l2 =>
    zAH i l2
   else
    zAH i l3
  else
   ((zCa w l3).map Sum.inr)
def zCb (w:zI) (arbiter:Int):Option (List zF) :=
 Lp (QU w arbiter) fuel (0,[])
def yZ (c:zG) (round:Int):Option Int :=
 if ((!decide ((za c)=0))||(!(zP round 1 1048576))) then
  some 0
 else
  Option.bind (rem (w64 (round - 1)) c.Arbiters) fun q =>
  some q
def yw (c:zG) (l:zA):Option Bool :=
 if (((((((!decide ((za c)=0))||(!(zZ l.Case)))||(!(zP l.Round 1 1048576)))||(!(zN c l.From)))||(!(zN c l.To)))||(!(zP l.ID 0 1099511627776)))||(!(Zd l.Finding))) then
  some false
 else
  Option.bind (yZ c l.Round) fun y =>
  if decide (l.Kind=1) then
   some (((decide (l.From=y))&&(decide (l.Voted=0)))&&(decide (l.Finding=0)))
  else
   if decide (l.Kind=2) then
    some (((decide (l.To=y))&&(zP l.Voted 0 (w64 (l.Round - 1))))&&((decide (0<l.Voted))||(decide (l.Finding=0))))
   else
    if decide (l.Kind=3) then
     some ((decide (l.From=y))&&(decide (l.Voted=0)))
    else
     if decide (l.Kind=4) then
      some (decide (l.Voted=0))
     else
      some false
def Qh (x:zA) (c:zG):Option Bool :=
 Option.bind (yw c x) fun y =>
 some (!y)
def zy : Option Int :=
 some (-1)
def Ze (s:(List zA)) (c:zG):Int→Option (Int ⊕ Int)
 | x1 =>
  if decide (x1<(s.length:Int)) then
   Option.bind (ix s x1) fun x =>
   Option.bind (Qh x c) fun y =>
   if y then
    some (.inr x1)
   else
    some (.inl (w64 (x1+1)))
  else
   ((zy).map Sum.inr)
def ZH (s:(List zA)) (c:zG):Option Int :=
 Lp (Ze s c) fuel 0
def Zf (s:(List zA)) (c:zG):Option Bool :=
 Option.bind (ZH s c) fun y =>
 some (decide (0≤y))
def YA (c:zG) (l:(List zA)):Option Int :=
 if !decide ((za c)=0) then
  some (za c)
 else
  if decide (2000<(l.length:Int)) then
   some 2
  else
   Option.bind (Zf l c) fun y =>
   if y then
    some 7
   else
    some 0
def zK (l:zA):zA :=
 (⟨0,l.Case,l.Kind,l.Round,l.From,0,l.Voted,l.Finding⟩:zA)
def YF (ID:Int) (Case:Int) (Kind:Int) (Round:Int) (From:Int) (To:Int) (Voted:Int) (Finding:Int):Option zA :=
 some (⟨ID,Case,Kind,Round,From,To,Voted,Finding⟩:zA)
def yD (x1:Int) (ID1:Int) (Case1:Int) (Kind1:Int) (Round1:Int) (From1:Int) (To1:Int) (Voted1:Int) (Finding1:Int):Option ((Int×Int×Int×Int×Int×Int×Int×Int×Int) ⊕ zA) :=
 some (.inl (w64 (x1+1),ID1,Case1,Kind1,Round1,From1,To1,Voted1,Finding1))
def YG (l:(List zA)) (arbiter:Int):(Int×Int×Int×Int×Int×Int×Int×Int×Int)→Option ((Int×Int×Int×Int×Int×Int×Int×Int×Int) ⊕ zA)
 | (x1,ID2,Case2,Kind2,Round2,From2,To2,Voted2,Finding2) =>
  if decide (x1<(l.length:Int)) then
   Option.bind (ix l x1) fun x =>
   if (((decide (x.Kind=4))&&(decide (x.From=arbiter)))&&(decide (Round2<x.Round))) then
    yD x1 x.ID x.Case x.Kind x.Round x.From x.To x.Voted x.Finding
   else
    yD x1 ID2 Case2 Kind2 Round2 From2 To2 Voted2 Finding2
  else
   ((YF ID2 Case2 Kind2 Round2 From2 To2 Voted2 Finding2).map Sum.inr)
def Qj (l:(List zA)) (arbiter:Int):Option zA :=
 Lp (YG l arbiter) fuel (0,0,0,0,0,0,0,0,0)
def jO (y:zA) (c:zA):Bool :=
 ((decide (y.Kind=1))&&(decide (y.Round=c.Round)))
def zu : Option Int :=
 some (-1)
def ZR (s:(List zA)) (c:zA):Int→Option (Int ⊕ Int)
 | x1 =>
  if decide (x1<(s.length:Int)) then
   Option.bind (ix s x1) fun x =>
   if (jO x c) then
    some (.inr x1)
   else
    some (.inl (w64 (x1+1)))
  else
   ((zu).map Sum.inr)
def Zm (s:(List zA)) (c:zA):Option Int :=
 Lp (ZR s c) fuel 0
def ZX (s:(List zA)) (c:zA):Option Bool :=
 Option.bind (Zm s c) fun y =>
 some (decide (0≤y))
def Zz (c:zA) (c1:(List zA)):Option Bool :=
 Option.bind (ZX c1 c) fun y =>
 some y
def jB (l:zA):Bool :=
 ((decide (l.Kind=2))||(decide (l.Kind=4)))
def jN (y:zA) (c:zA):Bool :=
 (((jB y)&&(decide (y.From=c.From)))&&(decide (c.Round≤y.Round)))
def zt : Option Int :=
 some (-1)
def ZQ (s:(List zA)) (c:zA):Int→Option (Int ⊕ Int)
 | x1 =>
  if decide (x1<(s.length:Int)) then
   Option.bind (ix s x1) fun x =>
   if (jN x c) then
    some (.inr x1)
   else
    some (.inl (w64 (x1+1)))
  else
   ((zt).map Sum.inr)
def Zl (s:(List zA)) (c:zA):Option Int :=
 Lp (ZQ s c) fuel 0
def ZW (s:(List zA)) (c:zA):Option Bool :=
 Option.bind (Zl s c) fun y =>
 some (decide (0≤y))
def Zy (c:zA) (c1:(List zA)):Option Bool :=
 Option.bind (ZW c1 c) fun y =>
 some y
def zH (l:(List zA)) (round:Int):(List zA)×Int :=
 (l,round)
def jD (x3:Int) (m:(List (Int×Bool))) (fresh:Int):Option ((Int×(List (Int×Bool))×Int) ⊕ Bool) :=
 some (.inl (w64 (x3+1),m,fresh))
def jg (x2:Int) (m1:(List (Int×Bool))) (low:Int):Option ((Int×(List (Int×Bool))×Int) ⊕ ((Int×(List (Int×Bool))×Int) ⊕ Bool)) :=
 some (.inl (w64 (x2+1),m1,low))
def jf (x2:Int) (m2:(List (Int×Bool))) (x1:zA) (low1:Int):Option ((Int×(List (Int×Bool))×Int) ⊕ ((Int×(List (Int×Bool))×Int) ⊕ Bool)) :=
 jg x2 (putM posI m2 x1.From true) low1
def jh (c:zG) (l:(List zA)) (round:Int) (n:Int) (x3:Int) (m3:(List (Int×Bool))) (fresh1:Int) (x:zA):(Int×(List (Int×Bool))×Int)→Option ((Int×(List (Int×Bool))×Int) ⊕ ((Int×(List (Int×Bool))×Int) ⊕ Bool))
 | (x2,m2,low2) =>
  if decide (x2<(((zH l round).1).length:Int)) then
   Option.bind (ix ((zH l round).1) x2) fun x1 =>
   if (((!decide (x1.Kind=2))||(!decide (x1.Round=((zH l round).2))))||((zY x1.From m2).getD false)) then
    jg x2 m2 low2
   else
    if decide (x1.Voted≤x.Voted) then
     jf x2 m2 x1 (w64 (low2+1))
    else
     jf x2 m2 x1 low2
  else
   gb ((decide (x.Finding=n))) (jP c) fun y =>
   if ((decide (x.Finding=n))&&(decide (y≤low2))) then
    some (.inr (.inr true))
   else
    ((jD x3 (putM posI m3 x.From true) fresh1).map Sum.inr)
def JI (c:zG) (l:(List zA)) (round:Int) (n:Int):(Int×(List (Int×Bool))×Int)→Option ((Int×(List (Int×Bool))×Int) ⊕ Bool)
 | (x3,m3,fresh1) =>
  if decide (x3<(((zH l round).1).length:Int)) then
   Option.bind (ix ((zH l round).1) x3) fun x =>
   if (((!decide (x.Kind=2))||(!decide (x.Round=((zH l round).2))))||((zY x.From m3).getD false)) then
    jD x3 m3 fresh1
   else
    if decide (x.Voted=0) then
     jD x3 (putM posI m3 x.From true) (w64 (fresh1+1))
    else
     Lp (jh c l round n x3 m3 fresh1 x) fuel (0,[],0)
  else
   Option.bind (jP c) fun y1 =>
   some (.inr (decide (y1≤fresh1)))
def J3 (c:zG) (l:(List zA)) (round:Int) (n:Int):Option Bool :=
 Lp (JI c l round n) fuel (0,[],0)
def jM (y:zA) (c:zA):Bool :=
 ((decide (y.Kind=3))&&(decide (y.Round=c.Round)))
def zq : Option Int :=
 some (-1)
def ZP (s:(List zA)) (c:zA):Int→Option (Int ⊕ Int)
 | x1 =>
  if decide (x1<(s.length:Int)) then
   Option.bind (ix s x1) fun x =>
   if (jM x c) then
    some (.inr x1)
   else
    some (.inl (w64 (x1+1)))
  else
   ((zq).map Sum.inr)
def Zk (s:(List zA)) (c:zA):Option Int :=
 Lp (ZP s c) fuel 0
def ZV (s:(List zA)) (c:zA):Option Bool :=
 Option.bind (Zk s c) fun y =>
 some (decide (0≤y))
def Zx (c:zA) (c1:(List zA)):Option Bool :=
 Option.bind (ZV c1 c) fun y =>
 some y
def Z9 (y:zA) (c:zA):Bool :=
 (((decide (y.Kind=3))&&(decide (y.Round=c.Round)))&&(decide (y.Finding=c.Finding)))
def zo : Option Int :=
 some (-1)
def ZO (s:(List zA)) (c:zA):Int→Option (Int ⊕ Int)
 | x1 =>
  if decide (x1<(s.length:Int)) then
   Option.bind (ix s x1) fun x =>
   if (Z9 x c) then
    some (.inr x1)
   else
    some (.inl (w64 (x1+1)))
  else
   ((zo).map Sum.inr)
def Zj (s:(List zA)) (c:zA):Option Int :=
 Lp (ZO s c) fuel 0
def ZU (s:(List zA)) (c:zA):Option Bool :=
 Option.bind (Zj s c) fun y =>
 some (decide (0≤y))
def Zw (c:zA) (c1:(List zA)):Option Bool :=
 Option.bind (ZU c1 c) fun y =>
 some y
def Z8 (y:zA) (c:zA):Bool :=
 (((jB y)&&(decide (y.From=c.From)))&&((decide (c.Round<y.Round))||((decide (y.Kind=4))&&(decide (y.Round=c.Round)))))
def zn : Option Int :=
 some (-1)
def ZN (s:(List zA)) (c:zA):Int→Option (Int ⊕ Int)
 | x1 =>
  if decide (x1<(s.length:Int)) then
   Option.bind (ix s x1) fun x =>
   if (Z8 x c) then
    some (.inr x1)
   else
    some (.inl (w64 (x1+1)))
  else
   ((zn).map Sum.inr)
def Zi (s:(List zA)) (c:zA):Option Int :=
 Lp (ZN s c) fuel 0
def ZT (s:(List zA)) (c:zA):Option Bool :=
 Option.bind (Zi s c) fun y =>
 some (decide (0≤y))
def Zv (c:zA) (c1:(List zA)):Option Bool :=
 Option.bind (ZT c1 c) fun y =>
 some y
def Yc (c:zG) (l:(List zA)) (x:zA):Option Bool :=
 if decide (x.Kind=2) then
  Option.bind (Qj l x.From) fun y =>
  gb ((((decide (x.Voted=y.Round))&&(decide (x.Finding=y.Finding))))) (Zz x l) fun y1 =>
  gb (((((decide (x.Voted=y.Round))&&(decide (x.Finding=y.Finding)))&&y1))) (Zy x l) fun y2 =>
  some ((((decide (x.Voted=y.Round))&&(decide (x.Finding=y.Finding)))&&y1)&&(!y2))
 else
  if decide (x.Kind=3) then
   Option.bind (J3 c l x.Round x.Finding) fun y3 =>
   gb ((y3)) (Zx x l) fun y4 =>
   some (y3&&(!y4))
  else
   if decide (x.Kind=4) then
    Option.bind (Zw x l) fun y5 =>
    gb ((y5)) (Zv x l) fun y6 =>
    some (y5&&(!y6))
   else
    some true
def JC (at_:Int):Option (Int×Bool×Int) :=
 some (at_,decide (at_<0),0)
def Jc (x1:Int) (m:(List (zA×Bool))) (m1:(List (Int×(List zA)))):Option ((Int×(List (zA×Bool))×(List (Int×(List zA)))) ⊕ (Int×Bool×Int)) :=
 some (.inl (w64 (x1+1),m,m1))
def yL (c:zG) (l:(List zA)):(Int×(List (zA×Bool))×(List (Int×(List zA))))→Option ((Int×(List (zA×Bool))×(List (Int×(List zA)))) ⊕ (Int×Bool×Int))
 | (x1,m2,m3) =>
  if decide (x1<(l.length:Int)) then
   Option.bind (ix l x1) fun x =>
   if ((zY (zK x) m2).getD false) then
    Jc x1 m2 m3
   else
    Option.bind (Yc c ((zY x.Case m3).getD []) x) fun y1 =>
    if !y1 then
     ((JC x1).map Sum.inr)
    else
     Option.bind (app ((zY x.Case m3).getD []) [x]) fun l1 =>
     Jc x1 (putM posE m2 (zK x) true) (putM posI m3 x.Case l1)
  else
   ((JC (-1)).map Sum.inr)
def Yd (c:zG) (l:(List zA)):Option (Int×Bool×Int) :=
 Option.bind (YA c l) fun y =>
 if !decide (y=0) then
  some (0,false,y)
 else
  Lp (yL c l) fuel (0,[],[])
def YH (c:zG) (l:(List zA)):Option ((List zF)×Int) :=
 Option.bind (YA c l) fun y =>
 if !decide (y=0) then
  some ([],y)
 else
  Option.bind (jY c l) fun y1 =>
  some (y1,0)
def Jf (x:zA) (c:Int):Bool :=
 !decide (x.Case=c)
def zw : Option Int :=
 some (-1)
def ZZ (s:(List zA)) (c:Int):Int→Option (Int ⊕ Int)
 | x1 =>
  if decide (x1<(s.length:Int)) then
   Option.bind (ix s x1) fun x =>
   if (Jf x c) then
    some (.inr x1)
   else
    some (.inl (w64 (x1+1)))
  else
   ((zw).map Sum.inr)
def ZA (s:(List zA)) (c:Int):Option Int :=
 Lp (ZZ s c) fuel 0
def jw (arbiter:Int) (x:(List zA)):Option (Int×Int×Int) :=
 Option.bind (Qj x arbiter) fun y1 =>
 some (y1.Round,y1.Finding,0)
def yu (arbiter:Int) (i:Int) (l2:(List zA)):Option (Int×Int×Int) :=
 Option.bind (sub l2 i (l2.length:Int)) fun l3 =>
 Option.bind (clrE l2 i (⟨0,0,0,0,0,0,0,0⟩:zA)) fun l4 =>
 Option.bind (sub l4 0 i) fun l5 =>
 jw arbiter l5
def Jv (j:Int) (i1:Int) (l6:(List zA)):Option ((Int×Int×(List zA)) ⊕ (Int×Int×Int)) :=
 some (.inl (i1,w64 (j+1),l6))
def Yp (arbiter:Int) (id:Int):(Int×Int×(List zA))→Option ((Int×Int×(List zA)) ⊕ (Int×Int×Int))
 | (i2,j,l7) =>
  if decide (j<(l7.length:Int)) then
   Option.bind (ix l7 j) fun x1 =>
   if !(Jf x1 id) then
    Option.bind (ix l7 i2) fun x2 =>
    Jv j (w64 (i2+1)) (put l7 i2 x1)
   else
    Jv j i2 l7
  else
   ((yu arbiter i2 l7).map Sum.inr)
def Y4 (c:zG) (l:(List zA)) (arbiter:Int) (id:Int):Option (Int×Int×Int) :=
 Option.bind (YA c l) fun y =>
 if !decide (y=0) then
  some (0,0,y)
 else
  if ((!(zN c arbiter))||(!(zZ id))) then
   some (0,0,1)
  else
   Option.bind (app [] l) fun l1 =>
   Option.bind (ZA l1 id) fun y2 =>
   if decide (y2=(-1)) then
    jw arbiter l1
   else
    Lp (Yp arbiter id) fuel (y2,w64 (y2+1),l1)
def QJ (c:zG) (round:Int):Option Int :=
 if ((!decide ((Jm c)=0))||(!(JG round 1 1048576))) then
 some 0
 else
 Option.bind (rem (w64 (round - 1)) c.Arbiters) fun q =>
 some q
def zBs (c:zG) (l:zA):Option Bool :=
 if (((((((!decide ((Jm c)=0))||(!(JG l.ID 0 1099511627776)))||(!(JG l.Case 1 1099511627776)))||(!(JG l.Round 1 1048576)))||(!(JG l.From 0 (w64 (c.Arbiters - 1)))))||(!(JG l.To 0 (w64 (c.Arbiters - 1)))))||(!(JG l.Finding 0 65536))) then
 some false
 else
 if decide (l.Kind=1) then
 Option.bind (QJ c l.Round) fun y =>
 some (((decide (l.From=y))&&(decide (l.Voted=0)))&&(decide (l.Finding=0)))
 else
 if decide (l.Kind=2) then
  Option.bind (QJ c l.Round) fun y1 =>
  some (((decide (l.To=y1))&&(JG l.Voted 0 (w64 (l.Round - 1))))&&((decide (0<l.Voted))||(decide (l.Finding=0))))
 else
  if decide (l.Kind=3) then
  Option.bind (QJ c l.Round) fun y2 =>
  some ((decide (l.From=y2))&&(decide (l.Voted=0)))
  else
  some ((decide (l.Kind=4))&&(decide (l.Voted=0)))
def zCC : Option Int :=
 some 0
def Y5 (c:zG) (l:(List zA)):Int→Option (Int ⊕ Int)
 | i =>
 if decide (i<(l.length:Int)) then
 Option.bind (ix l i) fun x =>
 Option.bind (zBs c x) fun y =>
 if !y then
  some (.inr 7)
 else
  some (.inl (w64 (i+1)))
 else
 ((zCC).map Sum.inr)
def qZ (c:zG) (l:(List zA)):Option Int :=
 if !decide ((Jm c)=0) then
 some (Jm c)
 else
 if decide (2000<(l.length:Int)) then
 some 2
 else
 Lp (Y5 c l) fuel 0
def jU (a:zA) (b:zA):Bool :=
 ((((((decide (a.Case=b.Case))&&(decide (a.Kind=b.Kind)))&&(decide (a.Round=b.Round)))&&(decide (a.From=b.From)))&&(decide (a.Voted=b.Voted)))&&(decide (a.Finding=b.Finding)))
def zDX (round:Int) (finding:Int):Option (Int×Int) :=
 some (round,finding)
def zA5 (i:Int) (round1:Int) (finding1:Int):Option ((Int×Int×Int) ⊕ (Int×Int)) :=
 some (.inl (round1,finding1,w64 (i+1)))
def zA6 (l:(List zA)) (arbiter:Int) (id:Int):(Int×Int×Int)→Option ((Int×Int×Int) ⊕ (Int×Int))
 | (round2,finding2,i) =>
 if decide (i<(l.length:Int)) then
 Option.bind (ix l i) fun x =>
 gb ((decide (x.Kind=4))) (ix l i) fun x1 =>
 gb ((((decide (x.Kind=4))&&(decide (x1.Case=id))))) (ix l i) fun x2 =>
 gb (((((decide (x.Kind=4))&&(decide (x1.Case=id)))&&(decide (x2.From=arbiter))))) (ix l i) fun x3 =>
 if ((((decide (x.Kind=4))&&(decide (x1.Case=id)))&&(decide (x2.From=arbiter)))&&(decide (round2<x3.Round))) then
  Option.bind (ix l i) fun x4 =>
  Option.bind (ix l i) fun x5 =>
  zA5 i x4.Round x5.Finding
 else
  zA5 i round2 finding2
 else
 ((zDX round2 finding2).map Sum.inr)
def zDw (l:(List zA)) (arbiter:Int) (id:Int):Option (Int×Int) :=
 Lp (zA6 l arbiter id) fuel (0,0,0)
def zCW : Option Bool :=
 some false
def zAC (l:(List zA)) (kind:Int) (id:Int) (round:Int):Int→Option (Int ⊕ Bool)
 | i =>
 if decide (i<(l.length:Int)) then
 Option.bind (ix l i) fun x =>
 gb ((decide (x.Kind=kind))) (ix l i) fun x1 =>
 gb ((((decide (x.Kind=kind))&&(decide (x1.Case=id))))) (ix l i) fun x2 =>
 if (((decide (x.Kind=kind))&&(decide (x1.Case=id)))&&(decide (x2.Round=round))) then
  some (.inr true)
 else
  some (.inl (w64 (i+1)))
 else
 ((zCW).map Sum.inr)
def zAg (l:(List zA)) (kind:Int) (id:Int) (round:Int):Option Bool :=
 Lp (zAC l kind id round) fuel 0
def zKs (l:zA) (arbiter:Int) (id:Int):Bool :=
 (((decide (l.Case=id))&&(decide (l.From=arbiter)))&&((decide (l.Kind=2))||(decide (l.Kind=4))))
def zCB (n:Int):Option Int :=
 some n
def qH (i:Int) (n1:Int):Option ((Int×Int) ⊕ Int) :=
 some (.inl (n1,w64 (i+1)))
def qI (l:(List zA)) (arbiter:Int) (id:Int):(Int×Int)→Option ((Int×Int) ⊕ Int)
 | (n2,i) =>
 if decide (i<(l.length:Int)) then
 Option.bind (ix l i) fun x =>
 if (zKs x arbiter id) then
  Option.bind (ix l i) fun x1 =>
  qH i (max n2 x1.Round)
 else
  qH i n2
 else
 ((zCB n2).map Sum.inr)
def qY (l:(List zA)) (arbiter:Int) (id:Int):Option Int :=
 Lp (qI l arbiter id) fuel (0,0)
def zEO (l1:(List zA)):Option (List zA) :=
 some l1
def zAi (a:Int) (l2:(List zA)):Option ((Int×(List zA)) ⊕ (List zA)) :=
 some (.inl (w64 (a+1),l2))
def QR (i:Int) (found:Bool) (l3:(List zA)):Option ((Bool×Int×(List zA)) ⊕ ((Int×(List zA)) ⊕ (List zA))) :=
 some (.inl (found,w64 (i+1),l3))
def JX (l:(List zA)) (id:Int) (round:Int) (a:Int):(Bool×Int×(List zA))→Option ((Bool×Int×(List zA)) ⊕ ((Int×(List zA)) ⊕ (List zA)))
 | (found1,i,l5) =>
 if ((decide (i<(l.length:Int)))&&(!found1)) then
 Option.bind (ix l i) fun x =>
 gb ((decide (x.Kind=2))) (ix l i) fun x1 =>
 gb ((((decide (x.Kind=2))&&(decide (x1.Case=id))))) (ix l i) fun x2 =>
 gb (((((decide (x.Kind=2))&&(decide (x1.Case=id)))&&(decide (x2.Round=round))))) (ix l i) fun x3 =>
 if ((((decide (x.Kind=2))&&(decide (x1.Case=id)))&&(decide (x2.Round=round)))&&(decide (x3.From=a))) then
  Option.bind (ix l i) fun x4 =>
  Option.bind (app l5 ([x4])) fun l4 =>
  QR i true l4
 else
  QR i found1 l5
 else
 ((zAi a l5).map Sum.inr)
def YP (c:zG) (l:(List zA)) (id:Int) (round:Int):(Int×(List zA))→Option ((Int×(List zA)) ⊕ (List zA))
 | (a,l6) =>
 if decide (a<c.Arbiters) then
 Lp (JX l id round a) fuel (false,0,l6)
 else
 ((zEO l6).map Sum.inr)
def zAE (c:zG) (l:(List zA)) (id:Int) (round:Int):Option (List zA) :=
 Lp (YP c l id round) fuel (0,[])
def zDU (n:Int):Option Int :=
 some n
def zAx (i:Int) (n1:Int):Option ((Int×Int) ⊕ Int) :=
 some (.inl (n1,w64 (i+1)))
def zAy (l:(List zA)) (round:Int):(Int×Int)→Option ((Int×Int) ⊕ Int)
 | (n2,i) =>
 if decide (i<(l.length:Int)) then
 Option.bind (ix l i) fun x =>
 if decide (x.Voted≤round) then
  zAx i (w64 (n2+1))
 else
  zAx i n2
 else
 ((zDU n2).map Sum.inr)
def zBp (l:(List zA)) (round:Int):Option Int :=
 Lp (zAy l round) fuel (0,0)
def qR : Option Bool :=
 some false
def Yt (p:(List zA)) (finding:Int) (y:Int):Int→Option (Int ⊕ Bool)
 | i =>
 if decide (i<(p.length:Int)) then
 Option.bind (ix p i) fun x =>
 gb ((decide (0<x.Voted))) (ix p i) fun x1 =>
 gb ((((decide (0<x.Voted))&&(decide (x1.Finding=finding))))) (ix p i) fun x2 =>
 gb ((((decide (0<x.Voted))&&(decide (x1.Finding=finding))))) (zBp p x2.Voted) fun y2 =>
 if (((decide (0<x.Voted))&&(decide (x1.Finding=finding)))&&(decide (y≤y2))) then
  some (.inr true)
 else
  some (.inl (w64 (i+1)))
 else
 ((qR).map Sum.inr)
def Qw (c:zG) (p:(List zA)) (finding:Int):Option Bool :=
 Option.bind (yl c) fun y =>
 Option.bind (zBp p 0) fun y1 =>
 if decide (y≤y1) then
 some true
 else
 Lp (Yt p finding y) fuel 0
def zAh : Option (Int×Bool) :=
 some (0,false)
def YO (l:(List zA)) (id:Int) (round:Int):Int→Option (Int ⊕ (Int×Bool))
 | i =>
 if decide (i<(l.length:Int)) then
 Option.bind (ix l i) fun x =>
 gb ((decide (x.Kind=3))) (ix l i) fun x1 =>
 gb ((((decide (x.Kind=3))&&(decide (x1.Case=id))))) (ix l i) fun x2 =>
 if (((decide (x.Kind=3))&&(decide (x1.Case=id)))&&(decide (x2.Round=round))) then
  Option.bind (ix l i) fun x3 =>
  some (.inr (x3.Finding,true))
 else
  some (.inl (w64 (i+1)))
 else
 ((zAh).map Sum.inr)
def zAD (l:(List zA)) (id:Int) (round:Int):Option (Int×Bool) :=
 Lp (YO l id round) fuel 0
def qJ (c:zG) (l:(List zA)) (x:zA):Option Bool :=
 if decide (x.Kind=1) then
 some true
 else
 Option.bind (zDw l x.From x.Case) fun y =>
 if decide (x.Kind=2) then
 Option.bind (zAg l 1 x.Case x.Round) fun y1 =>
 gb ((y1)) (qY l x.From x.Case) fun y2 =>
 some (((y1&&(decide (y2<x.Round)))&&(decide (x.Voted=y.1)))&&(decide (x.Finding=y.2)))
 else
 if decide (x.Kind=3) then
  Option.bind (zAg l 3 x.Case x.Round) fun y3 =>
  gb ((!y3)) (zAE c l x.Case x.Round) fun y4 =>
  gb ((!y3)) (Qw c y4 x.Finding) fun y5 =>
  some ((!y3)&&y5)
 else
  Option.bind (zAD l x.Case x.Round) fun y6 =>
  gb (((y6.2&&(decide (y6.1=x.Finding))))) (qY l x.From x.Case) fun y7 =>
  some (((y6.2&&(decide (y6.1=x.Finding)))&&(decide (y7≤x.Round)))&&(decide (y.1<x.Round)))
def Y6 (c:zG) (l:(List zA)) (x:zA):Int→Option (Int ⊕ Bool)
 | i =>
 if decide (i<(l.length:Int)) then
 Option.bind (ix l i) fun x1 =>
 if (jU x1 x) then
  some (.inr true)
 else
  some (.inl (w64 (i+1)))
 else
 ((qJ c l x).map Sum.inr)
def zBr (c:zG) (l:(List zA)) (x:zA):Option Bool :=
 Lp (Y6 c l x) fuel 0
def zCE : Option (Int×Bool×Int) :=
 some ((-1),true,0)
def Y7 (c:zG) (l:(List zA)):Int→Option (Int ⊕ (Int×Bool×Int))
 | i =>
 if decide (i<(l.length:Int)) then
 Option.bind (sub l 0 i) fun l1 =>
 Option.bind (ix l i) fun x =>
 Option.bind (zBr c l1 x) fun y1 =>
 if !y1 then
  some (.inr (i,false,0))
 else
  some (.inl (w64 (i+1)))
 else
 ((zCE).map Sum.inr)
def zEQ (c:zG) (l:(List zA)):Option (Int×Bool×Int) :=
 Option.bind (qZ c l) fun y =>
 if !decide (y=0) then
 some (0,false,y)
 else
 Lp (Y7 c l) fuel 0
structure zCZ where
 L:(List zF)
 E:Int
 deriving DecidableEq,Inhabited
def zDY (c:zG) (l:(List zA)):Option zCZ :=
 Option.bind (qZ c l) fun y =>
 if !decide (y=0) then
 some (⟨[],y⟩:zCZ)
 else
 Option.bind (yN c l) fun y1 =>
 some (⟨y1,0⟩:zCZ)
end Go.Mx
