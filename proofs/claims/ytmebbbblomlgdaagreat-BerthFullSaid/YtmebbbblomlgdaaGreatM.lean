/- Functions of the program as plain functions. Conditions: none. Printed by a program (wip/tools/xg.py). -/
import Derived.Test.YtmebbbblomlgdaaGreatXl
set_option linter.unusedVariables false
namespace Go.Mx
structure zX where
 ID:Int
 Begin:Int
 Every:Int
 Heights:(List Int)
 deriving DecidableEq,Inhabited
structure jP where
 From:Int
 To:Int
 Add:Int
 deriving DecidableEq,Inhabited
structure zO where
 Level:Int
 Cycles:(List zX)
 Shifts:(List jP)
 deriving DecidableEq,Inhabited
structure zT where
 ID:Int
 Depth:Int
 deriving DecidableEq,Inhabited
structure zC where
 Lo:Int
 Hi:Int
 deriving DecidableEq,Inhabited
structure zG where
 Water:zO
 Berths:(List zT)
 Tides:(List zC)
 Keel:Int
 deriving DecidableEq,Inhabited
structure zJ where
 ID:Int
 Draught:Int
 From:Int
 To:Int
 Long:Int
 deriving DecidableEq,Inhabited
structure zB where
 Tide:Int
 Berth:Int
 deriving DecidableEq,Inhabited
structure zZ where
 Calls:(List Int)
 Slots:(List zB)
 deriving DecidableEq,Inhabited
def zAM (h:zG):Option Bool :=
 some ((((decide ((h.Water.Cycles.length:Int)≤8))&&(decide ((h.Water.Shifts.length:Int)≤25)))&&(decide ((h.Berths.length:Int)≤10)))&&((decide ((h.Tides.length:Int)≤3))||((decide (12<(h.Tides.length:Int)))&&(decide ((h.Tides.length:Int)≤20)))))
def zAN (h:zG):Int→Option (Int ⊕ Bool)
 | i =>
  if decide (i<(h.Tides.length:Int)) then
   Option.bind (ix h.Tides i) fun x =>
   Option.bind (ix h.Tides i) fun x1 =>
   if ((decide (240≤(w64 (x.Hi - x1.Lo))))&&(decide ((w64 (x.Hi - x1.Lo))<1440))) then
    some (.inr false)
   else
    some (.inl (w64 (i+1)))
  else
   ((zAM h).map Sum.inr)
def zBF (h:zG):Option Bool :=
 Lp (zAN h) fuel 0
def zBn (l:(List zJ)) (most:Int):Bool :=
 ((decide ((l.length:Int)≤most))||((decide (10<(l.length:Int)))&&(decide ((l.length:Int)≤20))))
def ZP : zG :=
 (⟨(⟨500,[(⟨1,0,60,[0,100,200,100]⟩:zX)],[]⟩:zO),[(⟨1,300⟩:zT),(⟨2,100⟩:zT)],[(⟨0,239⟩:zC),(⟨240,479⟩:zC)],50⟩:zG)
def zb (n:Int) (lo:Int) (hi:Int):Bool :=
 ((decide (lo≤n))&&(decide (n≤hi)))
def Zn (n:Int):Bool :=
 (zb n (-4000) 4000)
def jg (tick:Int):Bool :=
 (zb tick 0 1048576)
def jb (h:Int):Bool :=
 !(Zn h)
def Zo : Option Int :=
 some (-1)
def jG (s:(List Int)):Int→Option (Int ⊕ Int)
 | x1 =>
  if decide (x1<(s.length:Int)) then
   Option.bind (ix s x1) fun x =>
   if (jb x) then
    some (.inr x1)
   else
    some (.inl (w64 (x1+1)))
  else
   ((Zo).map Sum.inr)
def Zc (s:(List Int)):Option Int :=
 Lp (jG s) fuel 0
def ZC (s:(List Int)):Option Bool :=
 Option.bind (Zc s) fun y =>
 some (decide (0≤y))
def qL (c:zX):Option Bool :=
 gb ((((((zb c.ID 1 1099511627776)&&(jg c.Begin))&&(zb c.Every 1 120))&&(zb (c.Heights.length:Int) 1 60)))) (ZC c.Heights) fun y =>
 some (((((zb c.ID 1 1099511627776)&&(jg c.Begin))&&(zb c.Every 1 120))&&(zb (c.Heights.length:Int) 1 60))&&(!y))
def YL (x:zX) (c:zX):Bool :=
 decide (x.ID=c.ID)
def ZW : Option Int :=
 some (-1)
def ZJ (s:(List zX)) (c:zX):Int→Option (Int ⊕ Int)
 | x1 =>
  if decide (x1<(s.length:Int)) then
   Option.bind (ix s x1) fun x =>
   if (YL x c) then
    some (.inr x1)
   else
    some (.inl (w64 (x1+1)))
  else
   ((ZW).map Sum.inr)
def zq (s:(List zX)) (c:zX):Option Int :=
 Lp (ZJ s c) fuel 0
def zy (s:(List zX)) (c:zX):Option Bool :=
 Option.bind (zq s c) fun y =>
 some (decide (0≤y))
def zAm : Option Int :=
 some 0
def Qw (w:zO):(Int×Int)→Option ((Int×Int) ⊕ Int)
 | (last,x1) =>
  if decide (x1<(w.Shifts.length:Int)) then
   Option.bind (ix w.Shifts x1) fun x =>
   if (((!(zb x.From (w64 (last+1)) x.To))||(decide (728<x.To)))||(!(Zn x.Add))) then
    some (.inr 1)
   else
    some (.inl (x.To,w64 (x1+1)))
  else
   ((zAm).map Sum.inr)
def Jm (w:zO):Option Int :=
 Lp (Qw w) fuel ((-1),0)
def Qv (w:zO):Int→Option (Int ⊕ Int)
 | x3 =>
  if decide (x3<(w.Cycles.length:Int)) then
   Option.bind (ix w.Cycles x3) fun x2 =>
   Option.bind (qL x2) fun y =>
   if !y then
    some (.inr 1)
   else
    Option.bind (sub w.Cycles 0 x3) fun l =>
    Option.bind (zy l x2) fun y1 =>
    if y1 then
     some (.inr 6)
    else
     some (.inl (w64 (x3+1)))
  else
   ((Jm w).map Sum.inr)
def YM (w:zO):Option Int :=
 if !(Zn w.Level) then
  some 1
 else
  if ((decide (6<(w.Cycles.length:Int)))||(decide (20<(w.Shifts.length:Int)))) then
   some 2
  else
   Lp (Qv w) fuel 0
def zu (n:Int) (lo:Int) (hi:Int):Bool :=
 ((decide (lo≤n))&&(decide (n≤hi)))
def qB (b:zT):Int :=
 b.ID
def Zk (x:zT) (c:Int):Bool :=
 decide ((qB x)=c)
def zg : Option Int :=
 some (-1)
def zW (s:(List zT)) (c:Int):Int→Option (Int ⊕ Int)
 | x1 =>
  if decide (x1<(s.length:Int)) then
   Option.bind (ix s x1) fun x =>
   if (Zk x c) then
    some (.inr x1)
   else
    some (.inl (w64 (x1+1)))
  else
   ((zg).map Sum.inr)
def zi (s:(List zT)) (c:Int):Option Int :=
 Lp (zW s c) fuel 0
def zn (l:(List zT)) (id:Int):Option Int :=
 Option.bind (zi l id) fun y =>
 some y
def JI (s:zC):Bool :=
 ((((decide (0≤s.Lo))&&(decide (s.Lo≤s.Hi)))&&(decide (s.Hi≤1048576)))&&(decide ((w64 (s.Hi - s.Lo))<1440)))
def QP (h:zG):Option Int :=
 if !(zu h.Keel 0 8000) then
  some 1
 else
  some 0
def zAT (h:zG):(Int×Int)→Option ((Int×Int) ⊕ Int)
 | (last,x1) =>
  if decide (x1<(h.Tides.length:Int)) then
   Option.bind (ix h.Tides x1) fun x =>
   if ((!(JI x))||(decide (x.Lo≤last))) then
    some (.inr 1)
   else
    some (.inl (x.Hi,w64 (x1+1)))
  else
   ((QP h).map Sum.inr)
def QQ (h:zG):Option Int :=
 Lp (zAT h) fuel ((-1),0)
def zAS (h:zG):Int→Option (Int ⊕ Int)
 | x3 =>
  if decide (x3<(h.Berths.length:Int)) then
   Option.bind (ix h.Berths x3) fun x2 =>
   if ((!(zu x2.ID 1 1099511627776))||(!(zu x2.Depth 0 8000))) then
    some (.inr 1)
   else
    Option.bind (zn h.Berths x2.ID) fun y1 =>
    if decide (y1<x3) then
     some (.inr 6)
    else
     some (.inl (w64 (x3+1)))
  else
   ((QQ h).map Sum.inr)
def yG (h:zG):Option Int :=
 Option.bind (YM h.Water) fun y =>
 if !decide (y=0) then
  some y
 else
  if ((decide (6<(h.Berths.length:Int)))||(decide (12<(h.Tides.length:Int)))) then
   some 2
  else
   Lp (zAS h) fuel 0
def zC1 (w:zO):Option zO:=if w.Cycles.length≤9223372036854775807 then some w else none
def QV (w:zO):Option (zO×zO) :=
 Option.bind (zC1 w) fun y =>
 some (w,y)
def YJ : Option Int :=
 some 0
def YK (w:zO) (tick:Int):Int→Option (Int ⊕ Int)
 | x1 =>
  if decide (x1<(w.Shifts.length:Int)) then
   Option.bind (ix w.Shifts x1) fun x =>
   Option.bind (quo tick 1440) fun q =>
   if (zb q x.From x.To) then
    some (.inr x.Add)
   else
    some (.inl (w64 (x1+1)))
  else
   ((YJ).map Sum.inr)
def Ya (w:zO) (tick:Int):Option Int :=
 Lp (YK w tick) fuel 0
def zBb (tick:Int) (c:zO):Option Int :=
 Option.bind (Ya c tick) fun y =>
 some y
def zAc (a:Int) (b:Int):Option (Int×Int) :=
 Option.bind (rem a b) fun q =>
 Option.bind (rem (w64 (q+b)) b) fun q1 =>
 Option.bind (quo (w64 (a - q1)) b) fun q2 =>
 some (q2,q1)
def zBq (c:zX) (tick:Int):Option Int :=
 Option.bind (zAc (w64 (tick - c.Begin)) c.Every) fun y =>
 Option.bind (zAc y.1 (c.Heights.length:Int)) fun y1 =>
 Option.bind (ix c.Heights y1.2) fun x =>
 some x
def zBa (tick:Int) (c:zX):Option Int :=
 Option.bind (zBq c tick) fun y =>
 some y
def Yx (h:Int):Option Int :=
 some h
def Yy (tick:Int) (c:zO) (c1:zO):(Int×Int)→Option ((Int×Int) ⊕ Int)
 | (h1,i) =>
  if decide (i<(c.Cycles.length:Int)) then
   if decide (i = -1) then
    Option.bind (zBb tick c1) fun y =>
    some (.inl (w64 (h1+y),w64 (i+1)))
   else
    Option.bind (ix c1.Cycles i) fun c2 =>
    Option.bind (zBa tick c2) fun y1 =>
    some (.inl (w64 (h1+y1),w64 (i+1)))
  else
   ((Yx h1).map Sum.inr)
def Ju (tick:Int) (c:zO) (c1:zO):Option Int :=
 Lp (Yy tick c c1) fuel (c.Level,(-1))
def zDa (w:zO) (tick:Int):Option (Int×Int) :=
 Option.bind (YM w) fun y =>
 if !decide (y=0) then
  some (0,y)
 else
  if !(jg tick) then
   some (0,1)
  else
   Option.bind (QV w) fun y1 =>
   Option.bind (Ju tick y1.1 y1.2) fun y2 =>
   some (y2,0)
def zCQ (h:zG) (id:Int) (tick:Int):Option (Int×Int) :=
 Option.bind (yG h) fun y =>
 if !decide (y=0) then
  some (0,y)
 else
  Option.bind (zn h.Berths id) fun y1 =>
  if decide (y1<0) then
   some (0,5)
  else
   Option.bind (zDa h.Water tick) fun y2 =>
   if !decide (y2.2=0) then
    some (0,1)
   else
    Option.bind (ix h.Berths y1) fun x =>
    some (w64 (x.Depth+y2.1),0)
def YX (h:zG) (b:zT) (draught:Int):Int :=
 w64 ((w64 (draught+h.Keel)) - b.Depth)
def ql (s:zC):Int :=
 if (((decide (s.Lo<0))||(decide (s.Hi<s.Lo)))||(decide (1048576<s.Hi))) then
  1
 else
  if decide (10080≤(w64 (s.Hi - s.Lo))) then
   2
  else
   0
def zBr (w:zO) (s:zC):Option Int :=
 Option.bind (YM w) fun y =>
 if !decide (y=0) then
  some y
 else
  some (ql s)
def ZI (w:zO) (s:zC):zO×zC :=
 (w,s)
def Yb (height:Int) (Lo:Int) (Hi:Int) (Height:Int) (l:(List zC)):Option ((List zC)×Int) :=
 if decide (Height<height) then
  some (l,0)
 else
  gb ((decide (0<(l.length:Int)))) (ix l (w64 ((l.length:Int) - 1))) fun x =>
  if ((decide (0<(l.length:Int)))&&(decide ((w64 (x.Hi+1))=Lo))) then
   Option.bind (ix l (w64 ((l.length:Int) - 1))) fun x1 =>
   some ((put l (w64 ((l.length:Int) - 1)) (⟨x1.Lo,Hi⟩:zC)),0)
  else
   Option.bind (app l ([(⟨Lo,Hi⟩:zC)])) fun l1 =>
   some (l1,0)
def jE (t:Int) (Lo1:Int) (Height1:Int) (l2:(List zC)):Option ((Int×Int×Int×Int×(List zC)) ⊕ ((List zC)×Int)) :=
 some (.inl (w64 (t+1),Lo1,t,Height1,l2))
def qF (w:zO) (s:zC) (height:Int) (y1:zO×zO):(Int×Int×Int×Int×(List zC))→Option ((Int×Int×Int×Int×(List zC)) ⊕ ((List zC)×Int))
 | (t,Lo2,Hi1,Height2,l5) =>
  if decide (t≤((ZI w s).2.Hi)) then
   Option.bind (Ju t y1.1 y1.2) fun y3 =>
   if decide (y3=Height2) then
    jE t Lo2 Height2 l5
   else
    if decide (Height2<height) then
     jE t t y3 l5
    else
     gb ((decide (0<(l5.length:Int)))) (ix l5 (w64 ((l5.length:Int) - 1))) fun x2 =>
     if ((decide (0<(l5.length:Int)))&&(decide ((w64 (x2.Hi+1))=Lo2))) then
      Option.bind (ix l5 (w64 ((l5.length:Int) - 1))) fun x3 =>
      jE t t y3 (put l5 (w64 ((l5.length:Int) - 1)) (⟨x3.Lo,Hi1⟩:zC))
     else
      Option.bind (app l5 ([(⟨Lo2,Hi1⟩:zC)])) fun l3 =>
      jE t t y3 l3
  else
   ((Yb height Lo2 Hi1 Height2 l5).map Sum.inr)
def QW (w:zO) (s:zC) (height:Int):Option ((List zC)×Int) :=
 Option.bind (zBr w s) fun y =>
 if !decide (y=0) then
  some ([],y)
 else
  Option.bind (QV ((ZI w s).1)) fun y1 =>
  Option.bind (Ju ((ZI w s).2.Lo) y1.1 y1.2) fun y2 =>
  Lp (qF w s height y1) fuel (w64 (((ZI w s).2.Lo)+1),(ZI w s).2.Lo,(ZI w s).2.Lo,y2,[])
def qh (h:zG) (id:Int) (draught:Int) (s:zC):Option (Int×Bool×Int) :=
 Option.bind (yG h) fun y =>
 if !decide (y=0) then
  some (0,false,y)
 else
  Option.bind (zn h.Berths id) fun y1 =>
  if decide (y1<0) then
   some (0,false,5)
  else
   if ((!(zu draught 0 8000))||(!(JI s))) then
    some (0,false,1)
   else
    Option.bind (ix h.Berths y1) fun x =>
    Option.bind (QW h.Water s (YX h x draught)) fun y2 =>
    if !decide (y2.2=0) then
     some (0,false,y2.2)
    else
     gb (!(decide ((y2.1.length:Int)=0))) (ix y2.1 0) fun x1 =>
     if ((decide ((y2.1.length:Int)=0))||(decide (s.Lo<x1.Lo))) then
      some (s.Lo,true,0)
     else
      Option.bind (ix y2.1 0) fun x2 =>
      if decide (x2.Hi<s.Hi) then
       Option.bind (ix y2.1 0) fun x3 =>
       some (w64 (x3.Hi+1),true,0)
      else
       some (0,false,0)
def Qe (l:(List zJ)):Option (List zJ) :=
 some l
def zCq (n:Int):(Int×(List zJ))→Option ((Int×(List zJ)) ⊕ (List zJ))
 | (i,l2) =>
  if decide (i<n) then
   Option.bind (app l2 ([(⟨w64 (11+i),700,0,1000,60⟩:zJ)])) fun l1 =>
   some (.inl (w64 (i+1),l1))
  else
   ((Qe l2).map Sum.inr)
def ja (n:Int):Option (List zJ) :=
 Lp (zCq n) fuel (0,[])
def QN (c:zJ):Bool :=
 ((((((zu c.ID 1 1099511627776)&&(zu c.Draught 0 8000))&&(decide (0≤c.From)))&&(decide (c.From≤c.To)))&&(decide (c.To≤1048576)))&&(zu c.Long 1 1440))
def zDL (h:zG) (x:zB):Option (zT×Bool) :=
 Option.bind (zn h.Berths x.Berth) fun y =>
 if ((decide (y<0))||(!(zu x.Tide 0 (w64 ((h.Tides.length:Int) - 1))))) then
  some ((⟨0,0⟩:zT),false)
 else
  Option.bind (ix h.Berths y) fun x1 =>
  some (x1,true)
def zBc : Option (zC×Int) :=
 some ((⟨0,0⟩:zC),5)
def zBd (long:Int) (y:(List zC)×Int):Int→Option (Int ⊕ (zC×Int))
 | x1 =>
  if decide (x1<(y.1.length:Int)) then
   Option.bind (ix y.1 x1) fun x =>
   if decide ((w64 (long - 1))≤(w64 (x.Hi - x.Lo))) then
    some (.inr (x,0))
   else
    some (.inl (w64 (x1+1)))
  else
   ((zBc).map Sum.inr)
def zCe (w:zO) (s:zC) (height:Int) (long:Int):Option (zC×Int) :=
 Option.bind (QW w s height) fun y =>
 if !decide (y.2=0) then
  some ((⟨0,0⟩:zC),y.2)
 else
  if decide (long<1) then
   some ((⟨0,0⟩:zC),1)
  else
   Lp (zBd long y) fuel 0
def qU (h:zG) (c:zJ) (x:zB) (b:zT):Option (zC×Bool) :=
 Option.bind (ix h.Tides x.Tide) fun x1 =>
 if decide ((min x1.Hi c.To)<(max x1.Lo c.From)) then
  some ((⟨0,0⟩:zC),false)
 else
  Option.bind (zCe h.Water (⟨max x1.Lo c.From,min x1.Hi c.To⟩:zC) (YX h b c.Draught) c.Long) fun y =>
  if !decide (y.2=0) then
   some ((⟨0,0⟩:zC),false)
  else
   some ((⟨y.1.Lo,w64 ((w64 (y.1.Lo+c.Long)) - 1)⟩:zC),true)
def zDM (h:zG) (c:zJ) (x:zB):Option (zC×Bool×Int) :=
 Option.bind (yG h) fun y =>
 if !decide (y=0) then
  some ((⟨0,0⟩:zC),false,y)
 else
  if !(QN c) then
   some ((⟨0,0⟩:zC),false,1)
  else
   Option.bind (zDL h x) fun y1 =>
   if !y1.2 then
    some ((⟨0,0⟩:zC),false,5)
   else
    Option.bind (qU h c x y1.1) fun y2 =>
    some (y2.1,y2.2,0)
def zA1 (draught:Int) (c:zG) (c1:Int) (c2:zB) (c3:zT):Option Bool :=
 Option.bind (qU c (⟨0,draught,0,1048576,c1⟩:zJ) c2 c3) fun y =>
 some y.2
def zAV (lo:Int):Option (Int×Int) :=
 some (lo,0)
def QT (lo1:Int) (hi:Int):Option ((Int×Int) ⊕ (Int×Int)) :=
 some (.inl (lo1,hi))
def zEE (h:zG) (x:zB) (long:Int) (y1:zT×Bool):(Int×Int)→Option ((Int×Int) ⊕ (Int×Int))
 | (lo2,hi1) =>
  if decide (lo2<hi1) then
   Option.bind (quo (w64 ((w64 (lo2+hi1))+1)) 2) fun q =>
   Option.bind (zA1 q h long x y1.1) fun y3 =>
   if y3 then
    QT q hi1
   else
    QT lo2 (w64 (q - 1))
  else
   ((zAV lo2).map Sum.inr)
def zCR (h:zG) (x:zB) (long:Int):Option (Int×Int) :=
 Option.bind (yG h) fun y =>
 if !decide (y=0) then
  some (0,y)
 else
  Option.bind (zDL h x) fun y1 =>
  if !y1.2 then
   some (0,5)
  else
   if !(zu long 1 1440) then
    some (0,1)
   else
    Option.bind (zA1 0 h long x y1.1) fun y2 =>
    if !y2 then
     some (0,5)
    else
     Lp (zEE h x long y1) fuel (0,8000)
def zAR (c:zJ):Int :=
 c.ID
def Zr (x:zJ) (c:Int):Bool :=
 decide ((zAR x)=c)
def zh : Option Int :=
 some (-1)
def za (s:(List zJ)) (c:Int):Int→Option (Int ⊕ Int)
 | x1 =>
  if decide (x1<(s.length:Int)) then
   Option.bind (ix s x1) fun x =>
   if (Zr x c) then
    some (.inr x1)
   else
    some (.inl (w64 (x1+1)))
  else
   ((zh).map Sum.inr)
def zo (s:(List zJ)) (c:Int):Option Int :=
 Lp (za s c) fuel 0
def zx (l:(List zJ)) (id:Int):Option Int :=
 Option.bind (zo l id) fun y =>
 some y
def yt : Option Int :=
 some 0
def yu (l:(List zJ)):Int→Option (Int ⊕ Int)
 | x1 =>
  if decide (x1<(l.length:Int)) then
   Option.bind (ix l x1) fun x =>
   if !(QN x) then
    some (.inr 1)
   else
    Option.bind (zx l x.ID) fun y1 =>
    if decide (y1<x1) then
     some (.inr 6)
    else
     some (.inl (w64 (x1+1)))
  else
   ((yt).map Sum.inr)
def Z4 (h:zG) (l:(List zJ)):Option Int :=
 Option.bind (yG h) fun y =>
 if !decide (y=0) then
  some y
 else
  if decide (10<(l.length:Int)) then
   some 2
  else
   Lp (yu l) fuel 0
structure ZO where
 Call:Int
 Slot:zB
 Span:zC
 deriving DecidableEq,Inhabited
def zU (h:zG):zG :=
 h
def QL (x2:Int) (l:(List zB)) (m:(List (zB×zC))):Option ((Int×(List zB)×(List (zB×zC))) ⊕ ((List zB)×(List (zB×zC)))) :=
 some (.inl (w64 (x2+1),l,m))
def QM (h:zG) (c:zJ) (x2:Int):(Int×(List zB)×(List (zB×zC)))→Option ((Int×(List zB)×(List (zB×zC))) ⊕ ((Int×(List zB)×(List (zB×zC))) ⊕ ((List zB)×(List (zB×zC)))))
 | (x1,l3,m2) =>
  if decide (x1<(((zU h).Berths).length:Int)) then
   Option.bind (ix ((zU h).Berths) x1) fun x =>
   Option.bind (qU h c (⟨x2,x.ID⟩:zB) x) fun y =>
   if y.2 then
    Option.bind (app l3 ([(⟨x2,x.ID⟩:zB)])) fun l1 =>
    some (.inl (w64 (x1+1),l1,(putM posE m2 (⟨x2,x.ID⟩:zB) y.1)))
   else
    some (.inl (w64 (x1+1),l3,m2))
  else
   ((QL x2 l3 m2).map Sum.inr)
def zAQ (h:zG) (c:zJ):(Int×(List zB)×(List (zB×zC)))→Option ((Int×(List zB)×(List (zB×zC))) ⊕ ((List zB)×(List (zB×zC))))
 | (x2,l2,m1) =>
  if decide (x2<(((zU h).Tides).length:Int)) then
   Lp (QM h c x2) fuel (0,l2,m1)
  else
   some (.inr (l2,m1))
def zBM (h:zG) (c:zJ):Option ((List zB)×(List (zB×zC))) :=
 Lp (zAQ h c) fuel (0,[],[])
structure zL where
 calls:(List zJ)
 slots:(List zB)
 can:(List (List (zB×zC)))
 old:(List Int)
 deriving DecidableEq,Inhabited
def Q9 (x4:Int) (l1:(List zB)):Option ((Int×(List zB)) ⊕ zL) :=
 some (.inl (w64 (x4+1),l1))
def qA (h:zG) (x4:Int):(Int×(List zB))→Option ((Int×(List zB)) ⊕ ((Int×(List zB)) ⊕ zL))
 | (x1,l3) =>
  if decide (x1<(((zU h).Berths).length:Int)) then
   Option.bind (ix ((zU h).Berths) x1) fun x =>
   Option.bind (app l3 ([(⟨x4,x.ID⟩:zB)])) fun l2 =>
   some (.inl (w64 (x1+1),l2))
  else
   ((Q9 x4 l3).map Sum.inr)
def Q8 (l:(List zJ)) (l10:(List zB)) (l4:(List (List (zB×zC)))) (l5:(List Int)):Option ((Int×(List zB)) ⊕ zL) :=
 some (.inr (⟨l,l10,l4,l5⟩:zL))
def zAy (h:zG) (l:(List zJ)) (l10:(List zB)):(Int×(List (List (zB×zC)))×(List Int))→Option ((Int×(List (List (zB×zC)))×(List Int)) ⊕ ((Int×(List zB)) ⊕ zL))
 | (x3,l8,l9) =>
  if decide (x3<(l.length:Int)) then
   Option.bind (ix l x3) fun x2 =>
   Option.bind (zBM h x2) fun y =>
   Option.bind (app l8 ([y.2])) fun l6 =>
   Option.bind (app l9 ([(-1)])) fun l7 =>
   some (.inl (w64 (x3+1),l6,l7))
  else
   ((Q8 l l10 l8 l9).map Sum.inr)
def zAz (h:zG) (l:(List zJ)):(Int×(List zB))→Option ((Int×(List zB)) ⊕ zL)
 | (x4,l10) =>
  if decide (x4<(((zU h).Tides).length:Int)) then
   Lp (qA h x4) fuel (0,l10)
  else
   Lp (zAy h l l10) fuel (0,[],[])
def yN (h:zG) (l:(List zJ)):Option zL :=
 Lp (zAz h l) fuel (0,[])
def Za (b:zL) (ship:Int) (l2:(List Int)):Option (List Int) :=
 Option.bind (ix l2 (w64 ((b.slots.length:Int)+ship))) fun x =>
 some (put l2 (w64 ((b.slots.length:Int)+ship)) 0)
def ZU (x6:Int) (l3:(List Int)):Option ((Int×(List Int)) ⊕ (List Int)) :=
 some (.inl (w64 (x6+1),l3))
def jX (b:zL) (ship:Int):(Int×(List Int))→Option ((Int×(List Int)) ⊕ (List Int))
 | (x6,l4) =>
  if decide (x6<(b.slots.length:Int)) then
   Option.bind (ix b.slots x6) fun x1 =>
   Option.bind (ix b.can ship) fun x2 =>
   if (ZE x1 x2).isSome then
    Option.bind (ix l4 x6) fun x3 =>
    Option.bind (ix b.old ship) fun x4 =>
    if decide (x4=x6) then
     Option.bind (ix (put l4 x6 (-1000)) x6) fun x5 =>
     ZU x6 (put (put l4 x6 (-1000)) x6 (-1001))
    else
     ZU x6 (put l4 x6 (-1000))
   else
    ZU x6 l4
  else
   ((Za b ship l4).map Sum.inr)
def Zm (b:zL) (ship:Int) (l1:(List Int)):Option (List Int) :=
 Lp (jX b ship) fuel (0,l1)
def jW (b:zL) (ship:Int) (l:(List Int)):(Int×(List Int))→Option ((Int×(List Int)) ⊕ (List Int))
 | (x8,l5) =>
  if decide (x8<(l.length:Int)) then
   Option.bind (ix l5 x8) fun x7 =>
   some (.inl (w64 (x8+1),(put l5 x8 1073741824)))
  else
   ((Zm b ship l5).map Sum.inr)
def jd (b:zL) (ship:Int):Option (List Int) :=
 Option.bind (mkS (w64 ((b.slots.length:Int)+(b.calls.length:Int))) (w64 ((b.slots.length:Int)+(b.calls.length:Int))) (0:Int)) fun l =>
 Lp (jW b ship l) fuel (0,l)
def Yk (sum:Int) (l5:(List Int)):Option ((List Int)×Int) :=
 some (l5,sum)
def JV (k:Int) (sum1:Int) (l6:(List Int)):Option ((Int×Int×(List Int)) ⊕ ((List Int)×Int)) :=
 some (.inl (sum1,w64 (k+1),l6))
def yC (cost:(List (List Int))) (places:Int) (l3:(List Int)):(Int×Int×(List Int))→Option ((Int×Int×(List Int)) ⊕ ((List Int)×Int))
 | (sum2,k,l7) =>
  if decide (k≤places) then
   Option.bind (ix l3 k) fun x =>
   if decide (0<x) then
    Option.bind (ix l3 k) fun x1 =>
    Option.bind (ix l7 (w64 (x1 - 1))) fun x2 =>
    Option.bind (ix l3 k) fun x3 =>
    Option.bind (ix cost (w64 (x3 - 1))) fun x4 =>
    Option.bind (ix x4 (w64 (k - 1))) fun x5 =>
    JV k (w64 (sum2+x5)) (put l7 (w64 (x1 - 1)) (w64 (k - 1)))
   else
    JV k sum2 l7
  else
   ((Yk sum2 l7).map Sum.inr)
def JW (cost:(List (List Int))) (places:Int) (l3:(List Int)):Option ((List Int)×Int) :=
 Option.bind (mkS (cost.length:Int) (cost.length:Int) (0:Int)) fun l4 =>
 Lp (yC cost places l3) fuel (0,1,l4)
def Yi (i:Int) (l12:(List Int)) (l13:(List Int)) (l15:(List Int)):Option ((Int×(List Int)×(List Int)×(List Int)) ⊕ ((List Int)×Int)) :=
 some (.inl (w64 (i+1),l12,l13,l15))
def Yl (i:Int) (l12:(List Int)) (l13:(List Int)) (l14:(List Int)):(Int×(List Int))→Option ((Int×(List Int)) ⊕ ((Int×(List Int)×(List Int)×(List Int)) ⊕ ((List Int)×Int)))
 | (at_1,l16) =>
  if !decide (at_1=0) then
   Option.bind (ix l14 at_1) fun x7 =>
   Option.bind (ix l16 x7) fun x8 =>
   Option.bind (ix l16 at_1) fun x9 =>
   Option.bind (ix l14 at_1) fun x10 =>
   some (.inl (x10,(put l16 at_1 x8)))
  else
   ((Yi i l12 l13 l16).map Sum.inr)
def Yj (i:Int) (l42:(List Int)) (at_:Int) (l12:(List Int)) (l13:(List Int)) (l14:(List Int)):Option ((Int×(List Int)×(List Int)×(List Int)) ⊕ ((List Int)×Int)) :=
 Lp (Yl i l12 l13 l14) fuel (at_,(put l42 0 i))
def jZ (i:Int) (l42:(List Int)) (at_2:Int) (l38:(List Bool)) (next:Int) (l18:(List Int)) (l19:(List Int)) (l20:(List Int)) (l21:(List Int)):Option ((Int×(List Int)×(List Int)×(List Int)×(List Int)×(List Bool)) ⊕ ((Int×(List Int)×(List Int)×(List Int)) ⊕ ((List Int)×Int))) :=
 Option.bind (ix (put l42 0 i) next) fun x13 =>
 if decide (x13=0) then
  ((Yj i l42 next l19 l20 l18).map Sum.inr)
 else
  some (.inl (next,l19,l20,l21,l18,(put l38 at_2 true)))
def jw (x22:Int) (l22:(List Int)) (l23:(List Int)) (l24:(List Int)):Option ((Int×(List Int)×(List Int)×(List Int)) ⊕ ((Int×(List Int)×(List Int)×(List Int)×(List Int)×(List Bool)) ⊕ ((Int×(List Int)×(List Int)×(List Int)) ⊕ ((List Int)×Int)))) :=
 some (.inl (w64 (x22+1),l22,l23,l24))
def Jt (i:Int) (l42:(List Int)) (at_2:Int) (l38:(List Bool)) (next:Int) (step:Int) (l18:(List Int)):(Int×(List Int)×(List Int)×(List Int))→Option ((Int×(List Int)×(List Int)×(List Int)) ⊕ ((Int×(List Int)×(List Int)×(List Int)×(List Int)×(List Bool)) ⊕ ((Int×(List Int)×(List Int)×(List Int)) ⊕ ((List Int)×Int))))
 | (x22,l25,l26,l27) =>
  if decide (x22<((put l38 at_2 true).length:Int)) then
   Option.bind (ix (put l38 at_2 true) x22) fun x14 =>
   if x14 then
    Option.bind (ix (put l42 0 i) x22) fun x15 =>
    Option.bind (ix l25 x15) fun x16 =>
    Option.bind (ix l25 x15) fun x17 =>
    Option.bind (ix l26 x22) fun x18 =>
    Option.bind (ix l26 x22) fun x19 =>
    jw x22 (put l25 x15 (w64 (x16+step))) (put l26 x22 (w64 (x18 - step))) l27
   else
    Option.bind (ix l27 x22) fun x20 =>
    Option.bind (ix l27 x22) fun x21 =>
    jw x22 l25 l26 (put l27 x22 (w64 (x20 - step)))
  else
   ((jZ i l42 at_2 l38 next l18 l25 l26 l27).map Sum.inr)
def jy (i:Int) (l42:(List Int)) (at_2:Int) (l34:(List Int)) (l35:(List Int)) (l38:(List Bool)) (next:Int) (step:Int) (l17:(List Int)) (l18:(List Int)):Option ((Int×(List Int)×(List Int)×(List Int)×(List Int)×(List Bool)) ⊕ ((Int×(List Int)×(List Int)×(List Int)) ⊕ ((List Int)×Int))) :=
 Lp (Jt i l42 at_2 l38 next step l18) fuel (0,l34,l35,l17)
def jY (k1:Int) (next1:Int) (step1:Int) (l28:(List Int)) (l29:(List Int)):Option ((Int×Int×Int×(List Int)×(List Int)) ⊕ ((Int×(List Int)×(List Int)×(List Int)×(List Int)×(List Bool)) ⊕ ((Int×(List Int)×(List Int)×(List Int)) ⊕ ((List Int)×Int)))) :=
 some (.inl (next1,step1,w64 (k1+1),l28,l29))
def jv (next2:Int) (step2:Int) (k1:Int) (l30:(List Int)) (l31:(List Int)):Option ((Int×Int×Int×(List Int)×(List Int)) ⊕ ((Int×(List Int)×(List Int)×(List Int)×(List Int)×(List Bool)) ⊕ ((Int×(List Int)×(List Int)×(List Int)) ⊕ ((List Int)×Int)))) :=
 Option.bind (ix l30 k1) fun x29 =>
 if decide (x29<step2) then
  Option.bind (ix l30 k1) fun x30 =>
  jY k1 k1 x30 l30 l31
 else
  jY k1 next2 step2 l30 l31
def Js (cost:(List (List Int))) (places:Int) (i:Int) (l42:(List Int)) (at_2:Int) (l34:(List Int)) (l35:(List Int)) (l38:(List Bool)) (x12:Int):(Int×Int×Int×(List Int)×(List Int))→Option ((Int×Int×Int×(List Int)×(List Int)) ⊕ ((Int×(List Int)×(List Int)×(List Int)×(List Int)×(List Bool)) ⊕ ((Int×(List Int)×(List Int)×(List Int)) ⊕ ((List Int)×Int))))
 | (next2,step2,k1,l32,l33) =>
  if decide (k1≤places) then
   Option.bind (ix (put l38 at_2 true) k1) fun x23 =>
   if x23 then
    jY k1 next2 step2 l32 l33
   else
    Option.bind (ix cost (w64 (x12 - 1))) fun x24 =>
    Option.bind (ix x24 (w64 (k1 - 1))) fun x25 =>
    Option.bind (ix l34 x12) fun x26 =>
    Option.bind (ix l35 k1) fun x27 =>
    Option.bind (ix l32 k1) fun x28 =>
    if decide ((w64 ((w64 (x25 - x26)) - x27))<x28) then
     Option.bind (ix l32 k1) fun x31 =>
     Option.bind (ix l33 k1) fun x32 =>
     jv next2 step2 k1 (put l32 k1 (w64 ((w64 (x25 - x26)) - x27))) (put l33 k1 at_2)
    else
     jv next2 step2 k1 l32 l33
  else
   ((jy i l42 at_2 l34 l35 l38 next2 step2 l32 l33).map Sum.inr)
def YG (cost:(List (List Int))) (places:Int) (i:Int) (l42:(List Int)):(Int×(List Int)×(List Int)×(List Int)×(List Int)×(List Bool))→Option ((Int×(List Int)×(List Int)×(List Int)×(List Int)×(List Bool)) ⊕ ((Int×(List Int)×(List Int)×(List Int)) ⊕ ((List Int)×Int)))
 | (at_2,l34,l35,l36,l37,l38) =>
  Option.bind (ix l38 at_2) fun x11 =>
  Option.bind (ix (put l42 0 i) at_2) fun x12 =>
  Lp (Js cost places i l42 at_2 l34 l35 l38 x12) fuel (0,4294967296,1,l36,l37)
def yB (cost:(List (List Int))) (places:Int) (i:Int) (l40:(List Int)) (l41:(List Int)) (l42:(List Int)) (l9:(List Int)) (l10:(List Bool)) (l11:(List Int)):Option ((Int×(List Int)×(List Int)×(List Int)) ⊕ ((List Int)×Int)) :=
 Lp (YG cost places i l42) fuel (0,l40,l41,l11,l9,l10)
def YF (cost:(List (List Int))) (places:Int) (i:Int) (l40:(List Int)) (l41:(List Int)) (l42:(List Int)) (l8:(List Int)) (l9:(List Int)) (l10:(List Bool)):(Int×(List Int))→Option ((Int×(List Int)) ⊕ ((Int×(List Int)×(List Int)×(List Int)) ⊕ ((List Int)×Int)))
 | (x34,l39) =>
  if decide (x34<(l8.length:Int)) then
   Option.bind (ix l39 x34) fun x33 =>
   some (.inl (w64 (x34+1),(put l39 x34 4294967296)))
  else
   ((yB cost places i l40 l41 l42 l9 l10 l39).map Sum.inr)
def Ym (cost:(List (List Int))) (places:Int):(Int×(List Int)×(List Int)×(List Int))→Option ((Int×(List Int)×(List Int)×(List Int)) ⊕ ((List Int)×Int))
 | (i,l40,l41,l42) =>
  if decide (i≤(cost.length:Int)) then
   Option.bind (ix l42 0) fun x6 =>
   Option.bind (mkS (w64 (places+1)) (w64 (places+1)) (0:Int)) fun l8 =>
   Option.bind (mkS (w64 (places+1)) (w64 (places+1)) (0:Int)) fun l9 =>
   Option.bind (mkS (w64 (places+1)) (w64 (places+1)) false) fun l10 =>
   Lp (YF cost places i l40 l41 l42 l8 l9 l10) fuel (0,l8)
  else
   ((JW cost places l42).map Sum.inr)
def Jk (cost:(List (List Int))) (places:Int):Option ((List Int)×Int) :=
 Option.bind (mkS (w64 ((cost.length:Int)+1)) (w64 ((cost.length:Int)+1)) (0:Int)) fun l =>
 Option.bind (mkS (w64 (places+1)) (w64 (places+1)) (0:Int)) fun l1 =>
 Option.bind (mkS (w64 (places+1)) (w64 (places+1)) (0:Int)) fun l2 =>
 Lp (Ym cost places) fuel (1,l,l1,l2)
def jf (b:zL) (l:(List (List Int))):Option ((List Int)×Int) :=
 Option.bind (Jk l (w64 ((b.slots.length:Int)+(b.calls.length:Int)))) fun y =>
 some (y.1,y.2)
def Z5 (x3:Int) (l5:(List (List Int))) (l1:(List Int)):Option ((Int×(List (List Int))) ⊕ ((List Int)×Int)) :=
 Option.bind (app l5 ([l1])) fun l2 =>
 some (.inl (w64 (x3+1),l2))
def jK (x2:Int) (l3:(List Int)):Option ((Int×(List Int)) ⊕ ((Int×(List (List Int))) ⊕ ((List Int)×Int))) :=
 some (.inl (w64 (x2+1),l3))
def Jf (x3:Int) (l5:(List (List Int))) (y1:(List Int)) (k:Int):(Int×(List Int))→Option ((Int×(List Int)) ⊕ ((Int×(List (List Int))) ⊕ ((List Int)×Int)))
 | (x2,l4) =>
  if decide (x2<(y1.length:Int)) then
   if !decide (x2=k) then
    Option.bind (ix l4 x2) fun x1 =>
    jK x2 (put l4 x2 1073741824)
   else
    jK x2 l4
  else
   ((Z5 x3 l5 l4).map Sum.inr)
def jL (x3:Int) (l5:(List (List Int))) (y1:(List Int)) (k:Int):Option ((Int×(List (List Int))) ⊕ ((List Int)×Int)) :=
 Lp (Jf x3 l5 y1 k) fuel (0,y1)
def Jg (b:zL) (fixed:(List Int)):(Int×(List (List Int)))→Option ((Int×(List (List Int))) ⊕ ((List Int)×Int))
 | (x3,l5) =>
  if decide (x3<(b.calls.length:Int)) then
   Option.bind (jd b x3) fun y1 =>
   if decide (x3<(fixed.length:Int)) then
    Option.bind (ix fixed x3) fun x =>
    if decide (x<0) then
     jL x3 l5 y1 (w64 ((b.slots.length:Int)+x3))
    else
     jL x3 l5 y1 x
   else
    Z5 x3 l5 y1
  else
   ((jf b l5).map Sum.inr)
def Zt (b:zL) (fixed:(List Int)):Option ((List Int)×Int) :=
 Lp (Jg b fixed) fuel (0,[])
def slices_Clone_int (l:List Int):Option (List Int):=app [] l
def yl (l:(List ZO)):Option (List ZO) :=
 some l
def Jc (x4:Int) (l1:(List Int)) (l2:(List ZO)):Option ((Int×(List Int)×(List ZO)) ⊕ (List ZO)) :=
 some (.inl (w64 (x4+1),l1,l2))
def yj (x4:Int) (l8:(List Int)) (l9:(List ZO)):Option ((Int×(List Int)×(List ZO)) ⊕ (List ZO)) :=
 Option.bind (app l8 ([(-1)])) fun l3 =>
 Jc x4 l3 l9
def Jb (x3:Int):Option (Int ⊕ ((Int×(List Int)×(List ZO)) ⊕ (List ZO))) :=
 some (.inl (w64 (x3+1)))
def zBY (b:zL) (y:(List Int)×Int) (x4:Int) (l8:(List Int)) (l9:(List ZO)) (x:zJ):Int→Option (Int ⊕ ((Int×(List Int)×(List ZO)) ⊕ (List ZO)))
 | x3 =>
  if decide (x3<(b.slots.length:Int)) then
   Option.bind (ix b.slots x3) fun x1 =>
   Option.bind (ix b.can x4) fun x2 =>
   if !(ZE x1 x2).isSome then
    Jb x3
   else
    Option.bind (app [] l8) fun l4 =>
    Option.bind (app l4 ([x3])) fun l5 =>
    Option.bind (Zt b l5) fun y1 =>
    if decide (y1.2=y.2) then
     Option.bind (app l8 ([x3])) fun l6 =>
     Option.bind (app l9 ([(⟨x.ID,x1,((ZE x1 x2).getD (⟨0,0⟩:zC))⟩:ZO)])) fun l7 =>
     ((Jc x4 l6 l7).map Sum.inr)
    else
     Jb x3
  else
   ((yj x4 l8 l9).map Sum.inr)
def zBZ (b:zL) (y:(List Int)×Int):(Int×(List Int)×(List ZO))→Option ((Int×(List Int)×(List ZO)) ⊕ (List ZO))
 | (x4,l8,l9) =>
  if decide (x4<(b.calls.length:Int)) then
   Option.bind (ix b.calls x4) fun x =>
   Lp (zBY b y x4 l8 l9 x) fuel 0
  else
   ((yl l9).map Sum.inr)
def zAl (b:zL):Option (List ZO) :=
 Option.bind (Zt b []) fun y =>
 Lp (zBZ b y) fuel (0,[],[])
def zDN (h:zG) (l:(List zJ)):Option ((List ZO)×Int) :=
 Option.bind (Z4 h l) fun y =>
 if !decide (y=0) then
  some ([],y)
 else
  Option.bind (yN h l) fun y1 =>
  Option.bind (zAl y1) fun y2 =>
  some (y2,0)
def Je (c:zJ) (c1:zL) (c2:zB) (c3:(List (Int×Bool))):Option Bool :=
 Option.bind (zx c1.calls c.ID) fun y =>
 Option.bind (ix c1.can y) fun x =>
 some (((ZE c2 x).isSome)&&((ZE y c3).getD false))
def ZL : Option Int :=
 some (-1)
def Zd (s:(List zJ)) (c:zL) (c1:zB) (c2:(List (Int×Bool))):Int→Option (Int ⊕ Int)
 | x1 =>
  if decide (x1<(s.length:Int)) then
   Option.bind (ix s x1) fun x =>
   Option.bind (Je x c c1 c2) fun y =>
   if y then
    some (.inr x1)
   else
    some (.inl (w64 (x1+1)))
  else
   ((ZL).map Sum.inr)
def ZH (s:(List zJ)) (c:zL) (c1:zB) (c2:(List (Int×Bool))):Option Int :=
 Lp (Zd s c c1 c2) fuel 0
def ZB (s:(List zJ)) (c:zL) (c1:zB) (c2:(List (Int×Bool))):Option Bool :=
 Option.bind (ZH s c c1 c2) fun y =>
 some (decide (0≤y))
def JJ (l1:(List Int)) (l2:(List zB)):Option zZ :=
 some (⟨l1,l2⟩:zZ)
def jB (x1:Int) (l3:(List zB)):Option ((Int×(List zB)) ⊕ zZ) :=
 some (.inl (w64 (x1+1),l3))
def jV (b:zL) (ships:(List (Int×Bool))) (l1:(List Int)):(Int×(List zB))→Option ((Int×(List zB)) ⊕ zZ)
 | (x1,l5) =>
  if decide (x1<(b.slots.length:Int)) then
   Option.bind (ix b.slots x1) fun x =>
   Option.bind (ZB b.calls b x ships) fun y =>
   if y then
    Option.bind (app l5 ([x])) fun l4 =>
    jB x1 l4
   else
    jB x1 l5
  else
   ((JJ l1 l5).map Sum.inr)
def Zu (b:zL) (ships:(List (Int×Bool))) (l:(List Int)):Option zZ :=
 Option.bind (srtO l) fun l1 =>
 Lp (jV b ships l1) fuel (0,[])
def Zl (x3:Int) (l6:(List Int)):Option ((Int×(List Int)) ⊕ zZ) :=
 some (.inl (w64 (x3+1),l6))
def jC (b:zL) (ships:(List (Int×Bool))):(Int×(List Int))→Option ((Int×(List Int)) ⊕ zZ)
 | (x3,l8) =>
  if decide (x3<(b.calls.length:Int)) then
   Option.bind (ix b.calls x3) fun x2 =>
   if ((ZE x3 ships).getD false) then
    Option.bind (app l8 ([x2.ID])) fun l7 =>
    Zl x3 l7
   else
    Zl x3 l8
  else
   ((Zu b ships l8).map Sum.inr)
def jM (b:zL) (ships:(List (Int×Bool))):Option zZ :=
 Lp (jC b ships) fuel (0,[])
def jS (y1:zL) (m2:(List (Int×Bool))):Option (zZ×Bool×Int) :=
 Option.bind (jM y1 m2) fun y3 =>
 some (y3,true,0)
def yR (x3:Int) (more:Bool) (m3:(List (Int×Bool))):Option ((Bool×Int×(List (Int×Bool))) ⊕ ((Bool×(List (Int×Bool))) ⊕ (zZ×Bool×Int))) :=
 some (.inl (more,w64 (x3+1),m3))
def yQ (x2:Int) (more1:Bool) (m4:(List (Int×Bool))):Option ((Bool×Int×(List (Int×Bool))) ⊕ ((Bool×Int×(List (Int×Bool))) ⊕ ((Bool×(List (Int×Bool))) ⊕ (zZ×Bool×Int)))) :=
 some (.inl (more1,w64 (x2+1),m4))
def zA0 (l:(List zJ)) (y1:zL) (m1:(List (Int×Int))) (x3:Int) (x:zB):(Bool×Int×(List (Int×Bool)))→Option ((Bool×Int×(List (Int×Bool))) ⊕ ((Bool×Int×(List (Int×Bool))) ⊕ ((Bool×(List (Int×Bool))) ⊕ (zZ×Bool×Int))))
 | (more2,x2,m5) =>
  if decide (x2<(l.length:Int)) then
   Option.bind (ix y1.can x2) fun x1 =>
   if (((ZE x x1).isSome)&&((ZE x2 m5).getD false)) then
    yQ x2 true (putM posI m5 ((ZE x3 m1).getD 0) true)
   else
    yQ x2 more2 m5
  else
   ((yR x3 more2 m5).map Sum.inr)
def qE (l:(List zJ)) (y1:zL) (m1:(List (Int×Int))):(Bool×Int×(List (Int×Bool)))→Option ((Bool×Int×(List (Int×Bool))) ⊕ ((Bool×(List (Int×Bool))) ⊕ (zZ×Bool×Int)))
 | (more3,x3,m6) =>
  if decide (x3<(y1.slots.length:Int)) then
   Option.bind (ix y1.slots x3) fun x =>
   if ((!(ZE x3 m1).isSome)||((ZE ((ZE x3 m1).getD 0) m6).getD false)) then
    yR x3 more3 m6
   else
    Lp (zA0 l y1 m1 x3 x) fuel (more3,0,m6)
  else
   some (.inr (.inl (more3,m6)))
def Jo (l:(List zJ)) (y1:zL) (m1:(List (Int×Int))):(Bool×(List (Int×Bool)))→Option ((Bool×(List (Int×Bool))) ⊕ (zZ×Bool×Int))
 | (more4,m7) =>
  if more4 then
   Lp (qE l y1 m1) fuel (false,0,m7)
  else
   ((jS y1 m7).map Sum.inr)
def Jn (l:(List zJ)) (y1:zL) (m:(List (Int×Bool))) (m1:(List (Int×Int))):Option (zZ×Bool×Int) :=
 if decide ((m.length:Int)=0) then
  some ((⟨[],[]⟩:zZ),false,0)
 else
  Lp (Jo l y1 m1) fuel (true,m)
def JF (x5:Int) (m8:(List (Int×Bool))) (m9:(List (Int×Int))):Option ((Int×(List (Int×Bool))×(List (Int×Int))) ⊕ (zZ×Bool×Int)) :=
 some (.inl (w64 (x5+1),m8,m9))
def yS (l:(List zJ)) (y1:zL) (y2:(List Int)×Int):(Int×(List (Int×Bool))×(List (Int×Int)))→Option ((Int×(List (Int×Bool))×(List (Int×Int))) ⊕ (zZ×Bool×Int))
 | (x5,m10,m11) =>
  if decide (x5<(y2.1.length:Int)) then
   Option.bind (ix y2.1 x5) fun x4 =>
   if decide ((y1.slots.length:Int)≤x4) then
    JF x5 (putM posI m10 x5 true) m11
   else
    JF x5 m10 (putM posI m11 x4 x5)
  else
   ((Jn l y1 m10 m11).map Sum.inr)
def J2 (h:zG) (l:(List zJ)):Option (zZ×Bool×Int) :=
 Option.bind (Z4 h l) fun y =>
 if !decide (y=0) then
  some ((⟨[],[]⟩:zZ),false,y)
 else
  Option.bind (yN h l) fun y1 =>
  Option.bind (Zt y1 []) fun y2 =>
  Lp (yS l y1 y2) fuel (0,[],[])
def JX : Option Bool :=
 some true
def yU (s1:(List Int)) (s2:(List Int)):Int→Option (Int ⊕ Bool)
 | x2 =>
  if decide (x2<(s1.length:Int)) then
   Option.bind (ix s1 x2) fun x =>
   Option.bind (ix s2 x2) fun x1 =>
   if !decide (x=x1) then
    some (.inr false)
   else
    some (.inl (w64 (x2+1)))
  else
   ((JX).map Sum.inr)
def slices_Equal_int (s1:(List Int)) (s2:(List Int)):Option Bool :=
 if !decide ((s1.length:Int)=(s2.length:Int)) then
  some false
 else
  Lp (yU s1 s2) fuel 0
def jQ : Option Bool :=
 some true
def JC (s1:(List zB)) (s2:(List zB)):Int→Option (Int ⊕ Bool)
 | x2 =>
  if decide (x2<(s1.length:Int)) then
   Option.bind (ix s1 x2) fun x =>
   Option.bind (ix s2 x2) fun x1 =>
   if !decide (x=x1) then
    some (.inr false)
   else
    some (.inl (w64 (x2+1)))
  else
   ((jQ).map Sum.inr)
def jO (s1:(List zB)) (s2:(List zB)):Option Bool :=
 if !decide ((s1.length:Int)=(s2.length:Int)) then
  some false
 else
  Lp (JC s1 s2) fuel 0
def jD (h:zG) (l:(List zJ)) (x:zZ) (m:(List (Int×Bool))):Option (Int×Int) :=
 Option.bind (yN h l) fun y1 =>
 Option.bind (jM y1 m) fun y2 =>
 gb (!(decide ((x.Calls.length:Int)=0))) (slices_Equal_int x.Calls y2.Calls) fun y3 =>
 gb (!(((decide ((x.Calls.length:Int)=0))||(!y3)))) (jO x.Slots y2.Slots) fun y4 =>
 if ((((decide ((x.Calls.length:Int)=0))||(!y3))||(!y4))||(decide ((x.Calls.length:Int)≤(x.Slots.length:Int)))) then
  some (0,8)
 else
  some (w64 ((x.Calls.length:Int) - (x.Slots.length:Int)),0)
def Zx (x2:Int) (m1:(List (Int×Bool))):Option ((Int×(List (Int×Bool))) ⊕ (Int×Int)) :=
 some (.inl (w64 (x2+1),m1))
def jU (h:zG) (l:(List zJ)) (x:zZ):(Int×(List (Int×Bool)))→Option ((Int×(List (Int×Bool))) ⊕ (Int×Int))
 | (x2,m2) =>
  if decide (x2<(x.Calls.length:Int)) then
   Option.bind (ix x.Calls x2) fun x1 =>
   Option.bind (zx l x1) fun y5 =>
   if decide (0≤y5) then
    Zx x2 (putM posI m2 y5 true)
   else
    Zx x2 m2
  else
   ((jD h l x m2).map Sum.inr)
def Zz (h:zG) (l:(List zJ)) (x:zZ):Option (Int×Int) :=
 Option.bind (Z4 h l) fun y =>
 if !decide (y=0) then
  some (0,y)
 else
  Lp (jU h l x) fuel (0,[])
def YV : Option Bool :=
 Option.bind (zCQ (ZP) 1 130) fun y =>
 Option.bind (qh (ZP) 2 700 (⟨60,200⟩:zC)) fun y1 =>
 Option.bind (qh (ZP) 2 600 (⟨60,200⟩:zC)) fun y2 =>
 Option.bind (ja 1) fun y3 =>
 Option.bind (ix y3 0) fun x =>
 Option.bind (zDM (ZP) x (⟨0,2⟩:zB)) fun y4 =>
 Option.bind (zCR (ZP) (⟨0,2⟩:zB) 120) fun y5 =>
 Option.bind (ja 3) fun y6 =>
 Option.bind (zDN (ZP) y6) fun y7 =>
 Option.bind (ja 5) fun y8 =>
 Option.bind (J2 (ZP) y8) fun y9 =>
 Option.bind (ja 5) fun y10 =>
 Option.bind (Zz (ZP) y10 y9.1) fun y11 =>
 if (((((((((!decide (y.2=0))||(!decide (y1.2.2=0)))||(!decide (y2.2.2=0)))||(!decide (y4.2.2=0)))||(!decide (y5.2=0)))||(!decide (y7.2=0)))||(!decide (y9.2.2=0)))||(!decide (y11.2=0)))||(!decide ((y7.1.length:Int)=3))) then
  some false
 else
  gb (((((((((decide (y.1=1000))&&y1.2.1)&&(decide (y1.1=60)))&&(!y2.2.1))&&y4.2.1)&&(decide (y4.1=(⟨120,179⟩:zC))))&&(decide (y5.1=650))))) (ix y7.1 2) fun x1 =>
  some ((((((((((((decide (y.1=1000))&&y1.2.1)&&(decide (y1.1=60)))&&(!y2.2.1))&&y4.2.1)&&(decide (y4.1=(⟨120,179⟩:zC))))&&(decide (y5.1=650)))&&(decide (x1=(⟨13,(⟨1,1⟩:zB),(⟨240,299⟩:zC)⟩:ZO))))&&y9.2.1)&&(decide ((y9.1.Calls.length:Int)=5)))&&(decide ((y9.1.Slots.length:Int)=4)))&&(decide (y11.1=1)))
def zt (n:Int) (lo:Int) (hi:Int):Bool :=
 ((decide (lo≤n))&&(decide (n≤hi)))
def zAD : Option Bool :=
 some true
def zAE (c:zX):Int→Option (Int ⊕ Bool)
 | i =>
  if decide (i<(c.Heights.length:Int)) then
   Option.bind (ix c.Heights i) fun x =>
   if !(zt x (-4000) 4000) then
    some (.inr false)
   else
    some (.inl (w64 (i+1)))
  else
   ((zAD).map Sum.inr)
def zBB (c:zX):Option Bool :=
 if ((((!(zt c.ID 1 1099511627776))||(!(zt c.Begin 0 1048576)))||(!(zt c.Every 1 120)))||(!(zt (c.Heights.length:Int) 1 60))) then
  some false
 else
  Lp (zAE c) fuel 0
def QY : Option Int :=
 some 0
def QZ (l:(List jP)):Int→Option (Int ⊕ Int)
 | i =>
  if decide (i<(l.length:Int)) then
   Option.bind (ix l i) fun x =>
   Option.bind (ix l i) fun x1 =>
   gb (!(decide (x1.From<0))) (ix l i) fun x2 =>
   gb (!(decide (x1.From<0))) (ix l i) fun x3 =>
   gb (!(((decide (x1.From<0))||(decide (x3.To<x2.From))))) (ix l i) fun x4 =>
   if ((((decide (x1.From<0))||(decide (x3.To<x2.From)))||(decide (728<x4.To)))||(!(zt x.Add (-4000) 4000))) then
    some (.inr 1)
   else
    gb ((decide (0<i))) (ix l i) fun x5 =>
    gb ((decide (0<i))) (ix l (max 0 (w64 (i - 1)))) fun x6 =>
    if ((decide (0<i))&&(decide (x5.From≤x6.To))) then
     some (.inr 1)
    else
     some (.inl (w64 (i+1)))
  else
   ((QY).map Sum.inr)
def Qz (l:(List jP)):Option Int :=
 Lp (QZ l) fuel 0
def QF (w:zO):Option Int :=
 Option.bind (Qz w.Shifts) fun y =>
 some y
def QE (i:Int):Option (Int ⊕ Int) :=
 some (.inl (w64 (i+1)))
def QG (w:zO) (i:Int):Int→Option (Int ⊕ (Int ⊕ Int))
 | k =>
  if decide (k<i) then
   Option.bind (ix w.Cycles k) fun x1 =>
   Option.bind (ix w.Cycles i) fun x2 =>
   if decide (x1.ID=x2.ID) then
    some (.inr (.inr 6))
   else
    some (.inl (w64 (k+1)))
  else
   ((QE i).map Sum.inr)
def zAF (w:zO):Int→Option (Int ⊕ Int)
 | i =>
  if decide (i<(w.Cycles.length:Int)) then
   Option.bind (ix w.Cycles i) fun x =>
   Option.bind (zBB x) fun y1 =>
   if !y1 then
    some (.inr 1)
   else
    Lp (QG w i) fuel 0
  else
   ((QF w).map Sum.inr)
def zBC (w:zO):Option Int :=
 if !(zt w.Level (-4000) 4000) then
  some 1
 else
  if ((decide (6<(w.Cycles.length:Int)))||(decide (20<(w.Shifts.length:Int)))) then
   some 2
  else
   Lp (zAF w) fuel 0
def ZT (n:Int) (lo:Int) (hi:Int):Bool :=
 ((decide (lo≤n))&&(decide (n≤hi)))
def yI (s:zC):Bool :=
 ((((decide (0≤s.Lo))&&(decide (s.Lo≤s.Hi)))&&(decide (s.Hi≤1048576)))&&(decide ((w64 (s.Hi - s.Lo))<1440)))
def QC (h:zG):Option Int :=
 if !(ZT h.Keel 0 8000) then
  some 1
 else
  some 0
def zAC (h:zG):Int→Option (Int ⊕ Int)
 | i =>
  if decide (i<(h.Tides.length:Int)) then
   Option.bind (ix h.Tides i) fun x =>
   gb (!(!(yI x))&&(decide (0<i))) (ix h.Tides i) fun x1 =>
   gb (!(!(yI x))&&(decide (0<i))) (ix h.Tides (w64 (i - 1))) fun x2 =>
   if ((!(yI x))||((decide (0<i))&&(decide (x1.Lo≤x2.Hi)))) then
    some (.inr 1)
   else
    some (.inl (w64 (i+1)))
  else
   ((QC h).map Sum.inr)
def QD (h:zG):Option Int :=
 Lp (zAC h) fuel 0
def QB (i1:Int):Option (Int ⊕ Int) :=
 some (.inl (w64 (i1+1)))
def zAA (h:zG) (i1:Int):Int→Option (Int ⊕ (Int ⊕ Int))
 | k =>
  if decide (k<i1) then
   Option.bind (ix h.Berths k) fun x5 =>
   Option.bind (ix h.Berths i1) fun x6 =>
   if decide (x5.ID=x6.ID) then
    some (.inr (.inr 6))
   else
    some (.inl (w64 (k+1)))
  else
   ((QB i1).map Sum.inr)
def zAB (h:zG):Int→Option (Int ⊕ Int)
 | i1 =>
  if decide (i1<(h.Berths.length:Int)) then
   Option.bind (ix h.Berths i1) fun x3 =>
   gb (!(!(ZT x3.ID 1 1099511627776))) (ix h.Berths i1) fun x4 =>
   if ((!(ZT x3.ID 1 1099511627776))||(!(ZT x4.Depth 0 8000))) then
    some (.inr 1)
   else
    Lp (zAA h i1) fuel 0
  else
   ((QD h).map Sum.inr)
def zBA (h:zG):Option Int :=
 Option.bind (zBC h.Water) fun y =>
 if !decide (y=0) then
  some y
 else
  if ((decide (6<(h.Berths.length:Int)))||(decide (12<(h.Tides.length:Int)))) then
   some 2
  else
   Lp (zAB h) fuel 0
def qX (c:zJ):Bool :=
 (((((ZT c.ID 1 1099511627776)&&(ZT c.Draught 0 8000))&&(ZT c.From 0 1048576))&&(ZT c.To c.From 1048576))&&(ZT c.Long 1 1440))
def yV : Option Int :=
 some 0
def JY (i:Int):Option (Int ⊕ Int) :=
 some (.inl (w64 (i+1)))
def yX (l:(List zJ)) (i:Int):Int→Option (Int ⊕ (Int ⊕ Int))
 | k =>
  if decide (k<i) then
   Option.bind (ix l k) fun x1 =>
   Option.bind (ix l i) fun x2 =>
   if decide (x1.ID=x2.ID) then
    some (.inr (.inr 6))
   else
    some (.inl (w64 (k+1)))
  else
   ((JY i).map Sum.inr)
def yY (l:(List zJ)):Int→Option (Int ⊕ Int)
 | i =>
  if decide (i<(l.length:Int)) then
   Option.bind (ix l i) fun x =>
   if !(qX x) then
    some (.inr 1)
   else
    Lp (yX l i) fuel 0
  else
   ((yV).map Sum.inr)
def jq (h:zG) (l:(List zJ)):Option Int :=
 Option.bind (zBA h) fun y =>
 if !decide (y=0) then
  some y
 else
  if decide (10<(l.length:Int)) then
   some 2
  else
   Lp (yY l) fuel 0
structure zA9 where
 N:Int
 E:Int
 deriving DecidableEq,Inhabited
def qz : Option Int :=
 some (-1)
def Y8 (h:zG) (id:Int):Int→Option (Int ⊕ Int)
 | i =>
  if decide (i<(h.Berths.length:Int)) then
   Option.bind (ix h.Berths i) fun x =>
   if decide (x.ID=id) then
    some (.inr i)
   else
    some (.inl (w64 (i+1)))
  else
   ((qz).map Sum.inr)
def zA8 (h:zG) (id:Int):Option Int :=
 Lp (Y8 h id) fuel 0
def yZ : Option Int :=
 some 0
def yc (w:zO) (q:Int):Int→Option (Int ⊕ Int)
 | i =>
  if decide (i<(w.Shifts.length:Int)) then
   Option.bind (ix w.Shifts i) fun x =>
   gb ((decide (x.From≤q))) (ix w.Shifts i) fun x1 =>
   if ((decide (x.From≤q))&&(decide (q≤x1.To))) then
    Option.bind (ix w.Shifts i) fun x2 =>
    some (.inr x2.Add)
   else
    some (.inl (w64 (i+1)))
  else
   ((yZ).map Sum.inr)
def YB (w:zO) (tick:Int):Option Int :=
 Option.bind (quo tick 1440) fun q =>
 Lp (yc w q) fuel 0
def YA (q2:Int):Option Int :=
 some q2
def qZ (a:Int) (b:Int):Option Int :=
 Option.bind (quo a b) fun q =>
 Option.bind (rem a b) fun q1 =>
 if decide (q1<0) then
  YA (w64 (q - 1))
 else
  YA q
def zDk (c:zX) (tick:Int):Option Int :=
 Option.bind (qZ (w64 (tick - c.Begin)) c.Every) fun y =>
 Option.bind (qZ y (c.Heights.length:Int)) fun y1 =>
 Option.bind (ix c.Heights (w64 (y - (w64 (y1*(c.Heights.length:Int)))))) fun x =>
 some x
def Q0 (h:Int):Option Int :=
 some h
def zAr (w:zO) (tick:Int):(Int×Int)→Option ((Int×Int) ⊕ Int)
 | (h1,i) =>
  if decide (i<(w.Cycles.length:Int)) then
   Option.bind (ix w.Cycles i) fun x =>
   Option.bind (zDk x tick) fun y1 =>
   some (.inl (w64 (h1+y1),w64 (i+1)))
  else
   ((Q0 h1).map Sum.inr)
def zBz (w:zO) (tick:Int):Option Int :=
 Option.bind (YB w tick) fun y =>
 Lp (zAr w tick) fuel (y,0)
def zDl (w:zO) (tick:Int):Option Int :=
 Option.bind (zBz w tick) fun y =>
 some (w64 (w.Level+y))
def zA7 (h:zG) (at_:Int) (tick:Int):Option Int :=
 Option.bind (ix h.Berths at_) fun x =>
 Option.bind (zDl h.Water tick) fun y =>
 some (w64 (x.Depth+y))
def zAo : Option (zC×Bool) :=
 some ((⟨0,0⟩:zC),false)
def Yn (c:zJ) (n:Int) (run:Int):Option ((Int×Int) ⊕ (zC×Bool)) :=
 if decide (run=c.Long) then
  some (.inr ((⟨w64 ((w64 (n - c.Long))+1),n⟩:zC),true))
 else
  some (.inl (run,w64 (n+1)))
def Qx (h:zG) (c:zJ) (x1:zC) (y:Int):(Int×Int)→Option ((Int×Int) ⊕ (zC×Bool))
 | (run1,n) =>
  if decide (n≤(min x1.Hi c.To)) then
   Option.bind (zA7 h (max 0 y) n) fun y1 =>
   if decide (y1<(w64 (c.Draught+h.Keel))) then
    Yn c n 0
   else
    Yn c n (w64 (run1+1))
  else
   ((zAo).map Sum.inr)
def zBx (h:zG) (c:zJ) (x:zB):Option (zC×Bool) :=
 Option.bind (ix h.Tides x.Tide) fun x1 =>
 Option.bind (zA8 h x.Berth) fun y =>
 Lp (Qx h c x1 y) fuel (0,max x1.Lo c.From)
def Y6 (l:(List zB)):Option (List zB) :=
 some l
def Y5 (t:Int) (l1:(List zB)):Option ((Int×(List zB)) ⊕ (List zB)) :=
 some (.inl (w64 (t+1),l1))
def yw (b:Int) (l2:(List zB)):Option ((Int×(List zB)) ⊕ ((Int×(List zB)) ⊕ (List zB))) :=
 some (.inl (w64 (b+1),l2))
def yx (h:zG) (c:zJ) (t:Int):(Int×(List zB))→Option ((Int×(List zB)) ⊕ ((Int×(List zB)) ⊕ (List zB)))
 | (b,l4) =>
  if decide (b<(h.Berths.length:Int)) then
   Option.bind (ix h.Berths b) fun x =>
   Option.bind (zBx h c (⟨t,x.ID⟩:zB)) fun y =>
   if y.2 then
    Option.bind (app l4 ([(⟨t,x.ID⟩:zB)])) fun l3 =>
    yw b l3
   else
    yw b l4
  else
   ((Y5 t l4).map Sum.inr)
def Y7 (h:zG) (c:zJ):(Int×(List zB))→Option ((Int×(List zB)) ⊕ (List zB))
 | (t,l5) =>
  if decide (t<(h.Tides.length:Int)) then
   Lp (yx h c t) fuel (0,l5)
  else
   ((Y6 l5).map Sum.inr)
def qY (h:zG) (c:zJ):Option (List zB) :=
 Lp (Y7 h c) fuel (0,[])
structure zm where
 l:(List (List zB))
 deriving DecidableEq,Inhabited
def yz (l1:(List (List zB))):Option zm :=
 some (⟨l1⟩:zm)
def QX (h:zG) (l:(List zJ)):(Int×(List (List zB)))→Option ((Int×(List (List zB))) ⊕ zm)
 | (i,l3) =>
  if decide (i<(l.length:Int)) then
   Option.bind (ix l i) fun x =>
   Option.bind (qY h x) fun y =>
   Option.bind (app l3 ([y])) fun l2 =>
   some (.inl (w64 (i+1),l2))
  else
   ((yz l3).map Sum.inr)
def Yo (h:zG) (l:(List zJ)):Option zm :=
 Lp (QX h l) fuel (0,[])
def zBe : Option Bool :=
 some false
def zBf (l:(List zB)) (x:zB):Int→Option (Int ⊕ Bool)
 | i =>
  if decide (i<(l.length:Int)) then
   Option.bind (ix l i) fun x1 =>
   if decide (x1=x) then
    some (.inr true)
   else
    some (.inl (w64 (i+1)))
  else
   ((zBe).map Sum.inr)
def zAf (l:(List zB)) (x:zB):Option Bool :=
 Lp (zBf l x) fuel 0
structure zCI where
 slots:(List zB)
 by_:(List Int)
 deriving DecidableEq,Inhabited
def qx : Option Int :=
 some (-1)
def qy (m:zCI) (x:zB):Int→Option (Int ⊕ Int)
 | i =>
  if decide (i<(m.slots.length:Int)) then
   Option.bind (ix m.slots i) fun x1 =>
   if decide (x1=x) then
    some (.inr i)
   else
    some (.inl (w64 (i+1)))
  else
   ((qx).map Sum.inr)
def zA5 (m:zCI) (x:zB):Option Int :=
 Lp (qy m x) fuel 0
structure Tried where
 s:List zB
 b:List Int
 n:List zB
 ok:Bool
def JM (g:Int→Tried→Option Tried) (ship:Int):List zB→Tried→Option Tried
 | [],t=>some t
 | x :: r,t =>
  Option.bind (zAf t.n x) fun was =>
  if was then
   JM g ship r t
  else
   Option.bind (app t.n [x]) fun n =>
   Option.bind (zA5 ⟨t.s,t.b⟩ x) fun k =>
   if decide (k<0) then
    Option.bind (app t.s [x]) fun s =>
    Option.bind (app t.b [ship]) fun b =>
    some ⟨s,b,n,true⟩
   else
    Option.bind (ix t.b k) fun o =>
    Option.bind (g o ⟨t.s,t.b,n,t.ok⟩) fun t' =>
    if t'.ok then
     Option.bind (ix t'.b k) fun _ =>
     some ⟨t'.s,put t'.b k ship,t'.n,true⟩
    else
     JM g ship r t'
def Jv (c:zm):Nat→Int→Tried→Option Tried
 | 0,_,_=>none
 | f+1,ship,t =>
  Option.bind (ix c.l ship) fun row =>
  if decide ((row.length:Int)≤9223372036854775807) then
   JM (Jv c f) ship row t
  else
   none
def yE (c:zm):List (List zB)→Int→List zB→List Int→Int→Option Int
 | [],_,_,_,n=>some n
 | _ :: r,i,s,b,n =>
  Option.bind (Jv c fuel i ⟨s,b,[],false⟩) fun t =>
  if t.ok then
   yE c r (w64 (i+1)) t.s t.b (w64 (n+1))
  else
   yE c r (w64 (i+1)) s b n
def YQ (c:zm):Option Int :=
 if decide ((c.l.length:Int)≤9223372036854775807) then
  yE c c.l 0 [] [] 0
 else
  none
def qO (h:zG) (l:(List zJ)):Option zA9 :=
 Option.bind (jq h l) fun y =>
 if !decide (y=0) then
  some (⟨0,y⟩:zA9)
 else
  Option.bind (Yo h l) fun y1 =>
  Option.bind (YQ y1) fun y2 =>
  some (⟨y2,0⟩:zA9)
def zAp : Option Int :=
 some (-1)
def zAq (l:(List zJ)) (id:Int):Int→Option (Int ⊕ Int)
 | i =>
  if decide (i<(l.length:Int)) then
   Option.bind (ix l i) fun x =>
   if decide (x.ID=id) then
    some (.inr i)
   else
    some (.inl (w64 (i+1)))
  else
   ((zAp).map Sum.inr)
def zAg (l:(List zJ)) (id:Int):Option Int :=
 Lp (zAq l id) fuel 0
def Jw (h:zG) (l:List zJ):List Int→List zB→Option (List zB)
 | [],s=>some s
 | id :: r,s =>
  Option.bind (zAg l id) fun y =>
  Option.bind (ix l (max 0 y)) fun x =>
  Option.bind (qY h x) fun q =>
  Option.bind (app s q) fun s' =>
  Jw h l r s'
def jR (s:List zB) (t:Int):List zT→List zB→Option (List zB)
 | [],o=>some o
 | b :: r,o =>
  Option.bind (zAf s ⟨t,b.ID⟩) fun is =>
  if is then
   Option.bind (app o [(⟨t,b.ID⟩:zB)]) fun o' => jR s t r o'
  else
   jR s t r o
def JG (h:zG) (s:List zB):List zC→Int→List zB→Option (List zB)
 | [],_,o=>some o
 | _ :: r,t,o=>Option.bind (jR s t h.Berths o) fun o' => JG h s r (w64 (t+1)) o'
def Qy (h:zG) (l:List zJ) (ids:List Int):Option (List zB) :=
 if decide ((ids.length:Int)≤9223372036854775807∧(h.Tides.length:Int)≤9223372036854775807∧(h.Berths.length:Int)≤9223372036854775807) then
  Option.bind (Jw h l ids []) fun s=>JG h s h.Tides 0 []
 else
  none
def Jy : Option Bool :=
 some true
def YR (a:(List zB)) (b:(List zB)):Int→Option (Int ⊕ Bool)
 | i =>
  if decide (i<(a.length:Int)) then
   Option.bind (ix a i) fun x =>
   Option.bind (ix b i) fun x1 =>
   if !decide (x=x1) then
    some (.inr false)
   else
    some (.inl (w64 (i+1)))
  else
   ((Jy).map Sum.inr)
def Yc (a:(List zB)) (b:(List zB)):Option Bool :=
 if !decide ((a.length:Int)=(b.length:Int)) then
  some false
 else
  Lp (YR a b) fuel 0
def Jz (h:zG) (l:(List zJ)) (x:zZ):Option (Int×Int) :=
 if decide ((x.Calls.length:Int)=0) then
  some (0,8)
 else
  Option.bind (Qy h l x.Calls) fun y1 =>
  Option.bind (Yc x.Slots y1) fun y2 =>
  if ((!y2)||(decide ((x.Calls.length:Int)≤(x.Slots.length:Int)))) then
   some (0,8)
  else
   some (w64 ((x.Calls.length:Int) - (x.Slots.length:Int)),0)
def YS (h:zG) (l:(List zJ)) (x:zZ):Int→Option (Int ⊕ (Int×Int))
 | i =>
  if decide (i<(x.Calls.length:Int)) then
   Option.bind (ix x.Calls i) fun x1 =>
   Option.bind (zAg l x1) fun y3 =>
   gb (!(decide (y3<0))&&(decide (0<i))) (ix x.Calls i) fun x2 =>
   gb (!(decide (y3<0))&&(decide (0<i))) (ix x.Calls (w64 (i - 1))) fun x3 =>
   if ((decide (y3<0))||((decide (0<i))&&(decide (x2≤x3)))) then
    some (.inr (0,8))
   else
    some (.inl (w64 (i+1)))
  else
   ((Jz h l x).map Sum.inr)
def jh (h:zG) (l:(List zJ)) (x:zZ):Option (Int×Int) :=
 Option.bind (jq h l) fun y =>
 if !decide (y=0) then
  some (0,y)
 else
  Lp (YS h l x) fuel 0
def Jd (n:Int):Option Int :=
 some n
def jJ (x1:Int) (n1:Int):Option ((Int×Int) ⊕ Int) :=
 some (.inl (n1,w64 (x1+1)))
def ym (b:zL) (y:(List Int)×Int):(Int×Int)→Option ((Int×Int) ⊕ Int)
 | (n2,x1) =>
  if decide (x1<(y.1.length:Int)) then
   Option.bind (ix y.1 x1) fun x =>
   if decide (x<(b.slots.length:Int)) then
    jJ x1 (w64 (n2+1))
   else
    jJ x1 n2
  else
   ((Jd n2).map Sum.inr)
def jr (b:zL):Option Int :=
 Option.bind (Zt b []) fun y =>
 Lp (ym b y) fuel (0,0)
def Yt (l1:(List Int)):Option ((List Int)×Int) :=
 Option.bind (srtO l1) fun l2 =>
 some (l2,0)
def yP (x4:Int) (l3:(List Int)):Option ((Int×(List Int)) ⊕ ((List Int)×Int)) :=
 some (.inl (w64 (x4+1),l3))
def Yr (y1:zL) (y2:Int) (x4:Int) (l17:(List Int)) (x:zJ) (l4:(List zJ)) (l5:(List (List (zB×zC)))) (l6:(List Int)):Option ((Int×(List Int)) ⊕ ((List Int)×Int)) :=
 Option.bind (jr (⟨l4,y1.slots,l5,l6⟩:zL)) fun y3 =>
 if decide (y3<y2) then
  Option.bind (app l17 ([x.ID])) fun l7 =>
  yP x4 l7
 else
  yP x4 l17
def yO (x3:Int) (l8:(List zJ)) (l9:(List (List (zB×zC)))) (l10:(List Int)):Option ((Int×(List zJ)×(List (List (zB×zC)))×(List Int)) ⊕ ((Int×(List Int)) ⊕ ((List Int)×Int))) :=
 some (.inl (w64 (x3+1),l8,l9,l10))
def qC (l:(List zJ)) (y1:zL) (y2:Int) (x4:Int) (l17:(List Int)) (x:zJ):(Int×(List zJ)×(List (List (zB×zC)))×(List Int))→Option ((Int×(List zJ)×(List (List (zB×zC)))×(List Int)) ⊕ ((Int×(List Int)) ⊕ ((List Int)×Int)))
 | (x3,l14,l15,l16) =>
  if decide (x3<(l.length:Int)) then
   if !decide (x3=x4) then
    Option.bind (ix l x3) fun x1 =>
    Option.bind (app l14 ([x1])) fun l11 =>
    Option.bind (ix y1.can x3) fun x2 =>
    Option.bind (app l15 ([x2])) fun l12 =>
    Option.bind (app l16 ([(-1)])) fun l13 =>
    yO x3 l11 l12 l13
   else
    yO x3 l14 l15 l16
  else
   ((Yr y1 y2 x4 l17 x l14 l15 l16).map Sum.inr)
def qD (l:(List zJ)) (y1:zL) (y2:Int):(Int×(List Int))→Option ((Int×(List Int)) ⊕ ((List Int)×Int))
 | (x4,l17) =>
  if decide (x4<(l.length:Int)) then
   Option.bind (ix l x4) fun x =>
   Lp (qC l y1 y2 x4 l17 x) fuel (0,[],[],[])
  else
   ((Yt l17).map Sum.inr)
def QO (h:zG) (l:(List zJ)):Option ((List Int)×Int) :=
 Option.bind (Z4 h l) fun y =>
 if !decide (y=0) then
  some ([],y)
 else
  Option.bind (yN h l) fun y1 =>
  Option.bind (jr y1) fun y2 =>
  Lp (qD l y1 y2) fuel (0,[])
def J8 (l:(List Int)) (n:Int) (k:Int):Option (List Int) :=
 gb ((decide (k<(l.length:Int)))) (ix l k) fun x =>
 if ((decide (k<(l.length:Int)))&&(decide (x=n))) then
  some l
 else
  Option.bind (sub l 0 k) fun l1 =>
  Option.bind (app [] l1) fun l2 =>
  Option.bind (app l2 ([n])) fun l3 =>
  Option.bind (sub l k l.length) fun l4 =>
  Option.bind (app l3 l4) fun l5 =>
  some l5
def qG (l:(List Int)) (n:Int):Int→Option (Int ⊕ (List Int))
 | k1 =>
  gb ((decide (k1<(l.length:Int)))) (ix l k1) fun x1 =>
  if ((decide (k1<(l.length:Int)))&&(decide (x1<n))) then
   some (.inl (w64 (k1+1)))
  else
   ((J8 l n k1).map Sum.inr)
def qw (l:(List Int)) (n:Int):Option (List Int) :=
 Lp (qG l n) fuel 0
def JD (l:List zB):List zB→List zB→Option (List zB)
 | [],o=>some o
 | x :: r,o =>
  Option.bind (zAf l x) fun is =>
  if !is then
   Option.bind (app o [x]) fun o' => JD l r o'
  else
   JD l r o
def JE (ship:Int) (l:List zB):List (List zB)→Int→List (List zB)→Option (List (List zB))
 | [],_,o=>some o
 | row :: r,i,o =>
  if decide (i=ship) then
   Option.bind (app o [l]) fun o' => JE ship l r (w64 (i+1)) o'
  else
   if decide ((row.length:Int)≤9223372036854775807) then
    Option.bind (JD l row []) fun q =>
    Option.bind (app o [q]) fun o' => JE ship l r (w64 (i+1)) o'
   else
    none
def zA6 (c:zm) (ship:Int) (l:List zB):Option zm :=
 if decide ((c.l.length:Int)≤9223372036854775807) then
  Option.bind (JE ship l c.l 0 []) fun o=>some (⟨o⟩:zm)
 else
  none
structure zBy where
 L:(List Int)
 E:Int
 deriving DecidableEq,Inhabited
def yF (c:zm) (n:Int):List zJ→Int→List Int→Option (List Int)
 | [],_,o=>some o
 | x :: r,i,o =>
  Option.bind (zA6 c i []) fun d =>
  Option.bind (YQ d) fun m =>
  if decide (m<n) then
   Option.bind (qw o x.ID) fun o' =>
   if decide (o'=[]) then none else yF c n r (w64 (i+1)) o'
  else
   yF c n r (w64 (i+1)) o
def qN (h:zG) (l:List zJ):Option zBy :=
 Option.bind (jq h l) fun e =>
 if !decide (e=0) then
  some (⟨[],e⟩:zBy)
 else
  Option.bind (Yo h l) fun c =>
  Option.bind (YQ c) fun n =>
  if decide ((l.length:Int)≤9223372036854775807) then
   Option.bind (yF c n l 0 []) fun o=>some (⟨o,0⟩:zBy)
  else
   none
def Yz : Option Bool :=
 some true
def Y0 (a:(List Int)) (b:(List Int)):Int→Option (Int ⊕ Bool)
 | i =>
  if decide (i<(a.length:Int)) then
   Option.bind (ix a i) fun x =>
   Option.bind (ix b i) fun x1 =>
   if !decide (x=x1) then
    some (.inr false)
   else
    some (.inl (w64 (i+1)))
  else
   ((Yz).map Sum.inr)
def Y9 (a:(List Int)) (b:(List Int)):Option Bool :=
 if !decide ((a.length:Int)=(b.length:Int)) then
  some false
 else
  Lp (Y0 a b) fuel 0
def Z9 (h:zG) (l:(List zJ)) (x:zZ):Option Bool :=
 Option.bind (Zz h l x) fun y4 =>
 Option.bind (jh h l x) fun y5 =>
 Option.bind (QO h l) fun y6 =>
 Option.bind (qN h l) fun y7 =>
 Option.bind (YV) fun y8 =>
 gb ((((y8&&(decide (y4.1=y5.1)))&&(decide (y4.2=y5.2))))) (Y9 y6.1 y7.L) fun y9 =>
 some ((((y8&&(decide (y4.1=y5.1)))&&(decide (y4.2=y5.2)))&&y9)&&(decide (y6.2=y7.E)))
def Yf (h:zG) (l:(List zJ)) (x:zZ):Option Bool :=
 Option.bind (zBF h) fun y =>
 if ((((!y)||(!(zBn l 6)))||(decide (20<(x.Calls.length:Int))))||(decide (80<(x.Slots.length:Int)))) then
  Option.bind (YV) fun y1 =>
  some y1
 else
  Option.bind (J2 h l) fun y2 =>
  Option.bind (qO h l) fun y3 =>
  if (((!decide (y2.2.2=y3.E))||(!(y2.2.1==((decide (y2.2.2=0))&&(decide (y3.N<(l.length:Int)))))))||((!y2.2.1)&&((decide (0<(y2.1.Calls.length:Int)))||(decide (0<(y2.1.Slots.length:Int)))))) then
   some false
  else
   if y2.2.1 then
    Option.bind (jh h l y2.1) fun y10 =>
    Option.bind (Zz h l y2.1) fun y11 =>
    if ((((!decide (y10.2=0))||(!decide (y10.1=(w64 ((l.length:Int) - y3.N)))))||(!decide (y11.2=0)))||(!decide (y11.1=y10.1))) then
     some false
    else
     Z9 h l x
   else
    Z9 h l x
end Go.Mx
