/- Functions of the program as plain functions. Conditions: none. Printed by a program (wip/tools/xg.py). -/
import Derived.Test.YtfoafeaplgmhmaaGreatXl
set_option linter.unusedVariables false
namespace Go.Mx
structure api_Court where
 Arbiters:Int
 deriving DecidableEq,Inhabited
def arbiter_within (n:Int) (lo:Int) (hi:Int):Bool :=
 ((decide (lo≤n))&&(decide (n≤hi)))
def arbiter_Check (c:api_Court):Int :=
 if !(arbiter_within c.Arbiters 3 7) then
  1
 else
  0
def arbiter_Majority (c:api_Court):Option Int :=
 if !decide ((arbiter_Check c)=0) then
  some 0
 else
  Option.bind (quo c.Arbiters 2) fun q =>
  some (w64 (q+1))
structure api_Letter where
 ID:Int
 Case:Int
 Kind:Int
 Round:Int
 From:Int
 To:Int
 Voted:Int
 Finding:Int
 deriving DecidableEq,Inhabited
def arbiter_picked_j1 (ID:Int) (Case:Int) (Kind:Int) (Round:Int) (From:Int) (To:Int) (Voted:Int) (Finding:Int):Option (Int×Bool) :=
 some (Finding,decide (0<Voted))
def arbiter_picked_j3 (x1:Int) (ID1:Int) (Case1:Int) (Kind1:Int) (Round1:Int) (From1:Int) (To1:Int) (Voted1:Int) (Finding1:Int):Option ((Int×Int×Int×Int×Int×Int×Int×Int×Int) ⊕ (Int×Bool)) :=
 some (.inl (w64 (x1+1),ID1,Case1,Kind1,Round1,From1,To1,Voted1,Finding1))
def arbiter_picked_b2 (l:(List api_Letter)):(Int×Int×Int×Int×Int×Int×Int×Int×Int)→Option ((Int×Int×Int×Int×Int×Int×Int×Int×Int) ⊕ (Int×Bool))
 | (x1,ID2,Case2,Kind2,Round2,From2,To2,Voted2,Finding2) =>
  if decide (x1<(l.length:Int)) then
   Option.bind (ix l x1) fun x =>
   if decide (Voted2<x.Voted) then
    arbiter_picked_j3 x1 x.ID x.Case x.Kind x.Round x.From x.To x.Voted x.Finding
   else
    arbiter_picked_j3 x1 ID2 Case2 Kind2 Round2 From2 To2 Voted2 Finding2
  else
   ((arbiter_picked_j1 ID2 Case2 Kind2 Round2 From2 To2 Voted2 Finding2).map Sum.inr)
def arbiter_picked (l:(List api_Letter)):Option (Int×Bool) :=
 Lp (arbiter_picked_b2 l) fuel (0,0,0,0,0,0,0,0,0)
def arbiter_next_j1 (r_:Int):Option Int :=
 some r_
def arbiter_next_b2 (c:api_Court) (arbiter:Int):Int→Option (Int ⊕ Int)
 | r_1 =>
  Option.bind (rem (w64 (r_1 - 1)) c.Arbiters) fun q =>
  if !decide (q=arbiter) then
   some (.inl (w64 (r_1+1)))
  else
   ((arbiter_next_j1 r_1).map Sum.inr)
def arbiter_next (c:api_Court) (arbiter:Int) (round:Int):Option Int :=
 Lp (arbiter_next_b2 c arbiter) fuel (w64 (round+1))
def arbiter_judge (c:api_Court) (a:Int):Bool :=
 (arbiter_within a 0 (w64 (c.Arbiters - 1)))
def arbiter_topic (id:Int):Bool :=
 (arbiter_within id 1 1099511627776)
def arbiter_finding (n:Int):Bool :=
 (arbiter_within n 0 65536)
def slices_Index_int_j1 : Option Int :=
 some (-1)
def slices_Index_int_b2 (s:(List Int)) (v_:Int):Int→Option (Int ⊕ Int)
 | x1 =>
  if decide (x1<(s.length:Int)) then
   Option.bind (ix s x1) fun x =>
   if decide (v_=x) then
    some (.inr x1)
   else
    some (.inl (w64 (x1+1)))
  else
   ((slices_Index_int_j1).map Sum.inr)
def slices_Index_int (s:(List Int)) (v_:Int):Option Int :=
 Lp (slices_Index_int_b2 s v_) fuel 0
def slices_Contains_int (s:(List Int)) (v_:Int):Option Bool :=
 Option.bind (slices_Index_int s v_) fun y =>
 some (decide (0≤y))
def arbiter_World_find_1 (l:api_Letter) (c:Int):Bool :=
 decide (l.ID=c)
def slices_IndexFunc_api_Letter__arbiter_World_find_1_j1 : Option Int :=
 some (-1)
def slices_IndexFunc_api_Letter__arbiter_World_find_1_b2 (s:(List api_Letter)) (c:Int):Int→Option (Int ⊕ Int)
 | x1 =>
  if decide (x1<(s.length:Int)) then
   Option.bind (ix s x1) fun x =>
   if (arbiter_World_find_1 x c) then
    some (.inr x1)
   else
    some (.inl (w64 (x1+1)))
  else
   ((slices_IndexFunc_api_Letter__arbiter_World_find_1_j1).map Sum.inr)
def slices_IndexFunc_api_Letter__arbiter_World_find_1 (s:(List api_Letter)) (c:Int):Option Int :=
 Lp (slices_IndexFunc_api_Letter__arbiter_World_find_1_b2 s c) fuel 0
def arbiter_World_promise_1 (x:api_Letter) (c:api_Letter):Bool :=
 decide (x.From=c.From)
def slices_IndexFunc_api_Letter__arbiter_World_promise_1_j1 : Option Int :=
 some (-1)
def slices_IndexFunc_api_Letter__arbiter_World_promise_1_b2 (s:(List api_Letter)) (c:api_Letter):Int→Option (Int ⊕ Int)
 | x1 =>
  if decide (x1<(s.length:Int)) then
   Option.bind (ix s x1) fun x =>
   if (arbiter_World_promise_1 x c) then
    some (.inr x1)
   else
    some (.inl (w64 (x1+1)))
  else
   ((slices_IndexFunc_api_Letter__arbiter_World_promise_1_j1).map Sum.inr)
def slices_IndexFunc_api_Letter__arbiter_World_promise_1 (s:(List api_Letter)) (c:api_Letter):Option Int :=
 Lp (slices_IndexFunc_api_Letter__arbiter_World_promise_1_b2 s c) fuel 0
def slices_ContainsFunc_api_Letter__arbiter_World_promise_1 (s:(List api_Letter)) (c:api_Letter):Option Bool :=
 Option.bind (slices_IndexFunc_api_Letter__arbiter_World_promise_1 s c) fun y =>
 some (decide (0≤y))
def arbiter_World_vote_1 (x:api_Letter) (c:api_Letter):Bool :=
 ((decide (x.From=c.From))&&(decide (x.Round=c.Round)))
def slices_IndexFunc_api_Letter__arbiter_World_vote_1_j1 : Option Int :=
 some (-1)
def slices_IndexFunc_api_Letter__arbiter_World_vote_1_b2 (s:(List api_Letter)) (c:api_Letter):Int→Option (Int ⊕ Int)
 | x1 =>
  if decide (x1<(s.length:Int)) then
   Option.bind (ix s x1) fun x =>
   if (arbiter_World_vote_1 x c) then
    some (.inr x1)
   else
    some (.inl (w64 (x1+1)))
  else
   ((slices_IndexFunc_api_Letter__arbiter_World_vote_1_j1).map Sum.inr)
def slices_IndexFunc_api_Letter__arbiter_World_vote_1 (s:(List api_Letter)) (c:api_Letter):Option Int :=
 Lp (slices_IndexFunc_api_Letter__arbiter_World_vote_1_b2 s c) fuel 0
def slices_ContainsFunc_api_Letter__arbiter_World_vote_1 (s:(List api_Letter)) (c:api_Letter):Option Bool :=
 Option.bind (slices_IndexFunc_api_Letter__arbiter_World_vote_1 s c) fun y =>
 some (decide (0≤y))
structure api_Ruling where
 Case:Int
 Round:Int
 Finding:Int
 deriving DecidableEq,Inhabited
def cmp_isNaN_int (x:Int):Bool :=
 !decide (x=x)
def cmp_Compare_int (x:Int) (y:Int):Int :=
 if (cmp_isNaN_int x) then
  if (cmp_isNaN_int y) then
   0
  else
   (-1)
 else
  if (cmp_isNaN_int y) then
   1
  else
   if decide (x<y) then
    (-1)
   else
    if decide (y<x) then
     1
    else
     0
def cmp_Or_int_j1 : Option Int :=
 some 0
def cmp_Or_int_b2 (vals:(List Int)):Int→Option (Int ⊕ Int)
 | x1 =>
  if decide (x1<(vals.length:Int)) then
   Option.bind (ix vals x1) fun x =>
   if !decide (x=0) then
    some (.inr x)
   else
    some (.inl (w64 (x1+1)))
  else
   ((cmp_Or_int_j1).map Sum.inr)
def cmp_Or_int (vals:(List Int)):Option Int :=
 Lp (cmp_Or_int_b2 vals) fuel 0
def arbiter_order (a:api_Ruling) (b:api_Ruling):Option Int :=
 Option.bind (cmp_Or_int ([(cmp_Compare_int a.Case b.Case),(cmp_Compare_int a.Round b.Round),(cmp_Compare_int a.Finding b.Finding)])) fun y =>
 some y
def lt_ruling (x y:api_Ruling):Bool:=decide (x.Case<y.Case)||(decide (x.Case=y.Case)&&(decide (x.Round<y.Round)||(decide (x.Round=y.Round)&&decide (x.Finding<y.Finding))))
def arbiter_rulings_j2 (l1:(List api_Ruling)):Option (List api_Ruling) :=
 Option.bind (srtFO lt_ruling l1) fun l2 =>
 some l2
def arbiter_rulings_j4 (l3:(List api_Ruling)):Option (List api_Ruling) :=
 some l3
def arbiter_rulings_b3 (c:api_Court):api_Ruling×(List (Int×Bool))→(List api_Ruling)→Option (List api_Ruling)
 | (k,v_),l5 =>
  Option.bind (arbiter_Majority c) fun y =>
  if decide (y≤(v_.length:Int)) then
   Option.bind (app l5 ([k])) fun l4 =>
   arbiter_rulings_j4 l4
  else
   arbiter_rulings_j4 l5
def arbiter_rulings_j5 (l5:(List api_Ruling)):Option (List api_Ruling) :=
 arbiter_rulings_j2 l5
def arbiter_rulings_j1 (c:api_Court) (m:(List (api_Ruling×(List (Int×Bool))))):Option (List api_Ruling) :=
 Option.bind (foldO (arbiter_rulings_b3 c) m []) fun vE_3 =>
 arbiter_rulings_j5 vE_3
def arbiter_rulings_j7 (x1:Int) (m1:(List (api_Ruling×(List (Int×Bool))))):Option ((Int×(List (api_Ruling×(List (Int×Bool))))) ⊕ (List api_Ruling)) :=
 some (.inl (w64 (x1+1),m1))
def arbiter_rulings_j8 (x1:Int) (x:api_Letter) (m2:(List (api_Ruling×(List (Int×Bool))))):Option ((Int×(List (api_Ruling×(List (Int×Bool))))) ⊕ (List api_Ruling)) :=
 Option.bind (lookM (⟨x.Case,x.Round,x.Finding⟩:api_Ruling) m2) fun m3 =>
 arbiter_rulings_j7 x1 (putM posE m2 (⟨x.Case,x.Round,x.Finding⟩:api_Ruling) (putM posI m3 x.From true))
def arbiter_rulings_b6 (c:api_Court) (l:(List api_Letter)):(Int×(List (api_Ruling×(List (Int×Bool)))))→Option ((Int×(List (api_Ruling×(List (Int×Bool))))) ⊕ (List api_Ruling))
 | (x1,m4) =>
  if decide (x1<(l.length:Int)) then
   Option.bind (ix l x1) fun x =>
   if !decide (x.Kind=4) then
    arbiter_rulings_j7 x1 m4
   else
    if (!(lookM (⟨x.Case,x.Round,x.Finding⟩:api_Ruling) m4).isSome) then
     arbiter_rulings_j8 x1 x (putM posE m4 (⟨x.Case,x.Round,x.Finding⟩:api_Ruling) [])
    else
     arbiter_rulings_j8 x1 x m4
  else
   ((arbiter_rulings_j1 c m4).map Sum.inr)
def arbiter_rulings (c:api_Court) (l:(List api_Letter)):Option (List api_Ruling) :=
 Lp (arbiter_rulings_b6 c l) fuel (0,[])
def ref09_in (n:Int) (lo:Int) (hi:Int):Bool :=
 ((decide (lo≤n))&&(decide (n≤hi)))
def ref09_Check (c:api_Court):Int :=
 if !(ref09_in c.Arbiters 3 7) then
  1
 else
  0
structure api_Note where
 Promised:Int
 Voted:Int
 Finding:Int
 Opened:Int
 deriving DecidableEq,Inhabited
structure ref09_Seat where
 Arbiter:Int
 Case:Int
 Book:api_Note
 Wish:Int
 Wishes:Bool
 Round:Int
 List:(List api_Letter)
 Proposed:Bool
 deriving DecidableEq,Inhabited
structure ref09_World where
 C:api_Court
 Named:(List Int)
 Seats:(List ref09_Seat)
 Got:(List api_Letter)
 Way:(List api_Letter)
 All:(List api_Letter)
 Number:Int
 deriving DecidableEq,Inhabited
structure ref09_Made where
 W:ref09_World
 E:Int
 deriving DecidableEq,Inhabited
def ref09_New (c:api_Court):ref09_Made :=
 (⟨(⟨c,[],[],[],[],[],0⟩:ref09_World),(ref09_Check c)⟩:ref09_Made)
structure api_Act where
 Kind:Int
 A:Int
 Case:Int
 Finding:Int
 N:Int
 deriving DecidableEq,Inhabited
def ref09_named_j1 : Option Bool :=
 some false
def ref09_named_b2 (w:ref09_World) (id:Int):Int→Option (Int ⊕ Bool)
 | i =>
  if decide (i<(w.Named.length:Int)) then
   Option.bind (ix w.Named i) fun x =>
   if decide (x=id) then
    some (.inr true)
   else
    some (.inl (w64 (i+1)))
  else
   ((ref09_named_j1).map Sum.inr)
def ref09_named (w:ref09_World) (id:Int):Option Bool :=
 Lp (ref09_named_b2 w id) fuel 0
def ref09_fresh (w:ref09_World) (id:Int):Option Bool :=
 Option.bind (ref09_named w id) fun y =>
 some (y||(decide ((w.Named.length:Int)<40)))
def ref09_at_j1 : Option Int :=
 some (-1)
def ref09_at_b2 (w:ref09_World) (arbiter:Int) (id:Int):Int→Option (Int ⊕ Int)
 | i =>
  if decide (i<(w.Seats.length:Int)) then
   Option.bind (ix w.Seats i) fun x =>
   gb ((decide (x.Arbiter=arbiter))) (ix w.Seats i) fun x1 =>
   if ((decide (x.Arbiter=arbiter))&&(decide (x1.Case=id))) then
    some (.inr i)
   else
    some (.inl (w64 (i+1)))
  else
   ((ref09_at_j1).map Sum.inr)
def ref09_at (w:ref09_World) (arbiter:Int) (id:Int):Option Int :=
 Lp (ref09_at_b2 w arbiter id) fuel 0
def ref09_Sit (w:ref09_World) (arbiter:Int) (id:Int):Option ref09_Seat :=
 Option.bind (ref09_at w arbiter id) fun y =>
 if decide (y<0) then
  some (⟨arbiter,id,(⟨0,0,0,0⟩:api_Note),0,false,0,[],false⟩:ref09_Seat)
 else
  Option.bind (ix w.Seats y) fun x =>
  some x
def ref09_name_j1 (w:ref09_World) (id:Int) (k:Int):Option ref09_World :=
 Option.bind (sub w.Named 0 k) fun l =>
 Option.bind (app [] l) fun l1 =>
 Option.bind (app l1 ([id])) fun l2 =>
 Option.bind (sub w.Named k w.Named.length) fun l3 =>
 Option.bind (app l2 l3) fun l4 =>
 some (⟨w.C,l4,w.Seats,w.Got,w.Way,w.All,w.Number⟩:ref09_World)
def ref09_name_b2 (w:ref09_World) (id:Int):Int→Option (Int ⊕ ref09_World)
 | k1 =>
  gb ((decide (k1<(w.Named.length:Int)))) (ix w.Named k1) fun x =>
  if ((decide (k1<(w.Named.length:Int)))&&(decide (x<id))) then
   some (.inl (w64 (k1+1)))
  else
   ((ref09_name_j1 w id k1).map Sum.inr)
def ref09_name (w:ref09_World) (id:Int):Option ref09_World :=
 Option.bind (ref09_named w id) fun y =>
 if y then
  some w
 else
  Lp (ref09_name_b2 w id) fuel 0
def ref09_put_j1 (w:ref09_World) (l1:(List ref09_Seat)):Option ref09_World :=
 some (⟨w.C,w.Named,l1,w.Got,w.Way,w.All,w.Number⟩:ref09_World)
def ref09_put (w:ref09_World) (s:ref09_Seat):Option ref09_World :=
 Option.bind (ref09_at w s.Arbiter s.Case) fun y =>
 Option.bind (app [] w.Seats) fun l =>
 if decide (y<0) then
  Option.bind (app l ([s])) fun l2 =>
  ref09_put_j1 w l2
 else
  Option.bind (ix l y) fun x =>
  ref09_put_j1 w (put l y s)
def ref09_Majority (c:api_Court):Option Int :=
 if !decide ((ref09_Check c)=0) then
  some 0
 else
  Option.bind (quo c.Arbiters 2) fun q =>
  some (w64 (q+1))
def ref09_pick_j1 (best:Int) (out:Int):Option (Int×Bool) :=
 some (out,decide (0<best))
def ref09_pick_j3 (i:Int) (best1:Int) (out1:Int):Option ((Int×Int×Int) ⊕ (Int×Bool)) :=
 some (.inl (best1,out1,w64 (i+1)))
def ref09_pick_b2 (l:(List api_Letter)):(Int×Int×Int)→Option ((Int×Int×Int) ⊕ (Int×Bool))
 | (best2,out2,i) =>
  if decide (i<(l.length:Int)) then
   Option.bind (ix l i) fun x =>
   if decide (best2<x.Voted) then
    Option.bind (ix l i) fun x1 =>
    Option.bind (ix l i) fun x2 =>
    ref09_pick_j3 i x1.Voted x2.Finding
   else
    ref09_pick_j3 i best2 out2
  else
   ((ref09_pick_j1 best2 out2).map Sum.inr)
def ref09_pick (l:(List api_Letter)):Option (Int×Bool) :=
 Lp (ref09_pick_b2 l) fuel (0,0,0)
def ref09_send_j1 (w:ref09_World) (l2:(List api_Letter)) (Way:(List api_Letter)):Option ref09_World :=
 some (⟨w.C,w.Named,w.Seats,w.Got,Way,l2,w64 (w.Number+1)⟩:ref09_World)
def ref09_send (w:ref09_World) (l:api_Letter):Option ref09_World :=
 Option.bind (app [] w.All) fun l1 =>
 Option.bind (app l1 ([(⟨w64 (w.Number+1),l.Case,l.Kind,l.Round,l.From,l.To,l.Voted,l.Finding⟩:api_Letter)])) fun l2 =>
 if decide ((w.Way.length:Int)<200) then
  Option.bind (app [] w.Way) fun l3 =>
  Option.bind (app l3 ([(⟨w64 (w.Number+1),l.Case,l.Kind,l.Round,l.From,l.To,l.Voted,l.Finding⟩:api_Letter)])) fun l4 =>
  ref09_send_j1 w l2 l4
 else
  ref09_send_j1 w l2 w.Way
def ref09_sendAll_j1 (Arbiters:Int) (Named:(List Int)) (Seats:(List ref09_Seat)) (Got:(List api_Letter)) (Way:(List api_Letter)) (All:(List api_Letter)) (Number:Int):Option ref09_World :=
 some (⟨(⟨Arbiters⟩:api_Court),Named,Seats,Got,Way,All,Number⟩:ref09_World)
def ref09_sendAll_b2 (l:api_Letter):(Int×Int×(List Int)×(List ref09_Seat)×(List api_Letter)×(List api_Letter)×(List api_Letter)×Int×Int)→Option ((Int×Int×(List Int)×(List ref09_Seat)×(List api_Letter)×(List api_Letter)×(List api_Letter)×Int×Int) ⊕ ref09_World)
 | (a,Arbiters1,Named1,Seats1,Got1,Way1,All1,Number1,To) =>
  if decide (a<Arbiters1) then
   Option.bind (ref09_send (⟨(⟨Arbiters1⟩:api_Court),Named1,Seats1,Got1,Way1,All1,Number1⟩:ref09_World) (⟨l.ID,l.Case,l.Kind,l.Round,l.From,a,l.Voted,l.Finding⟩:api_Letter)) fun y =>
   some (.inl (w64 (a+1),y.C.Arbiters,y.Named,y.Seats,y.Got,y.Way,y.All,y.Number,a))
  else
   ((ref09_sendAll_j1 Arbiters1 Named1 Seats1 Got1 Way1 All1 Number1).map Sum.inr)
def ref09_sendAll (w:ref09_World) (l:api_Letter):Option ref09_World :=
 Lp (ref09_sendAll_b2 l) fuel (0,w.C.Arbiters,w.Named,w.Seats,w.Got,w.Way,w.All,w.Number,l.To)
def ref09_propose_j1 (w:ref09_World) (s:ref09_Seat) (finding:Int):Option ref09_World :=
 Option.bind (ref09_put w (⟨s.Arbiter,s.Case,s.Book,s.Wish,s.Wishes,s.Round,s.List,true⟩:ref09_Seat)) fun y2 =>
 Option.bind (ref09_sendAll y2 (⟨0,s.Case,3,s.Round,s.Arbiter,0,0,finding⟩:api_Letter)) fun y3 =>
 some y3
def ref09_propose (w:ref09_World) (s:ref09_Seat):Option ref09_World :=
 gb (!(((decide (s.Round=0))||s.Proposed))) (ref09_Majority w.C) fun y =>
 if (((decide (s.Round=0))||s.Proposed)||(decide ((s.List.length:Int)<y))) then
  some w
 else
  Option.bind (ref09_pick s.List) fun y1 =>
  if ((!y1.2)&&(!s.Wishes)) then
   some w
  else
   if !y1.2 then
    ref09_propose_j1 w s s.Wish
   else
    ref09_propose_j1 w s y1.1
def ref09_wish (w:ref09_World) (a:api_Act):Option (ref09_World×Int) :=
 if ((((!(ref09_in a.A 0 (w64 (w.C.Arbiters - 1))))||(!(ref09_in a.Case 1 1099511627776)))||(!(ref09_in a.Finding 0 65536)))||(!decide (a.N=0))) then
  some (w,1)
 else
  Option.bind (ref09_fresh w a.Case) fun y =>
  if !y then
   some (w,2)
  else
   Option.bind (ref09_Sit w a.A a.Case) fun y1 =>
   if y1.Wishes then
    some (w,6)
   else
    Option.bind (ref09_name w a.Case) fun y2 =>
    Option.bind (ref09_put y2 (⟨y1.Arbiter,y1.Case,y1.Book,a.Finding,true,y1.Round,y1.List,y1.Proposed⟩:ref09_Seat)) fun y3 =>
    Option.bind (ref09_propose y3 (⟨y1.Arbiter,y1.Case,y1.Book,a.Finding,true,y1.Round,y1.List,y1.Proposed⟩:ref09_Seat)) fun y4 =>
    some (y4,0)
def ref09_Next_j1 (r_:Int):Option (Int×Int) :=
 if decide (1048576<r_) then
  some (0,2)
 else
  some (r_,0)
def ref09_Next_b2 (c:api_Court) (arbiter:Int):Int→Option (Int ⊕ (Int×Int))
 | r_1 =>
  Option.bind (rem (w64 (r_1 - 1)) c.Arbiters) fun q =>
  if !decide (q=arbiter) then
   some (.inl (w64 (r_1+1)))
  else
   ((ref09_Next_j1 r_1).map Sum.inr)
def ref09_Next (c:api_Court) (arbiter:Int) (round:Int):Option (Int×Int) :=
 if !decide ((ref09_Check c)=0) then
  some (0,(ref09_Check c))
 else
  if ((!(ref09_in arbiter 0 (w64 (c.Arbiters - 1))))||(!(ref09_in round 0 1048576))) then
   some (0,1)
  else
   Lp (ref09_Next_b2 c arbiter) fuel (w64 (round+1))
def ref09_begin (w:ref09_World) (a:api_Act):Option (ref09_World×Int) :=
 if ((((!(ref09_in a.A 0 (w64 (w.C.Arbiters - 1))))||(!(ref09_in a.Case 1 1099511627776)))||(!decide (a.Finding=0)))||(!decide (a.N=0))) then
  some (w,1)
 else
  Option.bind (ref09_fresh w a.Case) fun y =>
  Option.bind (ref09_Sit w a.A a.Case) fun y1 =>
  Option.bind (ref09_Next w.C a.A (max y1.Book.Promised y1.Book.Opened)) fun y2 =>
  if ((!y)||(!decide (y2.2=0))) then
   some (w,2)
  else
   Option.bind (ref09_name w a.Case) fun y3 =>
   Option.bind (ref09_put y3 (⟨y1.Arbiter,y1.Case,(⟨y1.Book.Promised,y1.Book.Voted,y1.Book.Finding,y2.1⟩:api_Note),y1.Wish,y1.Wishes,y2.1,[],false⟩:ref09_Seat)) fun y4 =>
   Option.bind (ref09_sendAll y4 (⟨0,a.Case,1,y2.1,a.A,0,0,0⟩:api_Letter)) fun y5 =>
   some (y5,0)
def ref09_way_j1 : Option Int :=
 some (-1)
def ref09_way_b2 (w:ref09_World) (id:Int):Int→Option (Int ⊕ Int)
 | i =>
  if decide (i<(w.Way.length:Int)) then
   Option.bind (ix w.Way i) fun x =>
   if decide (x.ID=id) then
    some (.inr i)
   else
    some (.inl (w64 (i+1)))
  else
   ((ref09_way_j1).map Sum.inr)
def ref09_way (w:ref09_World) (id:Int):Option Int :=
 Lp (ref09_way_b2 w id) fuel 0
def ref09_read_j1 (w:ref09_World) (l:api_Letter) (y:ref09_Seat):Option ref09_World :=
 Option.bind (app [] y.List) fun l1 =>
 Option.bind (app l1 ([l])) fun l2 =>
 Option.bind (ref09_put w (⟨y.Arbiter,y.Case,y.Book,y.Wish,y.Wishes,y.Round,l2,y.Proposed⟩:ref09_Seat)) fun y4 =>
 Option.bind (ref09_propose y4 (⟨y.Arbiter,y.Case,y.Book,y.Wish,y.Wishes,y.Round,l2,y.Proposed⟩:ref09_Seat)) fun y5 =>
 some y5
def ref09_read_b2 (w:ref09_World) (l:api_Letter) (y:ref09_Seat):Int→Option (Int ⊕ ref09_World)
 | i =>
  if decide (i<(y.List.length:Int)) then
   Option.bind (ix y.List i) fun x =>
   if decide (x.From=l.From) then
    some (.inr w)
   else
    some (.inl (w64 (i+1)))
  else
   ((ref09_read_j1 w l y).map Sum.inr)
def ref09_read (w:ref09_World) (l:api_Letter):Option ref09_World :=
 Option.bind (ref09_Sit w l.To l.Case) fun y =>
 if decide (l.Kind=1) then
  if ((decide (l.Round<y.Book.Promised))||(decide (l.Round≤y.Book.Voted))) then
   some w
  else
   Option.bind (ref09_put w (⟨y.Arbiter,y.Case,(⟨l.Round,y.Book.Voted,y.Book.Finding,y.Book.Opened⟩:api_Note),y.Wish,y.Wishes,y.Round,y.List,y.Proposed⟩:ref09_Seat)) fun y1 =>
   Option.bind (ref09_send y1 (⟨0,l.Case,2,l.Round,l.To,l.From,y.Book.Voted,y.Book.Finding⟩:api_Letter)) fun y2 =>
   some y2
 else
  if decide (l.Kind=2) then
   if !decide (y.Round=l.Round) then
    some w
   else
    Lp (ref09_read_b2 w l y) fuel 0
  else
   if decide (l.Kind=3) then
    if decide (l.Round<y.Book.Promised) then
     some w
    else
     Option.bind (ref09_put w (⟨y.Arbiter,y.Case,(⟨l.Round,l.Round,l.Finding,y.Book.Opened⟩:api_Note),y.Wish,y.Wishes,y.Round,y.List,y.Proposed⟩:ref09_Seat)) fun y6 =>
     Option.bind (ref09_sendAll y6 (⟨0,l.Case,4,l.Round,l.To,0,0,l.Finding⟩:api_Letter)) fun y7 =>
     some y7
   else
    Option.bind (app [] w.Got) fun l3 =>
    Option.bind (app l3 ([l])) fun l4 =>
    some (⟨w.C,w.Named,w.Seats,l4,w.Way,w.All,w.Number⟩:ref09_World)
def ref09_post_j1 (Arbiters:Int) (Named:(List Int)) (Seats:(List ref09_Seat)) (Got:(List api_Letter)) (Way:(List api_Letter)) (All:(List api_Letter)) (Number:Int):Option (ref09_World×Int) :=
 some ((⟨(⟨Arbiters⟩:api_Court),Named,Seats,Got,Way,All,Number⟩:ref09_World),0)
def ref09_post (w:ref09_World) (a:api_Act):Option (ref09_World×Int) :=
 if (((!decide (a.A=0))||(!decide (a.Case=0)))||(!decide (a.Finding=0))) then
  some (w,1)
 else
  Option.bind (ref09_way w a.N) fun y =>
  if decide (y<0) then
   some (w,5)
  else
   Option.bind (ix w.Way y) fun x =>
   if decide (a.Kind=5) then
    if decide (200≤(w.Way.length:Int)) then
     some (w,2)
    else
     Option.bind (ref09_send w x) fun y1 =>
     some (y1,0)
   else
    Option.bind (sub w.Way 0 y) fun l =>
    Option.bind (app [] l) fun l1 =>
    Option.bind (sub w.Way (w64 (y+1)) w.Way.length) fun l2 =>
    Option.bind (app l1 l2) fun l3 =>
    if decide (a.Kind=3) then
     Option.bind (ref09_read (⟨w.C,w.Named,w.Seats,w.Got,l3,w.All,w.Number⟩:ref09_World) x) fun y3 =>
     ref09_post_j1 y3.C.Arbiters y3.Named y3.Seats y3.Got y3.Way y3.All y3.Number
    else
     ref09_post_j1 w.C.Arbiters w.Named w.Seats w.Got l3 w.All w.Number
def ref09_forget_j1 (w:ref09_World) (l:(List ref09_Seat)):Option (ref09_World×Int) :=
 some ((⟨w.C,w.Named,l,w.Got,w.Way,w.All,w.Number⟩:ref09_World),0)
def ref09_forget_j3 (i:Int) (l2:(List ref09_Seat)) (x:ref09_Seat) (Round:Int) (List_:(List api_Letter)) (Proposed:Bool):Option ((Int×(List ref09_Seat)) ⊕ (ref09_World×Int)) :=
 Option.bind (app l2 ([(⟨x.Arbiter,x.Case,x.Book,x.Wish,x.Wishes,Round,List_,Proposed⟩:ref09_Seat)])) fun l1 =>
 some (.inl (w64 (i+1),l1))
def ref09_forget_b2 (w:ref09_World) (a:api_Act):(Int×(List ref09_Seat))→Option ((Int×(List ref09_Seat)) ⊕ (ref09_World×Int))
 | (i,l2) =>
  if decide (i<(w.Seats.length:Int)) then
   Option.bind (ix w.Seats i) fun x =>
   if decide (x.Arbiter=a.A) then
    ref09_forget_j3 i l2 x 0 [] false
   else
    ref09_forget_j3 i l2 x x.Round x.List x.Proposed
  else
   ((ref09_forget_j1 w l2).map Sum.inr)
def ref09_forget (w:ref09_World) (a:api_Act):Option (ref09_World×Int) :=
 if ((((!(ref09_in a.A 0 (w64 (w.C.Arbiters - 1))))||(!decide (a.Case=0)))||(!decide (a.Finding=0)))||(!decide (a.N=0))) then
  some (w,1)
 else
  Lp (ref09_forget_b2 w a) fuel (0,[])
def ref09_Do (w:ref09_World) (a:api_Act):Option (ref09_World×Int) :=
 if decide (a.Kind=1) then
  Option.bind (ref09_wish w a) fun y =>
  some (y.1,y.2)
 else
  if decide (a.Kind=2) then
   Option.bind (ref09_begin w a) fun y1 =>
   some (y1.1,y1.2)
  else
   if (((decide (a.Kind=3))||(decide (a.Kind=4)))||(decide (a.Kind=5))) then
    Option.bind (ref09_post w a) fun y2 =>
    some (y2.1,y2.2)
   else
    if decide (a.Kind=6) then
     Option.bind (ref09_forget w a) fun y3 =>
     some (y3.1,y3.2)
    else
     some (w,1)
def ref09_SameLetters_j1 : Option Bool :=
 some true
def ref09_SameLetters_b2 (a:(List api_Letter)) (b:(List api_Letter)):Int→Option (Int ⊕ Bool)
 | i =>
  if decide (i<(a.length:Int)) then
   Option.bind (ix a i) fun x =>
   Option.bind (ix b i) fun x1 =>
   if !decide (x=x1) then
    some (.inr false)
   else
    some (.inl (w64 (i+1)))
  else
   ((ref09_SameLetters_j1).map Sum.inr)
def ref09_SameLetters (a:(List api_Letter)) (b:(List api_Letter)):Option Bool :=
 if !decide ((a.length:Int)=(b.length:Int)) then
  some false
 else
  Lp (ref09_SameLetters_b2 a b) fuel 0
def ref09_SameInts_j1 : Option Bool :=
 some true
def ref09_SameInts_b2 (a:(List Int)) (b:(List Int)):Int→Option (Int ⊕ Bool)
 | i =>
  if decide (i<(a.length:Int)) then
   Option.bind (ix a i) fun x =>
   Option.bind (ix b i) fun x1 =>
   if !decide (x=x1) then
    some (.inr false)
   else
    some (.inl (w64 (i+1)))
  else
   ((ref09_SameInts_j1).map Sum.inr)
def ref09_SameInts (a:(List Int)) (b:(List Int)):Option Bool :=
 if !decide ((a.length:Int)=(b.length:Int)) then
  some false
 else
  Lp (ref09_SameInts_b2 a b) fuel 0
def ref09_SameRulings_j1 : Option Bool :=
 some true
def ref09_SameRulings_b2 (a:(List api_Ruling)) (b:(List api_Ruling)):Int→Option (Int ⊕ Bool)
 | i =>
  if decide (i<(a.length:Int)) then
   Option.bind (ix a i) fun x =>
   Option.bind (ix b i) fun x1 =>
   if !decide (x=x1) then
    some (.inr false)
   else
    some (.inl (w64 (i+1)))
  else
   ((ref09_SameRulings_j1).map Sum.inr)
def ref09_SameRulings (a:(List api_Ruling)) (b:(List api_Ruling)):Option Bool :=
 if !decide ((a.length:Int)=(b.length:Int)) then
  some false
 else
  Lp (ref09_SameRulings_b2 a b) fuel 0
def ref09_votesFor (l:api_Letter) (r_:api_Ruling):Bool :=
 ((((decide (l.Kind=4))&&(decide (l.Case=r_.Case)))&&(decide (l.Round=r_.Round)))&&(decide (l.Finding=r_.Finding)))
def ref09_votes_j1 (n:Int):Option Int :=
 some n
def ref09_votes_j3 (a:Int) (n1:Int):Option ((Int×Int) ⊕ Int) :=
 some (.inl (n1,w64 (a+1)))
def ref09_votes_j4 (n2:Int) (a:Int) (found:Bool):Option ((Int×Int) ⊕ Int) :=
 if found then
  ref09_votes_j3 a (w64 (n2+1))
 else
  ref09_votes_j3 a n2
def ref09_votes_b5 (l:(List api_Letter)) (r_:api_Ruling) (n2:Int) (a:Int):(Bool×Int)→Option ((Bool×Int) ⊕ ((Int×Int) ⊕ Int))
 | (found1,i) =>
  if decide (i<(l.length:Int)) then
   gb (!(found1)) (ix l i) fun x =>
   gb (!(found1)&&((ref09_votesFor x r_))) (ix l i) fun x1 =>
   some (.inl ((found1||((ref09_votesFor x r_)&&(decide (x1.From=a)))),w64 (i+1)))
  else
   ((ref09_votes_j4 n2 a found1).map Sum.inr)
def ref09_votes_b2 (c:api_Court) (l:(List api_Letter)) (r_:api_Ruling):(Int×Int)→Option ((Int×Int) ⊕ Int)
 | (n2,a) =>
  if decide (a<c.Arbiters) then
   Lp (ref09_votes_b5 l r_ n2 a) fuel (false,0)
  else
   ((ref09_votes_j1 n2).map Sum.inr)
def ref09_votes (c:api_Court) (l:(List api_Letter)) (r_:api_Ruling):Option Int :=
 Lp (ref09_votes_b2 c l r_) fuel (0,0)
def ref09_before (a:api_Ruling) (b:api_Ruling):Bool :=
 if !decide (a.Case=b.Case) then
  decide (a.Case<b.Case)
 else
  if !decide (a.Round=b.Round) then
   decide (a.Round<b.Round)
  else
   decide (a.Finding<b.Finding)
def ref09_rulings_j1 (l1:(List api_Ruling)):Option (List api_Ruling) :=
 some l1
def ref09_rulings_j3 (i:Int) (l2:(List api_Ruling)):Option ((Int×(List api_Ruling)) ⊕ (List api_Ruling)) :=
 some (.inl (w64 (i+1),l2))
def ref09_rulings_j4 (i:Int) (l6:(List api_Ruling)) (x:api_Letter) (x1:api_Letter) (x2:api_Letter) (k:Int):Option ((Int×(List api_Ruling)) ⊕ (List api_Ruling)) :=
 gb ((decide (k<(l6.length:Int)))) (ix l6 k) fun x4 =>
 if ((decide (k<(l6.length:Int)))&&(decide (x4=(⟨x.Case,x1.Round,x2.Finding⟩:api_Ruling)))) then
  ref09_rulings_j3 i l6
 else
  Option.bind (sub l6 0 k) fun l3 =>
  Option.bind (app [] l3) fun l4 =>
  Option.bind (app l4 ([(⟨x.Case,x1.Round,x2.Finding⟩:api_Ruling)])) fun l5 =>
  Option.bind (sub l6 k (l6.length:Int)) fun l7 =>
  Option.bind (app l5 l7) fun l8 =>
  ref09_rulings_j3 i l8
def ref09_rulings_b5 (i:Int) (l6:(List api_Ruling)) (x:api_Letter) (x1:api_Letter) (x2:api_Letter):Int→Option (Int ⊕ ((Int×(List api_Ruling)) ⊕ (List api_Ruling)))
 | k1 =>
  gb ((decide (k1<(l6.length:Int)))) (ix l6 k1) fun x5 =>
  if ((decide (k1<(l6.length:Int)))&&(ref09_before x5 (⟨x.Case,x1.Round,x2.Finding⟩:api_Ruling))) then
   some (.inl (w64 (k1+1)))
  else
   ((ref09_rulings_j4 i l6 x x1 x2 k1).map Sum.inr)
def ref09_rulings_b2 (c:api_Court) (l:(List api_Letter)):(Int×(List api_Ruling))→Option ((Int×(List api_Ruling)) ⊕ (List api_Ruling))
 | (i,l6) =>
  if decide (i<(l.length:Int)) then
   Option.bind (ix l i) fun x =>
   Option.bind (ix l i) fun x1 =>
   Option.bind (ix l i) fun x2 =>
   Option.bind (ix l i) fun x3 =>
   gb (!(!decide (x3.Kind=4))) (ref09_votes c l (⟨x.Case,x1.Round,x2.Finding⟩:api_Ruling)) fun y =>
   gb (!(!decide (x3.Kind=4))) (ref09_Majority c) fun y1 =>
   if ((!decide (x3.Kind=4))||(decide (y<y1))) then
    ref09_rulings_j3 i l6
   else
    Lp (ref09_rulings_b5 i l6 x x1 x2) fuel 0
  else
   ((ref09_rulings_j1 l6).map Sum.inr)
def ref09_rulings (c:api_Court) (l:(List api_Letter)):Option (List api_Ruling) :=
 Lp (ref09_rulings_b2 c l) fuel (0,[])
def ref09_Known_j1 (w:ref09_World) (l:(List api_Letter)):Option (List api_Ruling) :=
 Option.bind (ref09_rulings w.C l) fun y =>
 some y
def ref09_Known_j3 (i:Int) (l1:(List api_Letter)):Option ((Int×(List api_Letter)) ⊕ (List api_Ruling)) :=
 some (.inl (w64 (i+1),l1))
def ref09_Known_b2 (w:ref09_World) (arbiter:Int):(Int×(List api_Letter))→Option ((Int×(List api_Letter)) ⊕ (List api_Ruling))
 | (i,l3) =>
  if decide (i<(w.Got.length:Int)) then
   Option.bind (ix w.Got i) fun x =>
   if decide (x.To=arbiter) then
    Option.bind (ix w.Got i) fun x1 =>
    Option.bind (app l3 ([x1])) fun l2 =>
    ref09_Known_j3 i l2
   else
    ref09_Known_j3 i l3
  else
   ((ref09_Known_j1 w l3).map Sum.inr)
def ref09_Known (w:ref09_World) (arbiter:Int):Option (List api_Ruling) :=
 Lp (ref09_Known_b2 w arbiter) fuel (0,[])
def arbiter_said (l:api_Letter):api_Letter :=
 (⟨0,l.Case,l.Kind,l.Round,l.From,0,l.Voted,l.Finding⟩:api_Letter)
def ref09_Alike (a:api_Letter) (b:api_Letter):Bool :=
 ((((((decide (a.Case=b.Case))&&(decide (a.Kind=b.Kind)))&&(decide (a.Round=b.Round)))&&(decide (a.From=b.From)))&&(decide (a.Voted=b.Voted)))&&(decide (a.Finding=b.Finding)))
end Go.Mx
