/- Functions of the program as plain functions. Conditions: none. Printed by a program (wip/tools/xg.py). -/
import Derived.Test.YtkomoedegnckhaaXl
set_option linter.unusedVariables false
namespace Go.Mx
structure api_Court where
 Arbiters : Int
 deriving DecidableEq, Inhabited
structure api_Letter where
 ID : Int
 Case : Int
 Kind : Int
 Round : Int
 From : Int
 To : Int
 Voted : Int
 Finding : Int
 deriving DecidableEq, Inhabited
def law09_three : Option (List api_Letter) :=
 some ([(⟨0, 4, 1, 1, 0, 0, 0, 0⟩ : api_Letter), (⟨0, 4, 2, 1, 0, 0, 0, 0⟩ : api_Letter), (⟨0, 4, 2, 1, 1, 0, 0, 0⟩ : api_Letter), (⟨0, 4, 3, 1, 0, 0, 0, 7⟩ : api_Letter), (⟨0, 4, 4, 1, 0, 0, 0, 7⟩ : api_Letter), (⟨0, 4, 4, 1, 1, 0, 0, 7⟩ : api_Letter)])
def arbiter_within (n : Int) (lo : Int) (hi : Int) : Bool :=
 ((decide (lo ≤ n)) && (decide (n ≤ hi)))
def arbiter_Check (c : api_Court) : Int :=
 if !(arbiter_within c.Arbiters 3 7) then
  1
 else
  0
def arbiter_topic (id : Int) : Bool :=
 (arbiter_within id 1 1099511627776)
def arbiter_judge (c : api_Court) (a : Int) : Bool :=
 (arbiter_within a 0 (w64 (c.Arbiters - 1)))
def arbiter_finding (n : Int) : Bool :=
 (arbiter_within n 0 65536)
def arbiter_Chair (c : api_Court) (round : Int) : Option Int :=
 if ((!decide ((arbiter_Check c) = 0)) || (!(arbiter_within round 1 1048576))) then
  some 0
 else
  Option.bind (rem (w64 (round - 1)) c.Arbiters) fun q =>
  some q
def arbiter_Formed (c : api_Court) (l : api_Letter) : Option Bool :=
 if (((((((!decide ((arbiter_Check c) = 0)) || (!(arbiter_topic l.Case))) || (!(arbiter_within l.Round 1 1048576))) || (!(arbiter_judge c l.From))) || (!(arbiter_judge c l.To))) || (!(arbiter_within l.ID 0 1099511627776))) || (!(arbiter_finding l.Finding))) then
  some false
 else
  Option.bind (arbiter_Chair c l.Round) fun y =>
  if decide (l.Kind = 1) then
   some (((decide (l.From = y)) && (decide (l.Voted = 0))) && (decide (l.Finding = 0)))
  else
   if decide (l.Kind = 2) then
    some (((decide (l.To = y)) && (arbiter_within l.Voted 0 (w64 (l.Round - 1)))) && ((decide (0 < l.Voted)) || (decide (l.Finding = 0))))
   else
    if decide (l.Kind = 3) then
     some ((decide (l.From = y)) && (decide (l.Voted = 0)))
    else
     if decide (l.Kind = 4) then
      some (decide (l.Voted = 0))
     else
      some false
def arbiter_read_1 (x : api_Letter) (c : api_Court) : Option Bool :=
 Option.bind (arbiter_Formed c x) fun y =>
 some (!y)
def slices_IndexFunc_api_Letter__arbiter_read_1_j1 : Option Int :=
 some (-1)
def slices_IndexFunc_api_Letter__arbiter_read_1_b2 (s : (List api_Letter)) (c : api_Court) : Int → Option (Int ⊕ Int)
 | x1 =>
  if decide (x1 < (s.length : Int)) then
   Option.bind (ix s x1) fun x =>
   Option.bind (arbiter_read_1 x c) fun y =>
   if y then
    some (.inr x1)
   else
    some (.inl (w64 (x1 + 1)))
  else
   ((slices_IndexFunc_api_Letter__arbiter_read_1_j1).map Sum.inr)
def slices_IndexFunc_api_Letter__arbiter_read_1 (s : (List api_Letter)) (c : api_Court) : Option Int :=
 Lp (slices_IndexFunc_api_Letter__arbiter_read_1_b2 s c) fuel 0
def slices_ContainsFunc_api_Letter__arbiter_read_1 (s : (List api_Letter)) (c : api_Court) : Option Bool :=
 Option.bind (slices_IndexFunc_api_Letter__arbiter_read_1 s c) fun y =>
 some (decide (0 ≤ y))
def arbiter_read (c : api_Court) (l : (List api_Letter)) : Option Int :=
 if !decide ((arbiter_Check c) = 0) then
  some (arbiter_Check c)
 else
  if decide (2000 < (l.length : Int)) then
   some 2
  else
   Option.bind (slices_ContainsFunc_api_Letter__arbiter_read_1 l c) fun y =>
   if y then
    some 7
   else
    some 0
def arbiter_said (l : api_Letter) : api_Letter :=
 (⟨0, l.Case, l.Kind, l.Round, l.From, 0, l.Voted, l.Finding⟩ : api_Letter)
def arbiter_last_j1 (ID : Int) (Case : Int) (Kind : Int) (Round : Int) (From : Int) (To : Int) (Voted : Int) (Finding : Int) : Option api_Letter :=
 some (⟨ID, Case, Kind, Round, From, To, Voted, Finding⟩ : api_Letter)
def arbiter_last_j3 (x1 : Int) (ID1 : Int) (Case1 : Int) (Kind1 : Int) (Round1 : Int) (From1 : Int) (To1 : Int) (Voted1 : Int) (Finding1 : Int) : Option ((Int × Int × Int × Int × Int × Int × Int × Int × Int) ⊕ api_Letter) :=
 some (.inl (w64 (x1 + 1), ID1, Case1, Kind1, Round1, From1, To1, Voted1, Finding1))
def arbiter_last_b2 (l : (List api_Letter)) (arbiter : Int) : (Int × Int × Int × Int × Int × Int × Int × Int × Int) → Option ((Int × Int × Int × Int × Int × Int × Int × Int × Int) ⊕ api_Letter)
 | (x1, ID2, Case2, Kind2, Round2, From2, To2, Voted2, Finding2) =>
  if decide (x1 < (l.length : Int)) then
   Option.bind (ix l x1) fun x =>
   if (((decide (x.Kind = 4)) && (decide (x.From = arbiter))) && (decide (Round2 < x.Round))) then
    arbiter_last_j3 x1 x.ID x.Case x.Kind x.Round x.From x.To x.Voted x.Finding
   else
    arbiter_last_j3 x1 ID2 Case2 Kind2 Round2 From2 To2 Voted2 Finding2
  else
   ((arbiter_last_j1 ID2 Case2 Kind2 Round2 From2 To2 Voted2 Finding2).map Sum.inr)
def arbiter_last (l : (List api_Letter)) (arbiter : Int) : Option api_Letter :=
 Lp (arbiter_last_b2 l arbiter) fuel (0, 0, 0, 0, 0, 0, 0, 0, 0)
def arbiter_lawful_2 (y : api_Letter) (c : api_Letter) : Bool :=
 ((decide (y.Kind = 1)) && (decide (y.Round = c.Round)))
def slices_IndexFunc_api_Letter__arbiter_lawful_2_j1 : Option Int :=
 some (-1)
def slices_IndexFunc_api_Letter__arbiter_lawful_2_b2 (s : (List api_Letter)) (c : api_Letter) : Int → Option (Int ⊕ Int)
 | x1 =>
  if decide (x1 < (s.length : Int)) then
   Option.bind (ix s x1) fun x =>
   if (arbiter_lawful_2 x c) then
    some (.inr x1)
   else
    some (.inl (w64 (x1 + 1)))
  else
   ((slices_IndexFunc_api_Letter__arbiter_lawful_2_j1).map Sum.inr)
def slices_IndexFunc_api_Letter__arbiter_lawful_2 (s : (List api_Letter)) (c : api_Letter) : Option Int :=
 Lp (slices_IndexFunc_api_Letter__arbiter_lawful_2_b2 s c) fuel 0
def slices_ContainsFunc_api_Letter__arbiter_lawful_2 (s : (List api_Letter)) (c : api_Letter) : Option Bool :=
 Option.bind (slices_IndexFunc_api_Letter__arbiter_lawful_2 s c) fun y =>
 some (decide (0 ≤ y))
def arbiter_lawful_1__arbiter_lawful_2 (c : api_Letter) (c1 : (List api_Letter)) : Option Bool :=
 Option.bind (slices_ContainsFunc_api_Letter__arbiter_lawful_2 c1 c) fun y =>
 some y
def arbiter_word (l : api_Letter) : Bool :=
 ((decide (l.Kind = 2)) || (decide (l.Kind = 4)))
def arbiter_lawful_3 (y : api_Letter) (c : api_Letter) : Bool :=
 (((arbiter_word y) && (decide (y.From = c.From))) && (decide (c.Round ≤ y.Round)))
def slices_IndexFunc_api_Letter__arbiter_lawful_3_j1 : Option Int :=
 some (-1)
def slices_IndexFunc_api_Letter__arbiter_lawful_3_b2 (s : (List api_Letter)) (c : api_Letter) : Int → Option (Int ⊕ Int)
 | x1 =>
  if decide (x1 < (s.length : Int)) then
   Option.bind (ix s x1) fun x =>
   if (arbiter_lawful_3 x c) then
    some (.inr x1)
   else
    some (.inl (w64 (x1 + 1)))
  else
   ((slices_IndexFunc_api_Letter__arbiter_lawful_3_j1).map Sum.inr)
def slices_IndexFunc_api_Letter__arbiter_lawful_3 (s : (List api_Letter)) (c : api_Letter) : Option Int :=
 Lp (slices_IndexFunc_api_Letter__arbiter_lawful_3_b2 s c) fuel 0
def slices_ContainsFunc_api_Letter__arbiter_lawful_3 (s : (List api_Letter)) (c : api_Letter) : Option Bool :=
 Option.bind (slices_IndexFunc_api_Letter__arbiter_lawful_3 s c) fun y =>
 some (decide (0 ≤ y))
def arbiter_lawful_1__arbiter_lawful_3 (c : api_Letter) (c1 : (List api_Letter)) : Option Bool :=
 Option.bind (slices_ContainsFunc_api_Letter__arbiter_lawful_3 c1 c) fun y =>
 some y
def arbiter_promises (l : (List api_Letter)) (round : Int) : (List api_Letter) × Int :=
 (l, round)
def arbiter_Majority (c : api_Court) : Option Int :=
 if !decide ((arbiter_Check c) = 0) then
  some 0
 else
  Option.bind (quo c.Arbiters 2) fun q =>
  some (w64 (q + 1))
def arbiter_proposable_j2 (x3 : Int) (m : (List (Int × Bool))) (fresh : Int) : Option ((Int × (List (Int × Bool)) × Int) ⊕ Bool) :=
 some (.inl (w64 (x3 + 1), m, fresh))
def arbiter_proposable_j4 (x2 : Int) (m1 : (List (Int × Bool))) (low : Int) : Option ((Int × (List (Int × Bool)) × Int) ⊕ ((Int × (List (Int × Bool)) × Int) ⊕ Bool)) :=
 some (.inl (w64 (x2 + 1), m1, low))
def arbiter_proposable_j5 (x2 : Int) (m2 : (List (Int × Bool))) (x1 : api_Letter) (low1 : Int) : Option ((Int × (List (Int × Bool)) × Int) ⊕ ((Int × (List (Int × Bool)) × Int) ⊕ Bool)) :=
 arbiter_proposable_j4 x2 (putM posI m2 x1.From true) low1
def arbiter_proposable_b3 (c : api_Court) (l : (List api_Letter)) (round : Int) (n : Int) (x3 : Int) (m3 : (List (Int × Bool))) (fresh1 : Int) (x : api_Letter) : (Int × (List (Int × Bool)) × Int) → Option ((Int × (List (Int × Bool)) × Int) ⊕ ((Int × (List (Int × Bool)) × Int) ⊕ Bool))
 | (x2, m2, low2) =>
  if decide (x2 < (((arbiter_promises l round).1).length : Int)) then
   Option.bind (ix ((arbiter_promises l round).1) x2) fun x1 =>
   if (((!decide (x1.Kind = 2)) || (!decide (x1.Round = ((arbiter_promises l round).2)))) || ((lookM x1.From m2).getD false)) then
    arbiter_proposable_j4 x2 m2 low2
   else
    if decide (x1.Voted ≤ x.Voted) then
     arbiter_proposable_j5 x2 m2 x1 (w64 (low2 + 1))
    else
     arbiter_proposable_j5 x2 m2 x1 low2
  else
   gb ((decide (x.Finding = n))) (arbiter_Majority c) fun y =>
   if ((decide (x.Finding = n)) && (decide (y ≤ low2))) then
    some (.inr (.inr true))
   else
    ((arbiter_proposable_j2 x3 (putM posI m3 x.From true) fresh1).map Sum.inr)
def arbiter_proposable_b1 (c : api_Court) (l : (List api_Letter)) (round : Int) (n : Int) : (Int × (List (Int × Bool)) × Int) → Option ((Int × (List (Int × Bool)) × Int) ⊕ Bool)
 | (x3, m3, fresh1) =>
  if decide (x3 < (((arbiter_promises l round).1).length : Int)) then
   Option.bind (ix ((arbiter_promises l round).1) x3) fun x =>
   if (((!decide (x.Kind = 2)) || (!decide (x.Round = ((arbiter_promises l round).2)))) || ((lookM x.From m3).getD false)) then
    arbiter_proposable_j2 x3 m3 fresh1
   else
    if decide (x.Voted = 0) then
     arbiter_proposable_j2 x3 (putM posI m3 x.From true) (w64 (fresh1 + 1))
    else
     Lp (arbiter_proposable_b3 c l round n x3 m3 fresh1 x) fuel (0, [], 0)
  else
   Option.bind (arbiter_Majority c) fun y1 =>
   some (.inr (decide (y1 ≤ fresh1)))
def arbiter_proposable (c : api_Court) (l : (List api_Letter)) (round : Int) (n : Int) : Option Bool :=
 Lp (arbiter_proposable_b1 c l round n) fuel (0, [], 0)
def arbiter_lawful_4 (y : api_Letter) (c : api_Letter) : Bool :=
 ((decide (y.Kind = 3)) && (decide (y.Round = c.Round)))
def slices_IndexFunc_api_Letter__arbiter_lawful_4_j1 : Option Int :=
 some (-1)
def slices_IndexFunc_api_Letter__arbiter_lawful_4_b2 (s : (List api_Letter)) (c : api_Letter) : Int → Option (Int ⊕ Int)
 | x1 =>
  if decide (x1 < (s.length : Int)) then
   Option.bind (ix s x1) fun x =>
   if (arbiter_lawful_4 x c) then
    some (.inr x1)
   else
    some (.inl (w64 (x1 + 1)))
  else
   ((slices_IndexFunc_api_Letter__arbiter_lawful_4_j1).map Sum.inr)
def slices_IndexFunc_api_Letter__arbiter_lawful_4 (s : (List api_Letter)) (c : api_Letter) : Option Int :=
 Lp (slices_IndexFunc_api_Letter__arbiter_lawful_4_b2 s c) fuel 0
def slices_ContainsFunc_api_Letter__arbiter_lawful_4 (s : (List api_Letter)) (c : api_Letter) : Option Bool :=
 Option.bind (slices_IndexFunc_api_Letter__arbiter_lawful_4 s c) fun y =>
 some (decide (0 ≤ y))
def arbiter_lawful_1__arbiter_lawful_4 (c : api_Letter) (c1 : (List api_Letter)) : Option Bool :=
 Option.bind (slices_ContainsFunc_api_Letter__arbiter_lawful_4 c1 c) fun y =>
 some y
def arbiter_lawful_5 (y : api_Letter) (c : api_Letter) : Bool :=
 (((decide (y.Kind = 3)) && (decide (y.Round = c.Round))) && (decide (y.Finding = c.Finding)))
def slices_IndexFunc_api_Letter__arbiter_lawful_5_j1 : Option Int :=
 some (-1)
def slices_IndexFunc_api_Letter__arbiter_lawful_5_b2 (s : (List api_Letter)) (c : api_Letter) : Int → Option (Int ⊕ Int)
 | x1 =>
  if decide (x1 < (s.length : Int)) then
   Option.bind (ix s x1) fun x =>
   if (arbiter_lawful_5 x c) then
    some (.inr x1)
   else
    some (.inl (w64 (x1 + 1)))
  else
   ((slices_IndexFunc_api_Letter__arbiter_lawful_5_j1).map Sum.inr)
def slices_IndexFunc_api_Letter__arbiter_lawful_5 (s : (List api_Letter)) (c : api_Letter) : Option Int :=
 Lp (slices_IndexFunc_api_Letter__arbiter_lawful_5_b2 s c) fuel 0
def slices_ContainsFunc_api_Letter__arbiter_lawful_5 (s : (List api_Letter)) (c : api_Letter) : Option Bool :=
 Option.bind (slices_IndexFunc_api_Letter__arbiter_lawful_5 s c) fun y =>
 some (decide (0 ≤ y))
def arbiter_lawful_1__arbiter_lawful_5 (c : api_Letter) (c1 : (List api_Letter)) : Option Bool :=
 Option.bind (slices_ContainsFunc_api_Letter__arbiter_lawful_5 c1 c) fun y =>
 some y
def arbiter_lawful_6 (y : api_Letter) (c : api_Letter) : Bool :=
 (((arbiter_word y) && (decide (y.From = c.From))) && ((decide (c.Round < y.Round)) || ((decide (y.Kind = 4)) && (decide (y.Round = c.Round)))))
def slices_IndexFunc_api_Letter__arbiter_lawful_6_j1 : Option Int :=
 some (-1)
def slices_IndexFunc_api_Letter__arbiter_lawful_6_b2 (s : (List api_Letter)) (c : api_Letter) : Int → Option (Int ⊕ Int)
 | x1 =>
  if decide (x1 < (s.length : Int)) then
   Option.bind (ix s x1) fun x =>
   if (arbiter_lawful_6 x c) then
    some (.inr x1)
   else
    some (.inl (w64 (x1 + 1)))
  else
   ((slices_IndexFunc_api_Letter__arbiter_lawful_6_j1).map Sum.inr)
def slices_IndexFunc_api_Letter__arbiter_lawful_6 (s : (List api_Letter)) (c : api_Letter) : Option Int :=
 Lp (slices_IndexFunc_api_Letter__arbiter_lawful_6_b2 s c) fuel 0
def slices_ContainsFunc_api_Letter__arbiter_lawful_6 (s : (List api_Letter)) (c : api_Letter) : Option Bool :=
 Option.bind (slices_IndexFunc_api_Letter__arbiter_lawful_6 s c) fun y =>
 some (decide (0 ≤ y))
def arbiter_lawful_1__arbiter_lawful_6 (c : api_Letter) (c1 : (List api_Letter)) : Option Bool :=
 Option.bind (slices_ContainsFunc_api_Letter__arbiter_lawful_6 c1 c) fun y =>
 some y
def arbiter_lawful (c : api_Court) (l : (List api_Letter)) (x : api_Letter) : Option Bool :=
 if decide (x.Kind = 2) then
  Option.bind (arbiter_last l x.From) fun y =>
  gb ((((decide (x.Voted = y.Round)) && (decide (x.Finding = y.Finding))))) (arbiter_lawful_1__arbiter_lawful_2 x l) fun y1 =>
  gb (((((decide (x.Voted = y.Round)) && (decide (x.Finding = y.Finding))) && y1))) (arbiter_lawful_1__arbiter_lawful_3 x l) fun y2 =>
  some ((((decide (x.Voted = y.Round)) && (decide (x.Finding = y.Finding))) && y1) && (!y2))
 else
  if decide (x.Kind = 3) then
   Option.bind (arbiter_proposable c l x.Round x.Finding) fun y3 =>
   gb ((y3)) (arbiter_lawful_1__arbiter_lawful_4 x l) fun y4 =>
   some (y3 && (!y4))
  else
   if decide (x.Kind = 4) then
    Option.bind (arbiter_lawful_1__arbiter_lawful_5 x l) fun y5 =>
    gb ((y5)) (arbiter_lawful_1__arbiter_lawful_6 x l) fun y6 =>
    some (y5 && (!y6))
   else
    some true
def arbiter_Lawful_j1 (at_ : Int) : Option (Int × Bool × Int) :=
 some (at_, decide (at_ < 0), 0)
def arbiter_Lawful_j3 (x1 : Int) (m : (List (api_Letter × Bool))) (m1 : (List (Int × (List api_Letter)))) : Option ((Int × (List (api_Letter × Bool)) × (List (Int × (List api_Letter)))) ⊕ (Int × Bool × Int)) :=
 some (.inl (w64 (x1 + 1), m, m1))
def arbiter_Lawful_b2 (c : api_Court) (l : (List api_Letter)) : (Int × (List (api_Letter × Bool)) × (List (Int × (List api_Letter)))) → Option ((Int × (List (api_Letter × Bool)) × (List (Int × (List api_Letter)))) ⊕ (Int × Bool × Int))
 | (x1, m2, m3) =>
  if decide (x1 < (l.length : Int)) then
   Option.bind (ix l x1) fun x =>
   if ((lookM (arbiter_said x) m2).getD false) then
    arbiter_Lawful_j3 x1 m2 m3
   else
    Option.bind (arbiter_lawful c ((lookM x.Case m3).getD []) x) fun y1 =>
    if !y1 then
     ((arbiter_Lawful_j1 x1).map Sum.inr)
    else
     Option.bind (app ((lookM x.Case m3).getD []) [x]) fun l1 =>
     arbiter_Lawful_j3 x1 (putM posE m2 (arbiter_said x) true) (putM posI m3 x.Case l1)
  else
   ((arbiter_Lawful_j1 (-1)).map Sum.inr)
def arbiter_Lawful (c : api_Court) (l : (List api_Letter)) : Option (Int × Bool × Int) :=
 Option.bind (arbiter_read c l) fun y =>
 if !decide (y = 0) then
  some (0, false, y)
 else
  Lp (arbiter_Lawful_b2 c l) fuel (0, [], [])
structure api_Ruling where
 Case : Int
 Round : Int
 Finding : Int
 deriving DecidableEq, Inhabited
def cmp_isNaN_int (x : Int) : Bool :=
 !decide (x = x)
def cmp_Compare_int (x : Int) (y : Int) : Int :=
 if (cmp_isNaN_int x) then
  if (cmp_isNaN_int y) then
   0
  else
   (-1)
 else
  if (cmp_isNaN_int y) then
   1
  else
   if decide (x < y) then
    (-1)
   else
    if decide (y < x) then
     1
    else
     0
def cmp_Or_int_j1 : Option Int :=
 some 0
def cmp_Or_int_b2 (vals : (List Int)) : Int → Option (Int ⊕ Int)
 | x1 =>
  if decide (x1 < (vals.length : Int)) then
   Option.bind (ix vals x1) fun x =>
   if !decide (x = 0) then
    some (.inr x)
   else
    some (.inl (w64 (x1 + 1)))
  else
   ((cmp_Or_int_j1).map Sum.inr)
def cmp_Or_int (vals : (List Int)) : Option Int :=
 Lp (cmp_Or_int_b2 vals) fuel 0
def arbiter_order (a : api_Ruling) (b : api_Ruling) : Option Int :=
 Option.bind (cmp_Or_int ([(cmp_Compare_int a.Case b.Case), (cmp_Compare_int a.Round b.Round), (cmp_Compare_int a.Finding b.Finding)])) fun y =>
 some y
def lt_ruling (x y : api_Ruling) : Bool := decide (x.Case < y.Case) || (decide (x.Case = y.Case) && (decide (x.Round < y.Round) || (decide (x.Round = y.Round) && decide (x.Finding < y.Finding))))
def arbiter_rulings_j2 (l1 : (List api_Ruling)) : Option (List api_Ruling) :=
 Option.bind (srtFO lt_ruling l1) fun l2 =>
 some l2
def arbiter_rulings_j4 (l3 : (List api_Ruling)) : Option (List api_Ruling) :=
 some l3
def arbiter_rulings_b3 (c : api_Court) : api_Ruling × (List (Int × Bool)) → (List api_Ruling) → Option (List api_Ruling)
 | (k, v), l5 =>
  Option.bind (arbiter_Majority c) fun y =>
  if decide (y ≤ (v.length : Int)) then
   Option.bind (app l5 ([k])) fun l4 =>
   arbiter_rulings_j4 l4
  else
   arbiter_rulings_j4 l5
def arbiter_rulings_j5 (l5 : (List api_Ruling)) : Option (List api_Ruling) :=
 arbiter_rulings_j2 l5
def arbiter_rulings_j1 (c : api_Court) (m : (List (api_Ruling × (List (Int × Bool))))) : Option (List api_Ruling) :=
 Option.bind (foldO (arbiter_rulings_b3 c) m []) fun vE_3 =>
 arbiter_rulings_j5 vE_3
def arbiter_rulings_j7 (x1 : Int) (m1 : (List (api_Ruling × (List (Int × Bool))))) : Option ((Int × (List (api_Ruling × (List (Int × Bool))))) ⊕ (List api_Ruling)) :=
 some (.inl (w64 (x1 + 1), m1))
def arbiter_rulings_j8 (x1 : Int) (x : api_Letter) (m2 : (List (api_Ruling × (List (Int × Bool))))) : Option ((Int × (List (api_Ruling × (List (Int × Bool))))) ⊕ (List api_Ruling)) :=
 Option.bind (lookM (⟨x.Case, x.Round, x.Finding⟩ : api_Ruling) m2) fun m3 =>
 arbiter_rulings_j7 x1 (putM posE m2 (⟨x.Case, x.Round, x.Finding⟩ : api_Ruling) (putM posI m3 x.From true))
def arbiter_rulings_b6 (c : api_Court) (l : (List api_Letter)) : (Int × (List (api_Ruling × (List (Int × Bool))))) → Option ((Int × (List (api_Ruling × (List (Int × Bool))))) ⊕ (List api_Ruling))
 | (x1, m4) =>
  if decide (x1 < (l.length : Int)) then
   Option.bind (ix l x1) fun x =>
   if !decide (x.Kind = 4) then
    arbiter_rulings_j7 x1 m4
   else
    if (!(lookM (⟨x.Case, x.Round, x.Finding⟩ : api_Ruling) m4).isSome) then
     arbiter_rulings_j8 x1 x (putM posE m4 (⟨x.Case, x.Round, x.Finding⟩ : api_Ruling) [])
    else
     arbiter_rulings_j8 x1 x m4
  else
   ((arbiter_rulings_j1 c m4).map Sum.inr)
def arbiter_rulings (c : api_Court) (l : (List api_Letter)) : Option (List api_Ruling) :=
 Lp (arbiter_rulings_b6 c l) fuel (0, [])
def arbiter_Rulings (c : api_Court) (l : (List api_Letter)) : Option ((List api_Ruling) × Int) :=
 Option.bind (arbiter_read c l) fun y =>
 if !decide (y = 0) then
  some ([], y)
 else
  Option.bind (arbiter_rulings c l) fun y1 =>
  some (y1, 0)
def arbiter_picked_j1 (ID : Int) (Case : Int) (Kind : Int) (Round : Int) (From : Int) (To : Int) (Voted : Int) (Finding : Int) : Option (Int × Bool) :=
 some (Finding, decide (0 < Voted))
def arbiter_picked_j3 (x1 : Int) (ID1 : Int) (Case1 : Int) (Kind1 : Int) (Round1 : Int) (From1 : Int) (To1 : Int) (Voted1 : Int) (Finding1 : Int) : Option ((Int × Int × Int × Int × Int × Int × Int × Int × Int) ⊕ (Int × Bool)) :=
 some (.inl (w64 (x1 + 1), ID1, Case1, Kind1, Round1, From1, To1, Voted1, Finding1))
def arbiter_picked_b2 (l : (List api_Letter)) : (Int × Int × Int × Int × Int × Int × Int × Int × Int) → Option ((Int × Int × Int × Int × Int × Int × Int × Int × Int) ⊕ (Int × Bool))
 | (x1, ID2, Case2, Kind2, Round2, From2, To2, Voted2, Finding2) =>
  if decide (x1 < (l.length : Int)) then
   Option.bind (ix l x1) fun x =>
   if decide (Voted2 < x.Voted) then
    arbiter_picked_j3 x1 x.ID x.Case x.Kind x.Round x.From x.To x.Voted x.Finding
   else
    arbiter_picked_j3 x1 ID2 Case2 Kind2 Round2 From2 To2 Voted2 Finding2
  else
   ((arbiter_picked_j1 ID2 Case2 Kind2 Round2 From2 To2 Voted2 Finding2).map Sum.inr)
def arbiter_picked (l : (List api_Letter)) : Option (Int × Bool) :=
 Lp (arbiter_picked_b2 l) fuel (0, 0, 0, 0, 0, 0, 0, 0, 0)
def arbiter_Pick_j1 (c : api_Court) (promises : (List api_Letter)) : Option (Int × Bool × Int) :=
 Option.bind (arbiter_Majority c) fun y1 =>
 if decide ((promises.length : Int) < y1) then
  some (0, false, 5)
 else
  Option.bind (arbiter_picked promises) fun y2 =>
  some (y2.1, y2.2, 0)
def arbiter_Pick_j3 (x3 : Int) : Option (Int ⊕ (Int × Bool × Int)) :=
 some (.inl (w64 (x3 + 1)))
def arbiter_Pick_b4 (x3 : Int) (x : api_Letter) (l : (List api_Letter)) : Int → Option (Int ⊕ (Int ⊕ (Int × Bool × Int)))
 | x2 =>
  if decide (x2 < (l.length : Int)) then
   Option.bind (ix l x2) fun x1 =>
   if ((((!decide (x.Case = x1.Case)) || (!decide (x.Round = x1.Round))) || (decide (x.From = x1.From))) || (((decide (0 < x.Voted)) && (decide (x.Voted = x1.Voted))) && (!decide (x.Finding = x1.Finding)))) then
    some (.inr (.inr (0, false, 1)))
   else
    some (.inl (w64 (x2 + 1)))
  else
   ((arbiter_Pick_j3 x3).map Sum.inr)
def arbiter_Pick_b2 (c : api_Court) (promises : (List api_Letter)) : Int → Option (Int ⊕ (Int × Bool × Int))
 | x3 =>
  if decide (x3 < (promises.length : Int)) then
   Option.bind (ix promises x3) fun x =>
   if !decide (x.Kind = 2) then
    some (.inr (0, false, 1))
   else
    Option.bind (sub promises 0 x3) fun l =>
    Lp (arbiter_Pick_b4 x3 x l) fuel 0
  else
   ((arbiter_Pick_j1 c promises).map Sum.inr)
def arbiter_Pick (c : api_Court) (promises : (List api_Letter)) : Option (Int × Bool × Int) :=
 Option.bind (arbiter_read c promises) fun y =>
 if !decide (y = 0) then
  some (0, false, y)
 else
  Lp (arbiter_Pick_b2 c promises) fuel 0
def slices_Clone_Letter (l : List api_Letter) : Option (List api_Letter) := app [] l
def arbiter_Can_1 (x : api_Letter) (c : Int) : Bool :=
 !decide (x.Case = c)
def slices_IndexFunc_api_Letter__arbiter_Can_1_j1 : Option Int :=
 some (-1)
def slices_IndexFunc_api_Letter__arbiter_Can_1_b2 (s : (List api_Letter)) (c : Int) : Int → Option (Int ⊕ Int)
 | x1 =>
  if decide (x1 < (s.length : Int)) then
   Option.bind (ix s x1) fun x =>
   if (arbiter_Can_1 x c) then
    some (.inr x1)
   else
    some (.inl (w64 (x1 + 1)))
  else
   ((slices_IndexFunc_api_Letter__arbiter_Can_1_j1).map Sum.inr)
def slices_IndexFunc_api_Letter__arbiter_Can_1 (s : (List api_Letter)) (c : Int) : Option Int :=
 Lp (slices_IndexFunc_api_Letter__arbiter_Can_1_b2 s c) fuel 0
def arbiter_Can_2 (x : api_Letter) (c : Int) (c1 : Int) : Bool :=
 ((decide (x.From = c)) && (((decide (x.Kind = 4)) && (decide (x.Round = c1))) || ((arbiter_word x) && (decide (c1 < x.Round)))))
def slices_IndexFunc_api_Letter__arbiter_Can_2_j1 : Option Int :=
 some (-1)
def slices_IndexFunc_api_Letter__arbiter_Can_2_b2 (s : (List api_Letter)) (c : Int) (c1 : Int) : Int → Option (Int ⊕ Int)
 | x1 =>
  if decide (x1 < (s.length : Int)) then
   Option.bind (ix s x1) fun x =>
   if (arbiter_Can_2 x c c1) then
    some (.inr x1)
   else
    some (.inl (w64 (x1 + 1)))
  else
   ((slices_IndexFunc_api_Letter__arbiter_Can_2_j1).map Sum.inr)
def slices_IndexFunc_api_Letter__arbiter_Can_2 (s : (List api_Letter)) (c : Int) (c1 : Int) : Option Int :=
 Lp (slices_IndexFunc_api_Letter__arbiter_Can_2_b2 s c c1) fuel 0
def slices_ContainsFunc_api_Letter__arbiter_Can_2 (s : (List api_Letter)) (c : Int) (c1 : Int) : Option Bool :=
 Option.bind (slices_IndexFunc_api_Letter__arbiter_Can_2 s c c1) fun y =>
 some (decide (0 ≤ y))
def arbiter_Can_3 (x : api_Letter) (c : Int) : Bool :=
 ((decide (x.Kind = 3)) && (decide (x.Round = c)))
def slices_IndexFunc_api_Letter__arbiter_Can_3_j1 : Option Int :=
 some (-1)
def slices_IndexFunc_api_Letter__arbiter_Can_3_b2 (s : (List api_Letter)) (c : Int) : Int → Option (Int ⊕ Int)
 | x1 =>
  if decide (x1 < (s.length : Int)) then
   Option.bind (ix s x1) fun x =>
   if (arbiter_Can_3 x c) then
    some (.inr x1)
   else
    some (.inl (w64 (x1 + 1)))
  else
   ((slices_IndexFunc_api_Letter__arbiter_Can_3_j1).map Sum.inr)
def slices_IndexFunc_api_Letter__arbiter_Can_3 (s : (List api_Letter)) (c : Int) : Option Int :=
 Lp (slices_IndexFunc_api_Letter__arbiter_Can_3_b2 s c) fuel 0
def arbiter_Can_4 (x : api_Letter) (c : Int) (c1 : Int) (c2 : (List api_Letter)) (c3 : Int) : Option Bool :=
 gb (((((decide (x.Kind = 4)) && (decide (x.From = c))) && (decide (x.Round = c1))))) (ix c2 c3) fun x1 =>
 some ((((decide (x.Kind = 4)) && (decide (x.From = c))) && (decide (x.Round = c1))) && (decide (x.Finding = x1.Finding)))
def slices_IndexFunc_api_Letter__arbiter_Can_4_j1 : Option Int :=
 some (-1)
def slices_IndexFunc_api_Letter__arbiter_Can_4_b2 (s : (List api_Letter)) (c : Int) (c1 : Int) (c2 : (List api_Letter)) (c3 : Int) : Int → Option (Int ⊕ Int)
 | x1 =>
  if decide (x1 < (s.length : Int)) then
   Option.bind (ix s x1) fun x =>
   Option.bind (arbiter_Can_4 x c c1 c2 c3) fun y =>
   if y then
    some (.inr x1)
   else
    some (.inl (w64 (x1 + 1)))
  else
   ((slices_IndexFunc_api_Letter__arbiter_Can_4_j1).map Sum.inr)
def slices_IndexFunc_api_Letter__arbiter_Can_4 (s : (List api_Letter)) (c : Int) (c1 : Int) (c2 : (List api_Letter)) (c3 : Int) : Option Int :=
 Lp (slices_IndexFunc_api_Letter__arbiter_Can_4_b2 s c c1 c2 c3) fuel 0
def slices_ContainsFunc_api_Letter__arbiter_Can_4 (s : (List api_Letter)) (c : Int) (c1 : Int) (c2 : (List api_Letter)) (c3 : Int) : Option Bool :=
 Option.bind (slices_IndexFunc_api_Letter__arbiter_Can_4 s c c1 c2 c3) fun y =>
 some (decide (0 ≤ y))
def arbiter_Can_j3 (c : api_Court) (x : (List api_Letter)) (y1 : Int) (n : Int) : Option (Int × Bool × Bool × Int) :=
 if decide (y1 < 0) then
  Option.bind (arbiter_Majority c) fun y2 =>
  some (0, false, decide (y2 ≤ n), 0)
 else
  Option.bind (arbiter_Majority c) fun y3 =>
  if decide (y3 ≤ n) then
   Option.bind (ix x y1) fun x1 =>
   some (x1.Finding, true, false, 0)
  else
   some (0, false, false, 0)
def arbiter_Can_j5 (n1 : Int) : Option Int :=
 some n1
def arbiter_Can_b4 (round : Int) (x : (List api_Letter)) (y1 : Int) : Int × Bool → Int → Option Int
 | (k, v), n2 =>
  gb (!(v) && (decide (0 ≤ y1))) (slices_ContainsFunc_api_Letter__arbiter_Can_4 x k round x y1) fun y4 =>
  if (v || ((decide (0 ≤ y1)) && y4)) then
   arbiter_Can_j5 (w64 (n2 + 1))
  else
   arbiter_Can_j5 n2
def arbiter_Can_j6 (c : api_Court) (x : (List api_Letter)) (y1 : Int) (n2 : Int) : Option (Int × Bool × Bool × Int) :=
 arbiter_Can_j3 c x y1 n2
def arbiter_Can_j2 (c : api_Court) (round : Int) (x : (List api_Letter)) (m : (List (Int × Bool))) : Option (Int × Bool × Bool × Int) :=
 Option.bind (slices_IndexFunc_api_Letter__arbiter_Can_3 x round) fun y1 =>
 Option.bind (foldO (arbiter_Can_b4 round x y1) m 0) fun vE_4 =>
 arbiter_Can_j6 c x y1 vE_4
def arbiter_Can_b7 (c : api_Court) (round : Int) (x : (List api_Letter)) : (Int × (List (Int × Bool))) → Option ((Int × (List (Int × Bool))) ⊕ (Int × Bool × Bool × Int))
 | (x2, m1) =>
  if decide (x2 < c.Arbiters) then
   Option.bind (slices_ContainsFunc_api_Letter__arbiter_Can_2 x x2 round) fun y5 =>
   some (.inl (w64 (x2 + 1), (putM posI m1 x2 (!y5))))
  else
   ((arbiter_Can_j2 c round x m1).map Sum.inr)
def arbiter_Can_j1 (c : api_Court) (round : Int) (x : (List api_Letter)) : Option (Int × Bool × Bool × Int) :=
 Lp (arbiter_Can_b7 c round x) fuel (0, [])
def arbiter_Can_j8 (c : api_Court) (round : Int) (i : Int) (l2 : (List api_Letter)) : Option (Int × Bool × Bool × Int) :=
 Option.bind (sub l2 i (l2.length : Int)) fun l3 =>
 Option.bind (clrE l2 i (⟨0, 0, 0, 0, 0, 0, 0, 0⟩ : api_Letter)) fun l4 =>
 Option.bind (sub l4 0 i) fun l5 =>
 arbiter_Can_j1 c round l5
def arbiter_Can_j10 (j : Int) (i1 : Int) (l6 : (List api_Letter)) : Option ((Int × Int × (List api_Letter)) ⊕ (Int × Bool × Bool × Int)) :=
 some (.inl (i1, w64 (j + 1), l6))
def arbiter_Can_b9 (c : api_Court) (id : Int) (round : Int) : (Int × Int × (List api_Letter)) → Option ((Int × Int × (List api_Letter)) ⊕ (Int × Bool × Bool × Int))
 | (i2, j, l7) =>
  if decide (j < (l7.length : Int)) then
   Option.bind (ix l7 j) fun x3 =>
   if !(arbiter_Can_1 x3 id) then
    Option.bind (ix l7 i2) fun x4 =>
    arbiter_Can_j10 j (w64 (i2 + 1)) (put l7 i2 x3)
   else
    arbiter_Can_j10 j i2 l7
  else
   ((arbiter_Can_j8 c round i2 l7).map Sum.inr)
def arbiter_Can (c : api_Court) (l : (List api_Letter)) (id : Int) (round : Int) : Option (Int × Bool × Bool × Int) :=
 Option.bind (arbiter_read c l) fun y =>
 if !decide (y = 0) then
  some (0, false, false, y)
 else
  if ((!(arbiter_topic id)) || (!(arbiter_within round 1 1048576))) then
   some (0, false, false, 1)
  else
   Option.bind (app [] l) fun l1 =>
   Option.bind (slices_IndexFunc_api_Letter__arbiter_Can_1 l1 id) fun y6 =>
   if decide (y6 = (-1)) then
    arbiter_Can_j1 c round l1
   else
    Lp (arbiter_Can_b9 c id round) fuel (y6, w64 (y6 + 1), l1)
def arbiter_shows (x : api_Letter) : api_Ruling :=
 if !decide (x.Kind = 4) then
  (⟨0, 0, 0⟩ : api_Ruling)
 else
  (⟨x.Case, x.Round, x.Finding⟩ : api_Ruling)
def arbiter_CheckRuling_j1 (c : api_Court) (votes : (List api_Letter)) : Option (api_Ruling × Int) :=
 Option.bind (arbiter_Majority c) fun y1 =>
 if decide ((votes.length : Int) < y1) then
  some ((⟨0, 0, 0⟩ : api_Ruling), 8)
 else
  Option.bind (ix votes 0) fun x =>
  some ((arbiter_shows x), 0)
def arbiter_CheckRuling_b2 (c : api_Court) (votes : (List api_Letter)) : (Int × (List (Int × Bool))) → Option ((Int × (List (Int × Bool))) ⊕ (api_Ruling × Int))
 | (x3, m) =>
  if decide (x3 < (votes.length : Int)) then
   Option.bind (ix votes x3) fun x1 =>
   gb (!(!decide (x1.Kind = 4))) (ix votes 0) fun x2 =>
   if (((!decide (x1.Kind = 4)) || (!decide ((arbiter_shows x1) = (arbiter_shows x2)))) || ((lookM x1.From m).getD false)) then
    some (.inr ((⟨0, 0, 0⟩ : api_Ruling), 8))
   else
    some (.inl (w64 (x3 + 1), (putM posI m x1.From true)))
  else
   ((arbiter_CheckRuling_j1 c votes).map Sum.inr)
def arbiter_CheckRuling (c : api_Court) (votes : (List api_Letter)) : Option (api_Ruling × Int) :=
 Option.bind (arbiter_read c votes) fun y =>
 if !decide (y = 0) then
  some ((⟨0, 0, 0⟩ : api_Ruling), y)
 else
  Lp (arbiter_CheckRuling_b2 c votes) fuel (0, [])
def arbiter_next_j1 (r_ : Int) : Option Int :=
 some r_
def arbiter_next_b2 (c : api_Court) (arbiter : Int) : Int → Option (Int ⊕ Int)
 | r_1 =>
  Option.bind (rem (w64 (r_1 - 1)) c.Arbiters) fun q =>
  if !decide (q = arbiter) then
   some (.inl (w64 (r_1 + 1)))
  else
   ((arbiter_next_j1 r_1).map Sum.inr)
def arbiter_next (c : api_Court) (arbiter : Int) (round : Int) : Option Int :=
 Lp (arbiter_next_b2 c arbiter) fuel (w64 (round + 1))
def arbiter_Next (c : api_Court) (arbiter : Int) (round : Int) : Option (Int × Int) :=
 if !decide ((arbiter_Check c) = 0) then
  some (0, (arbiter_Check c))
 else
  if ((!(arbiter_judge c arbiter)) || (!(arbiter_within round 0 1048576))) then
   some (0, 1)
  else
   Option.bind (arbiter_next c arbiter round) fun y =>
   if decide (1048576 < y) then
    some (0, 2)
   else
    some (y, 0)
def law09_sanity : Option Bool :=
 Option.bind (law09_three) fun y =>
 Option.bind (arbiter_Lawful (⟨3⟩ : api_Court) y) fun y1 =>
 Option.bind (law09_three) fun y2 =>
 Option.bind (arbiter_Rulings (⟨3⟩ : api_Court) y2) fun y3 =>
 Option.bind (arbiter_Pick (⟨3⟩ : api_Court) ([(⟨0, 4, 2, 5, 0, 1, 0, 0⟩ : api_Letter), (⟨0, 4, 2, 5, 1, 1, 3, 7⟩ : api_Letter)])) fun y4 =>
 Option.bind (law09_three) fun y5 =>
 Option.bind (app y5 ([(⟨0, 4, 1, 2, 1, 0, 0, 0⟩ : api_Letter), (⟨0, 4, 2, 2, 1, 1, 1, 7⟩ : api_Letter), (⟨0, 4, 2, 2, 2, 1, 0, 0⟩ : api_Letter), (⟨0, 4, 3, 2, 1, 0, 0, 8⟩ : api_Letter)])) fun l =>
 Option.bind (arbiter_Lawful (⟨3⟩ : api_Court) l) fun y6 =>
 Option.bind (law09_three) fun y7 =>
 Option.bind (sub y7 0 4) fun l1 =>
 Option.bind (arbiter_Can (⟨3⟩ : api_Court) l1 4 1) fun y8 =>
 Option.bind (sub y7 4 6) fun l2 =>
 Option.bind (arbiter_CheckRuling (⟨3⟩ : api_Court) l2) fun y9 =>
 Option.bind (arbiter_Next (⟨3⟩ : api_Court) 1 2) fun y10 =>
 gb (!((((((!decide (y1.2.2 = 0)) || (!y1.2.1)) || (!decide (y1.1 = (-1)))) || (!decide (y3.2 = 0))) || (!decide ((y3.1.length : Int) = 1))))) (ix y3.1 0) fun x =>
 if (((((((((!decide (y1.2.2 = 0)) || (!y1.2.1)) || (!decide (y1.1 = (-1)))) || (!decide (y3.2 = 0))) || (!decide ((y3.1.length : Int) = 1))) || (!decide (x = (⟨4, 1, 7⟩ : api_Ruling)))) || (!decide (y4.2.2 = 0))) || (!y4.2.1)) || (!decide (y4.1 = 7))) then
  some false
 else
  gb ((((((((((decide (y6.2.2 = 0)) && (!y6.2.1)) && (decide (y6.1 = 9))) && (decide (y8.2.2.2 = 0))) && y8.2.1) && (!y8.2.2.1)) && (decide (y8.1 = 7))) && (decide (y9.2 = 0))))) (ix y3.1 0) fun x1 =>
  gb (((((((((((((decide (y6.2.2 = 0)) && (!y6.2.1)) && (decide (y6.1 = 9))) && (decide (y8.2.2.2 = 0))) && y8.2.1) && (!y8.2.2.1)) && (decide (y8.1 = 7))) && (decide (y9.2 = 0))) && (decide (y9.1 = x1))) && (decide (y10.2 = 0))) && (decide (y10.1 = 5))))) (arbiter_Majority (⟨3⟩ : api_Court)) fun y11 =>
  some ((((((((((((decide (y6.2.2 = 0)) && (!y6.2.1)) && (decide (y6.1 = 9))) && (decide (y8.2.2.2 = 0))) && y8.2.1) && (!y8.2.2.1)) && (decide (y8.1 = 7))) && (decide (y9.2 = 0))) && (decide (y9.1 = x1))) && (decide (y10.2 = 0))) && (decide (y10.1 = 5))) && (decide (y11 = 2)))
def arbiter_Proof_1 (r_ : api_Ruling) (c : Int) : Bool :=
 decide (r_.Case = c)
def slices_IndexFunc_api_Ruling__arbiter_Proof_1_j1 : Option Int :=
 some (-1)
def slices_IndexFunc_api_Ruling__arbiter_Proof_1_b2 (s : (List api_Ruling)) (c : Int) : Int → Option (Int ⊕ Int)
 | x1 =>
  if decide (x1 < (s.length : Int)) then
   Option.bind (ix s x1) fun x =>
   if (arbiter_Proof_1 x c) then
    some (.inr x1)
   else
    some (.inl (w64 (x1 + 1)))
  else
   ((slices_IndexFunc_api_Ruling__arbiter_Proof_1_j1).map Sum.inr)
def slices_IndexFunc_api_Ruling__arbiter_Proof_1 (s : (List api_Ruling)) (c : Int) : Option Int :=
 Lp (slices_IndexFunc_api_Ruling__arbiter_Proof_1_b2 s c) fuel 0
def arbiter_Proof_j1 (l1 : (List api_Letter)) : Option ((List api_Letter) × Int) :=
 some (l1, 0)
def arbiter_Proof_j3 (x2 : Int) (l2 : (List api_Letter)) (m : (List (Int × Bool))) : Option ((Int × (List api_Letter) × (List (Int × Bool))) ⊕ ((List api_Letter) × Int)) :=
 some (.inl (w64 (x2 + 1), l2, m))
def arbiter_Proof_b2 (c : api_Court) (l : (List api_Letter)) (y1 : (List api_Ruling)) (y2 : Int) : (Int × (List api_Letter) × (List (Int × Bool))) → Option ((Int × (List api_Letter) × (List (Int × Bool))) ⊕ ((List api_Letter) × Int))
 | (x2, l4, m1) =>
  if decide (x2 < (l.length : Int)) then
   Option.bind (ix l x2) fun x =>
   Option.bind (arbiter_Majority c) fun y3 =>
   gb ((decide ((l4.length : Int) < y3))) (ix y1 y2) fun x1 =>
   if (((decide ((l4.length : Int) < y3)) && (decide ((arbiter_shows x) = x1))) && (!((lookM x.From m1).getD false))) then
    Option.bind (app l4 ([x])) fun l3 =>
    arbiter_Proof_j3 x2 l3 (putM posI m1 x.From true)
   else
    arbiter_Proof_j3 x2 l4 m1
  else
   ((arbiter_Proof_j1 l4).map Sum.inr)
def arbiter_Proof (c : api_Court) (l : (List api_Letter)) (id : Int) : Option ((List api_Letter) × Int) :=
 Option.bind (arbiter_read c l) fun y =>
 if !decide (y = 0) then
  some ([], y)
 else
  if !(arbiter_topic id) then
   some ([], 1)
  else
   Option.bind (arbiter_rulings c l) fun y1 =>
   Option.bind (slices_IndexFunc_api_Ruling__arbiter_Proof_1 y1 id) fun y2 =>
   if decide (y2 < 0) then
    some ([], 5)
   else
    Lp (arbiter_Proof_b2 c l y1 y2) fuel (0, [], [])
def law09_ArbiterProves_j3 (in_ : Bool) : Option Bool :=
 Option.bind (law09_sanity) fun y7 =>
 some (y7 && in_)
def law09_ArbiterProves_b4 (y1 : (List api_Ruling) × Int) (y6 : api_Ruling × Int) : (Bool × Int) → Option ((Bool × Int) ⊕ Bool)
 | (in_1, x1) =>
  if decide (x1 < (y1.1.length : Int)) then
   Option.bind (ix y1.1 x1) fun x =>
   some (.inl ((in_1 || (decide (x = y6.1))), w64 (x1 + 1)))
  else
   ((law09_ArbiterProves_j3 in_1).map Sum.inr)
def law09_ArbiterProves_j2 (c : api_Court) (y1 : (List api_Ruling) × Int) (l1 : (List api_Letter)) : Option Bool :=
 Option.bind (arbiter_CheckRuling c l1) fun y6 =>
 Lp (law09_ArbiterProves_b4 y1 y6) fuel (!decide (y6.2 = 0), 0)
def law09_ArbiterProves_b5 (c : api_Court) (l : (List api_Letter)) (votes : (List Int)) (y1 : (List api_Ruling) × Int) : (Int × (List api_Letter)) → Option ((Int × (List api_Letter)) ⊕ Bool)
 | (x4, l3) =>
  if decide (x4 < (votes.length : Int)) then
   Option.bind (ix votes x4) fun x2 =>
   Option.bind (rem (w64 x2) (l.length : Int)) fun q =>
   Option.bind (ix l q) fun x3 =>
   Option.bind (app l3 ([x3])) fun l2 =>
   some (.inl (w64 (x4 + 1), l2))
  else
   ((law09_ArbiterProves_j2 c y1 l3).map Sum.inr)
def law09_ArbiterProves_j1 (c : api_Court) (l : (List api_Letter)) (votes : (List Int)) (y1 : (List api_Ruling) × Int) (y2 : (List api_Letter) × Int) (some_ : Bool) : Option Bool :=
 if ((!(some_ == (decide (y2.2 = 0)))) || (decide ((l.length : Int) = 0))) then
  Option.bind (law09_sanity) fun y5 =>
  some (y5 && (some_ == (decide (y2.2 = 0))))
 else
  Lp (law09_ArbiterProves_b5 c l votes y1) fuel (0, [])
def law09_ArbiterProves_j7 (x6 : Int) (some_1 : Bool) : Option ((Bool × Int) ⊕ Bool) :=
 some (.inl (some_1, w64 (x6 + 1)))
def law09_ArbiterProves_b6 (c : api_Court) (l : (List api_Letter)) (id : Int) (votes : (List Int)) (y1 : (List api_Ruling) × Int) (y2 : (List api_Letter) × Int) (y4 : api_Ruling × Int) : (Bool × Int) → Option ((Bool × Int) ⊕ Bool)
 | (some_2, x6) =>
  if decide (x6 < (y1.1.length : Int)) then
   Option.bind (ix y1.1 x6) fun x5 =>
   if ((decide (x5.Case = id)) && (!some_2)) then
    if (((!decide (y2.2 = 0)) || (!decide (y4.2 = 0))) || (!decide (y4.1 = x5))) then
     some (.inr false)
    else
     law09_ArbiterProves_j7 x6 true
   else
    law09_ArbiterProves_j7 x6 some_2
  else
   ((law09_ArbiterProves_j1 c l votes y1 y2 some_2).map Sum.inr)
def law09_ArbiterProves (c : api_Court) (l : (List api_Letter)) (id : Int) (votes : (List Int)) : Option Bool :=
 if ((decide (60 < (l.length : Int))) || (decide (20 < (votes.length : Int)))) then
  Option.bind (law09_sanity) fun y =>
  some y
 else
  Option.bind (arbiter_Rulings c l) fun y1 =>
  Option.bind (arbiter_Proof c l id) fun y2 =>
  if !decide (y1.2 = 0) then
   Option.bind (law09_sanity) fun y3 =>
   some (y3 && (decide (y2.2 = y1.2)))
  else
   Option.bind (arbiter_CheckRuling c y2.1) fun y4 =>
   Lp (law09_ArbiterProves_b6 c l id votes y1 y2 y4) fuel (false, 0)
def law09_few (l : (List api_Letter)) (most : Int) : Bool :=
 ((decide ((l.length : Int) ≤ most)) || ((decide (2000 < (l.length : Int))) && (decide ((l.length : Int) ≤ 2005))))
def ref09_in (n : Int) (lo : Int) (hi : Int) : Bool :=
 ((decide (lo ≤ n)) && (decide (n ≤ hi)))
def ref09_Check (c : api_Court) : Int :=
 if !(ref09_in c.Arbiters 3 7) then
  1
 else
  0
def ref09_Chair (c : api_Court) (round : Int) : Option Int :=
 if ((!decide ((ref09_Check c) = 0)) || (!(ref09_in round 1 1048576))) then
  some 0
 else
  Option.bind (rem (w64 (round - 1)) c.Arbiters) fun q =>
  some q
def ref09_Formed (c : api_Court) (l : api_Letter) : Option Bool :=
 if (((((((!decide ((ref09_Check c) = 0)) || (!(ref09_in l.ID 0 1099511627776))) || (!(ref09_in l.Case 1 1099511627776))) || (!(ref09_in l.Round 1 1048576))) || (!(ref09_in l.From 0 (w64 (c.Arbiters - 1))))) || (!(ref09_in l.To 0 (w64 (c.Arbiters - 1))))) || (!(ref09_in l.Finding 0 65536))) then
  some false
 else
  if decide (l.Kind = 1) then
   Option.bind (ref09_Chair c l.Round) fun y =>
   some (((decide (l.From = y)) && (decide (l.Voted = 0))) && (decide (l.Finding = 0)))
  else
   if decide (l.Kind = 2) then
    Option.bind (ref09_Chair c l.Round) fun y1 =>
    some (((decide (l.To = y1)) && (ref09_in l.Voted 0 (w64 (l.Round - 1)))) && ((decide (0 < l.Voted)) || (decide (l.Finding = 0))))
   else
    if decide (l.Kind = 3) then
     Option.bind (ref09_Chair c l.Round) fun y2 =>
     some ((decide (l.From = y2)) && (decide (l.Voted = 0)))
    else
     some ((decide (l.Kind = 4)) && (decide (l.Voted = 0)))
def ref09_listed_j1 : Option Int :=
 some 0
def ref09_listed_b2 (c : api_Court) (l : (List api_Letter)) : Int → Option (Int ⊕ Int)
 | i =>
  if decide (i < (l.length : Int)) then
   Option.bind (ix l i) fun x =>
   Option.bind (ref09_Formed c x) fun y =>
   if !y then
    some (.inr 7)
   else
    some (.inl (w64 (i + 1)))
  else
   ((ref09_listed_j1).map Sum.inr)
def ref09_listed (c : api_Court) (l : (List api_Letter)) : Option Int :=
 if !decide ((ref09_Check c) = 0) then
  some (ref09_Check c)
 else
  if decide (2000 < (l.length : Int)) then
   some 2
  else
   Lp (ref09_listed_b2 c l) fuel 0
def ref09_Alike (a : api_Letter) (b : api_Letter) : Bool :=
 ((((((decide (a.Case = b.Case)) && (decide (a.Kind = b.Kind))) && (decide (a.Round = b.Round))) && (decide (a.From = b.From))) && (decide (a.Voted = b.Voted))) && (decide (a.Finding = b.Finding)))
def ref09_last_j1 (round : Int) (finding : Int) : Option (Int × Int) :=
 some (round, finding)
def ref09_last_j3 (i : Int) (round1 : Int) (finding1 : Int) : Option ((Int × Int × Int) ⊕ (Int × Int)) :=
 some (.inl (round1, finding1, w64 (i + 1)))
def ref09_last_b2 (l : (List api_Letter)) (arbiter : Int) (id : Int) : (Int × Int × Int) → Option ((Int × Int × Int) ⊕ (Int × Int))
 | (round2, finding2, i) =>
  if decide (i < (l.length : Int)) then
   Option.bind (ix l i) fun x =>
   gb ((decide (x.Kind = 4))) (ix l i) fun x1 =>
   gb ((((decide (x.Kind = 4)) && (decide (x1.Case = id))))) (ix l i) fun x2 =>
   gb (((((decide (x.Kind = 4)) && (decide (x1.Case = id))) && (decide (x2.From = arbiter))))) (ix l i) fun x3 =>
   if ((((decide (x.Kind = 4)) && (decide (x1.Case = id))) && (decide (x2.From = arbiter))) && (decide (round2 < x3.Round))) then
    Option.bind (ix l i) fun x4 =>
    Option.bind (ix l i) fun x5 =>
    ref09_last_j3 i x4.Round x5.Finding
   else
    ref09_last_j3 i round2 finding2
  else
   ((ref09_last_j1 round2 finding2).map Sum.inr)
def ref09_last (l : (List api_Letter)) (arbiter : Int) (id : Int) : Option (Int × Int) :=
 Lp (ref09_last_b2 l arbiter id) fuel (0, 0, 0)
def ref09_there_j1 : Option Bool :=
 some false
def ref09_there_b2 (l : (List api_Letter)) (kind : Int) (id : Int) (round : Int) : Int → Option (Int ⊕ Bool)
 | i =>
  if decide (i < (l.length : Int)) then
   Option.bind (ix l i) fun x =>
   gb ((decide (x.Kind = kind))) (ix l i) fun x1 =>
   gb ((((decide (x.Kind = kind)) && (decide (x1.Case = id))))) (ix l i) fun x2 =>
   if (((decide (x.Kind = kind)) && (decide (x1.Case = id))) && (decide (x2.Round = round))) then
    some (.inr true)
   else
    some (.inl (w64 (i + 1)))
  else
   ((ref09_there_j1).map Sum.inr)
def ref09_there (l : (List api_Letter)) (kind : Int) (id : Int) (round : Int) : Option Bool :=
 Lp (ref09_there_b2 l kind id round) fuel 0
def ref09_word (l : api_Letter) (arbiter : Int) (id : Int) : Bool :=
 (((decide (l.Case = id)) && (decide (l.From = arbiter))) && ((decide (l.Kind = 2)) || (decide (l.Kind = 4))))
def ref09_spoken_j1 (n : Int) : Option Int :=
 some n
def ref09_spoken_j3 (i : Int) (n1 : Int) : Option ((Int × Int) ⊕ Int) :=
 some (.inl (n1, w64 (i + 1)))
def ref09_spoken_b2 (l : (List api_Letter)) (arbiter : Int) (id : Int) : (Int × Int) → Option ((Int × Int) ⊕ Int)
 | (n2, i) =>
  if decide (i < (l.length : Int)) then
   Option.bind (ix l i) fun x =>
   if (ref09_word x arbiter id) then
    Option.bind (ix l i) fun x1 =>
    ref09_spoken_j3 i (max n2 x1.Round)
   else
    ref09_spoken_j3 i n2
  else
   ((ref09_spoken_j1 n2).map Sum.inr)
def ref09_spoken (l : (List api_Letter)) (arbiter : Int) (id : Int) : Option Int :=
 Lp (ref09_spoken_b2 l arbiter id) fuel (0, 0)
def ref09_promises_j1 (l1 : (List api_Letter)) : Option (List api_Letter) :=
 some l1
def ref09_promises_j3 (a : Int) (l2 : (List api_Letter)) : Option ((Int × (List api_Letter)) ⊕ (List api_Letter)) :=
 some (.inl (w64 (a + 1), l2))
def ref09_promises_j5 (i : Int) (found : Bool) (l3 : (List api_Letter)) : Option ((Bool × Int × (List api_Letter)) ⊕ ((Int × (List api_Letter)) ⊕ (List api_Letter))) :=
 some (.inl (found, w64 (i + 1), l3))
def ref09_promises_b4 (l : (List api_Letter)) (id : Int) (round : Int) (a : Int) : (Bool × Int × (List api_Letter)) → Option ((Bool × Int × (List api_Letter)) ⊕ ((Int × (List api_Letter)) ⊕ (List api_Letter)))
 | (found1, i, l5) =>
  if ((decide (i < (l.length : Int))) && (!found1)) then
   Option.bind (ix l i) fun x =>
   gb ((decide (x.Kind = 2))) (ix l i) fun x1 =>
   gb ((((decide (x.Kind = 2)) && (decide (x1.Case = id))))) (ix l i) fun x2 =>
   gb (((((decide (x.Kind = 2)) && (decide (x1.Case = id))) && (decide (x2.Round = round))))) (ix l i) fun x3 =>
   if ((((decide (x.Kind = 2)) && (decide (x1.Case = id))) && (decide (x2.Round = round))) && (decide (x3.From = a))) then
    Option.bind (ix l i) fun x4 =>
    Option.bind (app l5 ([x4])) fun l4 =>
    ref09_promises_j5 i true l4
   else
    ref09_promises_j5 i found1 l5
  else
   ((ref09_promises_j3 a l5).map Sum.inr)
def ref09_promises_b2 (c : api_Court) (l : (List api_Letter)) (id : Int) (round : Int) : (Int × (List api_Letter)) → Option ((Int × (List api_Letter)) ⊕ (List api_Letter))
 | (a, l6) =>
  if decide (a < c.Arbiters) then
   Lp (ref09_promises_b4 l id round a) fuel (false, 0, l6)
  else
   ((ref09_promises_j1 l6).map Sum.inr)
def ref09_promises (c : api_Court) (l : (List api_Letter)) (id : Int) (round : Int) : Option (List api_Letter) :=
 Lp (ref09_promises_b2 c l id round) fuel (0, [])
def ref09_Majority (c : api_Court) : Option Int :=
 if !decide ((ref09_Check c) = 0) then
  some 0
 else
  Option.bind (quo c.Arbiters 2) fun q =>
  some (w64 (q + 1))
def ref09_upTo_j1 (n : Int) : Option Int :=
 some n
def ref09_upTo_j3 (i : Int) (n1 : Int) : Option ((Int × Int) ⊕ Int) :=
 some (.inl (n1, w64 (i + 1)))
def ref09_upTo_b2 (l : (List api_Letter)) (round : Int) : (Int × Int) → Option ((Int × Int) ⊕ Int)
 | (n2, i) =>
  if decide (i < (l.length : Int)) then
   Option.bind (ix l i) fun x =>
   if decide (x.Voted ≤ round) then
    ref09_upTo_j3 i (w64 (n2 + 1))
   else
    ref09_upTo_j3 i n2
  else
   ((ref09_upTo_j1 n2).map Sum.inr)
def ref09_upTo (l : (List api_Letter)) (round : Int) : Option Int :=
 Lp (ref09_upTo_b2 l round) fuel (0, 0)
def ref09_proposable_j1 : Option Bool :=
 some false
def ref09_proposable_b2 (p : (List api_Letter)) (finding : Int) (y : Int) : Int → Option (Int ⊕ Bool)
 | i =>
  if decide (i < (p.length : Int)) then
   Option.bind (ix p i) fun x =>
   gb ((decide (0 < x.Voted))) (ix p i) fun x1 =>
   gb ((((decide (0 < x.Voted)) && (decide (x1.Finding = finding))))) (ix p i) fun x2 =>
   gb ((((decide (0 < x.Voted)) && (decide (x1.Finding = finding))))) (ref09_upTo p x2.Voted) fun y2 =>
   if (((decide (0 < x.Voted)) && (decide (x1.Finding = finding))) && (decide (y ≤ y2))) then
    some (.inr true)
   else
    some (.inl (w64 (i + 1)))
  else
   ((ref09_proposable_j1).map Sum.inr)
def ref09_proposable (c : api_Court) (p : (List api_Letter)) (finding : Int) : Option Bool :=
 Option.bind (ref09_Majority c) fun y =>
 Option.bind (ref09_upTo p 0) fun y1 =>
 if decide (y ≤ y1) then
  some true
 else
  Lp (ref09_proposable_b2 p finding y) fuel 0
def ref09_proposal_j1 : Option (Int × Bool) :=
 some (0, false)
def ref09_proposal_b2 (l : (List api_Letter)) (id : Int) (round : Int) : Int → Option (Int ⊕ (Int × Bool))
 | i =>
  if decide (i < (l.length : Int)) then
   Option.bind (ix l i) fun x =>
   gb ((decide (x.Kind = 3))) (ix l i) fun x1 =>
   gb ((((decide (x.Kind = 3)) && (decide (x1.Case = id))))) (ix l i) fun x2 =>
   if (((decide (x.Kind = 3)) && (decide (x1.Case = id))) && (decide (x2.Round = round))) then
    Option.bind (ix l i) fun x3 =>
    some (.inr (x3.Finding, true))
   else
    some (.inl (w64 (i + 1)))
  else
   ((ref09_proposal_j1).map Sum.inr)
def ref09_proposal (l : (List api_Letter)) (id : Int) (round : Int) : Option (Int × Bool) :=
 Lp (ref09_proposal_b2 l id round) fuel 0
def ref09_lawful_j1 (c : api_Court) (l : (List api_Letter)) (x : api_Letter) : Option Bool :=
 if decide (x.Kind = 1) then
  some true
 else
  Option.bind (ref09_last l x.From x.Case) fun y =>
  if decide (x.Kind = 2) then
   Option.bind (ref09_there l 1 x.Case x.Round) fun y1 =>
   gb ((y1)) (ref09_spoken l x.From x.Case) fun y2 =>
   some (((y1 && (decide (y2 < x.Round))) && (decide (x.Voted = y.1))) && (decide (x.Finding = y.2)))
  else
   if decide (x.Kind = 3) then
    Option.bind (ref09_there l 3 x.Case x.Round) fun y3 =>
    gb ((!y3)) (ref09_promises c l x.Case x.Round) fun y4 =>
    gb ((!y3)) (ref09_proposable c y4 x.Finding) fun y5 =>
    some ((!y3) && y5)
   else
    Option.bind (ref09_proposal l x.Case x.Round) fun y6 =>
    gb (((y6.2 && (decide (y6.1 = x.Finding))))) (ref09_spoken l x.From x.Case) fun y7 =>
    some (((y6.2 && (decide (y6.1 = x.Finding))) && (decide (y7 ≤ x.Round))) && (decide (y.1 < x.Round)))
def ref09_lawful_b2 (c : api_Court) (l : (List api_Letter)) (x : api_Letter) : Int → Option (Int ⊕ Bool)
 | i =>
  if decide (i < (l.length : Int)) then
   Option.bind (ix l i) fun x1 =>
   if (ref09_Alike x1 x) then
    some (.inr true)
   else
    some (.inl (w64 (i + 1)))
  else
   ((ref09_lawful_j1 c l x).map Sum.inr)
def ref09_lawful (c : api_Court) (l : (List api_Letter)) (x : api_Letter) : Option Bool :=
 Lp (ref09_lawful_b2 c l x) fuel 0
def ref09_Lawful_j1 : Option (Int × Bool × Int) :=
 some ((-1), true, 0)
def ref09_Lawful_b2 (c : api_Court) (l : (List api_Letter)) : Int → Option (Int ⊕ (Int × Bool × Int))
 | i =>
  if decide (i < (l.length : Int)) then
   Option.bind (sub l 0 i) fun l1 =>
   Option.bind (ix l i) fun x =>
   Option.bind (ref09_lawful c l1 x) fun y1 =>
   if !y1 then
    some (.inr (i, false, 0))
   else
    some (.inl (w64 (i + 1)))
  else
   ((ref09_Lawful_j1).map Sum.inr)
def ref09_Lawful (c : api_Court) (l : (List api_Letter)) : Option (Int × Bool × Int) :=
 Option.bind (ref09_listed c l) fun y =>
 if !decide (y = 0) then
  some (0, false, y)
 else
  Lp (ref09_Lawful_b2 c l) fuel 0
def law09_ArbiterLawful (c : api_Court) (l : (List api_Letter)) : Option Bool :=
 if !(law09_few l 60) then
  Option.bind (law09_sanity) fun y =>
  some y
 else
  Option.bind (arbiter_Lawful c l) fun y1 =>
  Option.bind (ref09_Lawful c l) fun y2 =>
  Option.bind (law09_sanity) fun y3 =>
  some (((y3 && (decide (y1.1 = y2.1))) && (y1.2.1 == y2.2.1)) && (decide (y1.2.2 = y2.2.2)))
structure ref09_Ruled where
 L : (List api_Ruling)
 E : Int
 deriving DecidableEq, Inhabited
def ref09_votesFor (l : api_Letter) (r_ : api_Ruling) : Bool :=
 ((((decide (l.Kind = 4)) && (decide (l.Case = r_.Case))) && (decide (l.Round = r_.Round))) && (decide (l.Finding = r_.Finding)))
def ref09_votes_j1 (n : Int) : Option Int :=
 some n
def ref09_votes_j3 (a : Int) (n1 : Int) : Option ((Int × Int) ⊕ Int) :=
 some (.inl (n1, w64 (a + 1)))
def ref09_votes_j4 (n2 : Int) (a : Int) (found : Bool) : Option ((Int × Int) ⊕ Int) :=
 if found then
  ref09_votes_j3 a (w64 (n2 + 1))
 else
  ref09_votes_j3 a n2
def ref09_votes_b5 (l : (List api_Letter)) (r_ : api_Ruling) (n2 : Int) (a : Int) : (Bool × Int) → Option ((Bool × Int) ⊕ ((Int × Int) ⊕ Int))
 | (found1, i) =>
  if decide (i < (l.length : Int)) then
   gb (!(found1)) (ix l i) fun x =>
   gb (!(found1) && ((ref09_votesFor x r_))) (ix l i) fun x1 =>
   some (.inl ((found1 || ((ref09_votesFor x r_) && (decide (x1.From = a)))), w64 (i + 1)))
  else
   ((ref09_votes_j4 n2 a found1).map Sum.inr)
def ref09_votes_b2 (c : api_Court) (l : (List api_Letter)) (r_ : api_Ruling) : (Int × Int) → Option ((Int × Int) ⊕ Int)
 | (n2, a) =>
  if decide (a < c.Arbiters) then
   Lp (ref09_votes_b5 l r_ n2 a) fuel (false, 0)
  else
   ((ref09_votes_j1 n2).map Sum.inr)
def ref09_votes (c : api_Court) (l : (List api_Letter)) (r_ : api_Ruling) : Option Int :=
 Lp (ref09_votes_b2 c l r_) fuel (0, 0)
def ref09_before (a : api_Ruling) (b : api_Ruling) : Bool :=
 if !decide (a.Case = b.Case) then
  decide (a.Case < b.Case)
 else
  if !decide (a.Round = b.Round) then
   decide (a.Round < b.Round)
  else
   decide (a.Finding < b.Finding)
def ref09_rulings_j1 (l1 : (List api_Ruling)) : Option (List api_Ruling) :=
 some l1
def ref09_rulings_j3 (i : Int) (l2 : (List api_Ruling)) : Option ((Int × (List api_Ruling)) ⊕ (List api_Ruling)) :=
 some (.inl (w64 (i + 1), l2))
def ref09_rulings_j4 (i : Int) (l6 : (List api_Ruling)) (x : api_Letter) (x1 : api_Letter) (x2 : api_Letter) (k : Int) : Option ((Int × (List api_Ruling)) ⊕ (List api_Ruling)) :=
 gb ((decide (k < (l6.length : Int)))) (ix l6 k) fun x4 =>
 if ((decide (k < (l6.length : Int))) && (decide (x4 = (⟨x.Case, x1.Round, x2.Finding⟩ : api_Ruling)))) then
  ref09_rulings_j3 i l6
 else
  Option.bind (sub l6 0 k) fun l3 =>
  Option.bind (app [] l3) fun l4 =>
  Option.bind (app l4 ([(⟨x.Case, x1.Round, x2.Finding⟩ : api_Ruling)])) fun l5 =>
  Option.bind (sub l6 k (l6.length : Int)) fun l7 =>
  Option.bind (app l5 l7) fun l8 =>
  ref09_rulings_j3 i l8
def ref09_rulings_b5 (i : Int) (l6 : (List api_Ruling)) (x : api_Letter) (x1 : api_Letter) (x2 : api_Letter) : Int → Option (Int ⊕ ((Int × (List api_Ruling)) ⊕ (List api_Ruling)))
 | k1 =>
  gb ((decide (k1 < (l6.length : Int)))) (ix l6 k1) fun x5 =>
  if ((decide (k1 < (l6.length : Int))) && (ref09_before x5 (⟨x.Case, x1.Round, x2.Finding⟩ : api_Ruling))) then
   some (.inl (w64 (k1 + 1)))
  else
   ((ref09_rulings_j4 i l6 x x1 x2 k1).map Sum.inr)
def ref09_rulings_b2 (c : api_Court) (l : (List api_Letter)) : (Int × (List api_Ruling)) → Option ((Int × (List api_Ruling)) ⊕ (List api_Ruling))
 | (i, l6) =>
  if decide (i < (l.length : Int)) then
   Option.bind (ix l i) fun x =>
   Option.bind (ix l i) fun x1 =>
   Option.bind (ix l i) fun x2 =>
   Option.bind (ix l i) fun x3 =>
   gb (!(!decide (x3.Kind = 4))) (ref09_votes c l (⟨x.Case, x1.Round, x2.Finding⟩ : api_Ruling)) fun y =>
   gb (!(!decide (x3.Kind = 4))) (ref09_Majority c) fun y1 =>
   if ((!decide (x3.Kind = 4)) || (decide (y < y1))) then
    ref09_rulings_j3 i l6
   else
    Lp (ref09_rulings_b5 i l6 x x1 x2) fuel 0
  else
   ((ref09_rulings_j1 l6).map Sum.inr)
def ref09_rulings (c : api_Court) (l : (List api_Letter)) : Option (List api_Ruling) :=
 Lp (ref09_rulings_b2 c l) fuel (0, [])
def ref09_Rulings (c : api_Court) (l : (List api_Letter)) : Option ref09_Ruled :=
 Option.bind (ref09_listed c l) fun y =>
 if !decide (y = 0) then
  some (⟨[], y⟩ : ref09_Ruled)
 else
  Option.bind (ref09_rulings c l) fun y1 =>
  some (⟨y1, 0⟩ : ref09_Ruled)
def arbiter_Voted_1 (x : api_Letter) (c : Int) : Bool :=
 !decide (x.Case = c)
def slices_IndexFunc_api_Letter__arbiter_Voted_1_j1 : Option Int :=
 some (-1)
def slices_IndexFunc_api_Letter__arbiter_Voted_1_b2 (s : (List api_Letter)) (c : Int) : Int → Option (Int ⊕ Int)
 | x1 =>
  if decide (x1 < (s.length : Int)) then
   Option.bind (ix s x1) fun x =>
   if (arbiter_Voted_1 x c) then
    some (.inr x1)
   else
    some (.inl (w64 (x1 + 1)))
  else
   ((slices_IndexFunc_api_Letter__arbiter_Voted_1_j1).map Sum.inr)
def slices_IndexFunc_api_Letter__arbiter_Voted_1 (s : (List api_Letter)) (c : Int) : Option Int :=
 Lp (slices_IndexFunc_api_Letter__arbiter_Voted_1_b2 s c) fuel 0
def arbiter_Voted_j1 (arbiter : Int) (x : (List api_Letter)) : Option (Int × Int × Int) :=
 Option.bind (arbiter_last x arbiter) fun y1 =>
 some (y1.Round, y1.Finding, 0)
def arbiter_Voted_j2 (arbiter : Int) (i : Int) (l2 : (List api_Letter)) : Option (Int × Int × Int) :=
 Option.bind (sub l2 i (l2.length : Int)) fun l3 =>
 Option.bind (clrE l2 i (⟨0, 0, 0, 0, 0, 0, 0, 0⟩ : api_Letter)) fun l4 =>
 Option.bind (sub l4 0 i) fun l5 =>
 arbiter_Voted_j1 arbiter l5
def arbiter_Voted_j4 (j : Int) (i1 : Int) (l6 : (List api_Letter)) : Option ((Int × Int × (List api_Letter)) ⊕ (Int × Int × Int)) :=
 some (.inl (i1, w64 (j + 1), l6))
def arbiter_Voted_b3 (arbiter : Int) (id : Int) : (Int × Int × (List api_Letter)) → Option ((Int × Int × (List api_Letter)) ⊕ (Int × Int × Int))
 | (i2, j, l7) =>
  if decide (j < (l7.length : Int)) then
   Option.bind (ix l7 j) fun x1 =>
   if !(arbiter_Voted_1 x1 id) then
    Option.bind (ix l7 i2) fun x2 =>
    arbiter_Voted_j4 j (w64 (i2 + 1)) (put l7 i2 x1)
   else
    arbiter_Voted_j4 j i2 l7
  else
   ((arbiter_Voted_j2 arbiter i2 l7).map Sum.inr)
def arbiter_Voted (c : api_Court) (l : (List api_Letter)) (arbiter : Int) (id : Int) : Option (Int × Int × Int) :=
 Option.bind (arbiter_read c l) fun y =>
 if !decide (y = 0) then
  some (0, 0, y)
 else
  if ((!(arbiter_judge c arbiter)) || (!(arbiter_topic id))) then
   some (0, 0, 1)
  else
   Option.bind (app [] l) fun l1 =>
   Option.bind (slices_IndexFunc_api_Letter__arbiter_Voted_1 l1 id) fun y2 =>
   if decide (y2 = (-1)) then
    arbiter_Voted_j1 arbiter l1
   else
    Lp (arbiter_Voted_b3 arbiter id) fuel (y2, w64 (y2 + 1), l1)
def ref09_Voted (c : api_Court) (l : (List api_Letter)) (arbiter : Int) (id : Int) : Option (Int × Int × Int) :=
 Option.bind (ref09_listed c l) fun y =>
 if !decide (y = 0) then
  some (0, 0, y)
 else
  if ((!(ref09_in arbiter 0 (w64 (c.Arbiters - 1)))) || (!(ref09_in id 1 1099511627776))) then
   some (0, 0, 1)
  else
   Option.bind (ref09_last l arbiter id) fun y1 =>
   some (y1.1, y1.2, 0)
structure ref09_Post where
 L : (List api_Letter)
 E : Int
 deriving DecidableEq, Inhabited
def ref09_Proof_j2 (l1 : (List api_Letter)) : Option ref09_Post :=
 some (⟨l1, 0⟩ : ref09_Post)
def ref09_Proof_j4 (i : Int) (l2 : (List api_Letter)) : Option ((Int × (List api_Letter)) ⊕ ref09_Post) :=
 some (.inl (w64 (i + 1), l2))
def ref09_Proof_j5 (l : (List api_Letter)) (i : Int) (l4 : (List api_Letter)) (is_ : Bool) : Option ((Int × (List api_Letter)) ⊕ ref09_Post) :=
 if is_ then
  Option.bind (ix l i) fun x2 =>
  Option.bind (app l4 ([x2])) fun l3 =>
  ref09_Proof_j4 i l3
 else
  ref09_Proof_j4 i l4
def ref09_Proof_b6 (l : (List api_Letter)) (i : Int) (l4 : (List api_Letter)) : (Bool × Int) → Option ((Bool × Int) ⊕ ((Int × (List api_Letter)) ⊕ ref09_Post))
 | (is_1, n) =>
  if decide (n < (l4.length : Int)) then
   gb ((is_1)) (ix l4 n) fun x3 =>
   gb ((is_1)) (ix l i) fun x4 =>
   some (.inl ((is_1 && (!decide (x3.From = x4.From))), w64 (n + 1)))
  else
   ((ref09_Proof_j5 l i l4 is_1).map Sum.inr)
def ref09_Proof_b3 (c : api_Court) (l : (List api_Letter)) (y1 : (List api_Ruling)) (k : Int) : (Int × (List api_Letter)) → Option ((Int × (List api_Letter)) ⊕ ref09_Post)
 | (i, l4) =>
  gb ((decide (i < (l.length : Int)))) (ref09_Majority c) fun y2 =>
  if ((decide (i < (l.length : Int))) && (decide ((l4.length : Int) < y2))) then
   Option.bind (ix l i) fun x =>
   Option.bind (ix y1 k) fun x1 =>
   Lp (ref09_Proof_b6 l i l4) fuel ((ref09_votesFor x x1), 0)
  else
   ((ref09_Proof_j2 l4).map Sum.inr)
def ref09_Proof_j1 (c : api_Court) (l : (List api_Letter)) (y1 : (List api_Ruling)) (k : Int) : Option ref09_Post :=
 if decide (k = (y1.length : Int)) then
  some (⟨[], 5⟩ : ref09_Post)
 else
  Lp (ref09_Proof_b3 c l y1 k) fuel (0, [])
def ref09_Proof_b7 (c : api_Court) (l : (List api_Letter)) (id : Int) (y1 : (List api_Ruling)) : Int → Option (Int ⊕ ref09_Post)
 | k1 =>
  gb ((decide (k1 < (y1.length : Int)))) (ix y1 k1) fun x5 =>
  if ((decide (k1 < (y1.length : Int))) && (!decide (x5.Case = id))) then
   some (.inl (w64 (k1 + 1)))
  else
   ((ref09_Proof_j1 c l y1 k1).map Sum.inr)
def ref09_Proof (c : api_Court) (l : (List api_Letter)) (id : Int) : Option ref09_Post :=
 Option.bind (ref09_listed c l) fun y =>
 if !decide (y = 0) then
  some (⟨[], y⟩ : ref09_Post)
 else
  if !(ref09_in id 1 1099511627776) then
   some (⟨[], 1⟩ : ref09_Post)
  else
   Option.bind (ref09_rulings c l) fun y1 =>
   Lp (ref09_Proof_b7 c l id y1) fuel 0
def ref09_open_j1 : Option Bool :=
 some true
def ref09_open_b2 (l : (List api_Letter)) (arbiter : Int) (id : Int) (round : Int) : Int → Option (Int ⊕ Bool)
 | i =>
  if decide (i < (l.length : Int)) then
   Option.bind (ix l i) fun x =>
   gb (((ref09_word x arbiter id))) (ix l i) fun x1 =>
   gb (((ref09_word x arbiter id)) && !(decide (round < x1.Round))) (ix l i) fun x2 =>
   gb (((ref09_word x arbiter id)) && !(decide (round < x1.Round)) && (decide (x2.Round = round))) (ix l i) fun x3 =>
   if ((ref09_word x arbiter id) && ((decide (round < x1.Round)) || ((decide (x2.Round = round)) && (decide (x3.Kind = 4))))) then
    some (.inr false)
   else
    some (.inl (w64 (i + 1)))
  else
   ((ref09_open_j1).map Sum.inr)
def ref09_open (l : (List api_Letter)) (arbiter : Int) (id : Int) (round : Int) : Option Bool :=
 Lp (ref09_open_b2 l arbiter id round) fuel 0
def ref09_Can_j1 (c : api_Court) (y1 : Int × Bool) (n : Int) : Option (Int × Bool × Bool × Int) :=
 Option.bind (ref09_Majority c) fun y2 =>
 if decide (n < y2) then
  some (0, false, false, 0)
 else
  if y1.2 then
   some (y1.1, true, false, 0)
  else
   some (0, false, true, 0)
def ref09_Can_j3 (a : Int) (n1 : Int) : Option ((Int × Int) ⊕ (Int × Bool × Bool × Int)) :=
 some (.inl (n1, w64 (a + 1)))
def ref09_Can_j4 (n2 : Int) (a : Int) (ok : Bool) : Option ((Int × Int) ⊕ (Int × Bool × Bool × Int)) :=
 if ok then
  ref09_Can_j3 a (w64 (n2 + 1))
 else
  ref09_Can_j3 a n2
def ref09_Can_b5 (l : (List api_Letter)) (id : Int) (round : Int) (y1 : Int × Bool) (n2 : Int) (a : Int) : (Bool × Int) → Option ((Bool × Int) ⊕ ((Int × Int) ⊕ (Int × Bool × Bool × Int)))
 | (ok1, i) =>
  if decide (i < (l.length : Int)) then
   gb (!(ok1) && (y1.2)) (ix l i) fun x =>
   gb (!(ok1) && ((y1.2 && (decide (x.From = a))))) (ix l i) fun x1 =>
   some (.inl ((ok1 || ((y1.2 && (decide (x.From = a))) && (ref09_votesFor x1 (⟨id, round, y1.1⟩ : api_Ruling)))), w64 (i + 1)))
  else
   ((ref09_Can_j4 n2 a ok1).map Sum.inr)
def ref09_Can_b2 (c : api_Court) (l : (List api_Letter)) (id : Int) (round : Int) (y1 : Int × Bool) : (Int × Int) → Option ((Int × Int) ⊕ (Int × Bool × Bool × Int))
 | (n2, a) =>
  if decide (a < c.Arbiters) then
   Option.bind (ref09_open l a id round) fun y3 =>
   Lp (ref09_Can_b5 l id round y1 n2 a) fuel (y3, 0)
  else
   ((ref09_Can_j1 c y1 n2).map Sum.inr)
def ref09_Can (c : api_Court) (l : (List api_Letter)) (id : Int) (round : Int) : Option (Int × Bool × Bool × Int) :=
 Option.bind (ref09_listed c l) fun y =>
 if !decide (y = 0) then
  some (0, false, false, y)
 else
  if ((!(ref09_in id 1 1099511627776)) || (!(ref09_in round 1 1048576))) then
   some (0, false, false, 1)
  else
   Option.bind (ref09_proposal l id round) fun y1 =>
   Lp (ref09_Can_b2 c l id round y1) fuel (0, 0)
def ref09_SameRulings_j1 : Option Bool :=
 some true
def ref09_SameRulings_b2 (a : (List api_Ruling)) (b : (List api_Ruling)) : Int → Option (Int ⊕ Bool)
 | i =>
  if decide (i < (a.length : Int)) then
   Option.bind (ix a i) fun x =>
   Option.bind (ix b i) fun x1 =>
   if !decide (x = x1) then
    some (.inr false)
   else
    some (.inl (w64 (i + 1)))
  else
   ((ref09_SameRulings_j1).map Sum.inr)
def ref09_SameRulings (a : (List api_Ruling)) (b : (List api_Ruling)) : Option Bool :=
 if !decide ((a.length : Int) = (b.length : Int)) then
  some false
 else
  Lp (ref09_SameRulings_b2 a b) fuel 0
def ref09_SameLetters_j1 : Option Bool :=
 some true
def ref09_SameLetters_b2 (a : (List api_Letter)) (b : (List api_Letter)) : Int → Option (Int ⊕ Bool)
 | i =>
  if decide (i < (a.length : Int)) then
   Option.bind (ix a i) fun x =>
   Option.bind (ix b i) fun x1 =>
   if !decide (x = x1) then
    some (.inr false)
   else
    some (.inl (w64 (i + 1)))
  else
   ((ref09_SameLetters_j1).map Sum.inr)
def ref09_SameLetters (a : (List api_Letter)) (b : (List api_Letter)) : Option Bool :=
 if !decide ((a.length : Int) = (b.length : Int)) then
  some false
 else
  Lp (ref09_SameLetters_b2 a b) fuel 0
def law09_ArbiterTells (c : api_Court) (l : (List api_Letter)) (who : Int) (id : Int) (round : Int) : Option Bool :=
 if !(law09_few l 60) then
  Option.bind (law09_sanity) fun y =>
  some y
 else
  Option.bind (arbiter_Rulings c l) fun y1 =>
  Option.bind (ref09_Rulings c l) fun y2 =>
  Option.bind (arbiter_Voted c l who id) fun y3 =>
  Option.bind (ref09_Voted c l who id) fun y4 =>
  Option.bind (arbiter_Proof c l id) fun y5 =>
  Option.bind (ref09_Proof c l id) fun y6 =>
  Option.bind (arbiter_Can c l id round) fun y7 =>
  Option.bind (ref09_Can c l id round) fun y8 =>
  gb (!(!decide (y1.2 = y2.E))) (ref09_SameRulings y1.1 y2.L) fun y9 =>
  gb (!(((((((!decide (y1.2 = y2.E)) || (!y9)) || (!decide (y3.1 = y4.1))) || (!decide (y3.2.1 = y4.2.1))) || (!decide (y3.2.2 = y4.2.2))) || (!decide (y5.2 = y6.E))))) (ref09_SameLetters y5.1 y6.L) fun y10 =>
  if (((((((!decide (y1.2 = y2.E)) || (!y9)) || (!decide (y3.1 = y4.1))) || (!decide (y3.2.1 = y4.2.1))) || (!decide (y3.2.2 = y4.2.2))) || (!decide (y5.2 = y6.E))) || (!y10)) then
   some false
  else
   Option.bind (law09_sanity) fun y11 =>
   some ((((y11 && (decide (y7.1 = y8.1))) && (y7.2.1 == y8.2.1)) && (y7.2.2.1 == y8.2.2.1)) && (decide (y7.2.2.2 = y8.2.2.2)))
def ref09_CheckRuling_j1 (x : api_Letter) (x1 : api_Letter) (x2 : api_Letter) : Option (api_Ruling × Int) :=
 some ((⟨x.Case, x1.Round, x2.Finding⟩ : api_Ruling), 0)
def ref09_CheckRuling_j3 (i : Int) (is_ : Bool) : Option (Int ⊕ (api_Ruling × Int)) :=
 if !is_ then
  some (.inr ((⟨0, 0, 0⟩ : api_Ruling), 8))
 else
  some (.inl (w64 (i + 1)))
def ref09_CheckRuling_b4 (l : (List api_Letter)) (i : Int) : (Bool × Int) → Option ((Bool × Int) ⊕ (Int ⊕ (api_Ruling × Int)))
 | (is_1, k) =>
  if decide (k < i) then
   gb ((is_1)) (ix l k) fun x4 =>
   gb ((is_1)) (ix l i) fun x5 =>
   some (.inl ((is_1 && (!decide (x4.From = x5.From))), w64 (k + 1)))
  else
   ((ref09_CheckRuling_j3 i is_1).map Sum.inr)
def ref09_CheckRuling_b2 (l : (List api_Letter)) (x : api_Letter) (x1 : api_Letter) (x2 : api_Letter) : Int → Option (Int ⊕ (api_Ruling × Int))
 | i =>
  if decide (i < (l.length : Int)) then
   Option.bind (ix l i) fun x3 =>
   Lp (ref09_CheckRuling_b4 l i) fuel ((ref09_votesFor x3 (⟨x.Case, x1.Round, x2.Finding⟩ : api_Ruling)), 0)
  else
   ((ref09_CheckRuling_j1 x x1 x2).map Sum.inr)
def ref09_CheckRuling (c : api_Court) (l : (List api_Letter)) : Option (api_Ruling × Int) :=
 Option.bind (ref09_listed c l) fun y =>
 if !decide (y = 0) then
  some ((⟨0, 0, 0⟩ : api_Ruling), y)
 else
  Option.bind (ref09_Majority c) fun y1 =>
  if decide ((l.length : Int) < y1) then
   some ((⟨0, 0, 0⟩ : api_Ruling), 8)
  else
   Option.bind (ix l 0) fun x =>
   Option.bind (ix l 0) fun x1 =>
   Option.bind (ix l 0) fun x2 =>
   Lp (ref09_CheckRuling_b2 l x x1 x2) fuel 0
def law09_ArbiterChecks_j1 (c : api_Court) (p : (List api_Letter)) : Option Bool :=
 Option.bind (arbiter_CheckRuling c p) fun y5 =>
 Option.bind (ref09_CheckRuling c p) fun y6 =>
 Option.bind (law09_sanity) fun y7 =>
 some ((y7 && (decide (y5.1 = y6.1))) && (decide (y5.2 = y6.2)))
def law09_ArbiterChecks (c : api_Court) (l : (List api_Letter)) (id : Int) (what : Int) (at_ : Int) (by_ : Int) : Option Bool :=
 if !(law09_few l 60) then
  Option.bind (law09_sanity) fun y =>
  some y
 else
  Option.bind (arbiter_CheckRuling c l) fun y1 =>
  Option.bind (ref09_CheckRuling c l) fun y2 =>
  if ((!decide (y1.1 = y2.1)) || (!decide (y1.2 = y2.2))) then
   some false
  else
   Option.bind (arbiter_Proof c l id) fun y3 =>
   Option.bind (app [] y3.1) fun l1 =>
   if decide ((l1.length : Int) = 0) then
    Option.bind (law09_sanity) fun y4 =>
    some y4
   else
    Option.bind (rem (w64 at_) (l1.length : Int)) fun q =>
    if decide (what = 1) then
     Option.bind (sub l1 0 q) fun l2 =>
     Option.bind (qsl l1 0 (w64 (q + 1))) fun a =>
     Option.bind (cutO l1 q (w64 (q + 1))) fun l3 =>
     law09_ArbiterChecks_j1 c l3
    else
     if decide (what = 2) then
      Option.bind (ix l1 q) fun x =>
      law09_ArbiterChecks_j1 c (put l1 q (⟨x.ID, x.Case, x.Kind, x.Round, by_, x.To, x.Voted, x.Finding⟩ : api_Letter))
     else
      if decide (what = 3) then
       Option.bind (ix l1 q) fun x1 =>
       law09_ArbiterChecks_j1 c (put l1 q (⟨x1.ID, x1.Case, x1.Kind, by_, x1.From, x1.To, x1.Voted, x1.Finding⟩ : api_Letter))
      else
       if decide (what = 4) then
        Option.bind (ix l1 q) fun x2 =>
        law09_ArbiterChecks_j1 c (put l1 q (⟨x2.ID, x2.Case, x2.Kind, x2.Round, x2.From, x2.To, x2.Voted, by_⟩ : api_Letter))
       else
        if decide (what = 5) then
         Option.bind (ix l1 q) fun x3 =>
         Option.bind (app l1 ([x3])) fun l4 =>
         law09_ArbiterChecks_j1 c l4
        else
         law09_ArbiterChecks_j1 c l1
end Go.Mx
