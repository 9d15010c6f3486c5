/- Functions of the program as plain functions. Conditions: none. Printed by a program (wip/tools/xg.py). -/
import Derived.Test.YthfnbjoecocfaaaXl
set_option linter.unusedVariables false
namespace Go.Mx

structure api_Span where
  Lo : Int
  Hi : Int
  deriving DecidableEq, Inhabited

structure api_Lease where
  ID : Int
  Heap : Int
  Span : api_Span
  deriving DecidableEq, Inhabited

def berth_within (n : Int) (lo : Int) (hi : Int) : Bool :=
  ((decide (lo ≤ n)) && (decide (n ≤ hi)))

def berth_leaseID (l : api_Lease) : Int :=
  l.ID

def berth_first_api_Lease_1__berth_leaseID (x : api_Lease) (c : Int) : Bool :=
  decide ((berth_leaseID x) = c)

def slices_IndexFunc_api_Lease__berth_first_api_Lease_1__berth_leaseID_j1 : Option Int :=
  some (-1)

def slices_IndexFunc_api_Lease__berth_first_api_Lease_1__berth_leaseID_b2 (s : (List api_Lease)) (c : Int) : Int → Option (Int ⊕ Int)
  | x1 =>
    if decide (x1 < (s.length : Int)) then
      Option.bind (ix s x1) fun x =>
      if (berth_first_api_Lease_1__berth_leaseID x c) then
        some (.inr x1)
      else
        some (.inl (w64 (x1 + 1)))
    else
      ((slices_IndexFunc_api_Lease__berth_first_api_Lease_1__berth_leaseID_j1).map Sum.inr)

def slices_IndexFunc_api_Lease__berth_first_api_Lease_1__berth_leaseID (s : (List api_Lease)) (c : Int) : Option Int :=
  Lp (slices_IndexFunc_api_Lease__berth_first_api_Lease_1__berth_leaseID_b2 s c) fuel 0

def berth_first_api_Lease__berth_leaseID (l : (List api_Lease)) (id : Int) : Option Int :=
  Option.bind (slices_IndexFunc_api_Lease__berth_first_api_Lease_1__berth_leaseID l id) fun y =>
  some y

def berth_CheckLeases_j1 : Option Int :=
  some 0

def berth_CheckLeases_b2 (l : (List api_Lease)) : Int → Option (Int ⊕ Int)
  | x1 =>
    if decide (x1 < (l.length : Int)) then
      Option.bind (ix l x1) fun x =>
      if (((((!(berth_within x.ID 1 1099511627776)) || (!(berth_within x.Heap 1 1099511627776))) || (decide (x.Span.Lo < 0))) || (decide (x.Span.Hi < x.Span.Lo))) || (decide (1048576 < x.Span.Hi))) then
        some (.inr 1)
      else
        Option.bind (berth_first_api_Lease__berth_leaseID l x.ID) fun y =>
        if decide (y < x1) then
          some (.inr 6)
        else
          some (.inl (w64 (x1 + 1)))
    else
      ((berth_CheckLeases_j1).map Sum.inr)

def berth_CheckLeases (l : (List api_Lease)) : Option Int :=
  if decide (40 < (l.length : Int)) then
    some 2
  else
    Lp (berth_CheckLeases_b2 l) fuel 0

structure berth_turn where
  Lease : api_Lease
  place : Int
  deriving DecidableEq, Inhabited

def cmp_isNaN_int (x : Int) : Bool :=
  !decide (x = x)

def cmp_Compare_int (x : Int) (y : Int) : Int :=
  if (cmp_isNaN_int x) then
    if (cmp_isNaN_int y) then
      0
    else
      (-1)
  else
    if (cmp_isNaN_int y) then
      1
    else
      if decide (x < y) then
        (-1)
      else
        if decide (y < x) then
          1
        else
          0

def berth_turns_1 (a : berth_turn) (b : berth_turn) : Int :=
  (cmp_Compare_int a.Lease.Span.Lo b.Lease.Span.Lo)

def berth_turns_j2 (l1 : (List berth_turn)) (l2 : (List berth_turn)) : Option (List berth_turn) :=
  Option.bind (sameO l1 l2) fun _ =>
  some l2

def berth_turns_j6 (l1 : (List berth_turn)) (blockSize : Int) : Option (Int ⊕ (List berth_turn)) :=
  if decide ((w64 (0 + blockSize)) < (l1.length : Int)) then
    none
  else
    some (.inl (w64 (blockSize * 2)))

def berth_turns_b7 (l1 : (List berth_turn)) (blockSize : Int) : Unit → Option (Unit ⊕ (Int ⊕ (List berth_turn)))
  | () =>
    if decide ((w64 (2 * blockSize)) ≤ (l1.length : Int)) then
      none
    else
      ((berth_turns_j6 l1 blockSize).map Sum.inr)

def berth_turns_b5 (l1 : (List berth_turn)) (l4 : (List berth_turn)) : Int → Option (Int ⊕ (List berth_turn))
  | blockSize =>
    if decide (blockSize < (l1.length : Int)) then
      Lp (berth_turns_b7 l1 blockSize) fuel ()
    else
      ((berth_turns_j2 l1 l4).map Sum.inr)

def berth_turns_j4 (l1 : (List berth_turn)) (l4 : (List berth_turn)) : Option (List berth_turn) :=
  Lp (berth_turns_b5 l1 l4) fuel 20

def berth_turns_j9 (i : Int) (l5 : (List berth_turn)) : Option ((Int × (List berth_turn)) ⊕ (List berth_turn)) :=
  some (.inl (w64 (i + 1), l5))

def berth_turns_b10 (a : Int) (i : Int) : (Int × (List berth_turn)) → Option ((Int × (List berth_turn)) ⊕ ((Int × (List berth_turn)) ⊕ (List berth_turn)))
  | (j, l6) =>
    gb ((decide (a < j))) (ix l6 j) fun x =>
    gb ((decide (a < j))) (ix l6 (w64 (j - 1))) fun x1 =>
    if ((decide (a < j)) && (decide ((berth_turns_1 x x1) < 0))) then
      Option.bind (ix l6 (w64 (j - 1))) fun x2 =>
      Option.bind (ix l6 j) fun x3 =>
      Option.bind (ix l6 j) fun x4 =>
      Option.bind (ix (put l6 j x2) (w64 (j - 1))) fun x5 =>
      some (.inl (w64 (j - 1), (put (put l6 j x2) (w64 (j - 1)) x3)))
    else
      ((berth_turns_j9 i l6).map Sum.inr)

def berth_turns_b8 (l1 : (List berth_turn)) (a : Int) (l3 : (List berth_turn)) : (Int × (List berth_turn)) → Option ((Int × (List berth_turn)) ⊕ (List berth_turn))
  | (i, l7) =>
    if decide (i < (l1.length : Int)) then
      Lp (berth_turns_b10 a i) fuel (i, l7)
    else
      Option.bind (sameO l3 l7) fun _ =>
      ((berth_turns_j4 l1 l7).map Sum.inr)

def berth_turns_j3 (l1 : (List berth_turn)) (a : Int) (l3 : (List berth_turn)) : Option (List berth_turn) :=
  Lp (berth_turns_b8 l1 a l3) fuel (w64 (a + 1), l3)

def berth_turns_j12 (b : Int) (l8 : (List berth_turn)) : Option ((Int × Int × (List berth_turn)) ⊕ (List berth_turn)) :=
  some (.inl (b, w64 (b + 20), l8))

def berth_turns_j14 (i1 : Int) (l9 : (List berth_turn)) : Option ((Int × (List berth_turn)) ⊕ ((Int × Int × (List berth_turn)) ⊕ (List berth_turn))) :=
  some (.inl (w64 (i1 + 1), l9))

def berth_turns_b15 (a1 : Int) (i1 : Int) : (Int × (List berth_turn)) → Option ((Int × (List berth_turn)) ⊕ ((Int × (List berth_turn)) ⊕ ((Int × Int × (List berth_turn)) ⊕ (List berth_turn))))
  | (j1, l10) =>
    gb ((decide (a1 < j1))) (ix l10 j1) fun x6 =>
    gb ((decide (a1 < j1))) (ix l10 (w64 (j1 - 1))) fun x7 =>
    if ((decide (a1 < j1)) && (decide ((berth_turns_1 x6 x7) < 0))) then
      Option.bind (ix l10 (w64 (j1 - 1))) fun x8 =>
      Option.bind (ix l10 j1) fun x9 =>
      Option.bind (ix l10 j1) fun x10 =>
      Option.bind (ix (put l10 j1 x8) (w64 (j1 - 1))) fun x11 =>
      some (.inl (w64 (j1 - 1), (put (put l10 j1 x8) (w64 (j1 - 1)) x9)))
    else
      ((berth_turns_j14 i1 l10).map Sum.inr)

def berth_turns_b13 (a1 : Int) (b : Int) (l12 : (List berth_turn)) : (Int × (List berth_turn)) → Option ((Int × (List berth_turn)) ⊕ ((Int × Int × (List berth_turn)) ⊕ (List berth_turn)))
  | (i1, l11) =>
    if decide (i1 < b) then
      Lp (berth_turns_b15 a1 i1) fuel (i1, l11)
    else
      Option.bind (sameO l12 l11) fun _ =>
      ((berth_turns_j12 b l11).map Sum.inr)

def berth_turns_b11 (l1 : (List berth_turn)) : (Int × Int × (List berth_turn)) → Option ((Int × Int × (List berth_turn)) ⊕ (List berth_turn))
  | (a1, b, l12) =>
    if decide (b ≤ (l1.length : Int)) then
      Lp (berth_turns_b13 a1 b l12) fuel (w64 (a1 + 1), l12)
    else
      ((berth_turns_j3 l1 a1 l12).map Sum.inr)

def berth_turns_j1 (l1 : (List berth_turn)) : Option (List berth_turn) :=
  Lp (berth_turns_b11 l1) fuel (0, 20, l1)

def berth_turns_b16 (l : (List api_Lease)) : (Int × (List berth_turn)) → Option ((Int × (List berth_turn)) ⊕ (List berth_turn))
  | (x13, l14) =>
    if decide (x13 < (l.length : Int)) then
      Option.bind (ix l x13) fun x12 =>
      Option.bind (app l14 ([(⟨x12, x13⟩ : berth_turn)])) fun l13 =>
      some (.inl (w64 (x13 + 1), l13))
    else
      ((berth_turns_j1 l14).map Sum.inr)

def berth_turns (l : (List api_Lease)) : Option (List berth_turn) :=
  Lp (berth_turns_b16 l) fuel (0, [])

def berth_atOnce (a : api_Lease) (b : api_Lease) : Bool :=
  ((decide (a.Span.Lo ≤ b.Span.Hi)) && (decide (b.Span.Lo ≤ a.Span.Hi)))

def berth_Lighters_j2 (most : Int) (l2 : (List Int)) : Option ((List Int) × Int × Int) :=
  some (l2, most, 0)

def berth_Lighters_j5 (most1 : Int) (x5 : Int) (l3 : (List Int)) (x : berth_turn) (n : Int) : Option ((Int × Int × (List Int)) ⊕ ((List Int) × Int × Int)) :=
  Option.bind (ix l3 x.place) fun x1 =>
  some (.inl (max most1 (w64 (n + 1)), w64 (x5 + 1), (put l3 x.place n)))

def berth_Lighters_b6 (most1 : Int) (x5 : Int) (l3 : (List Int)) (x : berth_turn) (m : (List (Int × Bool))) : Int → Option (Int ⊕ ((Int × Int × (List Int)) ⊕ ((List Int) × Int × Int)))
  | n1 =>
    if ((lookM n1 m).getD false) then
      some (.inl (w64 (n1 + 1)))
    else
      ((berth_Lighters_j5 most1 x5 l3 x n1).map Sum.inr)

def berth_Lighters_j4 (most1 : Int) (x5 : Int) (l3 : (List Int)) (x : berth_turn) (m : (List (Int × Bool))) : Option ((Int × Int × (List Int)) ⊕ ((List Int) × Int × Int)) :=
  Lp (berth_Lighters_b6 most1 x5 l3 x m) fuel 0

def berth_Lighters_j8 (x4 : Int) (m1 : (List (Int × Bool))) : Option ((Int × (List (Int × Bool))) ⊕ ((Int × Int × (List Int)) ⊕ ((List Int) × Int × Int))) :=
  some (.inl (w64 (x4 + 1), m1))

def berth_Lighters_b7 (l : (List api_Lease)) (most1 : Int) (x5 : Int) (l3 : (List Int)) (x : berth_turn) : (Int × (List (Int × Bool))) → Option ((Int × (List (Int × Bool))) ⊕ ((Int × Int × (List Int)) ⊕ ((List Int) × Int × Int)))
  | (x4, m2) =>
    if decide (x4 < (l3.length : Int)) then
      Option.bind (ix l3 x4) fun x2 =>
      gb ((decide (0 ≤ x2))) (ix l x4) fun x3 =>
      if ((decide (0 ≤ x2)) && (berth_atOnce x3 x.Lease)) then
        berth_Lighters_j8 x4 (putM posI m2 x2 true)
      else
        berth_Lighters_j8 x4 m2
    else
      ((berth_Lighters_j4 most1 x5 l3 x m2).map Sum.inr)

def berth_Lighters_b3 (l : (List api_Lease)) (y1 : (List berth_turn)) : (Int × Int × (List Int)) → Option ((Int × Int × (List Int)) ⊕ ((List Int) × Int × Int))
  | (most1, x5, l3) =>
    if decide (x5 < (y1.length : Int)) then
      Option.bind (ix y1 x5) fun x =>
      Lp (berth_Lighters_b7 l most1 x5 l3 x) fuel (0, [])
    else
      ((berth_Lighters_j2 most1 l3).map Sum.inr)

def berth_Lighters_j1 (l : (List api_Lease)) (l1 : (List Int)) : Option ((List Int) × Int × Int) :=
  Option.bind (berth_turns l) fun y1 =>
  Lp (berth_Lighters_b3 l y1) fuel (0, 0, l1)

def berth_Lighters_b9 (l : (List api_Lease)) : (Int × (List Int)) → Option ((Int × (List Int)) ⊕ ((List Int) × Int × Int))
  | (x6, l5) =>
    if decide (x6 < (l.length : Int)) then
      Option.bind (app l5 ([(-1)])) fun l4 =>
      some (.inl (w64 (x6 + 1), l4))
    else
      ((berth_Lighters_j1 l l5).map Sum.inr)

def berth_Lighters (l : (List api_Lease)) : Option ((List Int) × Int × Int) :=
  Option.bind (berth_CheckLeases l) fun y =>
  if !decide (y = 0) then
    some ([], 0, y)
  else
    Lp (berth_Lighters_b9 l) fuel (0, [])

def berth_Busiest_j1 (at_ : Int) (most : Int) : Option (Int × Int × Int) :=
  some (at_, most, 0)

def berth_Busiest_j3 (x3 : Int) (at_1 : Int) (most1 : Int) : Option ((Int × Int × Int) ⊕ (Int × Int × Int)) :=
  some (.inl (at_1, most1, w64 (x3 + 1)))

def berth_Busiest_j4 (at_2 : Int) (most2 : Int) (x3 : Int) (x : berth_turn) (n : Int) : Option ((Int × Int × Int) ⊕ (Int × Int × Int)) :=
  if decide (most2 < n) then
    berth_Busiest_j3 x3 x.Lease.Span.Lo n
  else
    berth_Busiest_j3 x3 at_2 most2

def berth_Busiest_j6 (x2 : Int) (n1 : Int) : Option ((Int × Int) ⊕ ((Int × Int × Int) ⊕ (Int × Int × Int))) :=
  some (.inl (n1, w64 (x2 + 1)))

def berth_Busiest_b5 (l : (List api_Lease)) (at_2 : Int) (most2 : Int) (x3 : Int) (x : berth_turn) : (Int × Int) → Option ((Int × Int) ⊕ ((Int × Int × Int) ⊕ (Int × Int × Int)))
  | (n2, x2) =>
    if decide (x2 < (l.length : Int)) then
      Option.bind (ix l x2) fun x1 =>
      if (berth_within x.Lease.Span.Lo x1.Span.Lo x1.Span.Hi) then
        berth_Busiest_j6 x2 (w64 (n2 + 1))
      else
        berth_Busiest_j6 x2 n2
    else
      ((berth_Busiest_j4 at_2 most2 x3 x n2).map Sum.inr)

def berth_Busiest_b2 (l : (List api_Lease)) (y1 : (List berth_turn)) : (Int × Int × Int) → Option ((Int × Int × Int) ⊕ (Int × Int × Int))
  | (at_2, most2, x3) =>
    if decide (x3 < (y1.length : Int)) then
      Option.bind (ix y1 x3) fun x =>
      Lp (berth_Busiest_b5 l at_2 most2 x3 x) fuel (0, 0)
    else
      ((berth_Busiest_j1 at_2 most2).map Sum.inr)

def berth_Busiest (l : (List api_Lease)) : Option (Int × Int × Int) :=
  Option.bind (berth_CheckLeases l) fun y =>
  if !decide (y = 0) then
    some (0, 0, y)
  else
    Option.bind (berth_turns l) fun y1 =>
    Lp (berth_Busiest_b2 l y1) fuel (0, 0, 0)

structure Arr_2_int where
  a0 : Int
  a1 : Int
  deriving DecidableEq, Inhabited
def Arr_2_int.toL (x : Arr_2_int) : List Int := [x.a0, x.a1]
def Arr_2_int.ofL : List Int → Arr_2_int
  | [a0, a1] => ⟨a0, a1⟩
  | _ => default
def Arr_2_int.set (x : Arr_2_int) (i : Int) (v : Int) : Arr_2_int := Arr_2_int.ofL (put x.toL i v)
theorem Arr_2_int.toL_of : ∀ {l : List Int}, l.length = 2 → (Arr_2_int.ofL l).toL = l
  | [a0, a1], _ => rfl
theorem Arr_2_int.toL_set (x : Arr_2_int) (i : Int) (v : Int) : (x.set i v).toL = put x.toL i v := Arr_2_int.toL_of (by simp [put, Arr_2_int.toL])

def slices_Compare_int_j1 (s1 : (List Int)) (s2 : (List Int)) : Option Int :=
  if decide ((s1.length : Int) < (s2.length : Int)) then
    some (-1)
  else
    some 0

def slices_Compare_int_b2 (s1 : (List Int)) (s2 : (List Int)) : Int → Option (Int ⊕ Int)
  | x2 =>
    if decide (x2 < (s1.length : Int)) then
      Option.bind (ix s1 x2) fun x =>
      if decide ((s2.length : Int) ≤ x2) then
        some (.inr 1)
      else
        Option.bind (ix s2 x2) fun x1 =>
        if !decide ((cmp_Compare_int x x1) = 0) then
          some (.inr (cmp_Compare_int x x1))
        else
          some (.inl (w64 (x2 + 1)))
    else
      ((slices_Compare_int_j1 s1 s2).map Sum.inr)

def slices_Compare_int (s1 : (List Int)) (s2 : (List Int)) : Option Int :=
  Lp (slices_Compare_int_b2 s1 s2) fuel 0

/-- Pairs of numbers, one by one. -/
def lt_pair (x y : Arr_2_int) : Bool := decide (x.a0 < y.a0) || (decide (x.a0 = y.a0) && decide (x.a1 < y.a1))

def berth_Clashes_j1 (l1 : (List Arr_2_int)) : Option ((List Arr_2_int) × Int) :=
  Option.bind (srtFO lt_pair l1) fun l2 =>
  some (l2, 0)

def berth_Clashes_j3 (x3 : Int) (l4 : (List Arr_2_int)) : Option ((Int × (List Arr_2_int)) ⊕ ((List Arr_2_int) × Int)) :=
  some (.inl (w64 (x3 + 1), l4))

def berth_Clashes_j5 (x2 : Int) (l5 : (List Arr_2_int)) : Option ((Int × (List Arr_2_int)) ⊕ ((Int × (List Arr_2_int)) ⊕ ((List Arr_2_int) × Int))) :=
  some (.inl (w64 (x2 + 1), l5))

def berth_Clashes_b4 (x3 : Int) (x : api_Lease) (l3 : (List api_Lease)) : (Int × (List Arr_2_int)) → Option ((Int × (List Arr_2_int)) ⊕ ((Int × (List Arr_2_int)) ⊕ ((List Arr_2_int) × Int)))
  | (x2, l7) =>
    if decide (x2 < (l3.length : Int)) then
      Option.bind (ix l3 x2) fun x1 =>
      if ((decide (x.Heap = x1.Heap)) && (berth_atOnce x x1)) then
        Option.bind (app l7 ([(⟨min x.ID x1.ID, max x.ID x1.ID⟩ : Arr_2_int)])) fun l6 =>
        berth_Clashes_j5 x2 l6
      else
        berth_Clashes_j5 x2 l7
    else
      ((berth_Clashes_j3 x3 l7).map Sum.inr)

def berth_Clashes_b2 (l : (List api_Lease)) : (Int × (List Arr_2_int)) → Option ((Int × (List Arr_2_int)) ⊕ ((List Arr_2_int) × Int))
  | (x3, l8) =>
    if decide (x3 < (l.length : Int)) then
      Option.bind (ix l x3) fun x =>
      Option.bind (sub l 0 x3) fun l3 =>
      Lp (berth_Clashes_b4 x3 x l3) fuel (0, l8)
    else
      ((berth_Clashes_j1 l8).map Sum.inr)

def berth_Clashes (l : (List api_Lease)) : Option ((List Arr_2_int) × Int) :=
  Option.bind (berth_CheckLeases l) fun y =>
  if !decide (y = 0) then
    some ([], y)
  else
    Lp (berth_Clashes_b2 l) fuel (0, [])

/-- A copy. -/
def slices_Clone_Lease (l : List api_Lease) : Option (List api_Lease) := app [] l

def berth_Queue_j1 (l2 : (List api_Lease)) : Option ((List api_Lease) × Int) :=
  some (l2, 0)

def berth_Queue_b2 (y1 : (List berth_turn)) : (Int × (List api_Lease) × (List (Int × Int))) → Option ((Int × (List api_Lease) × (List (Int × Int))) ⊕ ((List api_Lease) × Int))
  | (x2, l3, m) =>
    if decide (x2 < (y1.length : Int)) then
      Option.bind (ix y1 x2) fun x =>
      if decide (1048576 < (w64 ((w64 ((max x.Lease.Span.Lo ((lookM x.Lease.Heap m).getD 0)) + x.Lease.Span.Hi)) - x.Lease.Span.Lo))) then
        some (.inr ([], 2))
      else
        Option.bind (ix l3 x.place) fun x1 =>
        some (.inl (w64 (x2 + 1), (put l3 x.place (⟨x1.ID, x1.Heap, (⟨max x.Lease.Span.Lo ((lookM x.Lease.Heap m).getD 0), w64 ((w64 ((max x.Lease.Span.Lo ((lookM x.Lease.Heap m).getD 0)) + x.Lease.Span.Hi)) - x.Lease.Span.Lo)⟩ : api_Span)⟩ : api_Lease)), (putM posI m x.Lease.Heap (w64 ((w64 ((w64 ((max x.Lease.Span.Lo ((lookM x.Lease.Heap m).getD 0)) + x.Lease.Span.Hi)) - x.Lease.Span.Lo)) + 1)))))
    else
      ((berth_Queue_j1 l3).map Sum.inr)

def berth_Queue (l : (List api_Lease)) : Option ((List api_Lease) × Int) :=
  Option.bind (berth_CheckLeases l) fun y =>
  if !decide (y = 0) then
    some ([], y)
  else
    Option.bind (app [] l) fun l1 =>
    Option.bind (berth_turns l) fun y1 =>
    Lp (berth_Queue_b2 y1) fuel (0, l1, [])

def ref06_SameInts_j1 : Option Bool :=
  some true

def ref06_SameInts_b2 (a : (List Int)) (b : (List Int)) : Int → Option (Int ⊕ Bool)
  | i =>
    if decide (i < (a.length : Int)) then
      Option.bind (ix a i) fun x =>
      Option.bind (ix b i) fun x1 =>
      if !decide (x = x1) then
        some (.inr false)
      else
        some (.inl (w64 (i + 1)))
    else
      ((ref06_SameInts_j1).map Sum.inr)

def ref06_SameInts (a : (List Int)) (b : (List Int)) : Option Bool :=
  if !decide ((a.length : Int) = (b.length : Int)) then
    some false
  else
    Lp (ref06_SameInts_b2 a b) fuel 0

def ref06_SamePairs_j1 : Option Bool :=
  some true

def ref06_SamePairs_b2 (a : (List Arr_2_int)) (b : (List Arr_2_int)) : Int → Option (Int ⊕ Bool)
  | i =>
    if decide (i < (a.length : Int)) then
      Option.bind (ix a i) fun x =>
      Option.bind (ix b i) fun x1 =>
      if !decide (x = x1) then
        some (.inr false)
      else
        some (.inl (w64 (i + 1)))
    else
      ((ref06_SamePairs_j1).map Sum.inr)

def ref06_SamePairs (a : (List Arr_2_int)) (b : (List Arr_2_int)) : Option Bool :=
  if !decide ((a.length : Int) = (b.length : Int)) then
    some false
  else
    Lp (ref06_SamePairs_b2 a b) fuel 0

def law06_lent : Option Bool :=
  Option.bind (berth_Lighters ([(⟨1, 1, (⟨0, 9⟩ : api_Span)⟩ : api_Lease), (⟨2, 1, (⟨5, 14⟩ : api_Span)⟩ : api_Lease), (⟨3, 2, (⟨10, 19⟩ : api_Span)⟩ : api_Lease)])) fun y =>
  Option.bind (berth_Busiest ([(⟨1, 1, (⟨0, 9⟩ : api_Span)⟩ : api_Lease), (⟨2, 1, (⟨5, 14⟩ : api_Span)⟩ : api_Lease), (⟨3, 2, (⟨10, 19⟩ : api_Span)⟩ : api_Lease)])) fun y1 =>
  Option.bind (berth_Clashes ([(⟨1, 1, (⟨0, 9⟩ : api_Span)⟩ : api_Lease), (⟨2, 1, (⟨5, 14⟩ : api_Span)⟩ : api_Lease), (⟨3, 2, (⟨10, 19⟩ : api_Span)⟩ : api_Lease)])) fun y2 =>
  Option.bind (sub ([(⟨1, 1, (⟨0, 9⟩ : api_Span)⟩ : api_Lease), (⟨2, 1, (⟨5, 14⟩ : api_Span)⟩ : api_Lease), (⟨3, 2, (⟨10, 19⟩ : api_Span)⟩ : api_Lease)]) 0 2) fun l =>
  Option.bind (berth_Queue l) fun y3 =>
  gb ((((((decide (y.2.2 = 0)) && (decide (y1.2.2 = 0))) && (decide (y2.2 = 0))) && (decide (y3.2 = 0))))) (ref06_SameInts y.1 ([0, 1, 0])) fun y4 =>
  gb ((((((((((decide (y.2.2 = 0)) && (decide (y1.2.2 = 0))) && (decide (y2.2 = 0))) && (decide (y3.2 = 0))) && y4) && (decide (y.2.1 = 2))) && (decide (y1.1 = 5))) && (decide (y1.2.1 = 2))))) (ref06_SamePairs y2.1 ([(⟨1, 2⟩ : Arr_2_int)])) fun y5 =>
  gb ((((((((((((decide (y.2.2 = 0)) && (decide (y1.2.2 = 0))) && (decide (y2.2 = 0))) && (decide (y3.2 = 0))) && y4) && (decide (y.2.1 = 2))) && (decide (y1.1 = 5))) && (decide (y1.2.1 = 2))) && y5) && (decide ((y3.1.length : Int) = 2))))) (ix y3.1 1) fun x =>
  some (((((((((((decide (y.2.2 = 0)) && (decide (y1.2.2 = 0))) && (decide (y2.2 = 0))) && (decide (y3.2 = 0))) && y4) && (decide (y.2.1 = 2))) && (decide (y1.1 = 5))) && (decide (y1.2.1 = 2))) && y5) && (decide ((y3.1.length : Int) = 2))) && (decide (x.Span = (⟨10, 19⟩ : api_Span))))

def berth_CheckLighters_j1 : Option Int :=
  some 0

def berth_CheckLighters_j3 (x5 : Int) : Option (Int ⊕ Int) :=
  some (.inl (w64 (x5 + 1)))

def berth_CheckLighters_b4 (l : (List api_Lease)) (x5 : Int) (x : Int) (l1 : (List Int)) : Int → Option (Int ⊕ (Int ⊕ Int))
  | x4 =>
    if decide (x4 < (l1.length : Int)) then
      Option.bind (ix l1 x4) fun x1 =>
      gb ((decide (x = x1))) (ix l x5) fun x2 =>
      gb ((decide (x = x1))) (ix l x4) fun x3 =>
      if ((decide (x = x1)) && (berth_atOnce x2 x3)) then
        some (.inr (.inr 8))
      else
        some (.inl (w64 (x4 + 1)))
    else
      ((berth_CheckLighters_j3 x5).map Sum.inr)

def berth_CheckLighters_b2 (l : (List api_Lease)) (lighters : (List Int)) : Int → Option (Int ⊕ Int)
  | x5 =>
    if decide (x5 < (lighters.length : Int)) then
      Option.bind (ix lighters x5) fun x =>
      if decide (x < 0) then
        some (.inr 8)
      else
        Option.bind (sub lighters 0 x5) fun l1 =>
        Lp (berth_CheckLighters_b4 l x5 x l1) fuel 0
    else
      ((berth_CheckLighters_j1).map Sum.inr)

def berth_CheckLighters (l : (List api_Lease)) (lighters : (List Int)) : Option Int :=
  Option.bind (berth_CheckLeases l) fun y =>
  if !decide (y = 0) then
    some y
  else
    if !decide ((lighters.length : Int) = (l.length : Int)) then
      some 8
    else
      Lp (berth_CheckLighters_b2 l lighters) fuel 0

def law06_different_j1 (m : (List (Int × Bool))) : Option Int :=
  some (m.length : Int)

def law06_different_b2 (l : (List Int)) : (Int × (List (Int × Bool))) → Option ((Int × (List (Int × Bool))) ⊕ Int)
  | (x1, m1) =>
    if decide (x1 < (l.length : Int)) then
      Option.bind (ix l x1) fun x =>
      some (.inl (w64 (x1 + 1), (putM posI m1 x true)))
    else
      ((law06_different_j1 m1).map Sum.inr)

def law06_different (l : (List Int)) : Option Int :=
  Lp (law06_different_b2 l) fuel (0, [])

def ref06_SameLeases_j1 : Option Bool :=
  some true

def ref06_SameLeases_b2 (a : (List api_Lease)) (b : (List api_Lease)) : Int → Option (Int ⊕ Bool)
  | i =>
    if decide (i < (a.length : Int)) then
      Option.bind (ix a i) fun x =>
      Option.bind (ix b i) fun x1 =>
      if !decide (x = x1) then
        some (.inr false)
      else
        some (.inl (w64 (i + 1)))
    else
      ((ref06_SameLeases_j1).map Sum.inr)

def ref06_SameLeases (a : (List api_Lease)) (b : (List api_Lease)) : Option Bool :=
  if !decide ((a.length : Int) = (b.length : Int)) then
    some false
  else
    Lp (ref06_SameLeases_b2 a b) fuel 0

def law06_BerthLent_j2 : Option Bool :=
  Option.bind (law06_lent) fun y12 =>
  some y12

def law06_BerthLent_b3 (l : (List api_Lease)) (y7 : (List api_Lease) × Int) : Int → Option (Int ⊕ Bool)
  | x9 =>
    if decide (x9 < (y7.1.length : Int)) then
      Option.bind (ix y7.1 x9) fun x1 =>
      Option.bind (ix l x9) fun x2 =>
      gb (!(!decide (x1.ID = x2.ID))) (ix y7.1 x9) fun x3 =>
      gb (!(!decide (x1.ID = x2.ID))) (ix y7.1 x9) fun x4 =>
      gb (!(!decide (x1.ID = x2.ID))) (ix l x9) fun x5 =>
      gb (!(!decide (x1.ID = x2.ID))) (ix l x9) fun x6 =>
      gb (!(((!decide (x1.ID = x2.ID)) || (!decide ((w64 (x3.Span.Hi - x4.Span.Lo)) = (w64 (x5.Span.Hi - x6.Span.Lo))))))) (ix y7.1 x9) fun x7 =>
      gb (!(((!decide (x1.ID = x2.ID)) || (!decide ((w64 (x3.Span.Hi - x4.Span.Lo)) = (w64 (x5.Span.Hi - x6.Span.Lo))))))) (ix l x9) fun x8 =>
      if (((!decide (x1.ID = x2.ID)) || (!decide ((w64 (x3.Span.Hi - x4.Span.Lo)) = (w64 (x5.Span.Hi - x6.Span.Lo))))) || (decide (x7.Span.Lo < x8.Span.Lo))) then
        some (.inr false)
      else
        some (.inl (w64 (x9 + 1)))
    else
      ((law06_BerthLent_j2).map Sum.inr)

def law06_BerthLent_j1 (l : (List api_Lease)) (x : (List Int)) (y1 : (List Int) × Int × Int) (y2 : Int × Int × Int) (at_ : Int) : Option Bool :=
  Option.bind (berth_CheckLighters l y1.1) fun y4 =>
  gb (!((((!decide (y4 = 0)) || (!decide (y1.2.1 = y2.2.1))) || (!decide (at_ = y2.2.1))))) (berth_CheckLighters l x) fun y5 =>
  gb (!((((!decide (y4 = 0)) || (!decide (y1.2.1 = y2.2.1))) || (!decide (at_ = y2.2.1)))) && (decide (y5 = 0))) (law06_different x) fun y6 =>
  if ((((!decide (y4 = 0)) || (!decide (y1.2.1 = y2.2.1))) || (!decide (at_ = y2.2.1))) || ((decide (y5 = 0)) && (decide (y6 < y1.2.1)))) then
    some false
  else
    Option.bind (berth_Queue l) fun y7 =>
    if !decide (y7.2 = 0) then
      Option.bind (law06_lent) fun y8 =>
      some (y8 && (decide (y7.2 = 2)))
    else
      Option.bind (berth_Clashes y7.1) fun y9 =>
      Option.bind (berth_Queue y7.1) fun y10 =>
      gb (!((((!decide (y9.2 = 0)) || (decide (0 < (y9.1.length : Int)))) || (!decide (y10.2 = 0))))) (ref06_SameLeases y10.1 y7.1) fun y11 =>
      if (((((!decide (y9.2 = 0)) || (decide (0 < (y9.1.length : Int)))) || (!decide (y10.2 = 0))) || (!y11)) || (!decide ((y7.1.length : Int) = (l.length : Int)))) then
        some false
      else
        Lp (law06_BerthLent_b3 l y7) fuel 0

def law06_BerthLent_j5 (x11 : Int) (at_1 : Int) : Option ((Int × Int) ⊕ Bool) :=
  some (.inl (at_1, w64 (x11 + 1)))

def law06_BerthLent_b4 (l : (List api_Lease)) (x : (List Int)) (y1 : (List Int) × Int × Int) (y2 : Int × Int × Int) : (Int × Int) → Option ((Int × Int) ⊕ Bool)
  | (at_2, x11) =>
    if decide (x11 < (l.length : Int)) then
      Option.bind (ix l x11) fun x10 =>
      if ((decide (x10.Span.Lo ≤ y2.1)) && (decide (y2.1 ≤ x10.Span.Hi))) then
        law06_BerthLent_j5 x11 (w64 (at_2 + 1))
      else
        law06_BerthLent_j5 x11 at_2
    else
      ((law06_BerthLent_j1 l x y1 y2 at_2).map Sum.inr)

def law06_BerthLent (l : (List api_Lease)) (x : (List Int)) : Option Bool :=
  if ((decide (20 < (l.length : Int))) || (decide (30 < (x.length : Int)))) then
    Option.bind (law06_lent) fun y =>
    some y
  else
    Option.bind (berth_Lighters l) fun y1 =>
    Option.bind (berth_Busiest l) fun y2 =>
    if !decide (y1.2.2 = y2.2.2) then
      some false
    else
      if !decide (y1.2.2 = 0) then
        Option.bind (law06_lent) fun y3 =>
        some y3
      else
        Lp (law06_BerthLent_b4 l x y1 y2) fuel (0, 0)

end Go.Mx
