/- Part of the proof of ArbiterInTheEnd: walks: methods of the program, step by step, compute the plain ones. Conditions: none. -/
import Derived.Test.YtfoafeaplgmhmaaM
set_option linter.unusedVariables false
namespace Go.Mx
structure wChair where
  round:Int
  promises:List api_Letter
  proposed:Bool
  deriving DecidableEq,Inhabited
structure wDesk where
  note:api_Note
  wish:Int
  has:Bool
  chair:Option wChair
  votes:List api_Letter
  deriving DecidableEq,Inhabited
def wDesk0 : wDesk:=⟨⟨0,0,0,0⟩,0,false,none,[]⟩
structure wWorld where
  court:api_Court
  last:Int
  letters:List api_Letter
  sent:List api_Letter
  desks:List ((Int×Int)×wDesk)
  cases:List Int
  deriving DecidableEq,Inhabited
def w_room (w:wWorld):Bool:=decide ((w.letters.length:Int)<200)
def w_all (w:wWorld):List Int:=(List.range w.court.Arbiters.toNat).map fun (n:Nat)=>(n:Int)
def w_full (w:wWorld) (id:Int):Option Bool :=
  Option.bind (slices_Contains_int w.cases id) fun y =>
  some (!y&&decide (40≤(w.cases.length:Int)))
def w_name (w:wWorld) (id:Int):Option wWorld :=
  Option.bind (slices_Contains_int w.cases id) fun y =>
  if y then some w else
  Option.bind (app w.cases [id]) fun l=>Option.bind (srtO l) fun s=>some { w with cases:=s }
def w_send1 (w:wWorld) (l:api_Letter) (to:Int):Option wWorld :=
  Option.bind (app w.sent [{ l with To:=to,ID:=w64 (w.last+1) }]) fun s =>
  if w_room w then
    Option.bind (app w.letters [{ l with To:=to,ID:=w64 (w.last+1) }]) fun t =>
    some { w with last:=w64 (w.last+1),sent:=s,letters:=t }
  else some { w with last:=w64 (w.last+1),sent:=s }
def w_send (l:api_Letter):List Int→wWorld→Option wWorld
  | [],w=>some w
  | t :: r,w=>Option.bind (w_send1 w l t) fun w1=>w_send l r w1
def w_desk (w:wWorld) (a id:Int):Option wDesk:=lookM (a,id) w.desks
def w_at (w:wWorld) (a id:Int):wWorld:=if (w_desk w a id).isSome then w else { w with desks:=w.desks++[((a,id),wDesk0)] }
def w_get (w:wWorld) (a id:Int):wDesk:=(w_desk w a id).getD wDesk0
def putD (k:Int×Int) (d:wDesk):List ((Int×Int)×wDesk)→List ((Int×Int)×wDesk)
  | []=>[]
  | p :: r=>if p.1=k then (k,d) :: r else p :: putD k d r
def w_put (w:wWorld) (a id:Int) (d:wDesk):wWorld:={ w with desks:=putD (a,id) d w.desks }
def w_propose (w:wWorld) (a id:Int):Option wWorld :=
  let d:=w_get w a id
  match d.chair with
  | none=>some w
  | some c =>
    if c.proposed then some w else
    Option.bind (arbiter_Majority w.court) fun m =>
    if (c.promises.length:Int)<m then some w else
    Option.bind (arbiter_picked c.promises) fun p =>
    if !p.2 && !d.has then some w else
    w_send ⟨0,id,3,c.round,a,0,0,if p.2 then p.1 else d.wish⟩ (w_all w) (w_put w a id { d with chair:=some { c with proposed:=true } })
def w_find (w:wWorld) (id:Int):Option Int:=slices_IndexFunc_api_Letter__arbiter_World_find_1 w.letters id
def w_take (w:wWorld) (id:Int):Option (api_Letter×Bool×wWorld) :=
  Option.bind (w_find w id) fun i =>
  if i<0 then some (⟨0,0,0,0,0,0,0,0⟩,false,w) else
  Option.bind (ix w.letters i) fun l =>
  some (l,true,{ w with letters:=w.letters.eraseIdx i.toNat })
def w_prepare (w:wWorld) (l:api_Letter):Option wWorld :=
  let w:=w_at w l.To l.Case
  let d:=w_get w l.To l.Case
  if l.Round<d.note.Promised∨l.Round≤d.note.Voted then some w else
  w_send ⟨0,l.Case,2,l.Round,l.To,0,d.note.Voted,d.note.Finding⟩ [l.From] (w_put w l.To l.Case { d with note:={ d.note with Promised:=l.Round } })
def w_promise (w:wWorld) (l:api_Letter):Option wWorld :=
  let w:=w_at w l.To l.Case
  let d:=w_get w l.To l.Case
  match d.chair with
  | none=>some w
  | some c =>
    if c.round≠l.Round then some w else
    Option.bind (slices_ContainsFunc_api_Letter__arbiter_World_promise_1 c.promises l) fun y =>
    if y then some w else
    Option.bind (app c.promises [l]) fun p =>
    w_propose (w_put w l.To l.Case { d with chair:=some { c with promises:=p } }) l.To l.Case
def w_proposed (w:wWorld) (l:api_Letter):Option wWorld :=
  let w:=w_at w l.To l.Case
  let d:=w_get w l.To l.Case
  if l.Round<d.note.Promised then some w else
  w_send ⟨0,l.Case,4,l.Round,l.To,0,0,l.Finding⟩ (w_all w) (w_put w l.To l.Case { d with note:={ d.note with Promised:=l.Round,Voted:=l.Round,Finding:=l.Finding } })
def w_vote (w:wWorld) (l:api_Letter):Option wWorld :=
  let w:=w_at w l.To l.Case
  let d:=w_get w l.To l.Case
  Option.bind (slices_ContainsFunc_api_Letter__arbiter_World_vote_1 d.votes l) fun y =>
  if y then some w else
  Option.bind (app d.votes [l]) fun v=>some (w_put w l.To l.Case { d with votes:=v })
def w_wish (w:wWorld) (a:api_Act):Option (wWorld×Int) :=
  if !arbiter_judge w.court a.A || !arbiter_topic a.Case || !arbiter_finding a.Finding then some (w,1) else
  Option.bind (w_full w a.Case) fun y =>
  if y then some (w,2) else
  let w:=w_at w a.A a.Case
  let d:=w_get w a.A a.Case
  if d.has then some (w,6) else
  Option.bind (w_name w a.Case) fun w =>
  Option.bind (w_propose (w_put w a.A a.Case { d with wish:=a.Finding,has:=true }) a.A a.Case) fun w=>some (w,0)
def w_open (w:wWorld) (a:api_Act):Option (wWorld×Int) :=
  if !arbiter_judge w.court a.A || !arbiter_topic a.Case then some (w,1) else
  Option.bind (w_full w a.Case) fun y =>
  if y then some (w,2) else
  let w:=w_at w a.A a.Case
  let d:=w_get w a.A a.Case
  Option.bind (arbiter_next w.court a.A (max d.note.Promised d.note.Opened)) fun r =>
  if 1048576<r then some (w,2) else
  Option.bind (w_name w a.Case) fun w =>
  Option.bind (w_send ⟨0,a.Case,1,r,a.A,0,0,0⟩ (w_all w) (w_put w a.A a.Case { d with note:={ d.note with Opened:=r },chair:=some ⟨r,[],false⟩ })) fun w=>some (w,0)
def w_lose (w:wWorld) (a:api_Act):Option (wWorld×Int) :=
  Option.bind (w_take w a.N) fun t=>some (t.2.2,if t.2.1 then 0 else 5)
def w_double (w:wWorld) (a:api_Act):Option (wWorld×Int) :=
  Option.bind (w_find w a.N) fun i =>
  if i<0 then some (w,5) else
  if !w_room w then some (w,2) else
  Option.bind (ix w.letters i) fun l =>
  Option.bind (w_send l [l.To] w) fun w=>some (w,0)
def w_read (w:wWorld) (l:api_Letter):Option wWorld :=
  if l.Kind=1 then w_prepare w l else
  if l.Kind=2 then w_promise w l else
  if l.Kind=3 then w_proposed w l else
  if l.Kind=4 then w_vote w l else none
def w_deliver (w:wWorld) (a:api_Act):Option (wWorld×Int) :=
  Option.bind (w_take w a.N) fun t =>
  if t.2.1 then Option.bind (w_read t.2.2 t.1) fun w=>some (w,0) else some (t.2.2,5)
def w_forget (w:wWorld) (a:api_Act):wWorld×Int :=
  if !arbiter_judge w.court a.A then (w,1) else ({ w with desks:=w.desks.map fun p=>if p.1.1=a.A then (p.1,{ p.2 with chair:=none }) else p },0)
def doR (a:api_Act):api_Act :=
  if a.Kind=1 then { a with A:=0,Case:=0,Finding:=0 } else
  if a.Kind=2 then { a with A:=0,Case:=0 } else
  if a.Kind=3∨a.Kind=4∨a.Kind=5 then { a with N:=0 } else
  if a.Kind=6 then { a with A:=0 } else a
def w_do (w:wWorld) (a:api_Act):Option (wWorld×Int) :=
  if doR a≠⟨a.Kind,0,0,0,0⟩ then some (w,1) else
  if a.Kind=1 then w_wish w a else
  if a.Kind=2 then w_open w a else
  if a.Kind=3 then w_deliver w a else
  if a.Kind=4 then w_lose w a else
  if a.Kind=5 then w_double w a else
  if a.Kind=6 then some (w_forget w a) else some (w,1)
def w_new (c:api_Court):wWorld:=⟨c,0,[],[],[],[]⟩
def votesOf (a:Int) (l:List ((Int×Int)×wDesk)):List api_Letter:=l.flatMap fun p=>if p.1.1=a then p.2.votes else []
def KnownIs (w:wWorld) (a:Int) (k:List api_Ruling):Prop:=(votesOf a w.desks).length≤1000000∧∀ v,v.Perm (votesOf a w.desks)→arbiter_rulings w.court v=some k
abbrev dl (n:Int):api_Act:=⟨3,0,0,0,n⟩
abbrev sanN : List Int:=[1,2,3,4,5,7,8,10,13]
structure SanGood (s1:wWorld) (f:Nat→wWorld):Prop where
  a1:w_do (w_new ⟨3⟩) ⟨1,0,4,7,0⟩=some (s1,0)
  a2:w_do s1 ⟨2,0,4,0,0⟩=some (f 0,0)
  first:(f 0).letters.length=3
  step:∀ j (h:j<9),w_do (f j) (dl (sanN[j]'h))=some (f (j+1),0)
  c1:s1.court=⟨3⟩
  cf:∀ j,j≤9→(f j).court=⟨3⟩
  l1:s1.letters.length≤1000000
  lf:∀ j,j≤9→(f j).letters.length≤1000000
  sent:(f 9).sent.length=15
  k0:KnownIs (f 9) 0 [⟨4,1,7⟩]
  k1:KnownIs (f 9) 1 []
  book:(w_get (f 9) 1 4).note=⟨1,1,7,0⟩
def RunTo (c:api_Court) (P:wWorld→Prop):List api_Act→wWorld→Prop
  | [],w=>P w
  | a :: r,w=>w.court=c∧w.letters.length≤1000000∧∃ f,w_do w a=some f∧RunTo c P r f.1
def Del (P:wWorld→Prop):Nat→wWorld→Prop
  | 0,w=>w.letters=[]∧P w
  | n+1,w=>w.court.Arbiters≤1000000∧w.letters.length≤1000000∧∃ l r,w.letters=l :: r∧∃ w',w_do w (dl l.ID)=some (w',0)∧Del P n w'
def Lose (P:wWorld→Prop):List api_Letter→wWorld→Prop
  | [],w=>P w
  | l :: r,w=>w.court.Arbiters≤1000000∧w.letters.length≤1000000∧∃ w',w_do w ⟨4,0,0,0,l.ID⟩=some (w',0)∧Lose P r w'
def mostS (w:wWorld) (id:Int):Nat→Int
  | 0=>0
  | n+1=>max (mostS w id n) (w_get w n id).note.Opened
def InEnd (c:api_Court) (id:Int) (w:wWorld):Prop := ∃ fnd,0≤fnd∧∀ b:Nat,(b:Int)<c.Arbiters→∃ k,KnownIs w b k∧k.length≤1000000∧(∀ r∈k,r.Case=id→r.Finding=fnd)∧∃ r∈k,r.Case=id
structure OpenGood (c:api_Court) (a id:Int) (w w2:wWorld) (f:wWorld×Int):Prop where
  d:w_do w2 ⟨2,a,id,0,0⟩=some f
  n:w2.court.Arbiters≤1000000
  l:w2.letters.length≤1000000
  e:f.2=0∨f.2=2
  go:f.2=0→mostS w id c.Arbiters.toNat<(w_get f.1 a id).note.Opened→∃ n,n≤1000∧Del (InEnd c id) n f.1
def EndLaw (c:api_Court) (a id:Int) (w:wWorld):Prop:=(w_get w a id).has=true→w.letters.length≤1000000∧Lose (fun w2 => ∃ f,OpenGood c a id w w2 f) w.letters w
def EndGood (c:api_Court) (acts:List api_Act) (who id:Int):Prop:=(∃ s1 f,SanGood s1 f)∧(acts.length≤40→arbiter_Check c=0→c.Arbiters≤1000000∧∃ a,rem (w64 who) c.Arbiters=some a∧RunTo c (EndLaw c a id) acts (w_new c))
end Go.Mx
