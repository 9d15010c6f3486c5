/- Part of the proof of ArbiterWorldsAreLawful: walks: methods of the program, step by step, compute the plain ones. Conditions: none. -/
import Derived.Test.YtfoafeaplgmhmaaGreatM
set_option linter.unusedVariables false
namespace Go.Mx
structure qp where
  round:Int
  promises:List zA
  proposed:Bool
  deriving DecidableEq,Inhabited
structure zV where
  note:Ye
  wish:Int
  has:Bool
  chair:Option qp
  votes:List zA
  deriving DecidableEq,Inhabited
def YM : zV:=⟨⟨0,0,0,0⟩,0,false,none,[]⟩
structure zR where
  court:zG
  last:Int
  letters:List zA
  sent:List zA
  desks:List ((Int×Int)×zV)
  cases:List Int
  deriving DecidableEq,Inhabited
def zCL (w:zR):Bool:=decide ((w.letters.length:Int)<200)
def YT (w:zR):List Int:=(List.range w.court.Arbiters.toNat).map fun (n:Nat)=>(n:Int)
def zDn (w:zR) (id:Int):Option Bool :=
  Option.bind (slices_Contains_int w.cases id) fun y =>
  some (!y&&decide (40≤(w.cases.length:Int)))
def zDm (w:zR) (id:Int):Option zR :=
  Option.bind (slices_Contains_int w.cases id) fun y =>
  if y then some w else
  Option.bind (app w.cases [id]) fun l=>Option.bind (srtO l) fun s=>some { w with cases:=s }
def zF0 (w:zR) (l:zA) (to:Int):Option zR :=
  Option.bind (app w.sent [{ l with To:=to,ID:=w64 (w.last+1) }]) fun s =>
  if zCL w then
    Option.bind (app w.letters [{ l with To:=to,ID:=w64 (w.last+1) }]) fun t =>
    some { w with last:=w64 (w.last+1),sent:=s,letters:=t }
  else some { w with last:=w64 (w.last+1),sent:=s }
def Y9 (l:zA):List Int→zR→Option zR
  | [],w=>some w
  | t :: r,w=>Option.bind (zF0 w l t) fun w1=>Y9 l r w1
def ji (w:zR) (a id:Int):Option zV:=zY (a,id) w.desks
def w_at (w:zR) (a id:Int):zR:=if (ji w a id).isSome then w else { w with desks:=w.desks++[((a,id),YM)] }
def ZM (w:zR) (a id:Int):zV:=(ji w a id).getD YM
def putD (k:Int×Int) (d:zV):List ((Int×Int)×zV)→List ((Int×Int)×zV)
  | []=>[]
  | p :: r=>if p.1=k then (k,d) :: r else p :: putD k d r
def Jl (w:zR) (a id:Int) (d:zV):zR:={ w with desks:=putD (a,id) d w.desks }
def qf (w:zR) (a id:Int):Option zR :=
  let d:=ZM w a id
  match d.chair with
  | none=>some w
  | some c =>
    if c.proposed then some w else
    Option.bind (jP w.court) fun m =>
    if (c.promises.length:Int)<m then some w else
    Option.bind (Yb c.promises) fun p =>
    if !p.2 && !d.has then some w else
    Y9 ⟨0,id,3,c.round,a,0,0,if p.2 then p.1 else d.wish⟩ (YT w) (Jl w a id { d with chair:=some { c with proposed:=true } })
def zFE (w:zR) (id:Int):Option Int:=ZL w.letters id
def zGC (w:zR) (id:Int):Option (zA×Bool×zR) :=
  Option.bind (zFE w id) fun i =>
  if i<0 then some (⟨0,0,0,0,0,0,0,0⟩,false,w) else
  Option.bind (ix w.letters i) fun l =>
  some (l,true,{ w with letters:=w.letters.eraseIdx i.toNat })
def zBD (w:zR) (l:zA):Option zR :=
  let w:=w_at w l.To l.Case
  let d:=ZM w l.To l.Case
  if l.Round<d.note.Promised∨l.Round≤d.note.Voted then some w else
  Y9 ⟨0,l.Case,2,l.Round,l.To,0,d.note.Voted,d.note.Finding⟩ [l.From] (Jl w l.To l.Case { d with note:={ d.note with Promised:=l.Round } })
def zBC (w:zR) (l:zA):Option zR :=
  let w:=w_at w l.To l.Case
  let d:=ZM w l.To l.Case
  match d.chair with
  | none=>some w
  | some c =>
    if c.round≠l.Round then some w else
    Option.bind (ze c.promises l) fun y =>
    if y then some w else
    Option.bind (app c.promises [l]) fun p =>
    qf (Jl w l.To l.Case { d with chair:=some { c with promises:=p } }) l.To l.Case
def qo (w:zR) (l:zA):Option zR :=
  let w:=w_at w l.To l.Case
  let d:=ZM w l.To l.Case
  if l.Round<d.note.Promised then some w else
  Y9 ⟨0,l.Case,4,l.Round,l.To,0,0,l.Finding⟩ (YT w) (Jl w l.To l.Case { d with note:={ d.note with Promised:=l.Round,Voted:=l.Round,Finding:=l.Finding } })
def zGB (w:zR) (l:zA):Option zR :=
  let w:=w_at w l.To l.Case
  let d:=ZM w l.To l.Case
  Option.bind (zk d.votes l) fun y =>
  if y then some w else
  Option.bind (app d.votes [l]) fun v=>some (Jl w l.To l.Case { d with votes:=v })
def zDl (w:zR) (a:Zn):Option (zR×Int) :=
  if !zN w.court a.A || !zZ a.Case || !Zd a.Finding then some (w,1) else
  Option.bind (zDn w a.Case) fun y =>
  if y then some (w,2) else
  let w:=w_at w a.A a.Case
  let d:=ZM w a.A a.Case
  if d.has then some (w,6) else
  Option.bind (zDm w a.Case) fun w =>
  Option.bind (qf (Jl w a.A a.Case { d with wish:=a.Finding,has:=true }) a.A a.Case) fun w=>some (w,0)
def zGD (w:zR) (a:Zn):Option (zR×Int) :=
  if !zN w.court a.A || !zZ a.Case then some (w,1) else
  Option.bind (zDn w a.Case) fun y =>
  if y then some (w,2) else
  let w:=w_at w a.A a.Case
  let d:=ZM w a.A a.Case
  Option.bind (Qi w.court a.A (max d.note.Promised d.note.Opened)) fun r =>
  if 1048576<r then some (w,2) else
  Option.bind (zDm w a.Case) fun w =>
  Option.bind (Y9 ⟨0,a.Case,1,r,a.A,0,0,0⟩ (YT w) (Jl w a.A a.Case { d with note:={ d.note with Opened:=r },chair:=some ⟨r,[],false⟩ })) fun w=>some (w,0)
def zFD (w:zR) (a:Zn):Option (zR×Int) :=
  Option.bind (zGC w a.N) fun t=>some (t.2.2,if t.2.1 then 0 else 5)
def zBF (w:zR) (a:Zn):Option (zR×Int) :=
  Option.bind (zFE w a.N) fun i =>
  if i<0 then some (w,5) else
  if !zCL w then some (w,2) else
  Option.bind (ix w.letters i) fun l =>
  Option.bind (Y9 l [l.To] w) fun w=>some (w,0)
def zIW (w:zR) (l:zA):Option zR :=
  if l.Kind=1 then zBD w l else
  if l.Kind=2 then zBC w l else
  if l.Kind=3 then qo w l else
  if l.Kind=4 then zGB w l else none
def qg (w:zR) (a:Zn):Option (zR×Int) :=
  Option.bind (zGC w a.N) fun t =>
  if t.2.1 then Option.bind (zIW t.2.2 t.1) fun w=>some (w,0) else some (t.2.2,5)
def YB (w:zR) (a:Zn):zR×Int :=
  if !zN w.court a.A then (w,1) else ({ w with desks:=w.desks.map fun p=>if p.1.1=a.A then (p.1,{ p.2 with chair:=none }) else p },0)
def doR (a:Zn):Zn :=
  if a.Kind=1 then { a with A:=0,Case:=0,Finding:=0 } else
  if a.Kind=2 then { a with A:=0,Case:=0 } else
  if a.Kind=3∨a.Kind=4∨a.Kind=5 then { a with N:=0 } else
  if a.Kind=6 then { a with A:=0 } else a
def w_do (w:zR) (a:Zn):Option (zR×Int) :=
  if doR a≠⟨a.Kind,0,0,0,0⟩ then some (w,1) else
  if a.Kind=1 then zDl w a else
  if a.Kind=2 then zGD w a else
  if a.Kind=3 then qg w a else
  if a.Kind=4 then zFD w a else
  if a.Kind=5 then zBF w a else
  if a.Kind=6 then some (YB w a) else some (w,1)
def zBE (c:zG):zR:=⟨c,0,[],[],[],[]⟩
def jS (a:Int) (l:List ((Int×Int)×zV)):List zA:=l.flatMap fun p=>if p.1.1=a then p.2.votes else []
def zB9 (w:zR) (a:Int) (k:List zF):Prop:=(jS a w.desks).length≤1000000∧∀ v,v.Perm (jS a w.desks)→jY w.court v=some k
abbrev dl (n:Int):Zn:=⟨3,0,0,0,n⟩
abbrev sanN : List Int:=[1,2,3,4,5,7,8,10,13]
structure zJL (s1:zR) (f:Nat→zR):Prop where
  a1:w_do (zBE ⟨3⟩) ⟨1,0,4,7,0⟩=some (s1,0)
  a2:w_do s1 ⟨2,0,4,0,0⟩=some (f 0,0)
  first:(f 0).letters.length=3
  step:∀ j (h:j<9),w_do (f j) (dl (sanN[j]'h))=some (f (j+1),0)
  c1:s1.court=⟨3⟩
  cf:∀ j,j≤9→(f j).court=⟨3⟩
  l1:s1.letters.length≤1000000
  lf:∀ j,j≤9→(f j).letters.length≤1000000
  sent:(f 9).sent.length=15
  k0:zB9 (f 9) 0 [⟨4,1,7⟩]
  k1:zB9 (f 9) 1 []
  book:(ZM (f 9) 1 4).note=⟨1,1,7,0⟩
def zMF (c:zG) (P:zR→Prop):List Zn→zR→Prop
  | [],w=>P w
  | a :: r,w=>w.court=c∧w.letters.length≤1000000∧∃ f,w_do w a=some f∧zMF c P r f.1
structure zJO (c:zG) (w:zR):Prop where
  law:∃ n,Yd c w.sent=some (n,true,0)
  all:∃ o,YH c w.sent=some (o,0)∧o.length≤1000000∧(∀ x∈o,∀ y∈o,x.Case=y.Case→x.Finding=y.Finding)∧∀ a:Nat,(a:Int)<c.Arbiters→∃ k,zB9 w a k∧k.length≤1000000∧∀ r∈k,r∈o
  few:w.cases.length≤1000000
  ids:∀ a:Nat,(a:Int)<c.Arbiters→∀ id∈w.cases,Y4 c w.sent a id=some ((ZM w a id).note.Voted,(ZM w a id).note.Finding,0)∧¬ (ZM w a id).note.Promised<(ZM w a id).note.Voted
def zHS (c:zG) (acts:List Zn):Prop:=(∃ s1 f,zJL s1 f)∧(acts.length≤60→za c=0→c.Arbiters≤1000000∧zMF c (fun w=>w.sent.length≤1000000∧(w.sent.length≤2000→zJO c w)) acts (zBE c))
end Go.Mx
