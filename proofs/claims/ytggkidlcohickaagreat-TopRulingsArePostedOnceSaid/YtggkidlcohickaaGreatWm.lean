/- Part of the proof of TopRulingsArePostedOnce: walks: methods of the program, step by step, compute the plain ones. Conditions: none. -/
import Derived.Test.YtggkidlcohickaaGreatM
set_option linter.unusedVariables false
namespace Go.Mx
structure qO where
  round:Int
  promises:List zA
  proposed:Bool
  deriving DecidableEq,Inhabited
structure zT where
  note:QL
  wish:Int
  has:Bool
  chair:Option qO
  votes:List zA
  deriving DecidableEq,Inhabited
def yN : zT:=⟨⟨0,0,0,0⟩,0,false,none,[]⟩
structure zN where
  court:zD
  last:Int
  letters:List zA
  sent:List zA
  desks:List ((Int×Int)×zT)
  cases:List Int
  deriving DecidableEq,Inhabited
def zBs (w:zN):Bool:=decide ((w.letters.length:Int)<200)
def yz (w:zN):List Int:=(List.range w.court.Arbiters.toNat).map fun (n:Nat)=>(n:Int)
def zDR (w:zN) (id:Int):Option Bool :=
  Option.bind (slices_Contains_int w.cases id) fun y =>
  some (!y&&decide (40≤(w.cases.length:Int)))
def zBI (w:zN) (id:Int):Option zN :=
  Option.bind (slices_Contains_int w.cases id) fun y =>
  if y then some w else
  Option.bind (app w.cases [id]) fun l=>Option.bind (srtO l) fun s=>some { w with cases:=s }
def zDv (w:zN) (l:zA) (to:Int):Option zN :=
  Option.bind (app w.sent [{ l with To:=to,ID:=w64 (w.last+1) }]) fun s =>
  if zBs w then
    Option.bind (app w.letters [{ l with To:=to,ID:=w64 (w.last+1) }]) fun t =>
    some { w with last:=w64 (w.last+1),sent:=s,letters:=t }
  else some { w with last:=w64 (w.last+1),sent:=s }
def yx (l:zA):List Int→zN→Option zN
  | [],w=>some w
  | t :: r,w=>Option.bind (zDv w l t) fun w1=>yx l r w1
def Z7 (w:zN) (a id:Int):Option zT:=zO (a,id) w.desks
def w_at (w:zN) (a id:Int):zN:=if (Z7 w a id).isSome then w else { w with desks:=w.desks++[((a,id),yN)] }
def ZP (w:zN) (a id:Int):zT:=(Z7 w a id).getD yN
def putD (k:Int×Int) (d:zT):List ((Int×Int)×zT)→List ((Int×Int)×zT)
  | []=>[]
  | p :: r=>if p.1=k then (k,d) :: r else p :: putD k d r
def j6 (w:zN) (a id:Int) (d:zT):zN:={ w with desks:=putD (a,id) d w.desks }
def Yl (w:zN) (a id:Int):Option zN :=
  let d:=ZP w a id
  match d.chair with
  | none=>some w
  | some c =>
    if c.proposed then some w else
    Option.bind (Zw w.court) fun m =>
    if (c.promises.length:Int)<m then some w else
    Option.bind (YH c.promises) fun p =>
    if !p.2 && !d.has then some w else
    yx ⟨0,id,3,c.round,a,0,0,if p.2 then p.1 else d.wish⟩ (yz w) (j6 w a id { d with chair:=some { c with proposed:=true } })
def zEy (w:zN) (id:Int):Option Int:=ZI w.letters id
def zDP (w:zN) (id:Int):Option (zA×Bool×zN) :=
  Option.bind (zEy w id) fun i =>
  if i<0 then some (⟨0,0,0,0,0,0,0,0⟩,false,w) else
  Option.bind (ix w.letters i) fun l =>
  some (l,true,{ w with letters:=w.letters.eraseIdx i.toNat })
def qF (w:zN) (l:zA):Option zN :=
  let w:=w_at w l.To l.Case
  let d:=ZP w l.To l.Case
  if l.Round<d.note.Promised∨l.Round≤d.note.Voted then some w else
  yx ⟨0,l.Case,2,l.Round,l.To,0,d.note.Voted,d.note.Finding⟩ [l.From] (j6 w l.To l.Case { d with note:={ d.note with Promised:=l.Round } })
def qE (w:zN) (l:zA):Option zN :=
  let w:=w_at w l.To l.Case
  let d:=ZP w l.To l.Case
  match d.chair with
  | none=>some w
  | some c =>
    if c.round≠l.Round then some w else
    Option.bind (zZ c.promises l) fun y =>
    if y then some w else
    Option.bind (app c.promises [l]) fun p =>
    Yl (j6 w l.To l.Case { d with chair:=some { c with promises:=p } }) l.To l.Case
def QP (w:zN) (l:zA):Option zN :=
  let w:=w_at w l.To l.Case
  let d:=ZP w l.To l.Case
  if l.Round<d.note.Promised then some w else
  yx ⟨0,l.Case,4,l.Round,l.To,0,0,l.Finding⟩ (yz w) (j6 w l.To l.Case { d with note:={ d.note with Promised:=l.Round,Voted:=l.Round,Finding:=l.Finding } })
def zEv (w:zN) (l:zA):Option zN :=
  let w:=w_at w l.To l.Case
  let d:=ZP w l.To l.Case
  Option.bind (zg d.votes l) fun y =>
  if y then some w else
  Option.bind (app d.votes [l]) fun v=>some (j6 w l.To l.Case { d with votes:=v })
def zBr (w:zN) (a:ZO):Option (zN×Int) :=
  if !zW w.court a.A || !Zj a.Case || !jL a.Finding then some (w,1) else
  Option.bind (zDR w a.Case) fun y =>
  if y then some (w,2) else
  let w:=w_at w a.A a.Case
  let d:=ZP w a.A a.Case
  if d.has then some (w,6) else
  Option.bind (zBI w a.Case) fun w =>
  Option.bind (Yl (j6 w a.A a.Case { d with wish:=a.Finding,has:=true }) a.A a.Case) fun w=>some (w,0)
def zEx (w:zN) (a:ZO):Option (zN×Int) :=
  if !zW w.court a.A || !Zj a.Case then some (w,1) else
  Option.bind (zDR w a.Case) fun y =>
  if y then some (w,2) else
  let w:=w_at w a.A a.Case
  let d:=ZP w a.A a.Case
  Option.bind (QK w.court a.A (max d.note.Promised d.note.Opened)) fun r =>
  if 1048576<r then some (w,2) else
  Option.bind (zBI w a.Case) fun w =>
  Option.bind (yx ⟨0,a.Case,1,r,a.A,0,0,0⟩ (yz w) (j6 w a.A a.Case { d with note:={ d.note with Opened:=r },chair:=some ⟨r,[],false⟩ })) fun w=>some (w,0)
def zDQ (w:zN) (a:ZO):Option (zN×Int) :=
  Option.bind (zDP w a.N) fun t=>some (t.2.2,if t.2.1 then 0 else 5)
def qN (w:zN) (a:ZO):Option (zN×Int) :=
  Option.bind (zEy w a.N) fun i =>
  if i<0 then some (w,5) else
  if !zBs w then some (w,2) else
  Option.bind (ix w.letters i) fun l =>
  Option.bind (yx l [l.To] w) fun w=>some (w,0)
def zEw (w:zN) (l:zA):Option zN :=
  if l.Kind=1 then qF w l else
  if l.Kind=2 then qE w l else
  if l.Kind=3 then QP w l else
  if l.Kind=4 then zEv w l else none
def QQ (w:zN) (a:ZO):Option (zN×Int) :=
  Option.bind (zDP w a.N) fun t =>
  if t.2.1 then Option.bind (zEw t.2.2 t.1) fun w=>some (w,0) else some (t.2.2,5)
def J5 (w:zN) (a:ZO):zN×Int :=
  if !zW w.court a.A then (w,1) else ({ w with desks:=w.desks.map fun p=>if p.1.1=a.A then (p.1,{ p.2 with chair:=none }) else p },0)
def doR (a:ZO):ZO :=
  if a.Kind=1 then { a with A:=0,Case:=0,Finding:=0 } else
  if a.Kind=2 then { a with A:=0,Case:=0 } else
  if a.Kind=3∨a.Kind=4∨a.Kind=5 then { a with N:=0 } else
  if a.Kind=6 then { a with A:=0 } else a
def w_do (w:zN) (a:ZO):Option (zN×Int) :=
  if doR a≠⟨a.Kind,0,0,0,0⟩ then some (w,1) else
  if a.Kind=1 then zBr w a else
  if a.Kind=2 then zEx w a else
  if a.Kind=3 then QQ w a else
  if a.Kind=4 then zDQ w a else
  if a.Kind=5 then qN w a else
  if a.Kind=6 then some (J5 w a) else some (w,1)
def zAl (c:zD):zN:=⟨c,0,[],[],[],[]⟩
def Zz (a:Int) (l:List ((Int×Int)×zT)):List zA:=l.flatMap fun p=>if p.1.1=a then p.2.votes else []
def qD (w:zN) (a:Int) (k:List zB):Prop:=(Zz a w.desks).length≤1000000∧∀ v,v.Perm (Zz a w.desks)→ZW w.court v=some k
abbrev dl (n:Int):ZO:=⟨3,0,0,0,n⟩
def zMO (c:zD) (P:zN→Prop):List ZO→zN→Prop
  | [],w=>P w
  | a :: r,w=>w.court=c∧w.letters.length≤1000000∧∃ f,w_do w a=some f∧zMO c P r f.1
def zCM : List (List zF)→Option Int
  | []=>some 0
  | x :: r=>Option.bind (JM x) fun e=>if e=0 then zCM r else some e
def zAQ (a b:List zF):Option (List zF×Int):=Option.bind (zCM [a,b,a++b]) fun e=>if e=0 then Option.bind (JU (a++b)) fun s=>some (s,0) else some ([],e)
structure jr where
  Item:Int
  Day:Int
  Account:Int
  Amount:Int
  deriving DecidableEq,Inhabited
structure zHC where
  Known:Int
  Amount:Int
  deriving DecidableEq,Inhabited
structure Zi where
  item:zF
  amount:Int
  hist:List zHC
  deriving DecidableEq,Inhabited
structure jX where
  closed:Int
  posts:List jr
  taken:List zF
  bills:List (Int×Zi)
  deriving DecidableEq,Inhabited
def zCx (id on:Int):List yL→List jr→Option (List jr)
  | [],p=>some p
  | y :: r,p=>Option.bind (app p [⟨id,on,y.Account,y.Amount⟩]) fun q=>zCx id on r q
def zAh (b:jX) (x:zF) (on:Int) (l:List yL):Option jX :=
  if 728<max on (w64 (b.closed+1)) then none else Option.bind (zCx x.ID (max on (w64 (b.closed+1))) l b.posts) fun p=>some { b with posts:=p }
def zGj (b:jX) (x:zF):Option jX :=
  if (zO x.Bill b.bills).isSome then none else
  Option.bind (zAh b x x.Day (ZX x.Account 2 x.Amount)) fun b=>some { b with bills:=putM posI b.bills x.Bill ⟨x,x.Amount,[⟨x.Known,x.Amount⟩]⟩ }
def zGi (b:jX) (x:zF):Option jX :=
  match zO x.Bill b.bills with
  | none=>none
  | some s=>Option.bind (zAh b x s.item.Day (ZX s.item.Account 2 (w64 (x.Amount - s.amount)))) fun b =>
    Option.bind (app s.hist [⟨x.Known,x.Amount⟩]) fun h=>some { b with bills:=putM posI b.bills x.Bill { s with amount:=x.Amount,hist:=h } }
def zCL (b:jX) (x:zF):Option jX:=if x.Kind=1 then zGj b x else if x.Kind=2 then zGi b x else none
def zBm (known:Int):List zF→jX→Option jX
  | [],b=>some b
  | x :: r,b=>if known<x.Known then some b else Option.bind (zCL b x) fun b=>Option.bind (app b.taken [x]) fun t=>zBm known r { b with taken:=t }
def RdIs (l:List zF) (known:Int) (b:jX):Prop := ∃ s,JU l=some s∧s.length≤1000000∧zBm known s ⟨-1,[],[],[]⟩=some b
def mvB (now:jX) (p:Int×Zi):Bool:=match zO p.1 now.bills with | some s => !decide (s.amount=p.2.amount) | none=>false
def yn (b now:jX):List Int:=(b.bills.filter (mvB now)).map (·.1)
def l_bl (amount:Int) (p:Int×Nat):zF:=⟨((p.2+1:Nat):Int),1,1,1,p.1,20,amount⟩
def l_md (r:zB) (p:Int×Nat):Option zF:=if r.Case=p.1 then some ⟨((100+p.2:Nat):Int),2,2,0,p.1,0,r.Finding⟩ else none
def zFg (cs:List Int) (r:zB):List zF:=cs.zipIdx.filterMap (l_md r)
def Yq (cs:List Int) (k:List zB) (amount:Int):List zF:=cs.zipIdx.map (l_bl amount)++k.flatMap (zFg cs)
def JY (id:Int) (L:List zB) (p:Int×Bool):Int×Bool:=L.foldl (fun p r=>if r.Case=id then (r.Finding,true) else p) p
def allK (kf:Nat→List zB) (n:Nat):List zB:=(List.range n).flatMap kf
structure zPB (l:List zF) (id:Int) (b1 b5 b7:jX) (s s7:Zi) (m:List Int):Prop where
  ask5:jT l [5]=some 0
  ask15:jT l [1,5]=some 0
  chk:JM l=some 0
  bill:jP id=true
  r1:RdIs l 1 b1
  r5:RdIs l 5 b5
  r7:RdIs l 728 b7
  look5:zO id b5.bills=some s
  look7:zO id b7.bills=some s7
  all:∀ p∈b1.bills,∃ s,zO p.1 b5.bills=some s
  len:b1.bills.length≤1000000
  mov:∀ v,v.Perm (yn b1 b5)→srtO v=some m
  few:m.length≤1000000
structure SetGood (w:zN) (c:zD) (l:List zF) (id amount:Int) (kf:Nat→List zB) (want:Int×Bool) (s s7:Zi) (m:List Int):Prop where
  known:∀ a:Nat,(a:Int)<c.Arbiters→qD w a (kf a)∧(kf a).length≤1000000
  arb:c.Arbiters≤1000000
  sent:w.sent.length≤1000000
  is:JY id (allK kf c.Arbiters.toNat) (amount,false)=want
  amt:s.amount=want.1
  moved:(m.any fun x=>decide (x=id)) = !decide (want.1=amount)
  one:want.2=false→s7.hist.length=1
  two:want.2=true→s7.hist.length=2∧∃ prf r,Yc c w.sent id=some (prf,0)∧JG c prf=some (r,0)∧r.Case=id∧r.Finding=want.1
def zFr (w:zN) (c:zD) (l:List zF) (id amount:Int) (kf:Nat→List zB):Prop := ∃ b1 b5 b7 s s7 m want,zPB l id b1 b5 b7 s s7 m∧SetGood w c l id amount kf want s s7 m
structure zFZ (s1:zN) (f:Nat→zN) (b:jX) (s:Zi):Prop where
  a1:w_do (zAl ⟨3⟩) ⟨1,0,4,7,0⟩=some (s1,0)
  a2:w_do s1 ⟨2,0,4,0,0⟩=some (f 0,0)
  step:∀ j:Nat,j<18→∃ e,w_do (f j) (dl ((j+1:Nat):Int))=some (f (j+1),e)
  c1:s1.court=⟨3⟩
  cf:∀ j,j≤18→(f j).court=⟨3⟩
  l1:s1.letters.length≤1000000
  lf:∀ j,j≤18→(f j).letters.length≤1000000
  cs:(f 18).cases=[4]
  k0:qD (f 18) 0 [⟨4,1,7⟩]
  ask:jT (Yq [4] [⟨4,1,7⟩] 100) [3]=some 0
  rd:RdIs (Yq [4] [⟨4,1,7⟩] 100) 3 b
  look:zO 4 b.bills=some s
  amt:s.amount=7
structure Merged (c:zD) (w:zN) (am ord:Int) (kf:Nat→List zB) (fo ft:Nat→List zF):Prop where
  fo0:fo 0=[]
  ft0:ft 0=[]
  known:∀ a:Nat,(a:Int)<c.Arbiters→qD w a (kf a)∧(kf a).length≤1000000∧(Yq w.cases (kf a) am).length≤500000
  step:∀ a:Nat,(a:Int)<c.Arbiters→zAQ (fo a) (Yq w.cases (kf a) am)=some (fo (a+1),0)∧∃ a2:Nat,(a2:Int)<c.Arbiters∧rem (w64 ((a:Int)+ord)) c.Arbiters=some (a2:Int)∧zAQ (Yq w.cases (kf a2) am) (ft a)=some (ft (a+1),0)
  len:∀ a:Nat,(fo a).length≤500000∧(ft a).length≤500000
def sumP (l:List jr) (s:Int):Int:=l.foldl (fun s x=>w64 (s+x.Amount)) s
structure zMP (c:zD) (w:zN) (am ord:Int) (kf:Nat→List zB) (fo ft:Nat→List zF) (b:jX):Prop where
  mer:Merged c w am ord kf fo ft
  same:zAm (fo c.Arbiters.toNat) (ft c.Arbiters.toNat)=some true
  set:∀ id∈w.cases,zFr w c (fo c.Arbiters.toNat) id am kf
  ask:jT (fo c.Arbiters.toNat) [5]=some 0
  rd:RdIs (fo c.Arbiters.toNat) 5 b
  few:b.posts.length≤1000000
  zero:sumP b.posts 0=0
def zKX (c:zD) (am ord:Int) (w:zN):Prop:=w.cases.length≤1000000∧w.sent.length≤1000000∧(w.cases.length≤8→w.sent.length≤2000→∃ kf fo ft b,zMP c w am ord kf fo ft b)
def zIF (c:zD) (acts:List ZO) (amount order:Int):Prop:=(∃ s1 f b s,zFZ s1 f b s)∧(acts.length≤60→zo c=0→c.Arbiters≤1000000∧zMO c (zKX c (w64 amount) (w64 order)) acts (zAl c))
end Go.Mx
