/- Part of the proof of TopRulingsArePostedOnce: plain laws about the functions of M, no program in sight. Conditions: none. -/
import Derived.Test.YtggkidlcohickaaGreatLawZb
set_option linter.unusedVariables false
set_option linter.unusedSimpArgs false
namespace Go.Mx
theorem gb_some {α β:Type} [Inhabited α] {b:Bool} {v:α} {k:α→Option β} (h:b=false→k default=k v):gb b (some v) k=k v:=by
 cases b with
 | true=>rfl
 | false=>exact h rfl
theorem yT {α:Type} {motive:List α→Prop} (nil:motive []) (snoc:∀ l x,motive l→motive (l++[x])) (l:List α):motive l:=by
 have key:∀ (l:List α),motive l.reverse:=by
  intro l
  induction l with
  | nil=>exact nil
  | cons a r ih=>rw [List.reverse_cons]; exact snoc _ _ ih
 have:=key l.reverse
 rwa [List.reverse_reverse] at this
def zEL (a k:Int) (p:Int×Int) (x:zA):Int×Int:=if x.Kind=4∧x.Case=k∧x.From=a∧p.1<x.Round then (x.Round,x.Finding) else p
def YZ (l:List zA) (a k:Int):Int×Int:=l.foldl (zEL a k) (0,0)
def wrdS (a k:Int) (x:zA):Bool:=decide (x.Case=k)&&decide (x.From=a)&&(decide (x.Kind=2)||decide (x.Kind=4))
def spkF (a k:Int) (n:Int) (x:zA):Int:=if wrdS a k x=true then max n x.Round else n
def spkS (l:List zA) (a k:Int):Int:=l.foldl (spkF a k) 0
def isK (kd k r:Int) (x:zA):Bool:=decide (x.Kind=kd)&&decide (x.Case=k)&&decide (x.Round=r)
def prpS (l:List zA) (k r:Int):Option zA:=l.find? (isK 3 k r)
theorem zGy {α:Type} (p:α→Bool):∀ l:List α,l.find? p=(l.findIdx? p).bind fun i=>l[i]?
 | []=>rfl
 | a :: r=>by
  rw [List.find?_cons,List.findIdx?_cons]
  cases h:p a with
  | true=>rfl
  | false =>
   simp only [Bool.false_eq_true,if_false]
   rw [zGy p r]
   cases r.findIdx? p <;> rfl
def isP (k r a:Int) (x:zA):Bool:=isK 2 k r x&&decide (x.From=a)
def prmS (c:zD) (l:List zA) (k r:Int):List zA:=(List.range c.Arbiters.toNat).filterMap fun a:Nat=>l.find? (isP k r (a:Int))
def cntI (p:zA→Bool) (l:List zA):Int:=(l.countP p:Int)
theorem cntI_le (p:zA→Bool) (l:List zA):0≤cntI p l∧cntI p l≤l.length:=by
 have:=List.countP_le_length (p:=p) (l:=l)
 unfold cntI; omega
def zML (c:zD) (p:List zA) (f:Int):Bool:=decide (majS c≤cntI (fun x=>decide (x.Voted≤0)) p)||p.any fun x=>decide (0<x.Voted)&&decide (x.Finding=f)&&decide (majS c≤cntI (fun y=>decide (y.Voted≤x.Voted)) p)
def lawS (c:zD) (l:List zA) (x:zA):Bool :=
 if l.any (fun y=>Jj y x)=true then true
 else if x.Kind=1 then true
 else if x.Kind=2 then l.any (isK 1 x.Case x.Round)&&decide (spkS l x.From x.Case<x.Round)&&decide (x.Voted=(YZ l x.From x.Case).1)&&decide (x.Finding=(YZ l x.From x.Case).2)
 else if x.Kind=3 then !l.any (isK 3 x.Case x.Round)&&zML c (prmS c l x.Case x.Round) x.Finding
 else (match prpS l x.Case x.Round with | some y=>decide (y.Finding=x.Finding) | none=>false)&&decide (spkS l x.From x.Case≤x.Round)&&decide ((YZ l x.From x.Case).1<x.Round)
theorem zNi (c:zD) (hc:okC c=true) (l:List zA) (k r:Int):(prmS c l k r).length≤7:=by
 obtain ⟨g1,g2⟩:=jI hc
 unfold prmS
 exact Nat.le_trans (List.length_filterMap_le _ _) (by simp; omega)
def Seen (m:List (Int×Bool)) (P:List zA):Prop := ∀ a,(zO a m).getD false=P.any (fun y=>decide (y.From=a))
theorem zKV : Seen [] []:=fun _=>rfl
theorem zKU {m:List (Int×Bool)} {P:List zA} (h:Seen m P) (x:zA):Seen (putM posI m x.From true) (P++[x]):=fun a=>by
 rw [zCu]
 by_cases e:a=x.From
 ·subst e; simp
 ·have : ¬ x.From=a:=fun q=>e q.symm
  rw [if_neg e,h a]; simp [this]
end Go.Mx
