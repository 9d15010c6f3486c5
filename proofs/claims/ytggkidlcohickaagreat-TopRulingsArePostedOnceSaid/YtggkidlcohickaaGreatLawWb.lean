/- Part of the proof of TopRulingsArePostedOnce: plain laws about the functions of M, no program in sight. Conditions: none. -/
import Derived.Test.YtggkidlcohickaaGreatLawZj
import Derived.Test.YtggkidlcohickaaGreatWm
set_option linter.unusedVariables false
set_option linter.unusedSimpArgs false
namespace Go.Mx
abbrev Alk (y x:zA):Prop:=Zl y=Zl x
theorem zBF {S:List zA} {x:zA}:S.any (fun y=>Jj y x)=true↔∃ y∈S,Alk y x:=by
 rw [List.any_eq_true]
 constructor
 ·rintro ⟨y,h1,h2⟩; rw [zBf] at h2; exact ⟨y,h1,of_decide_eq_true h2⟩
 ·rintro ⟨y,h1,h2⟩; exact ⟨y,h1,by rw [zBf]; exact decide_eq_true h2⟩
theorem zC7 {c:zD} {r:Int} (hc:okC c=true) (h:1≤r∧r≤1048576):zAA c r=(r - 1) % c.Arbiters:=by
 unfold zAA
 rw [if_pos ⟨hc,jQ.2 h⟩]
theorem Q0 {c:zD} {x:zA} (h:fmB c x=true):okC c=true∧(1≤x.Case∧x.Case≤1099511627776)∧(1≤x.Round∧x.Round≤1048576)∧(0≤x.From∧x.From≤c.Arbiters - 1)∧(0≤x.To∧x.To≤c.Arbiters - 1)∧(0≤x.ID∧x.ID≤1099511627776)∧(0≤x.Finding∧x.Finding≤65536)∧kdB c x=true:=by
 unfold fmB at h
 simp only [Bool.and_eq_true,jQ] at h
 obtain ⟨⟨⟨⟨⟨⟨⟨h0,h1⟩,h2⟩,h3⟩,h4⟩,h5⟩,h6⟩,h7⟩:=h
 exact ⟨h0,h1,h2,h3,h4,h5,h6,h7⟩
theorem zIq {c:zD} {x:zA} (h:fmB c x=true) (hk:x.Kind=1∨x.Kind=3):x.From=(x.Round - 1) % c.Arbiters:=by
 obtain ⟨h0,_,h2,_,_,_,_,h7⟩:=Q0 h
 rw [← zC7 h0 h2]
 unfold kdB at h7
 rcases hk with k | k
 ·rw [if_pos k] at h7; simp only [Bool.and_eq_true,decide_eq_true_eq] at h7; exact h7.1.1
 ·rw [if_neg (by omega),if_neg (by omega),if_pos k] at h7; simp only [Bool.and_eq_true,decide_eq_true_eq] at h7; exact h7.1
theorem zBT {kd k r:Int} {x:zA}:isK kd k r x=true↔x.Kind=kd∧x.Case=k∧x.Round=r:=by simp [isK,and_assoc]
theorem zCh {a k:Int} {x:zA}:wrdS a k x=true↔x.Case=k∧x.From=a∧(x.Kind=2∨x.Kind=4):=by simp [wrdS,and_assoc]
structure zBg (c:zD) (S:List zA) (a id op:Int) (ch:qO):Prop where
 r1:1≤ch.round
 r2:ch.round≤op
 mod:(ch.round - 1) % c.Arbiters=a
 prom:∀ p∈ch.promises,p∈S∧p.Kind=2∧p.Case=id∧p.Round=ch.round
 nd:(ch.promises.map (·.From)).Nodup
 fresh:ch.proposed=false→∀ y∈S,isK 3 id ch.round y=false
structure jJ (c:zD) (S:List zA) (a id:Int) (d:zT):Prop where
 last:YZ S a id=(d.note.Voted,d.note.Finding)
 vle:0≤d.note.Voted∧d.note.Voted≤d.note.Promised∧d.note.Promised≤1048576
 said:∀ y∈S,wrdS a id y=true→y.Round≤d.note.Promised
 prom:d.note.Voted<d.note.Promised→∃ y∈S,y.Kind=2∧y.Case=id∧y.From=a∧y.Round=d.note.Promised∧y.Voted=d.note.Voted∧y.Finding=d.note.Finding
 fin:0≤d.note.Finding∧d.note.Finding≤65536∧(d.note.Voted=0→d.note.Finding=0)
 op:0≤d.note.Opened∧d.note.Opened≤1048576
 opn:∀ y∈S,(y.Kind=1∨y.Kind=3)→y.Case=id→y.From=a→y.Round≤d.note.Opened
 chair:∀ ch,d.chair=some ch→zBg c S a id d.note.Opened ch
 wish:d.has=true→0≤d.wish∧d.wish≤65536∧inI id 1 1099511627776=true
 votes:∀ v∈d.votes,v∈S∧v.Kind=4∧v.Case=id∧v.To=a
structure yJ (c:zD) (S:List zA) (g:Int→Int→zT):Prop where
 law:Qs c S
 form:∀ y∈S,fmB c y=true
 desk:∀ a id,jJ c S a id (g a id)
section
variable {c:zD} {S:List zA} {a id op:Int} {d:zT} {x:zA}
theorem Zx {P:zA→Prop} (h:∀ y∈S,P y) (hx:P x):∀ y∈S++[x],P y:=fun y hy=>by
 rcases List.mem_append.1 hy with h1 | h1
 ·exact h y h1
 ·rw [List.mem_singleton.1 h1]; exact hx
theorem zBg.snoc {ch:qO} (h:zBg c S a id op ch) (hx:ch.proposed=false→isK 3 id ch.round x=false):zBg c (S++[x]) a id op ch :=
 ⟨h.r1,h.r2,h.mod,fun p hp=>⟨List.mem_append_left _ (h.prom p hp).1,(h.prom p hp).2⟩,h.nd,fun hf=>Zx (h.fresh hf) (hx hf)⟩
theorem jJ.snoc (h:jJ c S a id d) (h1:x.Kind=4→x.Case=id→x.From=a→x.Round≤d.note.Voted) (h2:wrdS a id x=true→x.Round≤d.note.Promised) (h3:(x.Kind=1∨x.Kind=3)→x.Case=id→x.From=a→x.Round≤d.note.Opened) (h4:∀ ch,d.chair=some ch→ch.proposed=false→isK 3 id ch.round x=false):jJ c (S++[x]) a id d where
 last:=by
  rw [Yj,h.last]
  unfold zEL
  rw [if_neg]
  rintro ⟨q1,q2,q3,q4⟩
  have:=h1 q1 q2 q3
  simp only at q4
  omega
 vle:=h.vle
 said:=Zx h.said h2
 prom:=fun q=>let ⟨y,q1,q2⟩:=h.prom q; ⟨y,List.mem_append_left _ q1,q2⟩
 fin:=h.fin
 op:=h.op
 opn:=Zx h.opn h3
 chair:=fun ch hc=>(h.chair ch hc).snoc (h4 ch hc)
 wish:=h.wish
 votes:=fun v hv=>⟨List.mem_append_left _ (h.votes v hv).1,(h.votes v hv).2⟩
theorem jJ.alike (h:jJ c S a id d) (hx:∃ y∈S,Alk y x):jJ c (S++[x]) a id d:=by
 obtain ⟨y,hy,e⟩:=hx
 obtain ⟨e1,e2,e3,e4,e5,e6⟩:=jF.1 e
 refine h.snoc (fun q1 q2 q3=>?_) (fun q=>?_) (fun q1 q2 q3=>?_) (fun ch hc hf=>?_)
 ·have:=(zIj (l:=S) (a:=a) (k:=id)).2 y hy (e2.trans q1) (e1.trans q2) (e4.trans q3)
  rw [h.last] at this
  simp only at this
  omega
 ·have:=h.said y hy (zCh.2 (by have:=zCh.1 q; rw [e1,e2,e4]; exact this))
  omega
 ·have:=h.opn y hy (by rw [e2]; exact q1) (e1.trans q2) (e4.trans q3)
  omega
 ·have:=(h.chair ch hc).fresh hf y hy
  have e:isK 3 id ch.round x=isK 3 id ch.round y:=by unfold isK; rw [e1,e2,e3]
  rw [e]; exact this
theorem jJ.other (h:jJ c S a id d) (hf:fmB c x=true) (hx:x.From≠a∨x.Case≠id):jJ c (S++[x]) a id d:=by
 have hn:x.Case=id→x.From=a→False:=fun q1 q2=>by
  rcases hx with q | q
  ·exact q q2
  ·exact q q1
 refine h.snoc (fun q1 q2 q3=>(hn q2 q3).elim) (fun q=>?_) (fun q1 q2 q3=>(hn q2 q3).elim) (fun ch hc hp=>?_)
 ·have:=zCh.1 q
  exact (hn this.1 this.2.1).elim
 ·cases e:isK 3 id ch.round x with
  | false=>rfl
  | true =>
   obtain ⟨q1,q2,q3⟩:=zBT.1 e
   have:=zIq hf (.inr q1)
   rw [q3,(h.chair ch hc).mod] at this
   exact (hn q2 this).elim
theorem jJ.promise (h:jJ c S a id d) (k:x.Kind=2) (k1:x.Case=id) (k2:x.From=a) (k3:d.note.Promised≤x.Round) (k4:x.Round≤1048576) (k5:x.Voted=d.note.Voted) (k6:x.Finding=d.note.Finding):jJ c (S++[x]) a id { d with note:={ d.note with Promised:=x.Round } }:=by
 have h':=h.vle
 refine ⟨?_,⟨h'.1,by simp only; omega,k4⟩,Zx (fun y hy q=>Int.le_trans (h.said y hy q) k3) (fun _=>Int.le_refl _),fun _=>⟨x,by simp,k,k1,k2,rfl,k5,k6⟩,h.fin,h.op,Zx h.opn (fun q=>by omega),fun ch hc=>(h.chair ch hc).snoc fun _=>?_,h.wish,fun v hv=>⟨List.mem_append_left _ (h.votes v hv).1,(h.votes v hv).2⟩⟩
 ·rw [Yj,h.last]
  unfold zEL
  rw [if_neg (fun q=>by omega)]
 ·cases e:isK 3 id ch.round x with
  | false=>rfl
  | true=>have:=(zBT.1 e).1; omega
theorem jJ.vote (h:jJ c S a id d) (k:x.Kind=4) (k1:x.Case=id) (k2:x.From=a) (k3:d.note.Promised≤x.Round) (k4:x.Round≤1048576) (k5:d.note.Voted<x.Round) (k6:0≤x.Finding∧x.Finding≤65536):jJ c (S++[x]) a id { d with note:={ d.note with Promised:=x.Round,Voted:=x.Round,Finding:=x.Finding } }:=by
 have h':=h.vle
 refine ⟨?_,⟨by simp only; omega,by simp only; omega,k4⟩,Zx (fun y hy q=>Int.le_trans (h.said y hy q) k3) (fun _=>Int.le_refl _),fun q=>by simp only at q; omega,⟨k6.1,k6.2,fun q=>by simp only at q; omega⟩,h.op,Zx h.opn (fun q=>by omega),fun ch hc=>(h.chair ch hc).snoc fun _=>?_,h.wish,fun v hv=>⟨List.mem_append_left _ (h.votes v hv).1,(h.votes v hv).2⟩⟩
 ·rw [Yj,h.last]
  unfold zEL
  rw [if_pos ⟨k,k1,k2,k5⟩]
 ·cases e:isK 3 id ch.round x with
  | false=>rfl
  | true=>have:=(zBT.1 e).1; omega
theorem jJ.propose (h:jJ c S a id d) {ch:qO} (hc:d.chair=some ch) (k:x.Kind=3) (k3:x.Round=ch.round):jJ c (S++[x]) a id { d with chair:=some { ch with proposed:=true } }:=by
 have hch:=h.chair ch hc
 refine ⟨?_,h.vle,Zx h.said fun q=>?_,fun q=>let ⟨y,q1,q2⟩:=h.prom q; ⟨y,List.mem_append_left _ q1,q2⟩,h.fin,h.op,Zx h.opn (fun _ _ _=>by have:=hch.r2; simp only; omega),fun ch' hc' => ?_,h.wish,fun v hv=>⟨List.mem_append_left _ (h.votes v hv).1,(h.votes v hv).2⟩⟩
 ·rw [Yj,h.last]
  unfold zEL
  rw [if_neg (fun q=>by omega)]
 ·have:=(zCh.1 q).2.2; omega
 ·simp only [Option.some.injEq] at hc'
  subst hc'
  exact ⟨hch.r1,hch.r2,hch.mod,fun p hp=>⟨List.mem_append_left _ (hch.prom p hp).1,(hch.prom p hp).2⟩,hch.nd,fun q=>by cases q⟩
theorem jJ.open_ (h:jJ c S a id d) (hS:∀ y∈S,fmB c y=true) {r:Int} (k:x.Kind=1) (k3:x.Round=r) (k4:d.note.Opened<r) (k5:r≤1048576) (k6:(r - 1) % c.Arbiters=a):jJ c (S++[x]) a id { d with note:={ d.note with Opened:=r },chair:=some ⟨r,[],false⟩ }:=by
 have ho:=h.op
 refine ⟨?_,h.vle,Zx h.said fun q=>?_,fun q=>let ⟨y,q1,q2⟩:=h.prom q; ⟨y,List.mem_append_left _ q1,q2⟩,h.fin,⟨by simp only; omega,k5⟩,Zx (fun y hy q1 q2 q3=>by have:=h.opn y hy q1 q2 q3; simp only; omega) (fun _ _ _=>by simp only; omega),fun ch' hc' => ?_,h.wish,fun v hv=>⟨List.mem_append_left _ (h.votes v hv).1,(h.votes v hv).2⟩⟩
 ·rw [Yj,h.last]
  unfold zEL
  rw [if_neg (fun q=>by omega)]
 ·have:=(zCh.1 q).2.2; omega
 ·simp only [Option.some.injEq] at hc'
  subst hc'
  refine ⟨by simp only; omega,Int.le_refl _,k6,(fun p hp=>by cases hp),List.nodup_nil,fun _=>Zx (fun y hy=>?_) ?_⟩
  ·cases e:isK 3 id r y with
   | false=>rfl
   | true =>
    obtain ⟨q1,q2,q3⟩:=zBT.1 e
    have:=zIq (hS y hy) (.inr q1)
    rw [q3,k6] at this
    have:=h.opn y hy (.inr q1) q2 this
    omega
  ·cases e:isK 3 id r x with
   | false=>rfl
   | true=>have:=(zBT.1 e).1; omega
end
def upd (g:Int→Int→zT) (a id:Int) (d:zT):Int→Int→zT:=fun a' id' => if a'=a∧id'=id then d else g a' id'
section
variable {c:zD} {S:List zA} {g:Int→Int→zT} {a id:Int} {d:zT} {x:zA}
theorem zK1 (h:∃ y∈S,Alk y x):lawS c S x=true:=by unfold lawS; rw [if_pos (zBF.2 h)]
theorem yJ.alike (h:yJ c S g) (hf:fmB c x=true) (hx:∃ y∈S,Alk y x):yJ c (S++[x]) g :=
 ⟨zAE.2 ⟨h.law,zK1 hx⟩,Zx h.form hf,fun a id=>(h.desk a id).alike hx⟩
theorem yJ.new (h:yJ c S g) (hf:fmB c x=true) (hl:lawS c S x=true) (hd:jJ c (S++[x]) x.From x.Case d):yJ c (S++[x]) (upd g x.From x.Case d):=by
 refine ⟨zAE.2 ⟨h.law,hl⟩,Zx h.form hf,fun a id=>?_⟩
 unfold upd
 by_cases e:a=x.From∧id=x.Case
 ·rw [if_pos e,e.1,e.2]; exact hd
 ·rw [if_neg e]
  refine (h.desk a id).other hf ?_
  rcases Decidable.em (x.From=a) with q | q
  ·exact .inr fun q2=>e ⟨q.symm,q2.symm⟩
  ·exact .inl q
theorem yJ.set (h:yJ c S g) (hd:jJ c S a id d):yJ c S (upd g a id d):=by
 refine ⟨h.law,h.form,fun a' id' => ?_⟩
 unfold upd
 by_cases e:a'=a∧id'=id
 ·rw [if_pos e,e.1,e.2]; exact hd
 ·rw [if_neg e]; exact h.desk a' id'
theorem yJ.more (l:zA):∀ (X:List zA) {S:List zA},yJ c S g→(∃ y∈S,Alk y l)→(∀ x∈X,fmB c x=true∧Alk x l)→yJ c (S++X) g
 | [],S,h,_,_=>by rw [List.append_nil]; exact h
 | x :: X,S,h,hy,hX=>by
  obtain ⟨h1,h2⟩:=hX x List.mem_cons_self
  have h3:=h.alike h1 (let ⟨y,q1,q2⟩:=hy; ⟨y,q1,Eq.trans q2 (Eq.symm h2)⟩)
  have:=yJ.more l X h3 (let ⟨y,q1,q2⟩:=hy; ⟨y,List.mem_append_left _ q1,q2⟩) fun x hx=>hX x (List.mem_cons_of_mem _ hx)
  rwa [List.append_assoc] at this
end
section
variable {c:zD} {S:List zA} {a id:Int} {d:zT} {x:zA}
theorem zHj {P:List zA}:Qs c P→∀ {y z:zA} {k r a:Int},1≤r→y∈P→z∈P→isP k r a y=true→isP k r a z=true→Alk y z:=by
 refine yT (motive:=fun P=>Qs c P→∀ {y z:zA} {k r a:Int},1≤r→y∈P→z∈P→isP k r a y=true→isP k r a z=true→Alk y z) (fun _ y z k r a _ h=>by cases h) (fun P x ih=>?_) P
 intro hL y z k r a hr hy hz ky kz
 obtain ⟨hL1,hL2⟩:=zAE.1 hL
 have key:∀ w,w∈P→isP k r a w=true→isP k r a x=true→Alk w x:=by
  intro w hw kw kx
  obtain ⟨x1,x2,x3,x4⟩:=zEP kx
  obtain ⟨w1,w2,w3,w4⟩:=zEP kw
  unfold lawS at hL2
  split at hL2
  ·rename_i ha
   obtain ⟨v,v1,v2⟩:=zBF.1 ha
   have h3:=jF.1 v2
   have kv:isP k r a v=true:=by
    unfold isP isK
    simp [h3.1,h3.2.1,h3.2.2.1,h3.2.2.2.1,x1,x2,x3,x4]
   exact Eq.trans (ih hL1 hr hw v1 kw kv) v2
  ·have n1 : ¬ x.Kind=1:=by omega
   rw [if_neg n1] at hL2
   simp only [Bool.and_eq_true,decide_eq_true_eq] at hL2
   have:=(zIM P x.From x.Case x.Round (by omega)).1 hL2.1.1.2 w hw (zCh.2 ⟨by omega,by omega,.inl w1⟩)
   omega
 rcases List.mem_append.1 hy with y1 | y1
 ·rcases List.mem_append.1 hz with z1 | z1
  ·exact ih hL1 hr y1 z1 ky kz
  ·rw [List.mem_singleton.1 z1] at kz ⊢; exact key y y1 ky kz
 ·rcases List.mem_append.1 hz with z1 | z1
  ·rw [List.mem_singleton.1 y1] at ky ⊢; exact Eq.symm (key z z1 kz ky)
  ·rw [List.mem_singleton.1 y1,List.mem_singleton.1 z1]
theorem zE1 {P:List zA}:Qs c P→∀ {y:zA},y∈P→y.Kind=4→∃ p∈P,isK 3 y.Case y.Round p=true∧p.Finding=y.Finding:=by
 refine yT (motive:=fun P=>Qs c P→∀ {y:zA},y∈P→y.Kind=4→∃ p∈P,isK 3 y.Case y.Round p=true∧p.Finding=y.Finding) (fun _ y h=>by cases h) (fun P x ih=>?_) P
 intro hL y hy hk
 obtain ⟨hL1,hL2⟩:=zAE.1 hL
 rcases List.mem_append.1 hy with h | h
 ·obtain ⟨p,p1,p2⟩:=ih hL1 h hk
  exact ⟨p,List.mem_append_left _ p1,p2⟩
 ·rw [List.mem_singleton] at h
  subst h
  unfold lawS at hL2
  split at hL2
  ·rename_i ha
   obtain ⟨v,v1,v2⟩:=zBF.1 ha
   obtain ⟨e1,e2,e3,e4,e5,e6⟩:=jF.1 v2
   obtain ⟨p,p1,p2,p3⟩:=ih hL1 v1 (e2.trans hk)
   exact ⟨p,List.mem_append_left _ p1,by rw [← e1,← e3]; exact p2,p3.trans e6⟩
  ·have n1 : ¬ y.Kind=1:=by omega
   have n2 : ¬ y.Kind=2:=by omega
   have n3 : ¬ y.Kind=3:=by omega
   rw [if_neg n1,if_neg n2,if_neg n3] at hL2
   simp only [Bool.and_eq_true,decide_eq_true_eq] at hL2
   have h2:=hL2.1.1
   unfold prpS at h2
   cases hf:P.find? (isK 3 y.Case y.Round) with
   | none=>rw [hf] at h2; cases h2
   | some p =>
    rw [hf] at h2
    exact ⟨p,List.mem_append_left _ (List.mem_of_find?_eq_some hf),List.find?_some hf,of_decide_eq_true h2⟩
theorem zJS (h:jJ c S a id d) (k:x.Kind=2) (k1:x.Case=id) (k2:x.From=a) (k3:d.note.Promised=x.Round) (k4:d.note.Voted<x.Round) (k5:x.Voted=d.note.Voted) (k6:x.Finding=d.note.Finding):∃ y∈S,Alk y x:=by
 obtain ⟨y,hy,q1,q2,q3,q4,q5,q6⟩:=h.prom (by omega)
 exact ⟨y,hy,jF.2 ⟨by omega,by omega,by omega,by omega,by omega,by omega⟩⟩
theorem zJn (h:jJ c S a id d) (k:x.Kind=2) (k1:x.Case=id) (k2:x.From=a) (k3:d.note.Promised≤x.Round) (k4:d.note.Voted<x.Round) (k5:x.Voted=d.note.Voted) (k6:x.Finding=d.note.Finding) (hp:∃ y∈S,isK 1 id x.Round y=true):lawS c S x=true:=by
 unfold lawS
 by_cases ha:S.any (fun y=>Jj y x)=true
 ·rw [if_pos ha]
 ·have n1 : ¬ x.Kind=1:=by omega
  rw [if_neg ha,if_neg n1,if_pos k]
  have hlt:d.note.Promised<x.Round:=by
   rcases Int.lt_or_eq_of_le k3 with q | q
   ·exact q
   ·exact absurd (zBF.2 (zJS h k k1 k2 q k4 k5 k6)) ha
  have hv:=h.vle
  simp only [Bool.and_eq_true,decide_eq_true_eq,k1,k2,h.last]
  obtain ⟨y,hy,hy2⟩:=hp
  exact ⟨⟨⟨List.any_eq_true.2 ⟨y,hy,hy2⟩,(zIM S a id x.Round (by omega)).2 fun y hy hw=>by have:=h.said y hy hw; omega⟩,k5⟩,k6⟩
theorem zJB (h:jJ c S a id d) (hL:Qs c S) (hF:∀ y∈S,fmB c y=true) (k:x.Kind=4) (k1:x.Case=id) (k2:x.From=a) (k3:d.note.Voted=x.Round) (k4:1≤x.Round) (k5:x.Voted=0) (hp:∃ y∈S,isK 3 id x.Round y=true∧y.Finding=x.Finding):(∃ y∈S,Alk y x)∧d.note.Finding=x.Finding:=by
 rcases zJo S a id with q | ⟨y,hy,q1,q2,q3,q4,q5,_⟩
 ·rw [h.last] at q
  have:=(Prod.mk.inj q).1
  omega
 ·rw [h.last] at q4 q5
  simp only at q4 q5
  obtain ⟨p,p1,p2,p3⟩:=zE1 hL hy q1
  obtain ⟨l,l1,l2,l3⟩:=hp
  rw [q2,q4,k3] at p2
  have e:p.Finding=l.Finding:=zCo hL p1 l1 p2 l2
  have hv:y.Voted=0:=by
   have:=(Q0 (hF y hy)).2.2.2.2.2.2.2
   unfold kdB at this
   rw [if_neg (by omega),if_neg (by omega),if_neg (by omega)] at this
   simp only [Bool.and_eq_true,decide_eq_true_eq] at this
   exact this.2
  exact ⟨⟨y,hy,jF.2 ⟨by omega,by omega,by omega,by omega,by omega,by omega⟩⟩,by omega⟩
theorem zOC (h:jJ c S a id d) (hL:Qs c S) (hF:∀ y∈S,fmB c y=true) (k:x.Kind=4) (k1:x.Case=id) (k2:x.From=a) (k3:d.note.Promised≤x.Round) (k4:1≤x.Round) (k5:x.Voted=0) (hp:∃ y∈S,isK 3 id x.Round y=true∧y.Finding=x.Finding):lawS c S x=true:=by
 unfold lawS
 by_cases ha:S.any (fun y=>Jj y x)=true
 ·rw [if_pos ha]
 ·have n1 : ¬ x.Kind=1:=by omega
  have n2 : ¬ x.Kind=2:=by omega
  have n3 : ¬ x.Kind=3:=by omega
  rw [if_neg ha,if_neg n1,if_neg n2,if_neg n3]
  have hv:=h.vle
  have hlt:d.note.Voted<x.Round:=by
   rcases Int.lt_or_eq_of_le (Int.le_trans hv.2.1 k3) with q | q
   ·exact q
   ·exact absurd (zBF.2 (zJB h hL hF k k1 k2 q k4 k5 hp).1) ha
  obtain ⟨l,l1,l2,l3⟩:=hp
  simp only [Bool.and_eq_true,decide_eq_true_eq,k1,k2,h.last]
  refine ⟨⟨?_,?_⟩,hlt⟩
  ·unfold prpS
   cases hf:S.find? (isK 3 id x.Round) with
   | none=>exact absurd l2 (by simpa using List.find?_eq_none.1 hf l l1)
   | some y =>
    simp only [decide_eq_true_eq]
    rw [zCo hL (List.mem_of_find?_eq_some hf) l1 (List.find?_some hf) l2,l3]
  ·have:=(zIM S a id (x.Round+1) (by omega)).2 fun y hy hw=>by have:=h.said y hy hw; omega
   omega
theorem zIX (P:List zA):0≤(pkS P).1∧(∀ p∈P,p.Voted≤(pkS P).1)∧(0<(pkS P).1→∃ p∈P,p.Voted=(pkS P).1∧p.Finding=(pkS P).2):=by
 refine yT (motive:=fun P=>0≤(pkS P).1∧(∀ p∈P,p.Voted≤(pkS P).1)∧(0<(pkS P).1→∃ p∈P,p.Voted=(pkS P).1∧p.Finding=(pkS P).2)) ⟨by simp [pkS],(fun p h=>by cases h),(fun h=>by simp [pkS] at h)⟩ (fun P x ih=>?_) P
 obtain ⟨h1,h2,h3⟩:=ih
 have e:pkS (P++[x])=pkF (pkS P) x:=by simp [pkS,List.foldl_append]
 rw [e]
 unfold pkF
 split
 ·rename_i hc
  refine ⟨by simp only; omega,Zx (fun p hp=>by have:=h2 p hp; simp only; omega) (Int.le_refl _),fun _=>⟨x,by simp,rfl,rfl⟩⟩
 ·rename_i hc
  exact ⟨h1,Zx h2 (by omega),fun q=>let ⟨p,p1,p2⟩:=h3 q; ⟨p,List.mem_append_left _ p1,p2⟩⟩
theorem zN4 {p:Nat→Bool}:∀ (n:Nat) (L:List Nat),L.Nodup→(∀ a∈L,a<n∧p a=true)→L.length≤cnt p n
 | 0,L,hn,h=>by
  cases L with
  | nil=>exact Nat.le_refl _
  | cons a r=>have:=(h a List.mem_cons_self).1; omega
 | n+1,L,hn,h=>by
  have ih:=zN4 n (L.filter (·≠n)) (hn.filter _) fun a ha=>by
   rw [List.mem_filter] at ha
   have h1:=h a ha.1
   have h2:a≠n:=by simpa using ha.2
   exact ⟨by omega,h1.2⟩
  have key:∀ L:List Nat,L.Nodup→L.length≤(L.filter (·≠n)).length+if n∈L then 1 else 0:=by
   intro L
   induction L with
   | nil=>intro _; simp
   | cons x r ihl =>
    intro hn
    rw [List.nodup_cons] at hn
    have:=ihl hn.2
    by_cases e:x=n
    ·subst e
     rw [if_neg hn.1] at this
     rw [List.filter_cons_of_neg (by simp),if_pos List.mem_cons_self,List.length_cons]
     omega
    ·rw [List.filter_cons_of_pos (by simpa using e),List.length_cons,List.length_cons]
     have e2:(n∈x :: r)↔n∈r:=⟨fun q=>by rcases List.mem_cons.1 q with q | q; exact absurd q.symm e; exact q,fun q=>List.mem_cons_of_mem _ q⟩
     by_cases q:n∈r
     ·rw [if_pos q] at this; rw [if_pos (e2.2 q)]; omega
     ·rw [if_neg q] at this; rw [if_neg (fun q' => q (e2.1 q'))]; omega
  have:=key L hn
  unfold cnt
  by_cases q:n∈L
  ·rw [if_pos q] at this; rw [if_pos (h n q).2]; omega
  ·rw [if_neg q] at this; split <;> omega
theorem zFD {ch:qO} {op v:Int} (hc:okC c=true) (hL:Qs c S) (hF:∀ y∈S,fmB c y=true) (h:zBg c S a id op ch) (hv:∀ p∈ch.promises,p.Voted≤v):(ch.promises.length:Int)≤cntI (fun x=>decide (x.Voted≤v)) (prmS c S id ch.round):=by
 obtain ⟨g1,g2⟩:=jI hc
 rw [zIz]
 have hn:(ch.promises.map (fun p=>p.From.toNat)).Nodup:=by
  have h2:ch.promises.map (fun p=>p.From.toNat)=(ch.promises.map (·.From)).map Int.toNat:=by rw [List.map_map]; rfl
  rw [h2]
  have hpos:∀ f∈ch.promises.map (·.From),0≤f:=fun f hf=>by
   obtain ⟨p,hp,rfl⟩:=List.mem_map.1 hf
   exact (Q0 (hF p (h.prom p hp).1)).2.2.2.1.1
  have key:∀ l:List Int,l.Nodup→(∀ f∈l,0≤f)→(l.map Int.toNat).Nodup:=by
   intro l
   induction l with
   | nil=>intro _ _; exact List.nodup_nil
   | cons f r ih =>
    intro hn hp
    rw [List.nodup_cons] at hn
    rw [List.map_cons,List.nodup_cons]
    refine ⟨fun hm=>?_,ih hn.2 fun f hf=>hp f (List.mem_cons_of_mem _ hf)⟩
    obtain ⟨f',h1,h2⟩:=List.mem_map.1 hm
    have q1:=hp f List.mem_cons_self
    have q2:=hp f' (List.mem_cons_of_mem _ h1)
    have:f'=f:=by omega
    exact hn.1 (this▸h1)
  exact key _ h.nd hpos
 have:=zN4 (p:=fun a:Nat=>((S.find? (isP id ch.round (a:Int))).map fun x=>decide (x.Voted≤v)).getD false) c.Arbiters.toNat _ hn fun a ha=>by
  obtain ⟨p,hp,rfl⟩:=List.mem_map.1 ha
  obtain ⟨p1,p2,p3,p4⟩:=h.prom p hp
  have hf:=Q0 (hF p p1)
  have e:((p.From.toNat:Nat):Int)=p.From:=by have:=hf.2.2.2.1; omega
  refine ⟨by have:=hf.2.2.2.1; omega,?_⟩
  rw [e]
  have kp:isP id ch.round p.From p=true:=by unfold isP isK; simp [p2,p3,p4]
  cases hq:S.find? (isP id ch.round p.From) with
  | none=>exact absurd kp (by simpa using List.find?_eq_none.1 hq p p1)
  | some q =>
   have ha:=zHj hL h.r1 (List.mem_of_find?_eq_some hq) p1 (List.find?_some hq) kp
   obtain ⟨_,_,_,_,e5,_⟩:=jF.1 ha
   have:=hv p hp
   simp only [Option.map_some,Option.getD_some,decide_eq_true_eq]
   omega
 rw [List.length_map] at this
 omega
theorem zJm {ch:qO} {op:Int} (hc:okC c=true) (hL:Qs c S) (hF:∀ y∈S,fmB c y=true) (h:zBg c S a id op ch) (hp:ch.proposed=false) (hm:majS c≤(ch.promises.length:Int)) (k:x.Kind=3) (k1:x.Case=id) (k2:x.Round=ch.round) (k3:0<(pkS ch.promises).1→x.Finding=(pkS ch.promises).2):lawS c S x=true:=by
 unfold lawS
 by_cases ha:S.any (fun y=>Jj y x)=true
 ·rw [if_pos ha]
 ·have n1 : ¬ x.Kind=1:=by omega
  have n2 : ¬ x.Kind=2:=by omega
  rw [if_neg ha,if_neg n1,if_neg n2,if_pos k,k1,k2]
  obtain ⟨q1,q2,q3⟩:=zIX ch.promises
  rw [Bool.and_eq_true]
  constructor
  ·rw [Bool.not_eq_true',List.any_eq_false]
   intro y hy
   rw [h.fresh hp y hy]; decide
  ·unfold zML
   rw [Bool.or_eq_true]
   by_cases hv:0<(pkS ch.promises).1
   ·right
    obtain ⟨p,p1,p2,p3⟩:=q3 hv
    obtain ⟨s1,s2,s3,s4⟩:=h.prom p p1
    have kp:isP id ch.round p.From p=true:=by unfold isP isK; simp [s2,s3,s4]
    rw [List.any_eq_true]
    cases hq:S.find? (isP id ch.round p.From) with
    | none=>exact absurd kp (by simpa using List.find?_eq_none.1 hq p s1)
    | some q =>
     have ha:=zHj hL h.r1 (List.mem_of_find?_eq_some hq) s1 (List.find?_some hq) kp
     obtain ⟨_,_,_,e4,e5,e6⟩:=jF.1 ha
     refine ⟨q,?_,?_⟩
     ·rw [mem_prm (fun y hy=>by have:=(Q0 (hF y hy)).2.2.2.1; exact ⟨this.1,by omega⟩),e4]
      exact hq
     ·simp only [Bool.and_eq_true,decide_eq_true_eq]
      refine ⟨⟨by omega,by have:=k3 hv; omega⟩,?_⟩
      have:=zFD hc hL hF h (v:=q.Voted) (fun p' hp' => by have:=q2 p' hp'; omega)
      omega
   ·left
    have:=zFD hc hL hF h (v:=0) (fun p' hp' => by have:=q2 p' hp'; omega)
    rw [decide_eq_true_eq]
    omega
end
end Go.Mx
