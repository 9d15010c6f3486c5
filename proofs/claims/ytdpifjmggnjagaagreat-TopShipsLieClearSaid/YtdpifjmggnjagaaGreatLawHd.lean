/- Part of the proof of TopShipsLieClear: plain laws about the functions of M, no program in sight. Conditions: none. -/
import Derived.Test.YtdpifjmggnjagaaGreatLawHb
set_option linter.unusedVariables false
set_option linter.unusedSimpArgs false
namespace Go.Mh
open Go.Mx
theorem zQ4 {c:ZX} (hg:zCV c):ix c.Knots 0=some (c.Knots.getD 0 default)∧ix c.Knots (w64 ((c.Knots.length:Int) - 1))=some (c.Knots.getD (c.Knots.length - 1) default)∧(0≤(c.Knots.getD 0 default).X∧(c.Knots.getD 0 default).X≤2000)∧(0≤(c.Knots.getD (c.Knots.length - 1) default).X∧(c.Knots.getD (c.Knots.length - 1) default).X≤2000):=by
 have h0:=hg.n0
 have h1:=hg.n1
 have hl:c.Knots.length - 1<c.Knots.length:=by omega
 have e1:c.Knots.getD 0 default=c.Knots[0]:=by simp [List.getD_eq_getElem?_getD,h0]
 have e2:c.Knots.getD (c.Knots.length - 1) default=c.Knots[c.Knots.length - 1]:=by simp [List.getD_eq_getElem?_getD,hl]
 rw [e1,e2]
 refine ⟨?_,?_,?_,?_⟩
 ·have:=ZY (l:=c.Knots) (i:=0) h0; simpa using this
 ·rw [zw (by omega) (by omega),show (c.Knots.length:Int) - 1=((c.Knots.length - 1:Nat):Int) by omega,ZY hl]
 ·have:=hg.xy 0 h0; omega
 ·have:=hg.xy _ hl; omega
theorem zKu (s:zH) (c:ZX) (hg:zCV c) (hl:Len s.Holds) (h0:w64 s.Light=s.Light):zAy s c=some (if tabB s c=true then 0 else 1):=by
 obtain ⟨k1,k2,k3,k4⟩:=zQ4 hg
 have hm:YU ⟨c⟩=some ⟨(c.Knots.getD 0 default).X*40,(c.Knots.getD (c.Knots.length - 1) default).X*40⟩:=by
  unfold YU
  simp only
  rw [k1,k2,ba,ba,zw (by omega) (by omega),zw (by omega) (by omega)]
 have hr:zBq s=some (w64 (s.Light+JD s.Holds)):=(zLQ s hl).resolve_right (by simp [h0])
 obtain ⟨b,b1,b2⟩:=zMK c.Knots (by have:=hg.n1; unfold Len; omega)
 unfold zAy
 rw [hm,hr,b1]
 simp only [ba]
 unfold tabB
 rw [← b2]
 generalize (c.Knots.getD 0 default).X*40=p
 generalize (c.Knots.getD (c.Knots.length - 1) default).X*40=q
 generalize w64 (s.Light+JD s.Holds)=r
 by_cases h1:s.Light<p
 ·have e:decide (p≤s.Light)=false:=by simp; omega
  simp [gb,h1,e]
 ·have e:decide (p≤s.Light)=true:=by simp; omega
  by_cases h2:q<r
  ·have e2 : ¬ r≤q:=by omega
   simp [gb,h1,e,h2,e2]
  ·have e2:r≤q:=by omega
   cases b <;> simp [gb,h1,e,h2,e2]
def holdB (h:zq):Bool:=decide (1≤h.ID)&&decide (h.ID≤1099511627776)&&(decide (0≤h.Room)&&decide (h.Room≤65536))&&((decide (-20000≤h.Lever)&&decide (h.Lever≤20000))&&(decide (0≤h.Height)&&decide (h.Height≤5000)))
def holdsE (rest:Int):List zq→List zq→Int
 | _,[]=>rest
 | pre,h :: r=>if holdB h=true then (if (pre.any fun x=>decide (x.ID=h.ID))=true then 6 else holdsE rest (pre++[h]) r) else 1
theorem zFd (l:List zq) (c:zq) (hl:Len l):Zg l c=some (l.any fun x=>decide (x.ID=c.ID)):=by
 have h:∃ r,Zn l c=some r∧(if 0≤r then (l.any fun x=>decide (x.ID=c.ID))=true else (l.any fun x=>decide (x.ID=c.ID))=false):=by
  unfold Zn
  unfold Len at hl
  refine lp_inv' (fun i s=>s=(i:Int)∧∀ j (hj:j<l.length),j<i→¬ l[j].ID=c.ID) _ l.length (by omega) ⟨rfl,fun j _ h=>by omega⟩ fun i s hi hI=>?_
  obtain ⟨rfl,hI⟩:=hI
  unfold jQ
  by_cases h:i<l.length
  ·rw [bi (by simpa using h),ZY h]
   simp only [ba]
   by_cases hr:l[i].ID=c.ID
   ·rw [bi (by simpa [qi] using hr)]
    refine .inr ⟨_,rfl,?_⟩
    rw [bi (by omega),List.any_eq_true]
    exact ⟨_,bz h,by simpa using hr⟩
   ·rw [bg (by simpa [qi] using hr)]
    refine .inl ⟨h,_,rfl,w64s i (by omega),fun j hj hji=>?_⟩
    by_cases hj':j=i
    ·subst hj'; exact hr
    ·exact hI j hj (by omega)
  ·rw [bg (by simpa using h)]
   refine .inr ⟨-1,rfl,?_⟩
   rw [bg (by omega),List.any_eq_false]
   intro x hx
   obtain ⟨j,hj,rfl⟩:=List.getElem_of_mem hx
   simpa using hI j hj (by omega)
 obtain ⟨r,h1,h2⟩:=h
 unfold Zg
 rw [h1,ba]
 split at h2
 ·rename_i h; rw [h2]; simpa using h
 ·rename_i h; rw [h2]; simpa using h
def zEE (s:zH):Bool:=(((zT s.ID 1 1099511627776&&zT s.Light 1 65536)&&JF s.Lever s.Height)&&zT s.Turn 1 1048576)&&zT s.Least 0 5000
def zI9 (s:zH):Int:=if zEO s.Mean.Knots=true∧tabB s s.Mean=true∧tabB s s.Mtac=true then 0 else 1
def zPT (s:zH):Int:=if cchk s.Mean=0 then (if cchk s.Mtac=0 then zI9 s else cchk s.Mtac) else cchk s.Mean
def zM2 (s:zH):Int:=if 65536<w64 (s.Light+JD s.Holds) then 1 else zPT s
def chk (s:zH):Int:=if zEE s=true then (if 8<(s.Holds.length:Int) then 2 else holdsE (zM2 s) [] s.Holds) else 1
theorem zP6 {s:zH} (h : ¬ zEE s=true):(((((!zT s.ID 1 1099511627776) || !zT s.Light 1 65536) || !JF s.Lever s.Height) || !zT s.Turn 1 1048576) || !zT s.Least 0 5000)=true:=by
 have e:(((((!zT s.ID 1 1099511627776) || !zT s.Light 1 65536) || !JF s.Lever s.Height) || !zT s.Turn 1 1048576) || !zT s.Least 0 5000) = !zEE s:=by simp [zEE]
 rw [e]; simpa using h
theorem zNV {s:zH} (h:zEE s=true):(1≤s.ID∧s.ID≤1099511627776)∧(1≤s.Light∧s.Light≤65536)∧(-20000≤s.Lever∧s.Lever≤20000)∧(0≤s.Height∧s.Height≤5000)∧(1≤s.Turn∧s.Turn≤1048576)∧(0≤s.Least∧s.Least≤5000):=by
 simp only [zEE,JF,zT,bn,bj] at h
 omega
theorem or_two (a b:Int):Y0 [a,b]=some (if a=0 then b else a):=by
 unfold Y0
 refine jK (body:=Yo [a,b]) [a,b] (by simp) (fun (_:Unit) i=>i) (fun _ l=>match l with | [x,y]=>if x=0 then y else x | [y]=>y | _=>0) (fun _ _=>True) (a:=()) rfl trivial (fun u i hi _=>?_) (fun u _=>?_)
 ·unfold Yo
  simp only
  rw [bi (by simp only [bj]; exact Int.ofNat_lt.2 hi),ZY hi,ba,w64s' hi (by simp)]
  match i,hi with
  | 0,_ =>
   simp only [List.getElem_cons_zero]
   by_cases h:a=0
   ·left; rw [bg (by simp [h])]; exact ⟨(),rfl,by simp [h],trivial⟩
   ·right; rw [bi (by simp [h])]; simp [h]
  | 1,_ =>
   simp only [List.getElem_cons_succ,List.getElem_cons_zero]
   by_cases h:b=0
   ·left; rw [bg (by simp [h])]; exact ⟨(),rfl,by simp [h],trivial⟩
   ·right; rw [bi (by simp [h])]; simp
 ·rfl
theorem zRY (s:zH) (h1:cchk s.Mean=0) (h2:cchk s.Mtac=0) (hl:Len s.Holds) (h0:w64 s.Light=s.Light):Qq s=some (zI9 s):=by
 obtain ⟨n,q1,q2⟩:=zOv s.Mean h1
 unfold Qq zI9
 rw [q1,ba]
 by_cases hn:n=1
 ·rw [bg (by simp [hn]),zKu s s.Mean (zEH h1) hl h0,zKu s s.Mtac (zEH h2) hl h0]
  simp only [ba,or_two]
  rw [q2.1 hn]
  cases tabB s s.Mean <;> cases tabB s s.Mtac <;> simp
 ·rw [bi (by simp [hn]),bg]
  intro h
  exact hn (q2.2 h.1)
theorem check_j1' (s:zH) (hl:Len s.Holds) (h0:w64 s.Light=s.Light):Qr s=some (zM2 s):=by
 unfold Qr zM2
 rw [(zLQ s hl).resolve_right (by simp [h0]),ba]
 by_cases h:65536<w64 (s.Light+JD s.Holds)
 ·rw [bi (by simpa using h),bi h]
 ·rw [bg (by simpa using h),bg h]
  refine (jK (body:=zAX s) [s.Mean,s.Mtac] (by simp) (fun (_:Unit) i=>i) (fun _ l=>match l with | [a,b]=>if cchk a=0 then (if cchk b=0 then zI9 s else cchk b) else cchk a | [b]=>if cchk b=0 then zI9 s else cchk b | _=>zI9 s) (fun i _=>(1≤i→cchk s.Mean=0)∧(2≤i→cchk s.Mtac=0)) (a:=()) rfl ⟨by omega,by omega⟩ (fun u i hi hJ=>?_) (fun u hJ=>?_)).trans rfl
  ·unfold zAX
   simp only
   rw [bi (by simp only [bj]; exact Int.ofNat_lt.2 hi),ZY hi,ba,w64s' hi (by simp),zGJ,ba]
   match i,hi with
   | 0,_ =>
    simp only [List.getElem_cons_zero]
    by_cases h:cchk s.Mean=0
    ·left; rw [bg (by simp [h])]; exact ⟨(),rfl,by simp [h],fun _=>h,by omega⟩
    ·right; rw [bi (by simp [h])]; simp [h]
   | 1,_ =>
    simp only [List.getElem_cons_succ,List.getElem_cons_zero]
    by_cases h:cchk s.Mtac=0
    ·left; rw [bg (by simp [h])]; exact ⟨(),rfl,by simp [h],fun _=>hJ.1 (by omega),fun _=>h⟩
    ·right; rw [bi (by simp [h])]; simp [h]
  ·unfold zAX
   simp only
   rw [bg (by simp),zRY s (hJ.1 (by simp)) (hJ.2 (by simp)) hl h0]; rfl
theorem zLS (s:zH) (hl:Len s.Holds):zBt s=some (chk s):=by
 unfold zBt chk
 by_cases hb:zEE s=true
 ·have h0:w64 s.Light=s.Light:=by have:=zNV hb; exact zw (by omega) (by omega)
  rw [bg (by simp only [zEE] at hb; simp at hb ⊢; simp [hb]),bi hb]
  by_cases h8:8<(s.Holds.length:Int)
  ·rw [bi (by simpa using h8),bi h8]
  ·rw [bg (by simpa using h8),bg h8]
   refine jK (body:=zAW s) s.Holds hl (fun (_:List zq) i=>i) (holdsE (zM2 s)) (fun i pre=>pre=s.Holds.take i) rfl rfl (fun a i hi hJ=>?_) (fun a hJ=>?_)
   ·unfold zAW
    simp only
    rw [bi (by simpa using hi),ZY hi,ba,w64s' hi hl]
    simp only [holdsE]
    have ec:(((!zT s.Holds[i].ID 1 1099511627776) || !zT s.Holds[i].Room 0 65536) || !JF s.Holds[i].Lever s.Holds[i].Height) = !holdB s.Holds[i]:=by
     simp [holdB,zT,JF]
    rw [ec]
    by_cases hh:holdB s.Holds[i]=true
    ·rw [bg (by simp [hh]),bi hh,zIv (by omega),ba,zFd _ _ (by unfold Len at *; rw [List.length_take]; omega),ba,← hJ]
     by_cases hd:(a.any fun x=>decide (x.ID=s.Holds[i].ID))=true
     ·right; rw [bi hd,bi hd]
     ·left; rw [bg hd,bg hd]
      exact ⟨a++[s.Holds[i]],rfl,rfl,by rw [hJ,List.take_append_getElem]⟩
    ·right; rw [bi (by simp [hh]),bg hh]
   ·unfold zAW
    simp only
    rw [bg (by simp),check_j1' s hl h0]; rfl
 ·rw [bi (zP6 hb),bg hb]
structure GoodS (s:zH):Prop where
 id:1≤s.ID∧s.ID≤1099511627776
 light:1≤s.Light∧s.Light≤65536
 lever : -20000≤s.Lever∧s.Lever≤20000
 height:0≤s.Height∧s.Height≤5000
 turn:1≤s.Turn∧s.Turn≤1048576
 least:0≤s.Least∧s.Least≤5000
 nh:s.Holds.length≤8
 hold:∀ h∈s.Holds,(0≤h.Room∧h.Room≤65536)∧(-20000≤h.Lever∧h.Lever≤20000)∧(0≤h.Height∧h.Height≤5000)
 total:s.Light+JD s.Holds≤65536
 mean:zCV s.Mean
 meta_:zCV s.Mtac
 rises:zEO s.Mean.Knots=true
 tmean:tabB s s.Mean=true
 tmeta:tabB s s.Mtac=true
theorem zGR : ∀ (l:List zq),(∀ h∈l,0≤h.Room∧h.Room≤65536)→0≤JD l∧JD l≤65536*l.length
 | [],_=>by simp [JD]
 | h :: r,hh=>by
  have h1:=hh h bp
  have h2:=zGR r fun x hx=>hh x (bq _ hx)
  simp only [JD,bw,List.sum_cons,bt] at *
  omega
theorem holdsE_zero {rest:Int}:∀ (l pre:List zq),holdsE rest pre l=0→(∀ h∈l,holdB h=true)∧rest=0
 | [],pre,h=>⟨fun _ hx=>by simp at hx,h⟩
 | x :: r,pre,h=>by
  unfold holdsE at h
  split at h
  ·rename_i hb
   split at h
   ·omega
   ·obtain ⟨q1,q2⟩:=holdsE_zero r _ h
    refine ⟨fun y hy=>?_,q2⟩
    rcases List.mem_cons.1 hy with rfl | hy
    ·exact hb
    ·exact q1 y hy
  ·omega
theorem GoodS.of {s:zH} (h:chk s=0):GoodS s:=by
 unfold chk at h
 split at h
 ·rename_i hb
  split at h
  ·omega
  ·rename_i h8
   obtain ⟨q1,q2⟩:=holdsE_zero _ _ h
   have hh:∀ x∈s.Holds,(0≤x.Room∧x.Room≤65536)∧(-20000≤x.Lever∧x.Lever≤20000)∧(0≤x.Height∧x.Height≤5000):=fun x hx=>by
    have:=q1 x hx
    simp only [holdB,bn,bj] at this
    omega
   obtain ⟨a1,a2,a3,a4,a5,a6⟩:=zNV hb
   have hs:=zGR s.Holds fun x hx=>(hh x hx).1
   unfold zM2 at q2
   split at q2
   ·omega
   ·rename_i ht
    rw [zw (by omega) (by omega)] at ht
    unfold zPT at q2
    split at q2
    ·rename_i c1
     split at q2
     ·rename_i c2
      unfold zI9 at q2
      split at q2
      ·rename_i c3
       exact ⟨a1,a2,a3,a4,a5,a6,by omega,hh,by omega,zEH c1,zEH c2,c3.1,c3.2.1,c3.2.2⟩
      ·omega
     ·omega
    ·omega
  
 ·omega
theorem GoodS.lenH {s:zH} (h:GoodS s):Len s.Holds:=by have:=h.nh; unfold Len; omega
theorem zCN (a b:Int):ZC a b=max a b:=by
 unfold ZC
 by_cases h:a<b
 ·rw [bi (by simpa using h)]; omega
 ·rw [bg (by simpa using h)]; omega
def zDZ (x:zB) (room:Int):Bool:=decide (0≤x.Lo)&&decide (x.Lo≤x.Hi)&&decide (x.Hi≤room)
def allE (l:zQ):Int:=if l.All.Lo<0∨l.All.Hi<l.All.Lo∨65536<l.All.Hi then 1 else if 4000≤l.All.Hi - l.All.Lo then 2 else if min (Jl l.Holds) l.All.Hi<max (Jh l.Holds) l.All.Lo then 9 else 0
def zDl (rest:Int):List zq→List zB→Int
 | _,[]=>rest
 | h :: t,x :: r=>if zDZ x h.Room=true then zDl rest t r else 1
 | [],_ :: _=>1
def zHI (s:zH) (l:zQ):Int:=if (l.Holds.length:Int)=(s.Holds.length:Int) then zDl (allE l) s.Holds l.Holds else 1
def chkL (s:zH) (l:zQ):Int:=if chk s=0 then zHI s l else chk s
def zEm (s:zH) (l:zQ) (n:Nat):Prop := ∀ j,j<n→∀ x h,l.Holds[j]? = some x→s.Holds[j]? = some h→0≤x.Lo∧x.Lo≤x.Hi∧x.Hi≤h.Room
theorem zLm : ∀ (l:List zB),(∀ x∈l,0≤x.Lo∧x.Lo≤x.Hi∧x.Hi≤65536)→0≤Jh l∧Jh l≤Jl l∧Jl l≤65536*l.length
 | [],_=>by simp [Jh,Jl]
 | h :: r,hh=>by
  have h1:=hh h bp
  have h2:=zLm r fun x hx=>hh x (bq _ hx)
  simp only [Jh,Jl,bw,List.sum_cons,bt] at *
  omega
theorem zKy {s:zH} {l:zQ} (hg:GoodS s) (hl:l.Holds.length=s.Holds.length) (h:zEm s l l.Holds.length):∀ x∈l.Holds,0≤x.Lo∧x.Lo≤x.Hi∧x.Hi≤65536:=fun x hx=>by
 obtain ⟨j,hj,rfl⟩:=List.getElem_of_mem hx
 have hj':j<s.Holds.length:=by omega
 have h1:=h j hj _ _ (List.getElem?_eq_getElem hj) (List.getElem?_eq_getElem hj')
 have h2:=(hg.hold _ (bz hj')).1
 omega
theorem zLl {s:zH} {l:zQ} (hg:GoodS s) (hl:l.Holds.length=s.Holds.length) (h:zEm s l l.Holds.length):0≤Jh l.Holds∧Jh l.Holds≤Jl l.Holds∧Jl l.Holds≤524288:=by
 have h1:=zLm l.Holds (zKy hg hl h)
 have h2:=hg.nh
 omega
theorem zMq (l:zQ) (hl:Len l.Holds):YT l=some ⟨max (w64 (Jh l.Holds)) l.All.Lo,min (w64 (Jl l.Holds)) l.All.Hi⟩:=by
 unfold YT
 rw [zNT l.Holds hl,ba,zCN]
theorem loadJ1h {s:zH} {l:zQ} (hg:GoodS s) (hl:l.Holds.length=s.Holds.length) (h:zEm s l l.Holds.length) (hw:w64 l.All.Hi=l.All.Hi∧w64 l.All.Lo=l.All.Lo):yI l=some (allE l):=by
 have hL:Len l.Holds:=by have:=hg.nh; unfold Len; omega
 obtain ⟨b0,b1,b2⟩:=zLl hg hl h
 have e1:w64 (Jh l.Holds)=Jh l.Holds:=zw (by omega) (by omega)
 have e2:w64 (Jl l.Holds)=Jl l.Holds:=zw (by omega) (by omega)
 unfold yI allE
 rw [zMq l hL,e1,e2]
 simp only [ba]
 by_cases h1:l.All.Lo<0∨l.All.Hi<l.All.Lo∨65536<l.All.Hi
 ·rw [bi h1]
  rw [bi]; simp only [Bool.or_eq_true,bj]; omega
 ·rw [bg h1]
  have e3:w64 (l.All.Hi - l.All.Lo)=l.All.Hi - l.All.Lo:=zw (by omega) (by omega)
  rw [e3]
  rw [bg (by simp only [Bool.or_eq_true,bj]; omega)]
  by_cases h2:4000≤l.All.Hi - l.All.Lo
  ·rw [bi (by simpa using h2),bi h2]
  ·rw [bg (by simpa using h2),bg h2]
   by_cases h3:min (Jl l.Holds) l.All.Hi<max (Jh l.Holds) l.All.Lo
   ·rw [bi (by simpa using h3),bi h3]
   ·rw [bg (by simpa using h3),bg h3]
theorem zLq {s:zH} {l:zQ} {i:Nat} (h:zEm s l i) (h1:i<l.Holds.length) (h2:i<s.Holds.length) (hb:zDZ l.Holds[i] s.Holds[i].Room=true):zEm s l (i+1):=fun j hj x y hx hy=>by
 by_cases e:j=i
 ·subst e
  rw [List.getElem?_eq_getElem h1,Option.some.injEq] at hx
  rw [List.getElem?_eq_getElem h2,Option.some.injEq] at hy
  subst hx; subst hy
  simp only [zDZ,bn,bj] at hb
  omega
 ·exact h j (by omega) x y hx hy
def zDj (l:zQ):Prop:=w64 l.All.Hi=l.All.Hi∧w64 l.All.Lo=l.All.Lo
theorem zOb {s:zH} {l:zQ} (hg:GoodS s) (hl:l.Holds.length=s.Holds.length) (hw:zDj l):Lp (yJ s l) fuel 0=some (zDl (allE l) s.Holds l.Holds):=by
 have hL:l.Holds.length≤9223372036854775807:=by have:=hg.nh; omega
 refine jK (body:=yJ s l) l.Holds hL (fun (_:List zq) i=>i) (zDl (allE l)) (fun i a=>a=s.Holds.drop i∧zEm s l i) rfl ⟨rfl,fun j h=>by omega⟩ (fun a i hi hJ=>?_) (fun a hJ=>?_)
 ·have hi2:i<s.Holds.length:=by omega
  unfold yJ
  simp only
  rw [bi (by simpa using hi),ZY hi,ba,w64s' hi hL,ZY hi2,hJ.1,List.drop_eq_getElem_cons hi2]
  simp only [zDl]
  by_cases hb:zDZ l.Holds[i] s.Holds[i].Room=true
  ·left
   have hb2:=hb
   simp only [zDZ,bn,bj] at hb2
   have e:(!(decide (l.Holds[i].Lo<0)||decide (l.Holds[i].Hi<l.Holds[i].Lo)))=true:=by simp; omega
   rw [e]
   simp only [gb,if_true,ba]
   rw [bg (by simp only [Bool.or_eq_true,bj]; omega),bi hb]
   exact ⟨s.Holds.drop (i+1),rfl,rfl,rfl,zLq hJ.2 hi hi2 hb⟩
  ·right
   rw [bg hb]
   have hb2:=hb
   simp only [zDZ,bn,bj] at hb2
   by_cases h1:l.Holds[i].Lo<0∨l.Holds[i].Hi<l.Holds[i].Lo
   ·have e:(decide (l.Holds[i].Lo<0)||decide (l.Holds[i].Hi<l.Holds[i].Lo))=true:=by simp; omega
    simp only [e,gb,Bool.not_true,Bool.false_eq_true,if_false,ba,Bool.true_or,if_true]
   ·have e:(decide (l.Holds[i].Lo<0)||decide (l.Holds[i].Hi<l.Holds[i].Lo))=false:=by simp; omega
    simp only [e,gb,Bool.not_false,if_true,ba,Bool.false_or]
    rw [bi (by rw [bj]; omega)]
 ·unfold yJ
  simp only
  rw [bg (by simp),loadJ1h hg hl hJ.2 hw]
  cases a <;> rfl
theorem zFW (s:zH) (l:zQ) (hl:Len s.Holds) (hw:zDj l):JK s l=some (chkL s l):=by
 unfold JK chkL
 rw [zLS s hl,ba]
 by_cases h:chk s=0
 ·rw [bg (by simp [h]),bi h]
  unfold zHI
  by_cases h2:(l.Holds.length:Int)=(s.Holds.length:Int)
  ·rw [bg (by simp [h2]),bi h2]; exact zOb (GoodS.of h) (by omega) hw
  ·rw [bi (by simpa using h2),bg h2]
 ·rw [bi (by simp [h]),bg h]
structure JL (s:zH) (l:zQ):Prop where
 ship:GoodS s
 len:l.Holds.length=s.Holds.length
 spans:zEm s l l.Holds.length
 all:0≤l.All.Lo∧l.All.Lo≤l.All.Hi∧l.All.Hi≤65536
 few:l.All.Hi - l.All.Lo<4000
 some_:max (Jh l.Holds) l.All.Lo≤min (Jl l.Holds) l.All.Hi
theorem zIG {rest:Int}:∀ (hs:List zq) (l:List zB),zDl rest hs l=0→(∀ (j:Nat) (x:zB) (h:zq),l[j]? = some x→hs[j]? = some h→0≤x.Lo∧x.Lo≤x.Hi∧x.Hi≤h.Room)∧rest=0
 | hs,[],h=>⟨fun j x h hx=>by simp at hx,by cases hs <;> exact h⟩
 | [],x :: r,h=>by simp [zDl] at h
 | y :: t,x :: r,h=>by
  unfold zDl at h
  split at h
  ·rename_i hb
   obtain ⟨q1,q2⟩:=zIG t r h
   refine ⟨fun j a b ha hb' => ?_,q2⟩
   cases j with
   | zero =>
    simp only [List.getElem?_cons_zero,Option.some.injEq] at ha hb'
    subst ha; subst hb'
    simp only [zDZ,bn,bj] at hb
    omega
   | succ j=>exact q1 j a b (by simpa using ha) (by simpa using hb')
  ·omega
theorem JL.of {s:zH} {l:zQ} (h:chkL s l=0):JL s l:=by
 unfold chkL at h
 split at h
 ·rename_i hc
  have hg:=GoodS.of hc
  unfold zHI at h
  split at h
  ·rename_i hl
   obtain ⟨q1,q2⟩:=zIG _ _ h
   unfold allE at q2
   split at q2
   ·omega
   ·split at q2
    ·omega
    ·split at q2
     ·omega
     ·exact ⟨hg,by omega,fun j _ x y hx hy=>q1 j x y hx hy,by omega,by omega,by omega⟩
  ·omega
 ·omega
theorem JL.lenL {s:zH} {l:zQ} (h:JL s l):l.Holds.length≤8:=by have:=h.len; have:=h.ship.nh; omega
theorem JL.mem {s:zH} {l:zQ} (h:JL s l):∀ x∈l.Holds,0≤x.Lo∧x.Lo≤x.Hi∧x.Hi≤65536:=zKy h.ship h.len h.spans
def zAJ (l:zQ):Int:=max (Jh l.Holds) l.All.Lo
def zBg (l:zQ):Int:=min (Jl l.Holds) l.All.Hi
theorem JL.tot {s:zH} {l:zQ} (h:JL s l):0≤Jh l.Holds∧Jh l.Holds≤zAJ l∧zAJ l≤zBg l∧zBg l≤Jl l.Holds∧Jl l.Holds≤524288∧l.All.Lo≤zAJ l∧zBg l≤l.All.Hi:=by
 have h1:=zLl h.ship h.len h.spans
 have h2:=h.some_
 unfold zAJ zBg
 omega
theorem htotals {s:zH} {l:zQ} (h:JL s l):YT l=some ⟨zAJ l,zBg l⟩:=by
 have h1:=zLl h.ship h.len h.spans
 rw [zMq l (by have:=h.lenL; unfold Len; omega),zw (by omega) (by omega),zw (by omega) (by omega)]; rfl
def zJ9 (rest:Bool):List zB→List Int→Bool
 | _,[]=>rest
 | h :: t,x :: r=>decide (h.Lo≤x)&&decide (x≤h.Hi)&&zJ9 rest t r
 | [],_ :: _=>false
def fitB (l:zQ) (x:List Int):Bool:=decide (x.length=l.Holds.length)&&zJ9 (decide (l.All.Lo≤w64 x.sum)&&decide (w64 x.sum≤l.All.Hi)) l.Holds x
theorem zRB (l:zQ) (x:List Int) (hl:Len l.Holds) (hx:Len x):zEB l x=some (fitB l x):=by
 unfold zEB fitB
 by_cases h:x.length=l.Holds.length
 ·rw [bg (by simp [h])]
  simp only [h,decide_true,Bool.true_and]
  refine jK (body:=zBR l x) x hx (fun (_:List zB) i=>i) (zJ9 _) (fun i a=>a=l.Holds.drop i) rfl rfl (fun a i hi hJ=>?_) (fun a hJ=>?_)
  ·have hi2:i<l.Holds.length:=by omega
   unfold zBR
   simp only
   rw [bi (by simpa using hi),ZY hi,ba,w64s' hi hx,ZY hi2,ba,ba,hJ,List.drop_eq_getElem_cons hi2]
   simp only [zJ9]
   by_cases hb:zT x[i] l.Holds[i].Lo l.Holds[i].Hi=true
   ·left
    rw [bg (by simp [hb])]
    simp only [zT] at hb
    exact ⟨l.Holds.drop (i+1),rfl,by rw [hb,Bool.true_and],rfl⟩
   ·right
    rw [bi (by simpa using hb)]
    simp only [zT,Bool.not_eq_true] at hb
    rw [hb,Bool.false_and]
  ·unfold zBR zBQ
   simp only
   rw [bg (by simp),zMM x hx]
   cases a <;> rfl
 ·rw [bi (by simp; omega)]; simp [h]
structure Fit (l:zQ) (x:List Int):Prop where
 len:x.length=l.Holds.length
 span:∀ i (h1:i<x.length) (h2:i<l.Holds.length),l.Holds[i].Lo≤x[i]∧x[i]≤l.Holds[i].Hi
 all:l.All.Lo≤x.sum∧x.sum≤l.All.Hi
theorem zH2 {rest:Bool}:∀ (l:List zB) (x:List Int),x.length=l.length→(zJ9 rest l x=true↔(∀ i (h1:i<x.length) (h2:i<l.length),l[i].Lo≤x[i]∧x[i]≤l[i].Hi)∧rest=true)
 | l,[],h=>by cases l <;> simp [zJ9]
 | [],x :: r,h=>by simp at h
 | y :: t,x :: r,h=>by
  simp only [zJ9,bn,bj]
  rw [zH2 t r (by simpa using h)]
  constructor
  ·rintro ⟨h1,h2,h3⟩
   refine ⟨fun i q1 q2=>?_,h3⟩
   cases i with
   | zero=>exact h1
   | succ i=>simpa using h2 i (by simpa using q1) (by simpa using q2)
  ·rintro ⟨h1,h2⟩
   exact ⟨h1 0 (Nat.succ_pos _) (Nat.succ_pos _),fun i q1 q2=>h1 (i+1) (Nat.succ_lt_succ q1) (Nat.succ_lt_succ q2),h2⟩
theorem zFk : ∀ (l:List zB) (x:List Int),x.length=l.length→(∀ i (h1:i<x.length) (h2:i<l.length),l[i].Lo≤x[i]∧x[i]≤l[i].Hi)→Jh l≤x.sum∧x.sum≤Jl l
 | l,[],h,_=>by cases l <;> simp_all [Jh,Jl]
 | [],x :: r,h,_=>by simp at h
 | y :: t,x :: r,h,hh=>by
  have h0:=hh 0 (by simp) (by simp)
  have h1:=zFk t r (by simpa using h) fun i q1 q2=>hh (i+1) (Nat.succ_lt_succ q1) (Nat.succ_lt_succ q2)
  simp only [List.getElem_cons_zero] at h0
  simp only [Jh,Jl,bw,List.sum_cons] at *
  omega
theorem zRG {s:zH} {l:zQ} (hg:JL s l) (x:List Int):fitB l x=true↔Fit l x:=by
 unfold fitB
 rw [bn,bj]
 have hs:=hg.tot
 constructor
 ·rintro ⟨h1,h2⟩
  obtain ⟨q1,q2⟩:=(zH2 _ _ h1).1 h2
  have h3:=zFk _ _ h1 q1
  rw [zw (by omega) (by omega)] at q2
  simp only [bn,bj] at q2
  exact ⟨h1,q1,q2⟩
 ·intro h
  have h3:=zFk _ _ h.len h.span
  refine ⟨h.len,(zH2 _ _ h.len).2 ⟨h.span,?_⟩⟩
  rw [zw (by omega) (by omega)]
  simp only [bn,bj]
  exact h.all
theorem Fit.sum {s:zH} {l:zQ} (hg:JL s l) {x:List Int} (h:Fit l x):zAJ l≤x.sum∧x.sum≤zBg l:=by
 have h1:=zFk _ _ h.len h.span
 have h2:=h.all
 unfold zAJ zBg
 omega
theorem zRD (s:zH) (l:zQ) (x:List Int) (hl:Len s.Holds) (hw:zDj l) (hL:Len l.Holds) (hx:Len x):zEC s l x=some (decide (chkL s l=0)&&fitB l x):=by
 unfold zEC
 rw [zFW s l hl hw,ba,zRB l x hL hx]
 by_cases h:chkL s l=0 <;> simp [h,gb]
end Go.Mh
