/- Part of the proof of TopShipsLieClear: plain laws about the functions of M, no program in sight. Conditions: none. -/
import Derived.Test.YtdpifjmggnjagaaGreatLawHm
set_option linter.unusedVariables false
set_option linter.unusedSimpArgs false
namespace Go.Mh
open Go.Mx
theorem Fit.ins {l:zQ} {x:List Int} (h:Fit l x):InS l.Holds x:=⟨h.len,h.span⟩
theorem Fit.zHt {s:zH} {l:zQ} (hg:JL s l) {w x:List Int} {t:Int} (h:Greedy l.Holds w t x) (h1:zAJ l≤t) (h2:t≤zBg l):Fit l x:=by
 have ht:=hg.tot
 exact ⟨h.ins.1,h.ins.2,by rw [h.sum]; omega⟩
theorem zHc {s:zH} {l:zQ} (hg:JL s l) {w:List Int} {t:Int} (hw:w.length=l.Holds.length) (h1:zAJ l≤t) (h2:t≤zBg l):∃ x,zCu l w t=some x∧Greedy l.Holds w t x:=by
 have ht:=hg.tot
 exact zEI hg.spn hw (by omega) (by omega)
def gK (l:List zf) (i:Nat):zf:=l.getD i default
theorem zMO {l:List zf} {i:Nat} (h:i<l.length):gK l i=l[i]:=by simp [gK,List.getD_eq_getElem?_getD,h]
theorem zQ6 {l:List zf} {i:Nat} (h:i<l.length):ix l (i:Int)=some (gK l i):=by rw [ZY h,zMO h]
structure Cov (s:zH) (c:ZX):Prop where
 n0:0<c.Knots.length
 n1:c.Knots.length≤40
 xy:∀ i,i<c.Knots.length→0≤(gK c.Knots i).X∧(gK c.Knots i).X≤2000∧0≤(gK c.Knots i).Y∧(gK c.Knots i).Y≤65536
 up:∀ i,i+1<c.Knots.length→(gK c.Knots i).X<(gK c.Knots (i+1)).X
 lo:(gK c.Knots 0).X*40≤s.Light
 hi:s.Light+JD s.Holds≤(gK c.Knots (c.Knots.length - 1)).X*40
 err:0≤c.Err∧c.Err≤4000
theorem GoodS.rooms {s:zH} (h:GoodS s):0≤JD s.Holds∧s.Light+JD s.Holds≤65536:=⟨(zGR s.Holds fun x hx=>(h.hold x hx).1).1,h.total⟩
theorem Cov.of {s:zH} {c:ZX} (hs:GoodS s) (hg:zCV c) (ht:tabB s c=true):Cov s c:=by
 unfold tabB at ht
 simp only [bn,bj,Bool.not_eq_true',List.any_eq_false,bj] at ht
 have hr:=hs.rooms
 have hl:=hs.light
 refine ⟨hg.n0,hg.n1,fun i hi=>?_,fun i hi=>?_,ht.1.1,?_,⟨hg.e0,hg.e1⟩⟩
 ·rw [zMO hi]
  have h1:=hg.xy i hi
  have h2:=ht.2 _ (bz hi)
  omega
 ·rw [zMO hi,zMO (by omega)]; exact hg.up i hi
 ·have:=ht.1.2
  rw [Zm (by omega)] at this
  exact this
theorem GoodS.cmean {s:zH} (h:GoodS s):Cov s s.Mean:=Cov.of h h.mean h.tmean
theorem GoodS.cmeta {s:zH} (h:GoodS s):Cov s s.Mtac:=Cov.of h h.meta_ h.tmeta
def atP (c:ZX) (m:Int):Int×Int:=(yn ⟨c⟩ m).getD (0,1)
theorem zI6 {s:zH} {c:ZX} (h:Cov s c) {m:Int} (h1:s.Light≤m) (h2:m≤s.Light+JD s.Holds):yn ⟨c⟩ m=some (atP c m)∧1≤(atP c m).2∧(atP c m).2≤80000∧0≤(atP c m).1∧(atP c m).1≤65536*(atP c m).2∧∃ k,k<c.Knots.length∧(∀ j,j<k→(gK c.Knots j).X*40<m)∧m≤(gK c.Knots k).X*40∧(((gK c.Knots k).X*40=m∧atP c m=((gK c.Knots k).Y,1))∨(0<k∧m<(gK c.Knots k).X*40∧atP c m=((gK c.Knots (k - 1)).Y*(((gK c.Knots k).X - (gK c.Knots (k - 1)).X)*40)+((gK c.Knots k).Y - (gK c.Knots (k - 1)).Y)*(m - (gK c.Knots (k - 1)).X*40),((gK c.Knots k).X - (gK c.Knots (k - 1)).X)*40))):=by
 have hn:=h.n1
 have hx:∃ r,Zf c.Knots m=some r∧∃ k:Nat,r=(k:Int)∧k<c.Knots.length∧(∀ j,j<k→(gK c.Knots j).X*40<m)∧m≤(gK c.Knots k).X*40:=by
  unfold Zf
  refine lp_inv' (fun i s=>s=(i:Int)∧∀ j,j<i→(gK c.Knots j).X*40<m) _ c.Knots.length (by omega) ⟨rfl,fun j h=>by omega⟩ fun i s hi hI=>?_
  obtain ⟨rfl,hI⟩:=hI
  unfold jL
  by_cases hc:i<c.Knots.length
  ·have hb:=h.xy i hc
   rw [bi (by simpa using hc),zQ6 hc,ba]
   have e:YJ (gK c.Knots i) m=decide (m≤(gK c.Knots i).X*40):=by unfold YJ; rw [Zm (by omega)]
   rw [e]
   by_cases hm:m≤(gK c.Knots i).X*40
   ·rw [bi (by simpa using hm)]; exact .inr ⟨_,rfl,i,rfl,hc,hI,hm⟩
   ·rw [bg (by simpa using hm)]
    refine .inl ⟨hc,_,rfl,w64s i (by omega),fun j hj=>?_⟩
    by_cases e:j=i
    ·subst e; omega
    ·exact hI j (by omega)
  ·exfalso
   have:=hI (c.Knots.length - 1) (by have:=h.n0; omega)
   have:=h.hi
   omega
 obtain ⟨r,r1,k,rfl,k1,k2,k3⟩:=hx
 have hk:=h.xy k k1
 have main:∃ p,yn ⟨c⟩ m=some p∧1≤p.2∧p.2≤80000∧0≤p.1∧p.1≤65536*p.2∧(((gK c.Knots k).X*40=m∧p=((gK c.Knots k).Y,1))∨(0<k∧m<(gK c.Knots k).X*40∧p=((gK c.Knots (k - 1)).Y*(((gK c.Knots k).X - (gK c.Knots (k - 1)).X)*40)+((gK c.Knots k).Y - (gK c.Knots (k - 1)).Y)*(m - (gK c.Knots (k - 1)).X*40),((gK c.Knots k).X - (gK c.Knots (k - 1)).X)*40))):=by
  unfold yn
  simp only
  rw [r1,ba,zQ6 k1,ba,Zm (a:=(gK c.Knots k).X*40) (by omega)]
  by_cases hm:(gK c.Knots k).X*40=m
  ·rw [bi (by simpa using hm)]
   exact ⟨_,rfl,by simp only; omega,by simp only; omega,hk.2.2.1,by simp only; omega,.inl ⟨hm,rfl⟩⟩
  ·have hk0:0<k:=by
    rcases Nat.eq_zero_or_pos k with e | e
    ·subst e; have:=h.lo; omega
    ·exact e
   have kp:k - 1<c.Knots.length:=by omega
   have hp:=h.xy (k - 1) kp
   have hup:=h.up (k - 1) (by omega)
   rw [Nat.sub_add_cancel hk0] at hup
   have hlt:=k2 (k - 1) (by omega)
   rw [bg (by simpa using hm),Zm (a:=(k:Int) - 1) (by omega),show (k:Int) - 1=((k - 1:Nat):Int) by omega,zQ6 kp,ba]
   generalize gK c.Knots k=q at *
   generalize gK c.Knots (k - 1)=p at *
   rw [Zm (a:=q.X - p.X) (by omega),Zm (a:=(q.X - p.X)*40) (by omega),Zm (a:=p.X*40) (by omega),Zm (a:=m - p.X*40) (by omega),Zm (a:=q.Y - p.Y) (by omega),zDV,w64_add']
   generalize hD:(q.X - p.X)*40=D
   generalize hE:m - p.X*40=E
   have f1:p.Y*D+(q.Y - p.Y)*E=p.Y*(D - E)+q.Y*E:=by rw [Int.sub_mul,Int.mul_sub]; omega
   have g1:0≤p.Y*(D - E):=Int.mul_nonneg hp.2.2.1 (by omega)
   have g2:0≤q.Y*E:=Int.mul_nonneg hk.2.2.1 (by omega)
   have g3:p.Y*(D - E)≤65536*(D - E):=Int.mul_le_mul_of_nonneg_right hp.2.2.2 (by omega)
   have g4:q.Y*E≤65536*E:=Int.mul_le_mul_of_nonneg_right hk.2.2.2 (by omega)
   have hb:0≤p.Y*D+(q.Y - p.Y)*E∧p.Y*D+(q.Y - p.Y)*E≤65536*D:=by omega
   rw [Zm (by omega)]
   exact ⟨_,rfl,by simp only; omega,by simp only; omega,hb.1,hb.2,.inr ⟨hk0,by omega,rfl⟩⟩
 obtain ⟨p,p1,p2,p3,p4,p5,p6⟩:=main
 have e:atP c m=p:=by unfold atP; rw [p1]; rfl
 rw [e]
 exact ⟨p1,p2,p3,p4,p5,k,k1,k2,k3,p6⟩
def gH (l:List zq) (i:Nat):zq:=l.getD i default
theorem zMQ {l:List zq} {i:Nat} (h:i<l.length):gH l i=l[i]:=by simp [gH,List.getD_eq_getElem?_getD,h]
structure Rms (s:zH) (x:List Int):Prop where
 len:x.length=s.Holds.length
 b:∀ i,i<s.Holds.length→0≤gI x i∧gI x i≤(gH s.Holds i).Room
theorem zLx : ∀ (l:List zq) (x:List Int),x.length=l.length→(∀ i,i<l.length→0≤gI x i∧gI x i≤(gH l i).Room)→0≤x.sum∧x.sum≤JD l
 | [],[],_,_=>by simp [JD]
 | [],_ :: _,h,_=>by simp at h
 | _ :: _,[],h,_=>by simp at h
 | h :: hs,x :: xs,e,hh=>by
  have ih:=zLx hs xs (by simpa using e) fun i hi=>hh (i+1) (by simpa using hi)
  have h0:0≤x∧x≤h.Room:=hh 0 (by simp)
  simp only [JD,bw,List.sum_cons] at *
  omega
theorem Rms.sum {s:zH} {x:List Int} (h:Rms s x):0≤x.sum∧x.sum≤JD s.Holds:=zLx _ _ h.len h.b
theorem Rms.mass {s:zH} (hs:GoodS s) {x:List Int} (h:Rms s x):s.Light≤s.Light+x.sum∧s.Light+x.sum≤s.Light+JD s.Holds∧s.Light+x.sum≤65536:=by
 have h1:=h.sum
 have h2:=hs.rooms
 omega
theorem Rms.x65 {s:zH} (hs:GoodS s) {x:List Int} (h:Rms s x):∀ i,i<s.Holds.length→0≤gI x i∧gI x i≤65536:=fun i hi=>by
 have h1:=h.b i hi
 rw [zMQ hi] at h1
 have:=(hs.hold _ (bz hi)).1
 omega
theorem Fit.rms {s:zH} {l:zQ} (hg:JL s l) {x:List Int} (h:Fit l x):Rms s x:=⟨by rw [h.len,hg.len],fun i hi=>by
 have h1:=h.ins.g i (by rw [hg.len]; exact hi)
 have h2:=hg.spans i (by rw [hg.len]; exact hi) _ _ (List.getElem?_eq_getElem (by rw [hg.len]; exact hi)) (List.getElem?_eq_getElem hi)
 rw [zDL (by rw [hg.len]; exact hi)] at h1
 rw [zMQ hi]
 omega⟩
theorem JL.mass {s:zH} {l:zQ} (hg:JL s l) {t:Int} (h1:zAJ l≤t) (h2:t≤zBg l):s.Light≤s.Light+t∧s.Light+t≤s.Light+JD s.Holds∧s.Light+t≤65536:=by
 have ht:=hg.tot
 have h3:Jl l.Holds≤JD s.Holds:=by
  have e2:(l.Holds.map (·.Hi)).sum=Jl l.Holds:=rfl
  have:=zLx s.Holds (l.Holds.map (·.Hi)) (by simp [hg.len]) fun i hi=>by
   have hil:i<l.Holds.length:=by rw [hg.len]; exact hi
   have e:gI (l.Holds.map (·.Hi)) i=(gS l.Holds i).Hi:=by rw [Jb (by simpa using hil),zDL hil,List.getElem_map]
   rw [e,zDL hil,zMQ hi]
   have h2:=hg.spans i hil _ _ (List.getElem?_eq_getElem hil) (List.getElem?_eq_getElem hi)
   omega
  omega
 have:=hg.ship.rooms
 omega
def hts (s:zH):List Int:=s.Holds.map (·.Height)
def lvs (s:zH):List Int:=s.Holds.map (·.Lever)
theorem zDJ (s:zH) (hl:s.Holds.length≤8):zBP s=some (hts s):=by
 unfold zBP
 refine zME (body:=QW s) s.Holds (by omega) (·.Height) (fun acc i=>(i,acc)) (fun acc=>acc) rfl (fun acc i hi hJ=>?_) ?_
 ·unfold QW; simp only; rw [bi (by simpa using hi),ZY hi,ba,Js (by rw [hJ]; simp; omega),ba,w64s' hi (by omega)]
 ·unfold QW; simp only; rw [bg (by simp)]; rfl
theorem zLK (s:zH) (hl:s.Holds.length≤8):zAz s=some (lvs s):=by
 unfold zAz
 refine zME (body:=qI s) s.Holds (by omega) (·.Lever) (fun acc i=>(i,acc)) (fun acc=>acc) rfl (fun acc i hi hJ=>?_) ?_
 ·unfold qI; simp only; rw [bi (by simpa using hi),ZY hi,ba,Js (by rw [hJ]; simp; omega),ba,w64s' hi (by omega)]
 ·unfold qI; simp only; rw [bg (by simp)]; rfl
theorem zI0 (s:zH):(hts s).length=s.Holds.length:=by simp [hts]
theorem zB2 (s:zH):(lvs s).length=s.Holds.length:=by simp [lvs]
theorem lvs_wts {s:zH} (hs:GoodS s):Wts (lvs s):=fun i hi=>by
 rw [Jb hi]
 simp only [lvs,List.getElem_map]
 have:=(hs.hold _ (bz (show i<s.Holds.length by simpa [lvs] using hi))).2.1
 omega
theorem zMd : ∀ (w:List Int) (x:List Int) (A:Int),w.length=x.length→(∀ i,i<w.length→-A≤gI w i∧gI w i≤A)→(∀ i,i<x.length→0≤gI x i)→-(A*x.sum)≤dot w x∧dot w x≤A*x.sum
 | [],[],A,_,_,_=>by simp [dot]
 | [],_ :: _,A,h,_,_=>by simp at h
 | _ :: _,[],A,h,_,_=>by simp at h
 | w :: ws,x :: xs,A,h,hw,hx=>by
  have ih:=zMd ws xs A (by simpa using h) (fun i hi=>hw (i+1) (by simpa using hi)) (fun i hi=>hx (i+1) (by simpa using hi))
  have h3 : -A≤w∧w≤A:=hw 0 (by simp)
  have h4:0≤x:=hx 0 (by simp)
  have e1:w*x≤A*x:=Int.mul_le_mul_of_nonneg_right h3.2 h4
  have e2 : -A*x≤w*x:=Int.mul_le_mul_of_nonneg_right h3.1 h4
  rw [Int.neg_mul] at e2
  simp only [dot,List.sum_cons,Int.mul_add]
  omega
def zF2 (s:zH) (x:List Int):Int:=s.Light*s.Height+dot (hts s) x
theorem lh_bd {s:zH} (hs:GoodS s):0≤s.Light*s.Height∧s.Light*s.Height≤327680000:=by
 have h1:=hs.light
 have h2:=hs.height
 have:=zGd (a:=s.Light) (b:=s.Height) (A:=65536) (B:=5000) (by omega) h1.2 (by omega) h2.2
 exact ⟨Int.mul_nonneg (by omega) h2.1,by omega⟩
theorem zM1 {s:zH} (hs:GoodS s) {x:List Int} (h:Rms s x) : -655360000≤zF2 s x∧zF2 s x≤655360000:=by
 have h1:=lh_bd hs
 have h2:=zMd (hts s) x 5000 (by rw [zI0,h.len]) (fun i hi=>by
  rw [Jb hi]
  simp only [hts,List.getElem_map]
  have:=(hs.hold _ (bz (show i<s.Holds.length by simpa [hts] using hi))).2.2
  omega) fun i hi=>(h.b i (by rw [← h.len]; exact hi)).1
 have h3:=h.mass hs
 have h4:=hs.light
 unfold zF2
 omega
theorem zRA {s:zH} (hs:GoodS s) {x:List Int} (h:Rms s x):zEA s x=some (zF2 s x):=by
 have hn:=hs.nh
 have hb:=zM1 hs h
 unfold zEA
 rw [zDJ s hn,ba,zLP _ _ (by rw [zI0,h.len]) (by unfold Len; rw [zI0]; omega),ba,zDV,w64_add',show s.Light*s.Height+dot (hts s) x=zF2 s x from rfl,Zm (by omega)]
theorem zO0 {s:zH} (hs:GoodS s) {x:List Int} (h:Rms s x):zBM x=some x.sum:=by
 have hm:=h.mass hs
 have hn:=hs.nh
 have hl:=h.len
 have hlt:=hs.light
 rw [zMM x (by unfold Len; omega),Zm (by omega)]
def zGP (s:zH) (t:Int):Int:=((atP s.Mtac (s.Light+t)).1 - (s.Mtac.Err+s.Least)*(atP s.Mtac (s.Light+t)).2)*(s.Light+t)
def zEx (s:zH) (t:Int):Int:=(atP s.Mtac (s.Light+t)).2
structure Mass (s:zH) (t:Int):Prop where
 a:s.Light≤s.Light+t
 b:s.Light+t≤s.Light+JD s.Holds
 c:s.Light+t≤65536
theorem Rms.Mass {s:zH} (hs:GoodS s) {x:List Int} (h:Rms s x):Mass s x.sum:=by have:=h.mass hs; exact ⟨this.1,this.2.1,this.2.2⟩
theorem JL.Mass {s:zH} {l:zQ} (hg:JL s l) {t:Int} (h1:zAJ l≤t) (h2:t≤zBg l):Mass s t:=by have:=hg.mass h1 h2; exact ⟨this.1,this.2.1,this.2.2⟩
theorem zJE {s:zH} (hs:GoodS s) {t:Int} (h:Mass s t):(1≤zEx s t∧zEx s t≤80000)∧-47185920000000≤zGP s t∧zGP s t≤343597383680000∧-720000000≤(atP s.Mtac (s.Light+t)).1 - (s.Mtac.Err+s.Least)*(atP s.Mtac (s.Light+t)).2∧(atP s.Mtac (s.Light+t)).1 - (s.Mtac.Err+s.Least)*(atP s.Mtac (s.Light+t)).2≤5242880000∧0≤(s.Mtac.Err+s.Least)*(atP s.Mtac (s.Light+t)).2∧(s.Mtac.Err+s.Least)*(atP s.Mtac (s.Light+t)).2≤720000000:=by
 obtain ⟨_,p2,p3,p4,p5,_⟩:=zI6 hs.cmeta h.a h.b
 have he:=hs.cmeta.err
 have hl:=hs.least
 have hm:=hs.light
 unfold zGP zEx
 generalize (atP s.Mtac (s.Light+t)).1=N at *
 generalize (atP s.Mtac (s.Light+t)).2=D at *
 have e1:0≤(s.Mtac.Err+s.Least)*D:=Int.mul_nonneg (by omega) (by omega)
 have e2:(s.Mtac.Err+s.Least)*D≤9000*D:=Int.mul_le_mul_of_nonneg_right (by omega) (by omega)
 have ha:=h.a
 have hc:=h.c
 generalize s.Light+t=d at *
 generalize hX:N - (s.Mtac.Err+s.Least)*D=X
 have b1 : -720000000≤X:=by omega
 have b2:X≤5242880000:=by omega
 refine ⟨⟨p2,p3⟩,?_,?_,b1,b2,e1,by omega⟩
 ·have f1 : -720000000*d≤X*d:=Int.mul_le_mul_of_nonneg_right b1 (by omega)
  omega
 ·have f1:X*d≤5242880000*d:=Int.mul_le_mul_of_nonneg_right b2 (by omega)
  omega
theorem zP3 {s:zH} (hs:GoodS s) {t:Int} (h:Mass s t):zDF s t=some (zGP s t,zEx s t):=by
 obtain ⟨b0,b1,b2,b3,b4,b5,b6⟩:=zJE hs h
 have he:=hs.cmeta.err
 have hl:=hs.least
 have hm:=hs.light
 have hc:=h.c
 have ha:=h.a
 unfold zDF
 rw [Zm (a:=s.Light+t) (by omega),(zI6 hs.cmeta h.a h.b).1,ba,Zm (a:=s.Mtac.Err+s.Least) (by omega),Zm (a:=(s.Mtac.Err+s.Least)*_) (by omega),Zm (a:=(atP s.Mtac (s.Light+t)).1 - _) (by omega)]
 have e:((atP s.Mtac (s.Light+t)).1 - (s.Mtac.Err+s.Least)*(atP s.Mtac (s.Light+t)).2)*(s.Light+t)=zGP s t:=rfl
 rw [e,Zm (by omega)]; rfl
def Jj (s:zH) (x:List Int):Bool:=decide (zF2 s x*zEx s x.sum≤zGP s x.sum)
theorem rd_bd {r D:Int} (h1 : -655360000≤r∧r≤655360000) (h2:1≤D∧D≤80000) : -52428800000000≤r*D∧r*D≤52428800000000:=by
 have:=zGd (a:=r) (b:=D) (A:=655360000) (B:=80000) h1.1 h1.2 (by omega) h2.2; omega
theorem zEe {s:zH} (hs:GoodS s) {x:List Int} (h:Rms s x):QB s x=some (Jj s x):=by
 have hM:=h.Mass hs
 obtain ⟨b0,_⟩:=zJE hs hM
 have hr:=rd_bd (zM1 hs h) b0
 unfold QB
 rw [zO0 hs h,ba,zP3 hs hM,ba,zRA hs h,ba]
 show some (decide (w64 (zF2 s x*zEx s x.sum)≤zGP s x.sum))=_
 rw [Zm (by omega)]
 rfl
end Go.Mh
