/- Part of the proof of TopShipsLieClear: plain laws about the functions of M, no program in sight. Conditions: none. -/
import Derived.Test.YtdpifjmggnjagaaGreatLawYn
import Derived.Test.YtdpifjmggnjagaaGreatLawLa
import Derived.Test.YtdpifjmggnjagaaGreatLawLieSan
set_option linter.unusedVariables false
set_option linter.unusedSimpArgs false
namespace Go.Mx
theorem zP0 {h:zN} (hh:LenH h) (e:zCp h=0) {g:ZO} {n:Int} (hG:Mh.Guested g) (hd:Mh.zRo g n) (hn:n≤8000) {c:zV} (hc:zEP c=true) (ec:c.Draught=max 0 n) {x:Zi} {j:Nat} (hj:j<h.Tides.length) {b:zy} (hb:b∈h.Berths) (e1:x.Slot=⟨(j:Int),b.ID⟩) (e2:(Y7 h c h.Tides[j] b).2=true) (e3:x.Span=(Y7 h c h.Tides[j] b).1) {by_:List Int} (hby:zHF by_):zEt h g x by_=some true:=by
 have hg:=zDT.of hh e
 have gc:=zCV.of hc
 obtain ⟨t0,t1,t2,t3⟩:=hg.ts _ (bz hj)
 obtain ⟨w1,w2,w3,w4⟩:=zPc hg (bz hj) gc.f0 gc.l0 e2
 rw [← e3] at w1 w2 w3 w4
 have f0:=gc.f0; have l0:=gc.l0; have l1:=gc.l1
 have hnb:=hg.nb
 obtain ⟨hk,z,hz⟩:=hd
 have hgl:=Mh.JL.of hk
 have hcs:Mh.chk g.Ship=0:=by unfold Mh.chkL at hk; split at hk <;> assumption
 obtain ⟨y,y1,y2⟩:=Mh.zIS hgl by_ hby
 have hr:=y2.rms hgl
 obtain ⟨n',z',d1,d2,d3,d4,_⟩:=Mh.zGq hG.l hG.w hk
 rw [hz] at d1
 injection d1 with d1
 injection d1 with d1 d5
 subst d1
 have hdn:=d4 y y2
 have hvb:=Mh.zRS hgl.ship (d2.rms hgl)
 rw [d3] at hvb
 unfold Mh.Qd at hdn
 unfold zEt
 rw [y1,ba,Mh.zJ1 hcs hr,ba,bg (by simp)]
 generalize Mh.zCq g.Ship y=A at *
 suffices hq:∃ q,Lp (zDX h g x (A,0)) fuel (0,0)=some q∧q=true by obtain ⟨q,hq,rfl⟩:=hq; exact hq
 refine lp_inv' (fun i s=>s.2=(i:Int)∧((∃ k,∃ hk:k<h.Berths.length,k<i∧h.Berths[k]=b)→s.1=b.Depth)) _ h.Berths.length (by omega) ⟨rfl,fun ⟨k,_,q,_⟩=>by omega⟩ fun i s hi hI=>?_
 obtain ⟨gr,x2⟩:=s
 simp only at hI
 obtain ⟨rfl,hI⟩:=hI
 unfold zDX
 simp only
 by_cases hib:i<h.Berths.length
 ·have hj5:∀ v,Q8 (i:Int) v=some (.inl (v,((i+1:Nat):Int))):=fun v=>by unfold Q8; rw [w64s' hib (by omega)]
  rw [bi (by simpa using hib),ZY hib,ba,e1]
  by_cases hid:h.Berths[i].ID=b.ID
  ·have hbi:=zOr hg (bz hib) hb hid
   rw [bi (by simp [hid]),hj5]
   exact .inl ⟨hib,_,rfl,rfl,fun _=>by simp only; rw [hbi]⟩
  ·rw [bg (by simpa using hid),hj5]
   refine .inl ⟨hib,_,rfl,rfl,fun ⟨k,k1,k2,k3⟩=>?_⟩
   by_cases ek:k=i
   ·subst ek; exact absurd (by rw [k3]) hid
   ·exact hI ⟨k,k1,by omega,k3⟩
 ·have egr:gr=b.Depth:=hI (by obtain ⟨k,k1,k2⟩:=List.getElem_of_mem hb; exact ⟨k,k1,by omega,k2⟩)
  rw [egr,bg (by simpa using hib)]
  have hj1:zAs h g x (A,0) b.Depth=some true:=by
   unfold zAs
   refine zPC (lo:=x.Span.Lo) (hi:=x.Span.Hi) (by omega) (by omega) (fun (_:Unit) n=>n) (fun _ _=>true) (fun _ _=>True) (a:=()) rfl trivial (fun _ m h0 h1 _=>?_) fun _ _=>?_
   ·obtain ⟨b0,b1,b2,b3⟩:=hg.bs b hb
    have hgt1:=zP5 hg.g m
    have k0:=hg.k0; have k1:=hg.k1
    have hw:=w4 m h0 h1
    unfold need at hw
    rw [ec] at hw
    unfold zDY
    simp only
    rw [bi (by simpa using h1),zQK hg (by omega) (by omega),ba]
    simp only
    generalize hgt h.Water m=H at *
    rw [zw (n:=b.Depth+H) (by omega) (by omega),zw (n:=max (max A.Fore.Hi A.Aft.Hi) 0+h.Keel) (by omega) (by omega),bg (by simp; omega),Mh.zRX hz hvb ⟨by omega,by omega⟩ ⟨by omega,by omega⟩,ba,bg (by simp; omega),zw (by omega) (by omega)]
    exact ⟨(),rfl,trivial,trivial⟩
   ·unfold zDY
    rw [bg (by rw [bj]; omega)]; rfl
  rw [hj1]
  exact .inr ⟨true,rfl,rfl⟩
theorem lie_j1 {h:zN} {l:List ZO} {by_ out:List Int} (hh:LenH h) (hl:l.length≤3) (hG:∀ g∈l,Mh.Guested g) (h2:zHF by_) (h3:zHF out):jg h l by_ out=some true:=by
 obtain ⟨⟨c,is⟩,c1,c2⟩:=Mh.zMi hl hG
 unfold jg
 rw [c1,ba]
 cases is with
 | false=>rw [bi (show (!(c,false).snd)=true from rfl),zBX]; rfl
 | true =>
  obtain ⟨cl,ci⟩:=c2 rfl
  simp only at cl ci
  rw [bg (by simp)]
  simp only
  have hcl:Len c:=by unfold Len; omega
  by_cases ec:zB9 h c=0
  ·have hg:=JL.of hh ec
   have eh:zCp h=0:=by
    unfold zB9 at ec
    split at ec
    ·assumption
    ·contradiction
   have hn:=hg.n
   obtain ⟨m,f,p1,p2,p3⟩:=Plan_eq hh hcl ec
   obtain ⟨hlen,_⟩:=zQf (zJv h c) (b:=zg h c) p3
   have hfl:=p3.l
   have hmc:m≤c.length:=by
    rcases zLg hh hcl ec p2 with ⟨q,_⟩ | ⟨q,_⟩ <;> omega
   rw [p1,ba,bg (by simp)]
   have hj3:jN l by_ out=some true:=by
    unfold jN
    refine zQx l (by omega) true (fun i hi=>?_) ?_
    ·have hd:=ci i hi (by omega)
     obtain ⟨n,_,n2,_⟩:=hd
     unfold yF
     rw [bi (by simpa using hi),ZY hi,ba,Mh.zOl (hG _ (bz hi)) n2.1 h2 h3,ba,bg (by simp),w64s' hi (by omega)]
    ·unfold yF JP
     rw [bg (by simp),zBX]; rfl
   have hj2:jf h l by_ out (c,true) (zAx (zg h c) 0 f,0)=some true:=by
    unfold jf
    simp only
    rcases zLg hh hcl ec p2 with ⟨e1,e2⟩ | ⟨e1,q,e2,e3⟩
    ·rw [e2,ba,hlen,bg (by simp [e1]),bg (by simp)]
     exact hj3
    ·obtain ⟨l1,l2⟩:=zKI (zg h c) q
     have ln:=nbL_len (zg h c) q
     have ns:=(zEX hg).ns
     have lf:=List.length_filter_le q (List.range (zg h c).calls.length)
     rw [List.length_range] at lf
     have ecl:(zg h c).calls=c:=rfl
     rw [ecl] at lf l1
     have hcf:=zMn hh hcl ec (x:=Yz (zg h c) q) (by omega) (by omega)
     rw [e2,ba,hlen,bg (by simp; omega),bi rfl]
     simp only
     rw [hcf,zRF hg e1 e3,ba,zw (by omega) (by omega),bg (by simp)]
     exact hj3
   refine zQx (zAx (zg h c) 0 f) (by omega) true (fun i hi=>?_) ?_
   ·unfold yE
    simp only
    rw [bi (by simpa using hi),ZY hi,ba]
    obtain ⟨r,q1,q2⟩:=zLE (bz hi)
    rw [Nat.zero_add] at q2
    have hil:((i:Nat):Int)<1000:=by omega
    generalize (zAx (zg h c) 0 f)[i]=x at *
    have hrl:r<c.length:=by omega
    rcases p3.v r (by omega) with w | ⟨m',w1,w2,w3⟩
    ·rw [w,zGu,bi (by decide)] at q2; cases q2
    ·rw [w1,zGu,bg (by omega),cb] at q2
     have ecl:x.Call=c[r].ID:=by rw [q2]; show ((zg h c).calls.getD r default).ID=_; rw [show (zg h c).calls=c from rfl,getD_lt hrl]
     obtain ⟨n,n1,n2,n3⟩:=ci r (by omega) hrl
     have eid:x.Call=((r+1:Nat):Int):=by rw [ecl,n3]
     have em:((m':Int)).toNat=m':=by omega
     rw [em] at q2
     have ecan:(zg h c).can.getD r []=zAD h c[r] 0 h.Tides:=by
      rw [getD_lt (by simp [zg]; omega)]; simp [zg]
     have w3':=w3
     unfold canB at w3'
     rw [ecan] at w3' q2
     have hms:(zg h c).slots.getD m' default∈zC3 h 0 h.Tides:=by
      rw [getD_lt w2]; exact bz w2
     obtain ⟨j,hj,b,hb,q4⟩:=zJf.1 hms
     rw [Nat.zero_add] at q4
     rw [q4,zNJ hg.h hj hb] at w3' q2
     by_cases hw:(Y7 h c[r] h.Tides[j] b).2=true
     ·rw [bi hw] at q2
      have hcond:(!(decide (x.Call<1)||decide ((l.length:Int)<x.Call)))=true:=by
       rw [eid]; simp; omega
      have hly:=zP0 hh eh (hG _ (bz (show r<l.length by omega))) n2 n1 (hg.r _ (bz hrl)) (by rw [n3]) hj hb (x:=x) (by rw [q2]) hw (by rw [q2]; rfl) h2
      have hw64:w64 (x.Call - 1)=((r:Nat):Int):=by rw [eid,zw (by omega) (by omega)]; omega
      rw [hcond]
      simp only [gb,if_true]
      rw [hw64,ZY (show r<l.length by omega),ba,hly,ba,bg,w64s' hi (by omega)]
      rw [eid]; simp; omega
     ·rw [bg hw] at w3'; cases w3'
   ·unfold yE
    simp only
    rw [bg (by simp),hj2]; rfl
  ·have e3:qP h c=some ([],zB9 h c):=by
    unfold qP
    rw [zCF h hh c hcl,ba,bi (by simp [ec])]
   rw [e3,ba,bi (by simp [ec]),zBX]; rfl
theorem holds_TopShipsLieClear {h:zN} {l:List ZO} {by_ out:List Int} (h0:zC8 h) (h1:ok_30 l) (h2:zHF by_) (h3:zHF out):J5 h l by_ out=some true:=by
 have hh:=LenH.of h0
 unfold J5
 split
 ·rw [zBX]; rfl
 ·rename_i hsm
  simp only [Bool.or_eq_true,bj,not_or] at hsm
  obtain ⟨⟨⟨z1,z2⟩,z3⟩,z4⟩:=hsm
  have hj1:=lie_j1 (h:=h) (l:=l) hh (by omega) (fun g hg=>Mh.Guested.of (h1.2 g hg)) h2 h3
  suffices hq:∃ q,Lp (yD h l by_ out) fuel 0=some q∧q=true by obtain ⟨q,hq,rfl⟩:=hq; exact hq
  refine lp_inv' (fun i s=>s=(i:Int)) _ h.Tides.length (by omega) rfl fun i s hi hI=>?_
  subst hI
  unfold yD
  by_cases hit:i<h.Tides.length
  ·rw [bi (by simpa using hit),ZY hit,ba]
   split
   ·rw [zBX]
    exact .inr ⟨true,rfl,rfl⟩
   ·rw [w64s' hit (by omega)]
    exact .inl ⟨hit,_,rfl,rfl⟩
  ·rw [bg (by simpa using hit),hj1]
   exact .inr ⟨true,rfl,rfl⟩
end Go.Mx
