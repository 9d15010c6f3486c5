/- Part of the proof of TopShipsLieClear: plain laws about the functions of M, no program in sight. Conditions: none. -/
import Derived.Test.YtdpifjmggnjagaaGreatLawHo
set_option linter.unusedVariables false
set_option linter.unusedSimpArgs false
namespace Go.Mh
open Go.Mx
def rmE : List zq→List Int→Bool
 | _,[]=>true
 | h :: t,x :: r=>decide (0≤x)&&decide (x≤h.Room)&&rmE t r
 | [],_ :: _=>false
def rmB (s:zH) (x:List Int):Bool:=decide (x.length=s.Holds.length)&&rmE s.Holds x
theorem zLy : ∀ (l:List zq) (x:List Int),x.length=l.length→(rmE l x=true↔∀ i,i<l.length→0≤gI x i∧gI x i≤(gH l i).Room)
 | l,[],h=>by cases l <;> simp_all [rmE]
 | [],x :: r,h=>by simp at h
 | y :: t,x :: r,h=>by
  simp only [rmE,bn,bj]
  rw [zLy t r (by simpa using h)]
  constructor
  ·rintro ⟨h1,h2⟩ i hi
   cases i with
   | zero=>exact h1
   | succ i=>exact h2 i (by simpa using hi)
  ·intro hh
   exact ⟨hh 0 (by simp),fun i hi=>hh (i+1) (by simpa using hi)⟩
theorem zG2 (s:zH) (x:List Int):rmB s x=true↔Rms s x:=by
 unfold rmB
 rw [bn,bj]
 constructor
 ·rintro ⟨h1,h2⟩; exact ⟨h1,(zLy _ _ h1).1 h2⟩
 ·intro h; exact ⟨h.len,(zLy _ _ h.len).2 h.b⟩
def zB3 (s:zH) (ls:List (List Int)):Int:=if chk s=0 then (if ls.all (rmB s)=true then 0 else 1) else chk s
theorem zJz (s:zH) (ls:List (List Int)) (hl:Len s.Holds) (hls:ls.length≤8):QC s ls=some (zB3 s ls):=by
 unfold QC zB3
 rw [zLS s hl,ba]
 by_cases h:chk s=0
 ·rw [bg (by simp [h]),bi h]
  have hn:=(GoodS.of h).nh
  refine jK (body:=qH s ls) ls (by omega) (fun (_:Unit) i=>i) (fun _ r=>if r.all (rmB s)=true then 0 else 1) (fun _ _=>True) (a:=()) rfl trivial (fun a i hi _=>?_) (fun a _=>?_)
  ·unfold qH
   simp only
   rw [bi (by simpa using hi),ZY hi,ba]
   generalize ls[i]=x
   by_cases hx:x.length=s.Holds.length
   ·rw [bg (by simp [hx])]
    have hin:Lp (Yu s (i:Int) x) fuel 0=some (if rmE s.Holds x=true then .inl ((i+1:Nat):Int) else .inr 1):=by
     refine (jK (body:=Yu s (i:Int) x) x (by omega) (fun (_:List zq) k=>k) (fun hs r=>if rmE hs r=true then (.inl ((i+1:Nat):Int):Int ⊕ Int) else .inr 1) (fun k hs=>hs=s.Holds.drop k) (a:=s.Holds) rfl rfl (fun hs k hk hJ=>?_) (fun hs hJ=>?_)).trans rfl
     ·have hk2:k<s.Holds.length:=by omega
      unfold Yu
      simp only
      rw [bi (by simpa using hk),ZY hk,ba,ZY hk2,ba,w64s' hk (by omega),hJ,List.drop_eq_getElem_cons hk2]
      by_cases hb:zT x[k] 0 s.Holds[k].Room=true
      ·left
       rw [bg (by simp [hb])]
       refine ⟨s.Holds.drop (k+1),rfl,?_,rfl⟩
       unfold zT at hb
       simp only [rmE,hb,Bool.true_and]
      ·right
       rw [bi (by simpa using hb)]
       unfold zT at hb
       rw [Bool.not_eq_true] at hb
       simp only [rmE,hb,Bool.false_and,Bool.false_eq_true,if_false]
     ·unfold Yu qG
      simp only
      rw [bg (by simp),w64s' hi (by omega)]
      simp [rmE]
    rw [hin]
    by_cases hr:rmE s.Holds x=true
    ·left
     rw [bi hr]
     refine ⟨(),rfl,?_,trivial⟩
     simp only [List.all_cons,rmB,hx,hr,decide_true,Bool.true_and]
    ·right
     rw [bg hr]
     rw [Bool.not_eq_true] at hr
     simp only [List.all_cons,rmB,hx,hr,decide_true,Bool.true_and,Bool.false_and,Bool.false_eq_true,if_false]
   ·right
    rw [bi (by simp; omega)]
    simp only [List.all_cons,rmB,hx,decide_false,Bool.false_and,Bool.false_eq_true,if_false]
  ·unfold qH; simp only; rw [bg (by simp)]; rfl
 ·rw [bi (by simp [h]),bg h]
theorem zJt {s:zH} (hc:chk s=0) {x:List Int} (h:Rms s x):QC s [x]=some 0:=by
 rw [zJz s [x] (GoodS.of hc).lenH (by simp)]
 unfold zB3
 rw [bi hc,bi (by simp [(zG2 s x).2 h])]
theorem Greedy.best {l:List zB} {w x y:List Int} {t:Int} (hx:Greedy l w t x) (hw:w.length=l.length) (hy:InS l y) (ht:y.sum=t):dot w y≤dot w x:=by
 by_cases hn:0<l.length
 ·obtain ⟨k,_,hk,_⟩:=hx.kkt hn
  have h1:=tight (gI w k) w l x hw hx.ins.1 hx.ins.g hk
  have h2:=weak (gI w k) w l y hw hy.1 hy.g
  rw [ht] at h2
  rw [hx.sum] at h1
  omega
 ·have e1:l=[]:=List.length_eq_zero_iff.1 (by omega)
  have e2:w=[]:=List.length_eq_zero_iff.1 (by omega)
  rw [e2]; simp [dot]
theorem zPh {s:zH} (hs:GoodS s) {x y:List Int} (hx:Rms s x) (hy:y.sum=x.sum) (hd:dot (hts s) y≤dot (hts s) x) (h:Jj s x=true):Jj s y=true:=by
 obtain ⟨b0,_⟩:=zJE hs (hx.Mass hs)
 unfold Jj at *
 rw [bj] at *
 rw [hy]
 have:zF2 s y*zEx s x.sum≤zF2 s x*zEx s x.sum:=Int.mul_le_mul_of_nonneg_right (by unfold zF2; omega) (by omega)
 omega
def zLh (s:zH) (l:zQ):Prop := ∀ t x,zAJ l≤t→t≤zBg l→Greedy l.Holds (hts s) t x→Jj s x=true
theorem zLh.fit {s:zH} {l:zQ} (hg:JL s l) (h:zLh s l) {y:List Int} (hy:Fit l y):Jj s y=true:=by
 have ht:=hy.sum hg
 have hwl:(hts s).length=l.Holds.length:=by rw [zI0,hg.len]
 obtain ⟨x,_,g⟩:=zHc hg hwl ht.1 ht.2
 exact zPh hg.ship ((Fit.zHt hg g ht.1 ht.2).rms hg) (by rw [g.sum]) (g.best hwl hy.ins rfl) (h _ x ht.1 ht.2 g)
theorem zLT {a b:Int} (h0:1≤b∧b≤1099511627776) (ha : -1152921504606846976≤a∧a≤1152921504606846976):zBs a b=some (a / b):=by
 have e1:rem a b=some (a.tmod b):=by unfold rem; rw [bg (by omega)]
 have l1:a.tmod b<b:=Int.tmod_lt_of_pos a (by omega)
 have l2 : -b<a.tmod b:=by have:=Int.lt_tmod_of_pos a (show 0<b by omega); omega
 have e2:w64 (a.tmod b+b)=a.tmod b+b:=zw (by omega) (by omega)
 have e3:rem (a.tmod b+b) b=some (a % b):=by
  unfold rem
  rw [bg (by omega)]
  congr 1
  rw [Int.tmod_eq_emod_of_nonneg (by omega),Int.add_emod_right]
  rw [Int.tmod_def]
  rw [show a - b*a.tdiv b=a+b*(-(a.tdiv b)) by rw [Int.mul_neg]; omega,Int.add_mul_emod_self_left]
 have m0:=Int.emod_nonneg a (show b≠0 by omega)
 have m1:=Int.emod_lt_of_pos a (show 0<b by omega)
 have e4:w64 (a - a % b)=a - a % b:=zw (by omega) (by omega)
 have hd:a - a % b=b*(a / b):=by have:=Int.emod_add_mul_ediv a b; omega
 have e5:quo (a - a % b) b=some (a / b):=by
  unfold quo
  rw [bg (by omega),hd,Int.mul_tdiv_cancel_left _ (by omega)]
  congr 1
  have k1:a / b≤1152921504606846976:=Int.le_trans (Int.ediv_le_ediv (by omega) ha.2) (Int.ediv_le_self _ (by omega))
  have k2 : -1152921504606846976≤a / b:=by
   rw [Int.le_ediv_iff_mul_le (by omega)]
   have:(-1152921504606846976:Int)*b≤-1152921504606846976*1:=Int.mul_le_mul_of_nonpos_left (by omega) (by omega)
   omega
  exact zw (by omega) (by omega)
 unfold zBs
 rw [e1,ba,e2,e3,ba,e4,e5,ba]
def up (a b:Int):Int := -((-a) / b)
theorem zOx {a c b:Int} (hb:1≤b) (h:a≤c):up a b≤up c b:=by
 unfold up
 have:=Int.ediv_le_ediv (show 0<b by omega) (show -c≤-a by omega)
 omega
theorem zMe {a b A:Int} (hb:1≤b) (hA:0≤A) (h1 : -A≤a) (h2:a≤A) : -A≤a / b∧a / b≤A:=by
 constructor
 ·rw [Int.le_ediv_iff_mul_le (by omega)]
  have : -A*b≤-A*1:=Int.mul_le_mul_of_nonpos_left (by omega) hb
  omega
 ·exact Int.le_trans (Int.ediv_le_ediv (by omega) h2) (Int.ediv_le_self _ hA)
def momV (s:zH) (x:List Int):Int:=s.Light*s.Lever+dot (lvs s) x
theorem zMA {s:zH} (hs:GoodS s) {x:List Int} (h:Rms s x) : -2621440000≤momV s x∧momV s x≤2621440000:=by
 have h1:=hs.light
 have h2:=hs.lever
 have hm:=zGd (a:=s.Light) (b:=s.Lever) (A:=65536) (B:=20000) (by omega) h1.2 h2.1 h2.2
 have h2:=zMd (lvs s) x 20000 (by rw [zB2,h.len]) (fun i hi=>by
  rw [Jb hi]
  simp only [lvs,List.getElem_map]
  exact (hs.hold _ (bz (show i<s.Holds.length by simpa [lvs] using hi))).2.1) fun i hi=>(h.b i (by rw [← h.len]; exact hi)).1
 have h3:=h.mass hs
 unfold momV
 omega
theorem zOa {s:zH} (hs:GoodS s) {x:List Int} (h:Rms s x):zCM s x=some (momV s x):=by
 have hn:=hs.nh
 have hb:=zMA hs h
 unfold zCM
 rw [zLK s hn,ba,zLP _ _ (by rw [zB2,h.len]) (by unfold Len; rw [zB2]; omega),ba,zDV,w64_add',show s.Light*s.Lever+dot (lvs s) x=momV s x from rfl,Zm (by omega)]
def zCJ (s:zH) (t:Int):Int:=(atP s.Mean (s.Light+t)).1*2*s.Turn
def zFN (s:zH) (t:Int):Int:=(atP s.Mean (s.Light+t)).2*2*s.Turn
def YR (s:zH) (x:List Int):Int:=momV s x*(atP s.Mean (s.Light+x.sum)).2
def endS (s:zH) (t n:Int):zB:=⟨(zCJ s t+n) / zFN s t - s.Mean.Err,up (zCJ s t+n) (zFN s t)+s.Mean.Err⟩
def zCq (s:zH) (x:List Int):Jf:=⟨endS s x.sum (YR s x),endS s x.sum (-YR s x)⟩
theorem zIx {s:zH} (hs:GoodS s) {t:Int} (h:Mass s t):(1≤zFN s t∧zFN s t≤167772160000)∧(0≤zCJ s t∧zCJ s t≤10995116277760000)∧(0≤(atP s.Mean (s.Light+t)).1∧(atP s.Mean (s.Light+t)).1≤5242880000)∧1≤(atP s.Mean (s.Light+t)).2∧(atP s.Mean (s.Light+t)).2≤80000:=by
 obtain ⟨_,p2,p3,p4,p5,_⟩:=zI6 hs.cmean h.a h.b
 have hT:=hs.turn
 unfold zCJ zFN
 generalize (atP s.Mean (s.Light+t)).1=N at *
 generalize (atP s.Mean (s.Light+t)).2=D at *
 have f1:=zGd (a:=D*2) (b:=s.Turn) (A:=160000) (B:=1048576) (by omega) (by omega) (by omega) hT.2
 have f2:=zGd (a:=N*2) (b:=s.Turn) (A:=10485760000) (B:=1048576) (by omega) (by omega) (by omega) hT.2
 have f3:0≤N*2*s.Turn:=Int.mul_nonneg (by omega) (by omega)
 have f4:1*s.Turn≤D*2*s.Turn:=Int.mul_le_mul_of_nonneg_right (by omega) (by omega)
 omega
theorem zOy {s:zH} (hs:GoodS s) {x:List Int} (h:Rms s x) : -209715200000000≤YR s x∧YR s x≤209715200000000:=by
 obtain ⟨_,_,_,b1,b2⟩:=zIx hs (h.Mass hs)
 have hm:=zMA hs h
 have:=zGd (a:=momV s x) (b:=(atP s.Mean (s.Light+x.sum)).2) (A:=2621440000) (B:=80000) hm.1 hm.2 (by omega) b2
 unfold YR
 omega
theorem zRN {s:zH} (hs:GoodS s) {x:List Int} (h:Rms s x) (sg:Int) (hsg:sg=1∨sg = -1):Qo sg (atP s.Mean (s.Light+x.sum)).1 s x (atP s.Mean (s.Light+x.sum)).2=some (endS s x.sum (sg*YR s x)):=by
 have hM:=h.Mass hs
 obtain ⟨⟨d1,d2⟩,⟨n1,n2⟩,⟨a1,a2⟩,b1,b2⟩:=zIx hs hM
 have ht:=zOy hs h
 have hm:=zMA hs h
 have hT:=hs.turn
 have he:=hs.cmean.err
 have hsm : -2621440000≤sg*momV s x∧sg*momV s x≤2621440000:=by rcases hsg with rfl | rfl <;> omega
 have hst : -209715200000000≤sg*YR s x∧sg*YR s x≤209715200000000:=by rcases hsg with rfl | rfl <;> omega
 have e1:sg*momV s x*(atP s.Mean (s.Light+x.sum)).2=sg*YR s x:=by unfold YR; rw [Int.mul_assoc]
 have e2:(atP s.Mean (s.Light+x.sum)).1*2*s.Turn=zCJ s x.sum:=rfl
 have e3:(atP s.Mean (s.Light+x.sum)).2*2*s.Turn=zFN s x.sum:=rfl
 have q1:=zMe (a:=zCJ s x.sum+sg*YR s x) (b:=zFN s x.sum) (A:=20000000000000000) d1 (by omega) (by omega) (by omega)
 have q2:=zMe (a := -(zCJ s x.sum+sg*YR s x)) (b:=zFN s x.sum) (A:=20000000000000000) d1 (by omega) (by omega) (by omega)
 unfold Qo
 rw [zOa hs h,ba,Zm (a:=_*2) (by omega),e2,Zm (a:=zCJ s x.sum) (by omega),Zm (a:=sg*momV s x) (by omega),e1,Zm (a:=sg*YR s x) (by omega),Zm (a:=zCJ s x.sum+sg*YR s x) (by omega),Zm (a:=(atP s.Mean (s.Light+x.sum)).2*2) (by omega),e3,Zm (a:=zFN s x.sum) (by omega),zLT (by omega) (by omega),ba,Int.zero_sub,Zm (a := -(zCJ s x.sum+sg*YR s x)) (by omega),zLT (by omega) (by omega),ba,Zm (a:=_ - s.Mean.Err) (by omega),Int.zero_sub,Zm (a := -(_ / _)) (by omega),Zm (by omega)]
 rfl
theorem zJ0 {s:zH} (hs:GoodS s) {x:List Int} (h:Rms s x):zA1 s x=some (zCq s x):=by
 have hM:=h.Mass hs
 have hlt:=hs.light
 have hc:=hM.c
 have ha:=hM.a
 unfold zA1
 rw [zO0 hs h,ba,Zm (by omega),(zI6 hs.cmean hM.a hM.b).1,ba,zRN hs h 1 (.inl rfl),ba,zRN hs h (-1) (.inr rfl),ba,Int.one_mul,show -1*YR s x = -YR s x by omega]
 rfl
theorem zJ1 {s:zH} (hc:chk s=0) {x:List Int} (h:Rms s x):zA3 s x=some (zCq s x,0):=by
 unfold zA3
 rw [zJt hc h,ba,bg (by simp),zJ0 (GoodS.of hc) h]; rfl
def Qd (s:zH) (x:List Int):Int:=max (zCq s x).Fore.Hi (zCq s x).Aft.Hi
theorem zRS {s:zH} (hs:GoodS s) {x:List Int} (h:Rms s x) : -30000000000000000≤Qd s x∧Qd s x≤30000000000000000:=by
 have hM:=h.Mass hs
 obtain ⟨⟨d1,d2⟩,⟨n1,n2⟩,⟨a1,a2⟩,b1,b2⟩:=zIx hs hM
 have ht:=zOy hs h
 have he:=hs.cmean.err
 have q1:=zMe (a := -(zCJ s x.sum+YR s x)) (b:=zFN s x.sum) (A:=20000000000000000) d1 (by omega) (by omega) (by omega)
 have q2:=zMe (a := -(zCJ s x.sum + -YR s x)) (b:=zFN s x.sum) (A:=20000000000000000) d1 (by omega) (by omega) (by omega)
 unfold Qd zCq endS up
 simp only
 omega
def nlvs (s:zH):List Int:=(lvs s).map fun a => -a
theorem zJd (s:zH):(nlvs s).length=s.Holds.length:=by simp [nlvs,zB2]
theorem zJ4 : ∀ (w x:List Int),dot (w.map fun a => -a) x = - dot w x
 | [],x=>by simp [dot]
 | w :: ws,[]=>by simp [dot]
 | w :: ws,x :: xs=>by simp only [bw,dot,zJ4 ws xs,Int.neg_mul]; omega
theorem deep_le {s:zH} {l:zQ} (hg:JL s l) {y xf xa:List Int} (hy:Fit l y) (hf:Greedy l.Holds (lvs s) y.sum xf) (ha:Greedy l.Holds (nlvs s) y.sum xa):Qd s y≤max (Qd s xf) (Qd s xa):=by
 have hs:=hg.ship
 have ht:=hy.sum hg
 obtain ⟨⟨d1,d2⟩,_,_,b1,b2⟩:=zIx hs (hg.Mass ht.1 ht.2)
 have h1:=hf.best (by rw [zB2,hg.len]) hy.ins rfl
 have h2:=ha.best (by rw [zJd,hg.len]) hy.ins rfl
 unfold nlvs at h2
 rw [zJ4,zJ4] at h2
 have t1:YR s y≤YR s xf:=by
  unfold YR
  rw [hf.sum]
  exact Int.mul_le_mul_of_nonneg_right (by unfold momV; omega) (by omega)
 have t2:YR s xa≤YR s y:=by
  unfold YR
  rw [ha.sum]
  exact Int.mul_le_mul_of_nonneg_right (by unfold momV; omega) (by omega)
 have u1:=zOx (a:=zCJ s y.sum+YR s y) (c:=zCJ s y.sum+YR s xf) d1 (by omega)
 have u2:=zOx (a:=zCJ s y.sum + -YR s y) (c:=zCJ s y.sum + -YR s xa) d1 (by omega)
 unfold Qd zCq endS
 simp only
 rw [hf.sum,ha.sum]
 omega
structure zHh (s:zH) (l:zQ) (t:Int) (k:Nat) (deep:Int) (at_:List Int) (some_:Bool):Prop where
 fit:some_=true→Fit l at_∧Qd s at_=deep
 some_:(zAJ l<t∨0<k)→some_=true
 past:∀ u x,zAJ l≤u→u<t→(Greedy l.Holds (lvs s) u x∨Greedy l.Holds (nlvs s) u x)→Qd s x≤deep
 f0:0<k→∀ x,Greedy l.Holds (lvs s) t x→Qd s x≤deep
 f1:1<k→∀ x,Greedy l.Holds (nlvs s) t x→Qd s x≤deep
theorem zHh.put {s:zH} {l:zQ} (hg:JL s l) {t deep:Int} {k:Nat} {at_ x:List Int} {some_:Bool} (h:zHh s l t k deep at_ some_) (hk:k<2) (h1:zAJ l≤t) (h2:t≤zBg l) (hx:Greedy l.Holds (if k=0 then lvs s else nlvs s) t x):zHh s l t (k+1) (if ((!some_)||decide (deep<Qd s x))=true then Qd s x else deep) (if ((!some_)||decide (deep<Qd s x))=true then x else at_) true:=by
 have hf:=Fit.zHt hg hx h1 h2
 by_cases hc:((!some_)||decide (deep<Qd s x))=true
 ·simp only [bi hc]
  have hle:some_=true→deep≤Qd s x:=fun hs=>by
   rw [hs] at hc
   simp at hc
   omega
  refine ⟨fun _=>⟨hf,rfl⟩,fun _=>rfl,fun u y u1 u2 hy=>?_,fun _ y hy=>?_,fun hk1 y hy=>?_⟩
  ·have:=hle (h.some_ (.inl (by omega)))
   have:=h.past u y u1 u2 hy
   omega
  ·by_cases e:k=0
   ·subst e
    rw [bi rfl] at hx
    rw [hy.uniq hx]; exact Int.le_refl _
   ·have:=hle (h.some_ (.inr (by omega)))
    have:=h.f0 (by omega) y hy
    omega
  ·have e:k=1:=by omega
   subst e
   rw [bg (by omega)] at hx
   rw [hy.uniq hx]; exact Int.le_refl _
 ·simp only [bg hc]
  simp only [Bool.or_eq_true,Bool.not_eq_true',bj,not_or,Bool.not_eq_false] at hc
  refine ⟨fun _=>h.fit hc.1,fun _=>rfl,h.past,fun _ y hy=>?_,fun hk1 y hy=>?_⟩
  ·by_cases e:k=0
   ·subst e
    rw [bi rfl] at hx
    rw [hy.uniq hx]; omega
   ·exact h.f0 (by omega) y hy
  ·have e:k=1:=by omega
   subst e
   rw [bg (by omega)] at hx
   rw [hy.uniq hx]; omega
theorem deep_in {s:zH} {l:zQ} (hg:JL s l) {t deep:Int} {at_:List Int} {some_:Bool} (h1:zAJ l≤t) (h2:t≤zBg l) (h:zHh s l t 0 deep at_ some_):∃ d a,Lp (QZ s l (lvs s) (nlvs s) t) fuel (0,deep,at_,some_)=some (.inl (t+1,d,a,true))∧zHh s l t 2 d a true:=by
 have ht:=hg.tot
 suffices hh:∃ r,Lp (QZ s l (lvs s) (nlvs s) t) fuel (0,deep,at_,some_)=some r∧∃ d a,r = .inl (t+1,d,a,true)∧zHh s l t 2 d a true by
  obtain ⟨r,q1,d,a,rfl,q2⟩:=hh; exact ⟨d,a,q1,q2⟩
 refine lp_inv' (fun k (st:Int×Int×List Int×Bool)=>st.1=(k:Int)∧zHh s l t k st.2.1 st.2.2.1 st.2.2.2) _ 2 (by omega) ⟨rfl,h⟩ fun k st hk hI=>?_
 obtain ⟨x1,d,a,b⟩:=st
 obtain ⟨e1,hI⟩:=hI
 simp only at e1 hI
 subst e1
 unfold QZ
 simp only
 by_cases hc:k<2
 ·left
  have hform:ix [lvs s,nlvs s] (k:Int)=some (if k=0 then lvs s else nlvs s):=by
   match k,hc with
   | 0,_=>rfl
   | 1,_=>rfl
  have hwl:(if k=0 then lvs s else nlvs s).length=l.Holds.length:=by split <;> first | rw [zB2,hg.len] | rw [zJd,hg.len]
  obtain ⟨x,q1,q2⟩:=zHc hg hwl h1 h2
  have hr:=(Fit.zHt hg q2 h1 h2).rms hg
  rw [bi (by simp only [bt,List.length_nil,bj]; omega),hform,ba,q1,ba,zJ0 hg.ship hr,ba,zCN,show max (zCq s x).Fore.Hi (zCq s x).Aft.Hi=Qd s x from rfl]
  have hp:=hI.put hg hc h1 h2 q2
  unfold YK
  rw [w64s k (by omega)]
  by_cases hcc:((!b)||decide (d<Qd s x))=true
  ·rw [bi hcc]
   rw [bi hcc,bi hcc] at hp
   exact ⟨hc,_,rfl,rfl,hp⟩
  ·rw [bg hcc]
   rw [bg hcc,bg hcc] at hp
   simp only [Bool.or_eq_true,Bool.not_eq_true',bj,not_or,Bool.not_eq_false] at hcc
   rw [hcc.1]
   exact ⟨hc,_,rfl,rfl,hp⟩
 ·right
  have e:k=2:=by omega
  subst e
  rw [bg (by simp)]
  unfold QX
  rw [Zm (by omega)]
  have hb:b=true:=hI.some_ (.inr (by omega))
  subst hb
  exact ⟨_,rfl,d,a,rfl,hI⟩
theorem zGq {s:zH} {l:zQ} (hl:Len s.Holds) (hW:zDj l) (hk:chkL s l=0):∃ n x,yh s l=some (n,x,0)∧Fit l x∧Qd s x=n∧(∀ y,Fit l y→Qd s y≤n)∧∀ t x,zAJ l≤t→t≤zBg l→(Greedy l.Holds (lvs s) t x∨Greedy l.Holds (nlvs s) t x)→Qd s x≤n:=by
 have hg:=JL.of hk
 have ht:=hg.tot
 have hal:=hg.all
 have hf:=hg.few
 have hn:=hg.ship.nh
 have hj1:∃ r,YL s l (lvs s) (nlvs s)=some r∧r.2.2=0∧Fit l r.2.1∧Qd s r.2.1=r.1∧∀ t x,zAJ l≤t→t≤zBg l→(Greedy l.Holds (lvs s) t x∨Greedy l.Holds (nlvs s) t x)→Qd s x≤r.1:=by
  have hI0:zHh s l (zAJ l) 0 0 [] false:=⟨fun h=>(by cases h),fun h=>absurd h (by omega),fun u x h1 h2=>absurd h1 (by omega),fun h=>absurd h (by omega),fun h=>absurd h (by omega)⟩
  unfold YL
  rw [show YT (zBr l)=YT l from rfl,htotals hg,ba]
  refine lp_inv' (fun i (st:Int×Int×List Int×Bool)=>st.1=zAJ l+(i:Int)∧zHh s l st.1 0 st.2.1 st.2.2.1 st.2.2.2) _ (zBg l - zAJ l+1).toNat (by omega) ⟨by simp,hI0⟩ fun i st hi hI=>?_
  obtain ⟨t,d,a,b⟩:=st
  obtain ⟨e1,hI⟩:=hI
  simp only at e1 hI
  unfold zCa
  simp only
  by_cases hc:t≤zBg l
  ·left
   obtain ⟨d2,a2,q1,q2⟩:=deep_in hg (by omega) hc hI
   rw [bi (by simpa using hc),q1]
   refine ⟨by omega,_,rfl,by simp only; omega,⟨q2.fit,fun _=>rfl,fun u x u1 u2 hx=>?_,fun h=>by omega,fun h=>by omega⟩⟩
   simp only at u2
   by_cases e:u=t
   ·subst e
    rcases hx with hx | hx
    ·exact q2.f0 (by omega) x hx
    ·exact q2.f1 (by omega) x hx
   ·exact q2.past u x u1 (by omega) hx
  ·right
   rw [bg (by simpa using hc)]
   have hb:b=true:=hI.some_ (.inl (by omega))
   have hfit:=hI.fit hb
   exact ⟨_,rfl,rfl,hfit.1,hfit.2,fun u x u1 u2 hx=>hI.past u x u1 (by omega) hx⟩
 obtain ⟨⟨n,x,e⟩,q1,q2,q3,q4,q5⟩:=hj1
 simp only at q2 q3 q4 q5
 subst q2
 refine ⟨n,x,?_,q3,q4,fun y hy=>?_,q5⟩
 ·unfold yh
  rw [zFW s l hl hW,ba,bg (by simp [hk]),zLK s hn,ba]
  refine (zME (body:=QY s l (lvs s)) (lvs s) (by rw [zB2]; omega) (fun a=>w64 (0 - a)) (fun acc i=>(i,acc)) (fun _=>((n,x,0):Int×List Int×Int)) rfl (fun acc i hi hJ=>?_) ?_).trans rfl
  ·unfold QY
   simp only
   rw [bi (by simpa using hi),ZY hi,ba,Js (by rw [hJ]; simp; rw [zB2] at *; omega),ba,w64s' hi (by rw [zB2]; omega)]
  ·have hm:(lvs s).map (fun a=>w64 (0 - a))=nlvs s:=List.map_congr_left fun a ha=>by
    obtain ⟨j,hj,rfl⟩:=List.getElem_of_mem ha
    have:=lvs_wts hg.ship j hj
    rw [Jb hj] at this
    rw [Zm (by omega)]; omega
   unfold QY
   simp only
   rw [bg (by simp),hm,q1]; rfl
 ·have hs:=hy.sum hg
  obtain ⟨xf,_,gf⟩:=zHc hg (w:=lvs s) (by rw [zB2,hg.len]) hs.1 hs.2
  obtain ⟨xa,_,ga⟩:=zHc hg (w:=nlvs s) (by rw [zJd,hg.len]) hs.1 hs.2
  have h1:=deep_le hg hy gf ga
  have h2:=q5 _ xf hs.1 hs.2 (.inl gf)
  have h3:=q5 _ xa hs.1 hs.2 (.inr ga)
  omega
end Go.Mh
