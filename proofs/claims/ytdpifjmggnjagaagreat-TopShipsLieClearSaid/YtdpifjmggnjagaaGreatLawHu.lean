/- Part of the proof of TopShipsLieClear: plain laws about the functions of M, no program in sight. Conditions: none. -/
import Derived.Test.YtdpifjmggnjagaaGreatLawHr
set_option linter.unusedVariables false
set_option linter.unusedSimpArgs false
namespace Go.Mh
open Go.Mx
def gD (d:zA) (i:Nat):Int:=gI d.toL i
theorem qX (d:zA):d.toL.length=8:=rfl
theorem zKG {d e:zA} (h:∀ i,i<8→gD d i=gD e i):d=e:=by
 have h2:d.toL=e.toL:=zDD rfl fun i hi=>h i hi
 have h3:∀ x:zA,zA.ofL x.toL=x:=fun x=>rfl
 rw [← h3 d,← h3 e,h2]
def incD (d:zA) (i:Nat):zA:=d.set (i:Int) (gD d i+1)
def decD (d:zA) (i:Nat):zA:=d.set (i:Int) (gD d i - 1)
theorem zOe (d:zA) (k:Nat) (hk:k<8) (v:Int) (i:Nat):gD (d.set (k:Int) v) i=if i=k then v else gD d i:=by
 unfold gD
 rw [zA.zEM,jh,jw (by rw [qX]; exact hk)]
theorem zFY (d:zA) (k:Nat) (hk:k<8) (i:Nat):gD (incD d k) i=if i=k then gD d k+1 else gD d i:=zOe d k hk _ i
theorem zMS (d:zA) (k:Nat) (hk:k<8) (i:Nat):gD (decD d k) i=if i=k then gD d k - 1 else gD d i:=zOe d k hk _ i
theorem inc_dec (d:zA) (k:Nat) (hk:k<8):incD (decD d k) k=d:=zKG fun i _=>by
 rw [zFY _ k hk,zMS d k hk,zMS d k hk,bi rfl]
 split
 ·rename_i e; subst e; omega
 ·rfl
def yl : zA:=⟨0,0,0,0,0,0,0,0⟩
theorem zMR (i:Nat):gD yl i=0:=by
 unfold gD gI yl zA.toL
 match i with
 | 0 | 1 | 2 | 3 | 4 | 5 | 6 | 7=>rfl
 | n+8=>rfl
structure Unl (u:zR):Prop where
 chk:chk u.ship=0
 rf:Rms u.ship u.from_
 rt:Rms u.ship u.to
 le:∀ i,i<u.from_.length→gI u.to i≤gI u.from_ i
 st:1≤u.step∧u.step≤65536
theorem Unl.n {u:zR} (h:Unl u):u.from_.length≤8:=by rw [h.rf.len]; exact (GoodS.of h.chk).nh
theorem Unl.tl {u:zR} (h:Unl u):u.to.length=u.from_.length:=by rw [h.rf.len,h.rt.len]
theorem Unl.rng {u:zR} (h:Unl u) (i:Nat) (hi:i<u.from_.length):0≤gI u.to i∧gI u.to i≤gI u.from_ i∧gI u.from_ i≤65536:=by
 have hs:=GoodS.of h.chk
 have hi2:i<u.ship.Holds.length:=by rw [← h.rf.len]; exact hi
 have h1:=h.rf.x65 hs i hi2
 have h2:=h.rt.x65 hs i hi2
 have h3:=h.le i hi
 omega
def stN (u:zR) (i:Nat):Int:=(gI u.from_ i - gI u.to i+u.step - 1) / u.step
theorem zGv {u:zR} (h:Unl u) (i:Nat) (hi:i<u.from_.length):0≤stN u i∧stN u i≤131071∧gI u.from_ i - gI u.to i≤stN u i*u.step∧stN u i*u.step≤gI u.from_ i - gI u.to i+u.step - 1:=by
 have hr:=h.rng i hi
 have hst:=h.st
 have ha:0≤gI u.from_ i - gI u.to i∧gI u.from_ i - gI u.to i≤65536:=by omega
 unfold stN
 generalize gI u.from_ i - gI u.to i=a at *
 have m0:=Int.emod_nonneg (a+u.step - 1) (show u.step≠0 by omega)
 have m1:=Int.emod_lt_of_pos (a+u.step - 1) (show 0<u.step by omega)
 have hd:=Int.emod_add_mul_ediv (a+u.step - 1) u.step
 rw [Int.mul_comm] at hd
 have q0:0≤(a+u.step - 1) / u.step:=Int.ediv_nonneg (by omega) (by omega)
 have q1:(a+u.step - 1) / u.step*1≤(a+u.step - 1) / u.step*u.step:=Int.mul_le_mul_of_nonneg_left hst.1 q0
 omega
def bh (u:zR) (d:zA) (i:Nat):Int:=max (gI u.from_ i - gD d i*u.step) (gI u.to i)
def bhL (u:zR) (d:zA):List Int:=(List.range u.from_.length).map (bh u d)
theorem qw (u:zR) (d:zA):(bhL u d).length=u.from_.length:=by simp [bhL]
theorem zDw (u:zR) (d:zA) (i:Nat) (hi:i<u.from_.length):gI (bhL u d) i=bh u d i:=by
 rw [Jb (by rw [qw]; exact hi)]; simp [bhL]
def Small (d:zA):Prop := ∀ i,i<8→0≤gD d i∧gD d i≤1000
theorem zEk {u:zR} (h:Unl u) {d:zA} (hd:Small d) (i:Nat) (hi:i<u.from_.length):gI u.to i≤bh u d i∧bh u d i≤gI u.from_ i∧0≤gD d i*u.step∧gD d i*u.step≤65536000:=by
 have hn:=h.n
 have h1:=hd i (by omega)
 have h2:=h.st
 have h3:=h.rng i hi
 have e1:0≤gD d i*u.step:=Int.mul_nonneg h1.1 (by omega)
 have e2:=zGd (a:=gD d i) (b:=u.step) (A:=1000) (B:=65536) (by omega) h1.2 (by omega) h2.2
 unfold bh
 omega
theorem zOq {u:zR} (h:Unl u) {d:zA} (hd:Small d):Rms u.ship (bhL u d):=⟨by rw [qw,h.rf.len],fun i hi=>by
 have hi2:i<u.from_.length:=by rw [h.rf.len]; exact hi
 have h1:=zEk h hd i hi2
 have h2:=h.rf.b i hi
 have h3:=h.rng i hi2
 rw [zDw u d i hi2]
 omega⟩
theorem zFX {u:zR} (h:Unl u) {d:zA} (hd:Small d):ja u d=some (bhL u d):=by
 have hn:=h.n
 unfold ja bhL
 refine zME (body:=JJ u d) (List.range u.from_.length) (by rw [List.length_range]; omega) (bh u d) (fun acc i=>(i,acc)) (fun acc=>acc) rfl (fun acc i hi hJ=>?_) ?_
 ·rw [List.length_range] at hi
  have hb:=zEk h hd i hi
  have hr:=h.rng i hi
  unfold JJ
  simp only
  rw [bi (by simpa using hi),jU hi,ba,jU (show i<d.toL.length by rw [qX]; omega),ba,jU (show i<u.to.length by rw [h.tl]; exact hi),ba,zCN,show gI d.toL i=gD d i from rfl,Zm (a:=gD d i*u.step) (by omega),Zm (by omega),Js (by rw [hJ]; simp; omega),ba,w64s i (by omega),List.getElem_range]
  rfl
 ·unfold JJ
  simp only
  rw [List.length_range,bg (by simp)]; rfl
theorem zPV {u:zR} (h:Unl u):bhL u yl=u.from_:=zDD (qw u yl) fun i hi=>by
 rw [qw] at hi
 have:=h.rng i hi
 rw [zDw u yl i hi]
 unfold bh
 rw [zMR]; omega
structure End (u:zR) (en:zA):Prop where
 a:∀ i,i<u.from_.length→gD en i=stN u i
 b:∀ i,u.from_.length≤i→i<8→gD en i=0
 c:∀ i,i<8→0≤gD en i∧gD en i≤60
theorem bh_end {u:zR} (h:Unl u) {en:zA} (he:End u en):bhL u en=u.to:=zDD (by rw [qw,h.tl]) fun i hi=>by
 rw [qw] at hi
 have h1:=zGv h i hi
 rw [zDw u en i hi]
 unfold bh
 rw [he.a i hi]; omega
def Val (en d:zA):Prop := ∀ i,i<8→0≤gD d i∧gD d i≤gD en i
theorem Val.small {u:zR} {en d:zA} (he:End u en) (h:Val en d):Small d:=fun i hi=>by have:=h i hi; have:=he.c i hi; omega
theorem Val.inc {en d:zA} (h:Val en d) {k:Nat} (hk:k<8) (hlt:gD d k<gD en k):Val en (incD d k):=fun i hi=>by
 have:=h i hi
 rw [zFY d k hk]
 split
 ·rename_i e; subst e; omega
 ·exact this
theorem Val.zero {u:zR} {en:zA} (he:End u en):Val en yl:=fun i hi=>by rw [zMR]; have:=he.c i hi; omega
theorem zLF {u:zR} (h:Unl u) {en d:zA} (he:End u en) (hd:Val en d) {k:Nat} (hk:k<u.from_.length) (hlt:gD d k<gD en k):1≤bh u d k - bh u (incD d k) k∧bh u d k - bh u (incD d k) k≤u.step:=by
 have hn:=h.n
 have h1:=zGv h k hk
 have h2:=h.st
 have h3:=h.rng k hk
 rw [he.a k hk] at hlt
 unfold bh
 rw [zFY d k (by omega),bi rfl,Int.add_mul,Int.one_mul]
 have:(gD d k+1)*u.step≤stN u k*u.step:=Int.mul_le_mul_of_nonneg_right (by omega) (by omega)
 rw [Int.add_mul,Int.one_mul] at this
 omega
theorem zPW {u:zR} (d:zA) {k:Nat} (hk:k<u.from_.length) (h8:k<8):(bhL u d).set k (bh u (incD d k) k)=bhL u (incD d k):=zDD (by simp [bhL]) fun i hi=>by
 have hi2:i<u.from_.length:=by simpa [bhL] using hi
 rw [jw (by rw [qw]; exact hk),zDw u (incD d k) i hi2]
 split
 ·rename_i e; subst e; rfl
 ·rename_i e
  rw [zDw u d i hi2]
  unfold bh
  rw [zFY d k h8,bg e]
def Trail (u:zR) (en:zA):zA→List ZH→Prop
 | d,[]=>d=en
 | d,p :: r => ∃ k:Nat,k<u.from_.length∧p.Hold=(k:Int)∧gD d k<gD en k∧p.Mass=bh u d k - bh u (incD d k) k∧Jj u.ship (bhL u (incD d k))=true∧Trail u en (incD d k) r
def sumD (d:zA):Int:=d.toL.sum
theorem zMt (d:zA) (k:Nat) (hk:k<8):sumD (incD d k)=sumD d+1:=by
 unfold sumD incD
 rw [zA.zEM,jh,zJB (by rw [qX]; exact hk)]
 unfold gD; omega
theorem Trail.len {u:zR} {en:zA} (hn:u.from_.length≤8):∀ (l:List ZH) (d:zA),Trail u en d l→(l.length:Int)=sumD en - sumD d
 | [],d,h=>by
  simp only [Trail] at h
  subst h; simp
 | p :: r,d,h=>by
  obtain ⟨k,k1,_,_,_,_,h6⟩:=h
  have:=Trail.len hn r _ h6
  rw [zMt d k (by omega)] at this
  simp only [bt]; omega
theorem Trail.at {u:zR} {en:zA} (hu:Unl u) (he:End u en):∀ (l:List ZH) (d:zA),Val en d→Trail u en d l→∀ i (hi:i<l.length),∃ c,Val en c∧Trail u en c (l[i] :: l.drop (i+1))∧(i=0→c=d)
 | [],d,_,_=>fun i hi=>by simp at hi
 | p :: r,d,hv,h=>fun i hi=>by
  cases i with
  | zero=>exact ⟨d,hv,h,fun _=>rfl⟩
  | succ i =>
   obtain ⟨k,k1,k2,k3,k4,k5,k6⟩:=h
   obtain ⟨c,c1,c2,_⟩:=Trail.at hu he r (incD d k) (hv.inc (by have:=hu.n; omega) k3) k6 i (by simpa using hi)
   exact ⟨c,c1,c2,fun e=>by omega⟩
theorem zH7 {u:zR} {en:zA} (hu:Unl u) (he:End u en) (l:List ZH) (hl:l.length≤60) (h:Trail u en yl l):YM u.ship u.from_ l=some (u.to,-1,0):=by
 have hn:=hu.n
 have hs:=GoodS.of hu.chk
 unfold YM
 rw [zJt hu.chk hu.rf,ba,bg (by simp),bg (by simp; omega),Js (by simp; omega),ba,List.nil_append]
 have e0:u.from_=bhL u yl:=(zPV hu).symm
 refine (jK (body:=YB u.ship l) (s0:=(-1,0,u.from_)) l (by omega) (fun (d:zA) i=>(-1,i,bhL u d)) (fun _ _=>((u.to,-1,0):List Int×Int×Int)) (fun i d=>Val en d∧Trail u en d (l.drop i)) (a:=yl) (by rw [← e0]) ⟨Val.zero he,h⟩ (fun d i hi hJ=>?_) (fun d hJ=>?_)).trans rfl
 ·left
  obtain ⟨hv,ht⟩:=hJ
  rw [List.drop_eq_getElem_cons hi] at ht
  obtain ⟨k,k1,k2,k3,k4,k5,k6⟩:=ht
  have hv2:=hv.inc (show k<8 by omega) k3
  have hm:=zLF hu he hv k1 k3
  have hb:=zEk hu (hv.small he) k k1
  have hb2:=zEk hu (hv2.small he) k k1
  have hr:=hu.rng k k1
  have hkb:k<(bhL u d).length:=by rw [qw]; exact k1
  unfold YB
  simp only
  have hw1:zT l[i].Hold 0 (w64 (((bhL u d).length:Int) - 1))=true:=by
   rw [qw,Zm (by omega),k2]
   unfold zT
   simp only [bn,bj]; omega
  have hw2:zT l[i].Mass 1 (bh u d k)=true:=by
   unfold zT
   simp only [bn,bj]; omega
  rw [bi (by simpa using hi),ZY hi,ba,hw1,k2,jU hkb,zDw u d k k1]
  simp only [Bool.not_true,Bool.not_false,gb,if_true,ba,Bool.false_or]
  rw [hw2]
  simp only [Bool.not_true,Bool.false_eq_true,if_false,show decide ((-1:Int)<0)=true by decide,if_true,Bool.true_and]
  have e1:bh u d k - l[i].Mass=bh u (incD d k) k:=by omega
  rw [Zm (by omega),e1,jh,zPW d k1 (by omega),zEe hs (zOq hu (hv2.small he)),k5]
  simp only [ba,Bool.not_true,Bool.false_eq_true,if_false]
  unfold Jm
  rw [w64s' hi (by omega)]
  exact ⟨incD d k,rfl,trivial,hv2,k6⟩
 ·obtain ⟨_,ht⟩:=hJ
  rw [List.drop_length] at ht
  simp only [Trail] at ht
  subst ht
  unfold YB
  simp only
  rw [bg (by simp),bh_end hu he]; rfl
end Go.Mh
