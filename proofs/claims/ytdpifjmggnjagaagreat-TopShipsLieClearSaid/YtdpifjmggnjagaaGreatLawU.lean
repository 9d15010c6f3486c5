/- Part of the proof of TopShipsLieClear: plain laws about the functions of M, no program in sight. Conditions: none. -/
import Derived.Test.YtdpifjmggnjagaaGreatM
import Derived.Test.YtdpifjmggnjagaaGreatOkp
set_option linter.unusedVariables false
namespace Go.Mx
theorem lp_inv' {σ ρ:Type} {body:σ→Option (σ ⊕ ρ)} {s0:σ} (I:Nat→σ→Prop) (P:ρ→Prop) (n:Nat) (hn:n<18446744073709551615) (h0:I 0 s0) (step:∀ i s,i≤n→I i s→(i<n∧∃ s',body s=some (.inl s')∧I (i+1) s')∨∃ r,body s=some (.inr r)∧P r):∃ r,Lp body fuel s0=some r∧P r:=by
 have key:∀ (m i:Nat) (s:σ),n<i+m→i≤n→I i s→∃ r,Lp body m s=some r∧P r:=by
  intro m
  induction m with
  | zero=>intro i s h h' hI; omega
  | succ m ih =>
   intro i s h h' hI
   rcases step i s h' hI with ⟨h1,s',h2,h3⟩ | ⟨r,h1,h2⟩
   ·rw [zEV m h2]; exact ih (i+1) s' (by omega) (by omega) h3
   ·rw [zDc m h1]; exact ⟨r,rfl,h2⟩
 exact key fuel 0 s0 (by unfold fuel; omega) (Nat.zero_le _) h0
theorem ZY {α:Type} {l:List α} {i:Nat} (h:i<l.length):ix l (i:Int)=some (l[i]'h):=by
 unfold ix
 rw [bi (by omega)]
 simp [h]
def Len {α:Type} (l:List α):Prop:=l.length≤9223372036854775807
theorem w64s (i:Nat) (h:i+1≤9223372036854775807):w64 ((i:Int)+1)=((i+1:Nat):Int):=by rw [zw (by omega) (by omega)]; omega
structure Good (c:zz):Prop where
 b0:0≤c.Begin
 b1:c.Begin≤1048576
 e0:1≤c.Every
 e1:c.Every≤120
 l0:1≤c.Heights.length
 l1:c.Heights.length≤60
 i0:1≤c.ID
 i1:c.ID≤1099511627776
 hs:∀ h∈c.Heights,-4000≤h∧h≤4000
theorem zIU (l:List Int) (hl:Len l):∃ r,Z9 l=some r∧((0≤r∧∃ h∈l,Ja h=true)∨(r = -1∧∀ h∈l,Ja h=false)):=by
 unfold Z9
 unfold Len at hl
 refine lp_inv' (fun i s=>s=(i:Int)∧∀ j (hj:j<l.length),j<i→Ja l[j]=false) _ l.length (by omega) ⟨rfl,fun j _ h=>by omega⟩ fun i s hi hI=>?_
 obtain ⟨rfl,hI⟩:=hI
 unfold jq
 by_cases h:i<l.length
 ·rw [bi (by simpa using h),ZY h]
  simp only [ba]
  by_cases hr:Ja l[i]=true
  ·rw [bi hr]; exact .inr ⟨_,rfl,.inl ⟨by omega,_,bz h,hr⟩⟩
  ·rw [bg hr]
   refine .inl ⟨h,_,rfl,w64s i (by omega),fun j hj hji=>?_⟩
   by_cases hj':j=i
   ·subst hj'; simpa using hr
   ·exact hI j hj (by omega)
 ·rw [bg (by simpa using h)]
  refine .inr ⟨-1,rfl,.inr ⟨rfl,fun x hx=>?_⟩⟩
  obtain ⟨j,hj,rfl⟩:=List.getElem_of_mem hx
  exact hI j hj (by omega)
theorem zOG (c:zz) (hl:Len c.Heights):∃ b,zAk c=some b∧(b=true→Good c):=by
 unfold zAk
 obtain ⟨r,h1,h2⟩:=zIU c.Heights hl
 have h3:ZR c.Heights=some (decide (0≤r)):=by unfold ZR; rw [h1]; rfl
 rw [h3]
 generalize hx:((((zu c.ID 1 1099511627776)&&(ji c.Begin))&&(zu c.Every 1 120))&&(zu (c.Heights.length:Int) 1 60))=x
 cases x with
 | false=>exact ⟨false,rfl,fun h=>by cases h⟩
 | true =>
  refine ⟨!decide (0≤r),rfl,fun h=>?_⟩
  simp only [ji,zu,bn,bj] at hx
  rcases h2 with ⟨h2,_⟩ | ⟨rfl,h2⟩
  ·simp [h2] at h
  ·refine ⟨by omega,by omega,by omega,by omega,by omega,by omega,by omega,by omega,fun y hy=>?_⟩
   have:=h2 y hy
   simpa [Ja,jZ,zu] using this
theorem zNu {a b:Int} (h0:0<b) (h1:b≤1099511627776) (ha : -1152921504606846976≤a) (hb:a≤1152921504606846976):zBl a b=some (a / b,a % b):=by
 have e1:rem a b=some (a.tmod b):=by unfold rem; rw [bg (by omega)]
 have l1:a.tmod b<b:=Int.tmod_lt_of_pos a h0
 have l2 : -b<a.tmod b:=by have:=Int.lt_tmod_of_pos a h0; omega
 have e2:w64 (a.tmod b+b)=a.tmod b+b:=zw (by omega) (by omega)
 have e3:rem (a.tmod b+b) b=some (a % b):=by
  unfold rem
  rw [bg (by omega)]
  congr 1
  rw [Int.tmod_eq_emod_of_nonneg (by omega),Int.add_emod_right]
  rw [Int.tmod_def]
  rw [show a - b*a.tdiv b=a+b*(-(a.tdiv b)) by rw [Int.mul_neg]; omega,Int.add_mul_emod_self_left]
 have m0:=Int.emod_nonneg a (show b≠0 by omega)
 have m1:=Int.emod_lt_of_pos a h0
 have e4:w64 (a - a % b)=a - a % b:=zw (by omega) (by omega)
 have hd:a - a % b=b*(a / b):=by have:=Int.emod_add_mul_ediv a b; omega
 have e5:quo (a - a % b) b=some (a / b):=by
  unfold quo
  rw [bg (by omega),hd,Int.mul_tdiv_cancel_left _ (by omega)]
  congr 1
  have k1:a / b≤1152921504606846976:=Int.le_trans (Int.ediv_le_ediv h0 hb) (by rcases Int.le_total 0 (1152921504606846976 / b) with h | h; exact Int.ediv_le_self _ (by omega); omega)
  have k2 : -1152921504606846976≤a / b:=by
   rw [Int.le_ediv_iff_mul_le h0]
   have:(-1152921504606846976:Int)*b≤-1152921504606846976*1:=Int.mul_le_mul_of_nonpos_left (by omega) (by omega)
   omega
  exact zw (by omega) (by omega)
 unfold zBl
 rw [e1,ba,e2,e3,ba,e4,e5,ba]
def val (c:zz) (t:Int):Int:=c.Heights.getD (((t - c.Begin) / c.Every % c.Heights.length).toNat) 0
theorem zQO {c:zz} (hg:Good c) {t:Int} (h0 : -1099511627776≤t) (h1:t≤1099511627776):zCz c t=some (val c t):=by
 have g:=hg
 obtain ⟨b0,b1,e0,e1,l0,l1,i0,i1,hs⟩:=g
 unfold zCz
 rw [zw (by omega) (by omega),zNu (by omega) (by omega) (by omega) (by omega),ba]
 have k1:(t - c.Begin) / c.Every≤1152921504606846976:=Int.le_trans (Int.ediv_le_ediv (c:=c.Every) (by omega) (show t - c.Begin≤1152921504606846976 by omega)) (Int.ediv_le_self _ (by omega))
 have k2 : -1152921504606846976≤(t - c.Begin) / c.Every:=by
  rw [Int.le_ediv_iff_mul_le (by omega)]
  have:(-1152921504606846976:Int)*c.Every≤-1152921504606846976*1:=Int.mul_le_mul_of_nonpos_left (by omega) (by omega)
  omega
 simp only
 rw [zNu (by omega) (by omega) k2 k1,ba]
 have m0:=Int.emod_nonneg ((t - c.Begin) / c.Every) (show (c.Heights.length:Int)≠0 by omega)
 have m1:=Int.emod_lt_of_pos ((t - c.Begin) / c.Every) (show 0<(c.Heights.length:Int) by omega)
 unfold ix val
 rw [bi m0,List.getElem?_eq_getElem (by omega),List.getD_eq_getElem?_getD,List.getElem?_eq_getElem (by omega)]
 rfl
theorem zKs {c:zz} (hg:Good c) (t:Int) : -4000≤val c t∧val c t≤4000:=by
 unfold val
 have m0:=Int.emod_nonneg ((t - c.Begin) / c.Every) (show (c.Heights.length:Int)≠0 by have:=hg.l0; omega)
 have m1:=Int.emod_lt_of_pos ((t - c.Begin) / c.Every) (show 0<(c.Heights.length:Int) by have:=hg.l0; omega)
 rw [List.getD_eq_getElem?_getD,List.getElem?_eq_getElem (by omega)]
 exact hg.hs _ (bz _)
structure zKQ (w:zW):Prop where
 l0 : -4000≤w.Level
 l1:w.Level≤4000
 nc:w.Cycles.length≤6
 ns:w.Shifts.length≤20
 cs:∀ c∈w.Cycles,Good c
 ss:∀ s∈w.Shifts,-4000≤s.Add∧s.Add≤4000
structure LenW (w:zW):Prop where
 c:Len w.Cycles
 s:Len w.Shifts
 h:∀ c∈w.Cycles,Len c.Heights
theorem LenW.of {w:zW} (h:zET w):LenW w:=⟨h.2.1.1,h.2.2.1.1,fun c hc=>(h.2.1.2 c hc).2.2.2.1.1⟩
theorem zQ8 (l:List zz) (c:zz) (hl:Len l):∃ r,ZJ l c=some r:=by
 unfold ZJ
 unfold Len at hl
 suffices h:∃ r,Lp (Zd l c) fuel 0=some r∧True by obtain ⟨r,h,_⟩:=h; exact ⟨r,h⟩
 refine lp_inv' (fun i s=>s=(i:Int)) _ l.length (by omega) rfl fun i s hi hI=>?_
 subst hI
 unfold Zd
 by_cases h:i<l.length
 ·rw [bi (by simpa using h),ZY h]
  simp only [ba]
  by_cases hr:QH l[i] c=true
  ·rw [bi hr]; exact .inr ⟨_,rfl,trivial⟩
  ·rw [bg hr]; exact .inl ⟨h,_,rfl,w64s i (by omega)⟩
 ·rw [bg (by simpa using h)]; exact .inr ⟨_,rfl,trivial⟩
theorem zRZ (w:zW) (hn:w.Shifts.length≤20):∃ e,ym w=some e∧(e=0→∀ s∈w.Shifts,-4000≤s.Add∧s.Add≤4000):=by
 unfold ym
 refine lp_inv' (fun i s=>s.2=(i:Int)∧∀ j (hj:j<w.Shifts.length),j<i→-4000≤w.Shifts[j].Add∧w.Shifts[j].Add≤4000) _ w.Shifts.length (by omega) ⟨rfl,fun j _ h=>by omega⟩ fun i s hi hI=>?_
 obtain ⟨last,x⟩:=s
 obtain ⟨rfl,hI⟩:=hI
 unfold zAL
 by_cases h:i<w.Shifts.length
 ·simp only
  rw [bi (by simpa using h),ZY h]
  simp only [ba]
  split
  ·exact .inr ⟨1,rfl,fun h=>by cases h⟩
  ·rename_i hc
   refine .inl ⟨h,_,rfl,w64s i (by omega),fun j hj hji=>?_⟩
   by_cases hj':j=i
   ·subst hj'
    simp only [Bool.or_eq_true,not_or,Bool.not_eq_true,Bool.not_eq_false',jZ,zu,bn,bj] at hc
    exact hc.2
   ·exact hI j hj (by omega)
 ·simp only
  rw [bg (by simpa using h)]
  refine .inr ⟨0,rfl,fun _ x hx=>?_⟩
  obtain ⟨j,hj,rfl⟩:=List.getElem_of_mem hx
  exact hI j hj (by omega)
theorem zIv {α:Type} {l:List α} {i:Nat} (h:i≤l.length):sub l 0 (i:Int)=some (l.take i):=by
 unfold sub
 rw [bi ⟨by omega,by omega,by omega⟩]
 simp
theorem zOn (w:zW) (hw:LenW w):∃ e,QI w=some e∧(e=0→zKQ w):=by
 unfold QI
 by_cases h1:jZ w.Level=true
 ·rw [bg (by simp [h1])]
  simp only [jZ,zu,bn,bj] at h1
  split
  ·exact ⟨2,rfl,fun h=>by cases h⟩
  ·rename_i h2
   simp only [Bool.or_eq_true,bj,not_or] at h2
   refine lp_inv' (fun i s=>s=(i:Int)∧∀ j (hj:j<w.Cycles.length),j<i→Good w.Cycles[j]) _ w.Cycles.length (by omega) ⟨rfl,fun j _ h=>by omega⟩ fun i s hi hI=>?_
   obtain ⟨rfl,hI⟩:=hI
   unfold zAK
   by_cases h:i<w.Cycles.length
   ·rw [bi (by simpa using h),ZY h]
    simp only [ba]
    obtain ⟨b,hb,hg⟩:=zOG w.Cycles[i] (hw.h _ (bz h))
    rw [hb]
    simp only [ba]
    cases b with
    | false=>exact .inr ⟨1,rfl,fun h=>by cases h⟩
    | true =>
     simp only [Bool.not_true,Bool.false_eq_true,if_false]
     obtain ⟨r,hr⟩:=zQ8 (w.Cycles.take i) w.Cycles[i] (by unfold Len; simp; omega)
     rw [zIv (by omega)]
     unfold ZP
     simp only [ba,hr]
     split
     ·exact .inr ⟨6,rfl,fun h=>by cases h⟩
     ·refine .inl ⟨h,_,rfl,w64s i (by omega),fun j hj hji=>?_⟩
      by_cases hj':j=i
      ·subst hj'; exact hg rfl
      ·exact hI j hj (by omega)
   ·rw [bg (by simpa using h)]
    obtain ⟨e,he,hs⟩:=zRZ w (by omega)
    rw [he]
    refine .inr ⟨e,rfl,fun h0=>⟨h1.1,h1.2,by omega,by omega,fun c hc=>?_,hs h0⟩⟩
    obtain ⟨j,hj,rfl⟩:=List.getElem_of_mem hc
    exact hI j hj (by omega)
 ·rw [bi (by simp [h1])]; exact ⟨1,rfl,fun h=>by cases h⟩
def corr : List Y4→Int→Int
 | [],_=>0
 | s :: r,t=>if s.From≤t / 1440∧t / 1440≤s.To then s.Add else corr r t
theorem zGj : ∀ (l:List Y4) (t:Int),(∀ s∈l,-4000≤s.Add∧s.Add≤4000)→-4000≤corr l t∧corr l t≤4000
 | [],t,_=>by simp [corr]
 | s :: r,t,h=>by
  unfold corr
  split
  ·exact h s bp
  ·exact zGj r t fun x hx=>h x (bq _ hx)
theorem zLb (l:List Y4) (t:Int):∀ i,(∀ j (hj:j<l.length),j<i→¬ (l[j].From≤t / 1440∧t / 1440≤l[j].To))→corr l t=corr (l.drop i) t:=by
 intro i
 induction i with
 | zero=>intro _; simp
 | succ i ih =>
  intro h
  rw [ih fun j hj hji=>h j hj (by omega)]
  by_cases hi:i<l.length
  ·rw [List.drop_eq_getElem_cons hi]
   simp only [corr]
   rw [bg (h i hi (by omega))]
  ·rw [List.drop_eq_nil_of_le (by omega),List.drop_eq_nil_of_le (by omega)]
theorem zKp (w:zW) (hn:w.Shifts.length≤20) (t:Int) (h0:0≤t) (h1:t≤1099511627776):QQ w t=some (corr w.Shifts t):=by
 unfold QQ
 suffices h:∃ r,Lp (QG w t) fuel 0=some r∧r=corr w.Shifts t by obtain ⟨r,h,rfl⟩:=h; exact h
 have hq:quo t 1440=some (t / 1440):=by
  unfold quo
  rw [bg (by omega),Int.tdiv_eq_ediv_of_nonneg h0,zw (by omega) (by omega)]
 refine lp_inv' (fun i s=>s=(i:Int)∧∀ j (hj:j<w.Shifts.length),j<i→¬ (w.Shifts[j].From≤t / 1440∧t / 1440≤w.Shifts[j].To)) _ w.Shifts.length (by omega) ⟨rfl,fun j _ h=>by omega⟩ fun i s hi hI=>?_
 obtain ⟨rfl,hI⟩:=hI
 unfold QG
 by_cases h:i<w.Shifts.length
 ·rw [bi (by simpa using h),ZY h,hq]
  simp only [ba]
  by_cases hr:w.Shifts[i].From≤t / 1440∧t / 1440≤w.Shifts[i].To
  ·rw [bi (by simpa [zu] using hr)]
   refine .inr ⟨_,rfl,?_⟩
   rw [zLb w.Shifts t i hI,List.drop_eq_getElem_cons h]
   simp only [corr]
   rw [bi hr]
  ·rw [bg (by simpa [zu] using hr)]
   refine .inl ⟨h,_,rfl,w64s i (by omega),fun j hj hji=>?_⟩
   by_cases hj':j=i
   ·subst hj'; exact hr
   ·exact hI j hj (by omega)
 ·rw [bg (by simpa using h)]
  refine .inr ⟨0,rfl,?_⟩
  rw [zLb w.Shifts t i hI,List.drop_eq_nil_of_le (by omega)]
  rfl
def hgt (w:zW) (t:Int):Int:=w.Level+corr w.Shifts t+(w.Cycles.map fun c=>val c t).sum
theorem zHl : ∀ (l:List zz) (t:Int),(∀ c∈l,Good c)→-4000*l.length≤(l.map fun c=>val c t).sum∧(l.map fun c=>val c t).sum≤4000*l.length
 | [],t,_=>by simp
 | c :: r,t,h=>by
  have h1:=zKs (h c bp) t
  have h2:=zHl r t fun x hx=>h x (bq _ hx)
  simp only [bw,List.sum_cons,bt]
  omega
theorem zP5 {w:zW} (hw:zKQ w) (t:Int) : -32000≤hgt w t∧hgt w t≤32000:=by
 unfold hgt
 have h1:=zGj w.Shifts t hw.ss
 have h2:=zHl w.Cycles t hw.cs
 have h3:=hw.nc
 have h4:=hw.l0
 have h5:=hw.l1
 omega
theorem zDJ {w:zW} (hw:zKQ w) {t:Int} (h0:0≤t) (h1:t≤1099511627776):yz t w w=some (hgt w t):=by
 unfold yz
 suffices h:∃ r,Lp (Qy t w w) fuel (w.Level,-1)=some r∧r=hgt w t by obtain ⟨r,h,rfl⟩:=h; exact h
 have hc:=zKp w hw.ns t h0 h1
 have b1:=zGj w.Shifts t hw.ss
 have l0:=hw.l0
 have l1:=hw.l1
 have nc:=hw.nc
 refine lp_inv' (fun i s=>s.2=(i:Int) - 1∧s.1=w.Level+(if i=0 then 0 else corr w.Shifts t)+((w.Cycles.take (i - 1)).map fun c=>val c t).sum) _ (w.Cycles.length+1) (by omega) ⟨rfl,by simp⟩ fun i s hi hI=>?_
 obtain ⟨a,b⟩:=s
 simp only at hI
 obtain ⟨rfl,rfl⟩:=hI
 unfold Qy
 simp only
 by_cases hz:i=0
 ·subst hz
  rw [bi (by simp; omega),bi (by simp)]
  unfold zCf
  rw [hc]
  refine .inl ⟨by omega,_,rfl,?_,?_⟩
  ·simp; decide
  ·simp only [if_true,List.take_zero,List.map_nil,List.sum_nil,Nat.zero_sub,Nat.zero_add,Nat.sub_self]
   rw [zw (by omega) (by omega)]
   simp
 ·obtain ⟨k,rfl⟩:∃ k,i=k+1:=⟨i - 1,by omega⟩
  simp only [Nat.add_sub_cancel]
  rw [show ((k+1:Nat):Int) - 1=(k:Int) by omega]
  by_cases h:k<w.Cycles.length
  ·rw [bi (by simpa using h),bg (by simp),ZY h]
   simp only [ba]
   unfold zCe
   have hg:=hw.cs _ (bz h)
   rw [zQO hg (by omega) h1]
   have b2:=zHl (w.Cycles.take k) t fun x hx=>hw.cs x (List.mem_of_mem_take hx)
   have b3:=zKs hg t
   rw [List.length_take] at b2
   refine .inl ⟨by omega,_,rfl,?_,?_⟩
   ·simp only; rw [zw (by omega) (by omega)]; try omega
   ·simp only [bg (Nat.succ_ne_zero _)]
    rw [zw (by omega) (by omega)]
    rw [List.take_add_one,List.getElem?_eq_getElem h]
    simp only [Option.toList_some,List.map_append,bw,List.map_nil,List.sum_append,List.sum_cons,List.sum_nil]
    omega
  ·rw [bg (by simpa using h)]
   refine .inr ⟨_,rfl,?_⟩
   rw [bg (by omega),List.take_of_length_le (by omega)]
   rfl
end Go.Mx
