/- Part of the proof of TopShipsLieClear: plain laws about the functions of M, no program in sight. Conditions: none. -/
import Derived.Test.YtdpifjmggnjagaaGreatLawYb
set_option linter.unusedVariables false
set_option linter.unusedSimpArgs false
namespace Go.Mx
theorem Qz {σ ρ:Type} {body:σ→Option (σ ⊕ ρ)} {X:σ→Option ρ} {s0:σ} (I:Nat→σ→Prop) (n:Nat) (hn:n<18446744073709551615) (h0:I 0 s0) (step:∀ i s,i<n→I i s→∃ s',body s=some (.inl s')∧I (i+1) s') (last:∀ s,I n s→body s=(X s).map Sum.inr):∃ s,I n s∧Lp body fuel s0=X s:=by
 have key:∀ (m i:Nat) (s:σ),n<i+m→i≤n→I i s→∃ s',I n s'∧Lp body m s=X s':=by
  intro m
  induction m with
  | zero=>intro i s h h' hI; omega
  | succ m ih =>
   intro i s h h' hI
   by_cases e:i=n
   ·subst e
    refine ⟨s,hI,?_⟩
    have:=last s hI
    cases hx:X s with
    | none=>rw [hx] at this; simp only [Option.map_none] at this; simp [Lp,this]
    | some r=>rw [hx] at this; exact zDc m this
   ·obtain ⟨s',q1,q2⟩:=step i s (by omega) hI
    rw [zEV m q1]
    exact ih (i+1) s' (by omega) (by omega) q2
 exact key fuel 0 s0 (by unfold fuel; omega) (Nat.zero_le _) h0
def gB (l:List Bool) (i:Nat):Bool:=l.getD i false
theorem zQ7 {l:List Bool} {i:Nat} (h:i<l.length):ix l (i:Int)=some (gB l i):=by
 rw [ZY h]; simp [gB,List.getD_eq_getElem?_getD,h]
theorem gB_set {l:List Bool} {i:Nat} (h:i<l.length) (v:Bool) (j:Nat):gB (l.set i v) j=if j=i then v else gB l j:=by
 unfold gB
 rw [List.getD_eq_getElem?_getD,List.getD_eq_getElem?_getD,List.getElem?_set]
 by_cases e:j=i
 ·subst e; simp [h]
 ·rw [bg (fun q=>e q.symm),bg e]
theorem gI_rep (n i:Nat) (x:Int) (h:i<n):gI (List.replicate n x) i=x:=by
 rw [Jb (by simpa using h)]; simp
theorem gB_rep (n i:Nat):gB (List.replicate n false) i=false:=by
 unfold gB
 rw [List.getD_eq_getElem?_getD,List.getElem?_replicate]
 split <;> rfl
theorem zOd {l:List Int} {i:Nat} (h:l.length≤i):gI l i=0:=by
 unfold gI
 rw [List.getD_eq_getElem?_getD,List.getElem?_eq_none h]; rfl
def cC (cost:List (List Int)) (r k:Nat):Int:=gI (cost.getD (r - 1) []) (k - 1)
structure zBe (cost:List (List Int)) (p:Nat):Prop where
 hn:cost.length≤p
 hp:p≤1000
 r:∀ row∈cost,row.length=p∧∀ x∈row,-1001≤x∧x≤1073741824
theorem zBe.row {cost:List (List Int)} {p:Nat} (h:zBe cost p) {r:Nat} (h1:1≤r) (h2:r≤cost.length):ix cost (w64 ((r:Int) - 1))=some (cost.getD (r - 1) [])∧(cost.getD (r - 1) []).length=p:=by
 have hp:=h.hp; have hn:=h.hn
 have hl:r - 1<cost.length:=by omega
 rw [zw (by omega) (by omega),show (r:Int) - 1=((r - 1:Nat):Int) by omega,ZY hl]
 have e:cost.getD (r - 1) []=cost[r - 1]:=by simp [List.getD_eq_getElem?_getD,hl]
 rw [e]
 exact ⟨rfl,(h.r _ (bz hl)).1⟩
theorem zBe.at {cost:List (List Int)} {p:Nat} (h:zBe cost p) {r k:Nat} (h1:1≤r) (h2:r≤cost.length) (h3:1≤k) (h4:k≤p):ix (cost.getD (r - 1) []) (w64 ((k:Int) - 1))=some (cC cost r k)∧-1001≤cC cost r k∧cC cost r k≤1073741824:=by
 have hp:=h.hp
 obtain ⟨q1,q2⟩:=h.row h1 h2
 have hl:k - 1<(cost.getD (r - 1) []).length:=by omega
 have hm:cost.getD (r - 1) []∈cost:=by
  have:r - 1<cost.length:=by omega
  rw [show cost.getD (r - 1) []=cost[r - 1] by simp [List.getD_eq_getElem?_getD,this]]
  exact bz this
 rw [zw (by omega) (by omega),show (k:Int) - 1=((k - 1:Nat):Int) by omega,jU hl]
 refine ⟨rfl,?_⟩
 have:=(h.r _ hm).2 _ (bz hl)
 rw [← Jb hl] at this
 exact this
structure zPZ (cost:List (List Int)) (p:Nat) (at_ x:Nat) (row col:List Int) (U:Nat→Bool) (least fr:List Int) (k:Nat) (next step:Int) (least' fr':List Int):Prop where
 l1:least'.length=p+1
 l2:fr'.length=p+1
 lo:∀ j,1≤j→j<k→U j=false→gI least' j≤gI least j∧gI least' j≤cC cost x j - gI row x - gI col j∧((gI least' j=gI least j∧gI fr' j=gI fr j)∨(gI least' j=cC cost x j - gI row x - gI col j∧gI fr' j=at_))∧step≤gI least' j
 no:∀ j,¬ (1≤j∧j<k∧U j=false)→gI least' j=gI least j∧gI fr' j=gI fr j
 nx:(next=0∧step=4294967296)∨∃ m:Nat,next=(m:Int)∧1≤m∧m<k∧U m=false∧step=gI least' m∧step<4294967296
theorem scan_eq {cost:List (List Int)} {p:Nat} (hc:zBe cost p) {at_ x i:Nat} {of row col least fr:List Int} {used:List Bool} (hx1:1≤x) (hx2:x≤cost.length) (ha:at_≤p)
  (hr:row.length=cost.length+1) (hcl:col.length=p+1) (hl:least.length=p+1) (hf:fr.length=p+1) (hu:used.length=p+1)
  (br : -9007199254740992≤gI row x∧gI row x≤9007199254740992) (bc:∀ k,1≤k→k≤p→-9007199254740992≤gI col k∧gI col k≤9007199254740992) :
  ∃ (next step:Int) (least' fr':List Int),zPZ cost p at_ x row col (gB (used.set at_ true)) least fr (p+1) next step least' fr' ∧
   Lp (yw cost (p:Int) (i:Int) of (at_:Int) row col used (x:Int)) fuel (0,4294967296,1,least,fr)=Jp (i:Int) of (at_:Int) row col used next step least' fr':=by
 have hp:=hc.hp
 have key:=Qz (body:=yw cost (p:Int) (i:Int) of (at_:Int) row col used (x:Int)) (X:=fun s=>Jp (i:Int) of (at_:Int) row col used s.1 s.2.1 s.2.2.2.1 s.2.2.2.2) (s0:=(0,4294967296,1,least,fr))
  (fun j s=>s.2.2.1=((j+1:Nat):Int)∧zPZ cost p at_ x row col (gB (used.set at_ true)) least fr (j+1) s.1 s.2.1 s.2.2.2.1 s.2.2.2.2) p (by omega)
  ⟨rfl,hl,hf,fun j h1 h2=>by omega,fun j _=>⟨rfl,rfl⟩,.inl ⟨rfl,rfl⟩⟩
  (fun j s hj hI=>by
   obtain ⟨next,step,k,ls,f⟩:=s
   simp only at hI
   obtain ⟨rfl,hI⟩:=hI
   have hj3:∀ (a b:Int) (z y:List Int),JW ((j+1:Nat):Int) a b z y=some (.inl (a,b,((j+1+1:Nat):Int),z,y)):=by
    intro a b z y
    unfold JW
    rw [zw (by omega) (by omega)]; rfl
   unfold yw
   simp only
   rw [bi (by simp; omega),show put used (at_:Int) true=used.set at_ true from rfl,zQ7 (by rw [List.length_set]; omega),ba]
   by_cases hU:gB (used.set at_ true) (j+1)=true
   ·rw [bi hU,hj3]
    refine ⟨_,rfl,rfl,hI.l1,hI.l2,fun q h1 h2 h3=>?_,fun q hq=>hI.no q fun e=>hq ⟨e.1,by omega,e.2.2⟩,?_⟩
    ·by_cases e:q=j+1
     ·subst e; rw [hU] at h3; cases h3
     ·exact hI.lo q h1 (by omega) h3
    ·rcases hI.nx with h | ⟨m,h1,h2,h3,h4⟩
     ·exact .inl h
     ·exact .inr ⟨m,h1,h2,by omega,h4⟩
   ·rw [bg hU]
    have hU':gB (used.set at_ true) (j+1)=false:=by simpa using hU
    obtain ⟨q1,q2⟩:=hc.row hx1 hx2
    obtain ⟨q3,q4,q5⟩:=hc.at hx1 hx2 (k:=j+1) (by omega) (by omega)
    have bcj:=bc (j+1) (by omega) (by omega)
    have e1:=hI.no (j+1) (fun e=>by omega)
    have hL:=hI.l1; have hF:=hI.l2
    rw [q1,ba,q3,ba,jU (by omega),ba,jU (by omega),ba,jU (by omega),ba,
     zw (n:=cC cost x (j+1) - gI row x) (by omega) (by omega),zw (by omega) (by omega)]
    -- the end of a round
    have fin:∀ (z y:List Int),z.length=p+1→y.length=p+1→(∀ q,q≠j+1→gI z q=gI ls q∧gI y q=gI f q) →
      (gI z (j+1)≤gI least (j+1)∧gI z (j+1)≤cC cost x (j+1) - gI row x - gI col (j+1)∧((gI z (j+1)=gI least (j+1)∧gI y (j+1)=gI fr (j+1))∨(gI z (j+1)=cC cost x (j+1) - gI row x - gI col (j+1)∧gI y (j+1)=at_))) →
      ∃ s',Jn next step ((j+1:Nat):Int) z y=some (.inl s')∧s'.2.2.1=((j+1+1:Nat):Int)∧zPZ cost p at_ x row col (gB (used.set at_ true)) least fr (j+1+1) s'.1 s'.2.1 s'.2.2.2.1 s'.2.2.2.2:=by
     intro z y hz hy hq hn
     unfold Jn
     rw [jU (by omega),ba]
     have base:∀ (a b:Int),b≤step→b≤gI z (j+1)→((a=0∧b=4294967296)∨∃ m:Nat,a=(m:Int)∧1≤m∧m<j+1+1∧gB (used.set at_ true) m=false∧b=gI z m∧b<4294967296)→zPZ cost p at_ x row col (gB (used.set at_ true)) least fr (j+1+1) a b z y:=by
      intro a b hb1 hb2 hb3
      refine ⟨hz,hy,fun q h1 h2 h3=>?_,fun q h1=>?_,hb3⟩
      ·by_cases e:q=j+1
       ·subst e; exact ⟨hn.1,hn.2.1,hn.2.2,hb2⟩
       ·obtain ⟨r1,r2,r3,r4⟩:=hI.lo q h1 (by omega) h3
        obtain ⟨s1,s2⟩:=hq q e
        rw [s1,s2]
        exact ⟨r1,r2,r3,by omega⟩
      ·have e:q≠j+1:=fun e=>h1 ⟨by omega,by omega,by rw [e]; exact hU'⟩
       obtain ⟨s1,s2⟩:=hq q e
       rw [s1,s2]
       exact hI.no q fun w=>h1 ⟨w.1,by omega,w.2.2⟩
     by_cases hs:gI z (j+1)<step
     ·rw [bi (by simpa using hs),ba,hj3]
      have h4:step≤4294967296:=by
       rcases hI.nx with h | ⟨m,h1,h2,h3,h4,h5,h6⟩
       ·omega
       ·omega
      exact ⟨_,rfl,rfl,base ((j+1:Nat):Int) (gI z (j+1)) (by omega) (Int.le_refl _) (.inr ⟨j+1,rfl,by omega,by omega,hU',rfl,by omega⟩)⟩
     ·rw [bg (by simpa using hs),hj3]
      refine ⟨_,rfl,rfl,base next step (Int.le_refl _) (by omega) ?_⟩
      rcases hI.nx with h | ⟨m,h1,h2,h3,h4,h5,h6⟩
      ·exact .inl h
      ·refine .inr ⟨m,h1,h2,by omega,h4,?_,h6⟩
       rw [(hq m (by omega)).1]; exact h5
    by_cases hlt:cC cost x (j+1) - gI row x - gI col (j+1)<gI ls (j+1)
    ·rw [bi (by simpa using hlt),ba,jU (by omega),ba,jh,jh]
     refine fin _ _ (by rw [List.length_set]; exact hL) (by rw [List.length_set]; exact hF) (fun q hq=>?_) ?_
     ·rw [jw (by omega),jw (by omega),bg hq,bg hq]; exact ⟨rfl,rfl⟩
     ·rw [jw (by omega),jw (by omega),bi rfl,bi rfl]
      exact ⟨by omega,Int.le_refl _,.inr ⟨rfl,rfl⟩⟩
    ·rw [bg (by simpa using hlt)]
     exact fin _ _ hL hF (fun q hq=>⟨rfl,rfl⟩) ⟨by omega,by omega,.inl e1⟩)
  (fun s hI=>by
   obtain ⟨next,step,k,ls,f⟩:=s
   simp only at hI
   obtain ⟨rfl,hI⟩:=hI
   unfold yw
   simp only
   rw [bg (by rw [bj]; omega)])
 obtain ⟨⟨next,step,k,ls,f⟩,⟨h1,h2⟩,h3⟩:=key
 exact ⟨next,step,ls,f,h2,h3⟩
structure UpdI (n p:Nat) (O:Nat→Nat) (U:Nat→Bool) (step:Int) (row col least:List Int) (k:Nat) (row' col' least':List Int):Prop where
 l1:row'.length=n+1
 l2:col'.length=p+1
 l3:least'.length=p+1
 u1:∀ j,j<k→U j=true→gI row' (O j)=gI row (O j)+step
 u2:∀ r,(∀ j,j<k→U j=true→O j≠r)→gI row' r=gI row r
 v1:∀ j,gI col' j=if j<k∧U j=true then gI col j - step else gI col j
 m1:∀ j,gI least' j=if j<k∧U j=false then gI least j - step else gI least j
theorem upd_eq {n p i at_:Nat} {of row col least fr:List Int} {used:List Bool} {next step:Int} (hn:n≤1000) (hp:p≤1000) (ha:at_≤p) (hr:row.length=n+1) (hcl:col.length=p+1) (hl:least.length=p+1) (hu:used.length=p+1) (ho:of.length=p+1)
  {O:Nat→Nat} (hO:∀ j,j≤p→gI (of.set 0 (i:Int)) j=(O j:Int)) (hO2:∀ j,j≤p→gB (used.set at_ true) j=true→O j≤n) (hO3:∀ j k,j≤p→k≤p→gB (used.set at_ true) j=true→gB (used.set at_ true) k=true→O j=O k→j=k)
  (bs : -9007199254740992≤step∧step≤9007199254740992) (br:∀ r,-9007199254740992≤gI row r∧gI row r≤9007199254740992) (bc:∀ k,-9007199254740992≤gI col k∧gI col k≤9007199254740992) (bl:∀ k,k≤p→gB (used.set at_ true) k=false→-9007199254740992≤gI least k∧gI least k≤9007199254740992) :
  ∃ row' col' least',UpdI n p O (gB (used.set at_ true)) step row col least (p+1) row' col' least' ∧
   Lp (yx (i:Int) of (at_:Int) used next step fr) fuel (0,row,col,least)=JX (i:Int) of (at_:Int) used next fr row' col' least':=by
 have hlen:(put used (at_:Int) true).length=p+1:=by rw [jh,List.length_set]; exact hu
 have key:=Qz (body:=yx (i:Int) of (at_:Int) used next step fr) (X:=fun s=>JX (i:Int) of (at_:Int) used next fr s.2.1 s.2.2.1 s.2.2.2) (s0:=(0,row,col,least))
  (fun j s=>s.1=(j:Int)∧UpdI n p O (gB (used.set at_ true)) step row col least j s.2.1 s.2.2.1 s.2.2.2) (p+1) (by omega)
  ⟨rfl,hr,hcl,hl,fun j h=>by omega,fun r _=>rfl,fun j=>by rw [bg (by omega)],fun j=>by rw [bg (by omega)]⟩
  (fun j s hj hI=>by
   obtain ⟨k,rw',cl,ls⟩:=s
   simp only at hI
   obtain ⟨rfl,hI⟩:=hI
   have hL1:=hI.l1; have hL2:=hI.l2; have hL3:=hI.l3
   have hj3:∀ (a b c:List Int),Jo (j:Int) a b c=some (.inl (((j+1:Nat):Int),a,b,c)):=by
    intro a b c
    unfold Jo
    rw [zw (by omega) (by omega)]; rfl
   unfold yx
   simp only
   rw [bi (by rw [hlen,bj]; omega),show put used (at_:Int) true=used.set at_ true from rfl,zQ7 (by rw [List.length_set]; omega),ba]
   have hvj:=hI.v1 j
   have hmj:=hI.m1 j
   rw [bg (by omega)] at hvj hmj
   by_cases hU:gB (used.set at_ true) j=true
   ·have hOj:=hO2 j (by omega) hU
    have hrj:gI rw' (O j)=gI row (O j):=hI.u2 _ fun q hq hq2 e=>by
     have:=hO3 q j (by omega) (by omega) hq2 hU e; omega
    have b1:=br (O j); have b2:=bc j
    rw [bi hU,show put of 0 (i:Int)=of.set 0 (i:Int) from rfl,jU (by rw [List.length_set]; omega),ba,hO j (by omega),jU (by omega),ba,ba,jU (by omega),ba,ba,
     hrj,hvj,zw (n:=gI row (O j)+step) (by omega) (by omega),zw (n:=gI col j - step) (by omega) (by omega),jh,jh,hj3]
    refine ⟨_,rfl,rfl,by simp only [List.length_set]; exact hL1,by simp only [List.length_set]; exact hL2,hL3,fun q h1 h2=>?_,fun r h=>?_,fun q=>?_,fun q=>?_⟩
    ·simp only
     rw [jw (by omega)]
     by_cases e:q=j
     ·subst e; rw [bi rfl]
     ·rw [bg (fun w=>e (hO3 q j (by omega) (by omega) h2 hU w))]
      exact hI.u1 q (by omega) h2
    ·simp only
     rw [jw (by omega),bg (fun w=>h j (by omega) hU w.symm)]
     exact hI.u2 r fun q h1 h2=>h q (by omega) h2
    ·simp only
     rw [jw (by omega)]
     by_cases e:q=j
     ·subst e; rw [bi rfl,bi ⟨by omega,hU⟩]
     ·rw [bg e,hI.v1 q]
      by_cases w:q<j∧gB (used.set at_ true) q=true
      ·rw [bi w,bi ⟨by omega,w.2⟩]
      ·rw [bg w,bg (fun z=>w ⟨by omega,z.2⟩)]
    ·simp only
     rw [hI.m1 q]
     by_cases w:q<j∧gB (used.set at_ true) q=false
     ·rw [bi w,bi ⟨by omega,w.2⟩]
     ·rw [bg w,bg (fun z=>w ⟨by
       have:q≠j:=fun e=>by rw [e,hU] at z; cases z.2
       omega,z.2⟩)]
   ·have hU':gB (used.set at_ true) j=false:=by simpa using hU
    have b3:=bl j (by omega) hU'
    rw [bg hU,jU (by omega),ba,ba,hmj,zw (by omega) (by omega),jh,hj3]
    refine ⟨_,rfl,rfl,hL1,hL2,by simp only [List.length_set]; exact hL3,fun q h1 h2=>?_,fun r h=>hI.u2 r fun q h1 h2=>h q (by omega) h2,fun q=>?_,fun q=>?_⟩
    ·have:q≠j:=fun e=>by rw [e,hU'] at h2; cases h2
     exact hI.u1 q (by omega) h2
    ·simp only
     rw [hI.v1 q]
     by_cases w:q<j∧gB (used.set at_ true) q=true
     ·rw [bi w,bi ⟨by omega,w.2⟩]
     ·rw [bg w,bg (fun z=>w ⟨by
       have:q≠j:=fun e=>by rw [e,hU'] at z; cases z.2
       omega,z.2⟩)]
    ·simp only
     rw [jw (by omega)]
     by_cases e:q=j
     ·subst e; rw [bi rfl,bi ⟨by omega,hU'⟩]
     ·rw [bg e,hI.m1 q]
      by_cases w:q<j∧gB (used.set at_ true) q=false
      ·rw [bi w,bi ⟨by omega,w.2⟩]
      ·rw [bg w,bg (fun z=>w ⟨by omega,z.2⟩)])
  (fun s hI=>by
   obtain ⟨k,rw',cl,ls⟩:=s
   simp only at hI
   obtain ⟨rfl,hI⟩:=hI
   unfold yx
   simp only
   rw [bg (by rw [hlen,bj]; omega)])
 obtain ⟨⟨k,rw',cl,ls⟩,⟨h1,h2⟩,h3⟩:=key
 exact ⟨rw',cl,ls,h2,h3⟩
def Chain (fr:List Int):List Nat→Prop
 | []=>False
 | a :: L=>(L=[]∧a=0)∨(a≠0∧a∉L∧(∃ c∈L,gI fr a=((c:Nat):Int))∧Chain fr L)
theorem Chain.zero {fr:List Int}:∀ {L:List Nat},Chain fr L→0∈L
 | [],h=>h.elim
 | a :: L,h=>by
  rcases h with ⟨rfl,rfl⟩ | ⟨_,_,_,h⟩
  ·exact bp
  ·exact bq _ h.zero
theorem Chain.nodup {fr:List Int}:∀ {L:List Nat},Chain fr L→L.Nodup
 | [],h=>h.elim
 | a :: L,h=>by
  rcases h with ⟨rfl,rfl⟩ | ⟨_,h1,_,h⟩
  ·simp
  ·exact List.nodup_cons.2 ⟨h1,h.nodup⟩
theorem Chain.nil {fr:List Int} {L:List Nat} (h:Chain fr (0 :: L)):L=[]:=by
 rcases h with ⟨h,_⟩ | ⟨h,_⟩
 ·exact h
 ·exact absurd rfl h
theorem Chain.tl {fr:List Int} {a:Nat} {L:List Nat} (h:Chain fr (a :: L)) (ha:a≠0):Chain fr L:=by
 rcases h with ⟨_,h⟩ | ⟨_,_,_,h⟩
 ·exact absurd h ha
 ·exact h
theorem Chain.congr {fr fr':List Int}:∀ {L:List Nat},Chain fr L→(∀ k∈L,gI fr' k=gI fr k)→Chain fr' L
 | [],h,_=>h.elim
 | a :: L,h,e=>by
  rcases h with h | ⟨h0,h1,⟨c,h2,h3⟩,h⟩
  ·exact .inl h
  ·exact .inr ⟨h0,h1,⟨c,h2,by rw [e a bp]; exact h3⟩,h.congr fun k hk=>e k (bq _ hk)⟩
theorem Chain.from_ {fr:List Int}:∀ {L:List Nat},Chain fr L→∀ {k:Nat},k∈L→k≠0→∃ c∈L,gI fr k=((c:Nat):Int)
 | [],h,_,_,_=>h.elim
 | a :: L,h,k,hk,h0=>by
  rcases h with ⟨rfl,rfl⟩ | ⟨_,_,⟨c,h2,h3⟩,h⟩
  ·rw [cb] at hk; exact absurd hk h0
  ·rcases List.mem_cons.1 hk with rfl | hk
   ·exact ⟨c,bq _ h2,h3⟩
   ·obtain ⟨d,q1,q2⟩:=h.from_ hk h0
    exact ⟨d,bq _ q1,q2⟩
theorem Chain.cut {fr:List Int}:∀ {L:List Nat},Chain fr L→∀ {c:Nat},c∈L→∃ L',Chain fr (c :: L')∧L'.length<L.length∧∀ x∈c :: L',x∈L
 | [],h,_,_=>h.elim
 | a :: L,h,c,hc=>by
  rcases List.mem_cons.1 hc with rfl | hc
  ·exact ⟨L,h,by simp,fun x hx=>hx⟩
  ·rcases h with ⟨rfl,_⟩ | ⟨_,_,_,h⟩
   ·cases hc
   ·obtain ⟨L',q1,q2,q3⟩:=h.cut hc
    exact ⟨L',q1,by simp only [bt]; omega,fun x hx=>bq _ (q3 x hx)⟩
structure AInv (cost:List (List Int)) (p i:Nat) (u v of:List Int):Prop where
 lu:u.length=cost.length+1
 lv:v.length=p+1
 lo:of.length=p+1
 rg:∀ k,1≤k→k≤p→0≤gI of k∧gI of k<i
 inj:∀ k l,1≤k→k≤p→1≤l→l≤p→gI of k≠0→gI of k=gI of l→k=l
 sur:∀ r:Nat,1≤r→r<i→∃ k,1≤k∧k≤p∧gI of k=(r:Int)
 vz:∀ k,1≤k→k≤p→gI v k≤0∧(gI of k=0→gI v k=0)
 fe:∀ r k,1≤r→r<i→1≤k→k≤p→gI u r+gI v k≤cC cost r k
 ti:∀ k,1≤k→k≤p→gI of k≠0→gI u (gI of k).toNat+gI v k=cC cost (gI of k).toNat k
 uz:∀ r,i≤r→gI u r=0
 bu:∀ r,-(2147483648*(i:Int))≤gI u r∧gI u r≤2147483648*(i:Int)
 bv:∀ k,-(2147483648*(i:Int))≤gI v k∧gI v k≤2147483648*(i:Int)
structure SInv (cost:List (List Int)) (p i:Nat) (u0 v0 of:List Int) (O:Nat→Nat) (at_:Nat) (L:List Nat) (u v least fr:List Int) (used:List Bool):Prop where
 lu:u.length=cost.length+1
 lv:v.length=p+1
 ll:least.length=p+1
 lf:fr.length=p+1
 lus:used.length=p+1
 ch:Chain fr (at_ :: L)
 us:∀ k,gB used k=true↔k∈L
 le:∀ k∈at_ :: L,k≤p
 mt:∀ k∈L,k≠0→gI of k≠0
 vz:∀ k,1≤k→k≤p→gI v k≤0∧(gI of k=0→gI v k=0)
 fe:∀ r k,1≤r→r<i→1≤k→k≤p→gI u r+gI v k≤cC cost r k
 ti:∀ k,1≤k→k≤p→gI of k≠0→gI u (gI of k).toNat+gI v k=cC cost (gI of k).toNat k
 fi:at_≠0→∀ k,1≤k→k≤p→gI u i+gI v k≤cC cost i k
 te:∀ k∈at_ :: L,k≠0→∀ c:Nat,gI fr k=(c:Int)→gI u (O c)+gI v k=cC cost (O c) k
 ls:∀ j∈L,∀ k,1≤k→k≤p→k∉at_ :: L→gI least k+gI u (O j)+gI v k≤cC cost (O j) k
 lt:∀ k,1≤k→k≤p→k∉at_ :: L→(∃ c∈L,gI fr k=((c:Nat):Int)∧gI least k+gI u (O c)+gI v k=cC cost (O c) k)∨gI least k=4294967296 - gI u i
 lz:at_≠0→∀ k,1≤k→k≤p→k∉at_ :: L→0≤gI least k
 lb:∀ k,1≤k→k≤p→k∉at_ :: L→gI least k≤4294967296 - gI u i
 ui : -1001≤gI u i∧gI u i≤1073741824∧(at_=0→gI u i=0)
 ub:∀ r,1≤r→r<i→gI u0 r≤gI u r∧gI u r≤gI u0 r+gI u i+1001
 uo:∀ r,r=0∨i<r→gI u r=gI u0 r
 vb:∀ k,1≤k→k≤p→gI v0 k - gI u i - 1001≤gI v k∧gI v k≤gI v0 k
 vn:gI v 0=gI v0 0 - gI u i
 st:at_=0→(∀ r,1≤r→r<i→gI u r=gI u0 r)∧∀ k,1≤k→k≤p→gI v k=gI v0 k
def Of (of:List Int) (i j:Nat):Nat:=(gI (of.set 0 (i:Int)) j).toNat
theorem zPb {of:List Int} {i:Nat} (h:0<of.length):Of of i 0=i:=by unfold Of; rw [jw h,bi rfl]; omega
theorem zOw {of:List Int} {i j:Nat} (h:0<of.length) (hj:1≤j):Of of i j=(gI of j).toNat:=by unfold Of; rw [jw h,bg (by omega)]
theorem AInv.free {cost:List (List Int)} {p i:Nat} {u v of:List Int} (h:AInv cost p i u v of) (hi:i≤p) (hi1:1≤i):∃ k,1≤k∧k≤p∧gI of k=0:=by
 refine Classical.byContradiction fun hn=>?_
 have hno:∀ k,1≤k→k≤p→gI of k≠0:=fun k h1 h2 e=>hn ⟨k,h1,h2,e⟩
 have:=zBC (l:=(List.range p).map fun k=>(gI of (k+1)).toNat) (r:=List.range' 1 (i - 1)) ?_ ?_
 ·simp at this; omega
 ·rw [List.nodup_iff_pairwise_ne,List.pairwise_map]
  refine List.Pairwise.imp_of_mem (R:=fun a b=>a≠b) (fun {a b} ha hb hab e=>?_) (List.nodup_iff_pairwise_ne.1 List.nodup_range)
  rw [cd] at ha hb
  have ra:=h.rg (a+1) (by omega) (by omega)
  have rb:=h.rg (b+1) (by omega) (by omega)
  have:=h.inj (a+1) (b+1) (by omega) (by omega) (by omega) (by omega) (hno _ (by omega) (by omega)) (by omega)
  omega
 ·intro x hx
  rw [List.mem_map] at hx
  obtain ⟨k,hk,rfl⟩:=hx
  rw [cd] at hk
  have ra:=h.rg (k+1) (by omega) (by omega)
  have:=hno (k+1) (by omega) (by omega)
  rw [List.mem_range'_1]
  omega
theorem asgIter {cost:List (List Int)} {p i:Nat} {u0 v0 of:List Int} (hc:zBe cost p) (hi1:1≤i) (hi2:i≤cost.length) (hA:AInv cost p i u0 v0 of) {at_:Nat} {L:List Nat} {u v least fr:List Int} {used:List Bool}
  (hS:SInv cost p i u0 v0 of (Of of i) at_ L u v least fr used) (hat:at_≠0→gI of at_≠0) :
  ∃ (m:Nat) (u' v' ls' fr':List Int),1≤m∧m≤p∧SInv cost p i u0 v0 of (Of of i) m (at_ :: L) u' v' ls' fr' (used.set at_ true) ∧
   Y3 cost (p:Int) (i:Int) of ((at_:Int),u,v,least,fr,used)=JX (i:Int) of (at_:Int) used (m:Int) fr' u' v' ls':=by
 have hp:=hc.hp; have hn:=hc.hn
 have hap:at_≤p:=hS.le _ bp
 have hol:0<of.length:=by rw [hA.lo]; omega
 have O0:Of of i 0=i:=zPb hol
 have h0:0∈at_ :: L:=hS.ch.zero
 have hU:∀ k,gB (used.set at_ true) k=true↔k∈at_ :: L:=by
  intro k
  rw [gB_set (by rw [hS.lus]; omega),List.mem_cons]
  by_cases e:k=at_
  ·simp [e]
  ·rw [bg e,hS.us k]; simp [e]
 have hUf:∀ k,k∉at_ :: L→gB (used.set at_ true) k=false:=fun k hk=>by
  cases hb:gB (used.set at_ true) k with
  | false=>rfl
  | true=>exact absurd ((hU k).1 hb) hk
 have hmt:∀ k∈at_ :: L,k≠0→gI of k≠0:=fun k hk hk0=>by
  rcases List.mem_cons.1 hk with rfl | hk
  ·exact hat hk0
  ·exact hS.mt k hk hk0
 have hOr:∀ k∈at_ :: L,k≠0→1≤Of of i k∧Of of i k<i∧gI of k=(Of of i k:Int):=fun k hk hk0=>by
  have r:=hA.rg k (by omega) (hS.le k hk)
  have:=hmt k hk hk0
  rw [zOw hol (by omega)]
  omega
 have hinj:∀ j∈at_ :: L,∀ k∈at_ :: L,Of of i j=Of of i k→j=k:=fun j hj k hk e=>by
  by_cases j0:j=0
  ·by_cases k0:k=0
   ·omega
   ·have:=hOr k hk k0; rw [j0,O0] at e; omega
  ·by_cases k0:k=0
   ·have:=hOr j hj j0; rw [k0,O0] at e; omega
   ·have a:=hOr j hj j0; have b:=hOr k hk k0
    exact hA.inj j k (by omega) (hS.le j hj) (by omega) (hS.le k hk) (by omega) (by omega)
 have hx:1≤Of of i at_∧Of of i at_≤i:=by
  by_cases e:at_=0
  ·rw [e,O0]; omega
  ·have:=hOr at_ bp e; omega
 have hne:∀ k∈at_ :: L,k≠0→at_≠0:=fun k hk hk0 e=>by
  subst e
  rw [hS.ch.nil,cb] at hk
  exact hk0 hk
 have hi1000:(i:Int)≤1000:=by omega
 -- bounds
 have bU:∀ r,-9007199254740992≤gI u r∧gI u r≤9007199254740992:=fun r=>by
  have b:=hA.bu r; have ui:=hS.ui
  by_cases e:r=0∨i<r
  ·rw [hS.uo r e]; omega
  ·by_cases e2:r=i
   ·rw [e2]; omega
   ·have:=hS.ub r (by omega) (by omega); omega
 have bV:∀ k,-9007199254740992≤gI v k∧gI v k≤9007199254740992:=fun k=>by
  have b:=hA.bv k; have ui:=hS.ui
  by_cases e:k=0
  ·have b0:=hA.bv 0; rw [e,hS.vn]; omega
  ·by_cases e2:k≤p
   ·have:=hS.vb k (by omega) e2; omega
   ·rw [zOd (by rw [hS.lv]; omega)]; omega
 obtain ⟨next,step,ls,f,hP,hL1⟩:=scan_eq (i:=i) (of:=of) hc (x:=Of of i at_) hx.1 (by omega) hap hS.lu hS.lv hS.ll hS.lf hS.lus (bU _) (fun k _ _=>bV k)
 have A0:∀ k,1≤k→k≤p→k∉at_ :: L→gI ls k≤gI least k∧gI ls k≤cC cost (Of of i at_) k - gI u (Of of i at_) - gI v k∧((gI ls k=gI least k∧gI f k=gI fr k)∨(gI ls k=cC cost (Of of i at_) k - gI u (Of of i at_) - gI v k∧gI f k=at_))∧step≤gI ls k:=fun k h1 h2 h3=>hP.lo k h1 (by omega) (hUf k h3)
 have A1:∀ j∈at_ :: L,∀ k,1≤k→k≤p→k∉at_ :: L→gI ls k+gI u (Of of i j)+gI v k≤cC cost (Of of i j) k:=fun j hj k h1 h2 h3=>by
  have a:=A0 k h1 h2 h3
  rcases List.mem_cons.1 hj with rfl | hj
  ·omega
  ·have:=hS.ls j hj k h1 h2 h3; omega
 have A2:∀ k,1≤k→k≤p→k∉at_ :: L→(∃ c∈at_ :: L,gI f k=((c:Nat):Int)∧gI ls k+gI u (Of of i c)+gI v k=cC cost (Of of i c) k)∨gI ls k=4294967296 - gI u i:=fun k h1 h2 h3=>by
  obtain ⟨a1,a2,a3,a4⟩:=A0 k h1 h2 h3
  rcases a3 with ⟨a3,a5⟩ | ⟨a3,a5⟩
  ·rcases hS.lt k h1 h2 h3 with ⟨c,q1,q2,q3⟩ | q
   ·exact .inl ⟨c,bq _ q1,by rw [a5]; exact q2,by omega⟩
   ·exact .inr (by omega)
  ·exact .inl ⟨at_,bp,a5,by omega⟩
 have A3:at_≠0→∀ k,1≤k→k≤p→k∉at_ :: L→0≤gI ls k:=fun e k h1 h2 h3=>by
  obtain ⟨a1,a2,a3,a4⟩:=A0 k h1 h2 h3
  rcases a3 with ⟨a3,a5⟩ | ⟨a3,a5⟩
  ·have:=hS.lz e k h1 h2 h3; omega
  ·have hr:=hOr at_ bp e
   have:=hS.fe (Of of i at_) k hr.1 hr.2.1 h1 h2; omega
 have A4:∀ k,1≤k→k≤p→k∉at_ :: L→gI ls k≤4294967296 - gI u i:=fun k h1 h2 h3=>by
  have a:=A0 k h1 h2 h3; have:=hS.lb k h1 h2 h3; omega
 obtain ⟨k0,k1,k2,k3⟩:=hA.free (by omega) hi1
 have k4:k0∉at_ :: L:=fun q=>hmt k0 q (by omega) k3
 have hstep:step≤1073741824 - gI u i:=by
  have a:=A1 0 h0 k0 k1 k2 k4
  rw [O0,(hS.vz k0 k1 k2).2 k3] at a
  have c:=(hc.at hi1 hi2 k1 k2).2
  have:=(A0 k0 k1 k2 k4).2.2.2
  omega
 have ui:=hS.ui
 rcases hP.nx with ⟨e,e2⟩ | ⟨m,e1,m1,m2,m3,m4,m5⟩
 ·omega
 ·subst e1
  have mp:m≤p:=by omega
  have mn:m∉at_ :: L:=fun q=>by rw [(hU m).2 q] at m3; cases m3
  have hs0:at_≠0→0≤step:=fun e=>by rw [m4]; exact A3 e m m1 mp mn
  have hs1 : -1001≤step:=by
   by_cases e:at_=0
   ·have eL:L=[]:=by have:=hS.ch; rw [e] at this; exact this.nil
    obtain ⟨a1,a2,a3,a4⟩:=A0 m m1 mp mn
    rcases a3 with ⟨a3,a5⟩ | ⟨a3,a5⟩
    ·rcases hS.lt m m1 mp mn with ⟨c,q1,q2,q3⟩ | q
     ·rw [eL] at q1; cases q1
     ·have:=ui.2.2 e; omega
    ·have e3:=ui.2.2 e
     rw [e,O0] at a3
     have c:=(hc.at hi1 hi2 m1 mp).2
     have:=(hS.vz m m1 mp).1
     omega
   ·have:=hs0 e; omega
  -- the tight way to m
  obtain ⟨c,hc1,hc2,hc3⟩:∃ c∈at_ :: L,gI f m=((c:Nat):Int)∧gI ls m+gI u (Of of i c)+gI v m=cC cost (Of of i c) m:=by
   rcases A2 m m1 mp mn with q | q
   ·exact q
   ·omega
  obtain ⟨u',v',ls',hQ,hL2⟩:=upd_eq (n:=cost.length) (p:=p) (i:=i) (at_:=at_) (of:=of) (row:=u) (col:=v) (least:=ls) (fr:=f) (used:=used) (next:=(m:Int)) (step:=step) (by omega) hp hap hS.lu hS.lv hP.l1 hS.lus hA.lo (O:=Of of i)
   (fun j hj=>by
    unfold Of
    by_cases e:j=0
    ·rw [e,jw hol,bi rfl]; omega
    ·have:=hA.rg j (by omega) hj
     rw [jw hol,bg e]; omega)
   (fun j hj hj2=>by
    have hm:=(hU j).1 hj2
    by_cases e:j=0
    ·rw [e,O0]; exact hi2
    ·have:=hOr j hm e; omega)
   (fun j k hj hk hj2 hk2 e=>hinj j ((hU j).1 hj2) k ((hU k).1 hk2) e)
   (by omega) bU bV (fun k hk hk2=>by
    have hkn:k∉at_ :: L:=fun q=>by rw [(hU k).2 q] at hk2; cases hk2
    have hk1:1≤k:=by
     by_cases e:k=0
     ·rw [e] at hkn; exact absurd h0 hkn
     ·omega
    have a:=A4 k hk1 hk hkn
    have b:=(A0 k hk1 hk hkn).2.2.2
    omega)
  have R1:∀ j∈at_ :: L,gI u' (Of of i j)=gI u (Of of i j)+step:=fun j hj=>hQ.u1 j (by have:=hS.le j hj; omega) ((hU j).2 hj)
  have R2:∀ r,(∀ j∈at_ :: L,Of of i j≠r)→gI u' r=gI u r:=fun r hr=>hQ.u2 r fun j _ hj=>hr j ((hU j).1 hj)
  have V1:∀ k∈at_ :: L,gI v' k=gI v k - step:=fun k hk=>by rw [hQ.v1,bi ⟨by have:=hS.le k hk; omega,(hU k).2 hk⟩]
  have V2:∀ k,k∉at_ :: L→gI v' k=gI v k:=fun k hk=>by rw [hQ.v1,bg (fun q=>hk ((hU k).1 q.2))]
  have M1:∀ k,k≤p→k∉at_ :: L→gI ls' k=gI ls k - step:=fun k hk hk2=>by rw [hQ.m1,bi ⟨by omega,hUf k hk2⟩]
  have Ri:gI u' i=gI u i+step:=by have:=R1 0 h0; rwa [O0] at this
  have hui : -1001≤gI u' i:=by
   rw [Ri]
   by_cases e:at_=0
   ·have:=ui.2.2 e; omega
   ·have:=hs0 e; omega
  have Rs:∀ r,1≤r→r<i→(gI u' r=gI u r∧∀ j∈at_ :: L,Of of i j≠r)∨(gI u' r=gI u r+step∧0≤step∧∃ j∈at_ :: L,Of of i j=r):=fun r h1 h2=>by
   by_cases e:∃ j∈at_ :: L,Of of i j=r
   ·obtain ⟨j,q1,q2⟩:=e
    right
    have j0:j≠0:=fun w=>by rw [w,O0] at q2; omega
    exact ⟨by rw [← q2]; exact R1 j q1,hs0 (hne j q1 j0),j,q1,q2⟩
   ·left
    have:∀ j∈at_ :: L,Of of i j≠r:=fun j q1 q2=>e ⟨j,q1,q2⟩
    exact ⟨R2 r this,this⟩
  have hff:∀ k∈at_ :: L,gI f k=gI fr k:=fun k hk=>(hP.no k fun q=>by rw [(hU k).2 hk] at q; cases q.2.2).2
  have hnm:∀ k,k∉m :: at_ :: L→k≠m∧k∉at_ :: L:=fun k hk=>⟨fun e=>hk (by rw [e]; exact bp),fun e=>hk (bq _ e)⟩
  refine ⟨m,u',v',ls',f,m1,mp,⟨hQ.l1,hQ.l2,hQ.l3,hP.l2,by rw [List.length_set]; exact hS.lus,.inr ⟨by omega,mn,⟨c,hc1,hc2⟩,hS.ch.congr hff⟩,hU,fun k hk=>?_,hmt,fun k h1 h2=>?_,fun r k h1 h2 h3 h4=>?_,fun k h1 h2 h3=>?_,fun _ k h1 h2=>?_,fun k hk hk0 d hd=>?_,fun j hj k h1 h2 h3=>?_,fun k h1 h2 h3=>?_,fun _ k h1 h2 h3=>?_,fun k h1 h2 h3=>?_,⟨hui,by rw [Ri]; omega,fun e=>by omega⟩,fun r h1 h2=>?_,fun r hr=>?_,fun k h1 h2=>?_,?_,fun e=>?_⟩,?_⟩
  ·rcases List.mem_cons.1 hk with rfl | hk
   ·exact mp
   ·exact hS.le k hk
  ·have z:=hS.vz k h1 h2
   by_cases e:k∈at_ :: L
   ·have:=hs0 (hne k e (by omega))
    rw [V1 k e]
    exact ⟨by omega,fun q=>absurd q (hmt k e (by omega))⟩
   ·rw [V2 k e]; exact z
  ·have z:=hS.fe r k h1 h2 h3 h4
   by_cases e:k∈at_ :: L
   ·have:=hs0 (hne k e (by omega))
    rw [V1 k e]
    rcases Rs r h1 h2 with ⟨q,_⟩ | ⟨q,_⟩ <;> omega
   ·rw [V2 k e]
    rcases Rs r h1 h2 with ⟨q,_⟩ | ⟨q,_,j,q2,q3⟩
    ·omega
    ·have:=A1 j q2 k h3 h4 e
     have:=(A0 k h3 h4 e).2.2.2
     rw [q3] at *; omega
  ·have z:=hS.ti k h1 h2 h3
   have rk:=hA.rg k h1 h2
   by_cases e:k∈at_ :: L
   ·have:=R1 k e
    rw [zOw hol h1] at this
    rw [V1 k e,this]; omega
   ·rw [V2 k e,R2 _ fun j hj q=>?_]
    ·exact z
    ·by_cases j0:j=0
     ·rw [j0,O0] at q; omega
     ·have a:=hOr j hj j0
      exact e (by rw [← hA.inj j k (by omega) (hS.le j hj) h1 h2 (by omega) (by omega)]; exact hj)
  ·rw [Ri]
   by_cases e:k∈at_ :: L
   ·have:=hS.fi (hne k e (by omega)) k h1 h2
    rw [V1 k e]; omega
   ·have:=A1 0 h0 k h1 h2 e
    have:=(A0 k h1 h2 e).2.2.2
    rw [V2 k e]; rw [O0] at *; omega
  ·rcases List.mem_cons.1 hk with rfl | hk
   ·have e:d=c:=by rw [hc2] at hd; omega
    rw [e,R1 c hc1,V2 k mn]; omega
   ·have hk2:gI fr k=(d:Int):=by rw [← hff k hk]; exact hd
    have z:=hS.te k hk hk0 d hk2
    obtain ⟨d2,q1,q2⟩:=hS.ch.from_ hk hk0
    have e:d2=d:=by rw [hk2] at q2; omega
    rw [e] at q1
    rw [R1 d q1,V1 k hk]; omega
  ·obtain ⟨n1,n2⟩:=hnm k h3
   have a:=A1 j hj k h1 h2 n2
   rw [M1 k h2 n2,R1 j hj,V2 k n2]; omega
  ·obtain ⟨n1,n2⟩:=hnm k h3
   rw [M1 k h2 n2,Ri]
   rcases A2 k h1 h2 n2 with ⟨d,q1,q2,q3⟩ | q
   ·left; exact ⟨d,q1,q2,by rw [R1 d q1,V2 k n2]; omega⟩
   ·right; omega
  ·obtain ⟨n1,n2⟩:=hnm k h3
   have:=(A0 k h1 h2 n2).2.2.2
   rw [M1 k h2 n2]; omega
  ·obtain ⟨n1,n2⟩:=hnm k h3
   have:=A4 k h1 h2 n2
   rw [M1 k h2 n2,Ri]; omega
  ·have z:=hS.ub r h1 h2
   rw [Ri]
   by_cases e:at_=0
   ·have e0:=ui.2.2 e
    have e1:=(hS.st e).1 r h1 h2
    rcases Rs r h1 h2 with ⟨q,_⟩ | ⟨q,q2,j,q3,q4⟩
    ·omega
    ·exact absurd e (hne j q3 fun w=>by rw [w,O0] at q4; omega)
   ·have:=hs0 e
    rcases Rs r h1 h2 with ⟨q,_⟩ | ⟨q,q2,j,q3,q4⟩ <;> omega
  ·rw [R2 r fun j hj q=>?_]
   ·exact hS.uo r hr
   ·by_cases j0:j=0
    ·rw [j0,O0] at q; omega
    ·have:=hOr j hj j0; omega
  ·have z:=hS.vb k h1 h2
   rw [Ri]
   by_cases e:k∈at_ :: L
   ·have:=hs0 (hne k e (by omega))
    rw [V1 k e]; omega
   ·rw [V2 k e]
    by_cases e2:at_=0
    ·have:=ui.2.2 e2; have:=(hS.st e2).2 k h1 h2; omega
    ·have:=hs0 e2; omega
  ·rw [V1 0 h0,Ri,hS.vn]; omega
  ·omega
  ·unfold Y3
   simp only
   rw [zQ7 (by rw [hS.lus]; omega),ba,show put of 0 (i:Int)=of.set 0 (i:Int) from rfl,jU (by rw [List.length_set,hA.lo]; omega),ba]
   have e:gI (of.set 0 (i:Int)) at_=((Of of i at_:Nat):Int):=by
    unfold Of
    by_cases e:at_=0
    ·rw [e,jw hol,bi rfl]; omega
    ·have:=hA.rg at_ (by omega) hap
     rw [jw hol,bg e]; omega
   rw [e,hL1]
   unfold Jp
   exact hL2
end Go.Mx
