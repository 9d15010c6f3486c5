/- Maps whose values are blocks of the call's own; all that a call owns, frozen; loops over maps. Conditions: none. -/
import Derived.Test.YtggkidlcohickaaGreatMp
set_option linter.unusedVariables false
set_option linter.unusedSimpArgs false
namespace Go.Am
open Go Go.Wk Go.RowKit Go.Mx
theorem GS.zL0 {C:Cfg} {k:List It} {K K':List (Nat×V)} {H:List Blk} {n:Nat} {Q:Ex→St→Prop} (hK:∀ t v,kget K' t=some v→∃ v0,kget K t=some v0∧(FR H 0 v0 v∨v0=v∧∃ x,v = .lit x)) (h:GS C 0 k ⟨K',[],0,none,n⟩ Q):GS C 0 k ⟨K,H,0,none,n⟩ Q:=by
  intro hC E I m a w hE hs
  have hH0:E.H0=[]:=List.eq_nil_of_length_eq_zero (Nat.le_zero.1 hE.len)
  have hnl:∀ j,¬ Live ([]:List Blk) j:=fun j ⟨B,hB,_⟩=>by simp [Am.get] at hB
  have hsub:(yE I m H 0 w).Le (wmem w):=zDi hs.sim
  have hown:∀ j f,Live H j→I j=some f→E.w0.heap.size≤f.b:=fun j f hj hf=>by
    rcases hs.fx.own j f (by rw [← hs.lo]; exact Nat.zero_le _) hj hf with h | ⟨i0,f0,_,⟨B,hB,_⟩,_⟩
    · exact h
    · rw [hH0] at hB; simp [Am.get] at hB
  have hsim:Sim Ij.none (yE I m H 0 w) [] w:=by
    refine ⟨hsub,fun id B hB=>by simp [Am.get] at hB,fun id _=>rfl,fun id f hl=>absurd hl (hnl id),fun i j f g hl=>absurd hl (hnl i)⟩
  refine h hC E Ij.none (yE I m H 0 w) a w hE { sim:=hsim,slots:=fun t v hv=>?_,size:=hs.size,n:=hs.n,lo:=hs.lo,rnd:=hs.rnd,fx := ?_,mem:=fun k o hk=>yf k o (hs.mem k o hk),fresh:=fun k o hk=>?_,lole:=hs.lole,dfr := ?_,rok := ?_ }
  · obtain ⟨v0, h1, h2⟩ := hK t v hv
    obtain ⟨u,h3,h4⟩:=hs.slots t v0 h1
    refine ⟨u,h3,?_⟩
    rcases h2 with ⟨n',h2⟩ | ⟨rfl,x,rfl⟩
    · exact YQ hs.sim n' v0 v u h2 h4
    · unfold Rep at h4 ⊢; exact h4
  · refine ⟨hs.fx.st, hs.fx.same, fun id f h => ?_, fun id f _ hl => absurd hl (hnl id), fun id hid => ?_, by rw [hH0]; exact Nat.zero_le _⟩
    · have:=hE.dom id f h; omega
    · have:=hs.lo; simp only at this; omega
  · rcases zDj hk with hk | ⟨id, f, _, hl, hf, e⟩
    · exact hs.fresh k o hk
    · exact .inr (by rw [← e]; exact hown id f hl hf)
  · obtain ⟨ds, h1, h2, h3, h4⟩ := hs.dfr
    refine ⟨ds,h1,h2,fun D hD=>?_,h4⟩
    obtain ⟨k1,k2,k3,k4⟩:=h3 D hD
    refine ⟨k1,k2,?_,fun j g hj=>absurd hj (hnl j)⟩
    cases hm:yE I m H 0 w D with
    | none=>rfl
    | some o =>
      rcases zDj hm with hm | ⟨id,f,_,hl,hf,e⟩
      · rw [k3] at hm; cases hm
      · exact absurd e (k4 id f hl hf)
  · exact hs.rok
structure FK (α β:Type) where
  g:α→V
  mv:Nat→β→V
  bk:β→Blk
  nilv:V
  hg:∀ N keep a,rn N keep 9 (g a)=some (g a)
  hmk:∀ N keep i j x,rx N keep i=some j→rn N keep 9 (mv i x)=some (mv j x)
  hbk:∀ N keep x,rnB N keep 9 (bk x)=some (bk x)
  live:∀ x,(bk x).live=true
  nofree:∀ x,bk x≠.free
section
variable {α β:Type}
def famW (F:FK α β) (idf:Nat→Nat):Nat→List (α×β)→List V
  | _,[]=>[]
  | i,q :: r=>F.mv (idf i) q.2 :: famW F idf (i+1) r
def famM (F:FK α β) (b:Nat) (A:List (α×β)):Blk:=.map (A.map fun p=>F.g p.1) (famW F (b + ·) 0 A)
def famB (F:FK α β) (A:List (α×β)):List Blk:=A.map fun p=>F.bk p.2
def Q9 (F:FK α β) [DecidableEq α] (b:Nat) (A:List (α×β)) (k:α):V:=match JB k A with
  | some j=>match A[j]? with
    | some q=>F.mv (b+j) q.2
    | none=>F.nilv
  | none=>F.nilv
variable {F:FK α β}
theorem QF (idf:Nat→Nat):∀ (A:List (α×β)) (i j:Nat),(famW F idf i A)[j]? = (A[j]?).map fun q=>F.mv (idf (i+j)) q.2
  | [],i,j=>by simp [famW]
  | q :: r,i,0=>by simp [famW]
  | q :: r,i,j+1=>by
    simp only [famW,List.getElem?_cons_succ]
    rw [QF idf r (i+1) j,show i+1+j=i+(j+1) by omega]
theorem zG3 (idf:Nat→Nat):∀ (A:List (α×β)) (i:Nat),(famW F idf i A).length=A.length
  | [],i=>rfl
  | q :: r,i=>by simp [famW,zG3 idf r]
theorem zCY {A:List (α×β)}:(famB F A).length=A.length:=by simp [famB]
theorem zCR {P:List Blk} {A:List (α×β)} {b j:Nat} {q:α×β} (hb:P.length=b) (h:A[j]? = some q):hget (P++famB F A) (b+j)=F.bk q.2:=by
  subst hb
  unfold hget
  rw [zP,List.getElem?_append_right (by omega),show P.length+j - P.length=j by omega]
  simp [famB,h]
theorem zGo {P T:List Blk} {i:Nat} {B:Blk} (h:get P i=some B):hget (P++T) i=B:=by
  unfold hget
  rw [zP] at h ⊢
  rw [List.getElem?_append_left (List.getElem?_eq_some_iff.1 h).1,h]
theorem zDU {N N':Nat} {kp kp':List (Option Nat)} (hx:∀ id j,rx N kp id=some j→rx N' kp' id=some j):∀ (n:Nat) (v v1:V),rn N kp n v=some v1→rn N' kp' n v=some v1
  | 0,v,v1,h=>by cases h
  | n+1,v,v1,h=>by
    have key:∀ (l l1:List V),mapO (rn N kp n) l=some l1→mapO (rn N' kp' n) l=some l1:=by
      intro l
      induction l with
      | nil=>intro l1 h; exact h
      | cons x r ih =>
        intro l1 h
        simp only [mapO] at h ⊢
        cases hx':rn N kp n x with
        | none=>rw [hx'] at h; cases h
        | some y =>
          cases hr:mapO (rn N kp n) r with
          | none=>rw [hx',hr] at h; cases h
          | some s=>rw [hx',hr] at h; rw [zDU hx n x y hx',ih s hr]; exact h
    cases v <;> simp only [rn] at h ⊢ <;> first | exact h | skip
    case agg l=>rw [Option.map_eq_some_iff] at h ⊢; obtain ⟨l1,h1,h2⟩:=h; exact ⟨l1,key _ _ h1,h2⟩
    case tup l=>rw [Option.map_eq_some_iff] at h ⊢; obtain ⟨l1,h1,h2⟩:=h; exact ⟨l1,key _ _ h1,h2⟩
    case fn f l=>rw [Option.map_eq_some_iff] at h ⊢; obtain ⟨l1,h1,h2⟩:=h; exact ⟨l1,key _ _ h1,h2⟩
    all_goals
      rw [Option.map_eq_some_iff] at h ⊢
      obtain ⟨j,h1,h2⟩:=h
      exact ⟨j,hx _ _ h1,h2⟩
theorem zEG {f g:V→Option V} (h:∀ x y,f x=some y→g x=some y):∀ {l r:List V},mapO f l=some r→mapO g l=some r
  | [],r,h' => h'
  | x :: l,r,h' => by
    simp only [mapO] at h' ⊢
    cases hx:f x with
    | none=>rw [hx] at h'; cases h'
    | some y =>
      cases hr:mapO f l with
      | none=>rw [hx,hr] at h'; cases h'
      | some s=>rw [hx,hr] at h'; rw [h x y hx,zEG h hr]; exact h'
theorem rnB_ext {N N':Nat} {kp kp':List (Option Nat)} (hx:∀ id j,rx N kp id=some j→rx N' kp' id=some j) {n:Nat} {B B1:Blk} (h:rnB N kp n B=some B1):rnB N' kp' n B=some B1:=by
  cases B with
  | dead=>exact h
  | free=>cases h
  | loop r=>cases h
  | iter a b c d=>exact h
  | oiter a b c d=>cases h
  | rows es l =>
    simp only [rnB,Option.map_eq_some_iff] at h ⊢
    obtain ⟨l1,h1,h2⟩:=h
    exact ⟨l1,zEG (fun x y=>zDU hx n x y) h1,h2⟩
  | map ks vs =>
    simp only [rnB] at h ⊢
    split at h
    · rename_i a b ha hb
      rw [zEG (fun x y=>zDU hx n x y) ha,zEG (fun x y=>zDU hx n x y) hb]; exact h
    · cases h
theorem zNb {N N':Nat} {kp kp':List (Option Nat)} (hx:∀ id j,rx N kp id=some j→rx N' kp' id=some j) {B B1:Blk} (h:RB N kp B B1):RB N' kp' B B1:=by
  rcases h with ⟨n,h⟩ | ⟨r,h1,h2,h3⟩
  · exact .inl ⟨n,rnB_ext hx h⟩
  · exact .inr ⟨r,h1,h2,fun t v hv=>by obtain ⟨n,hn⟩:=h3 t v hv; exact ⟨n,zDU hx n v v hn⟩⟩
theorem zOd {C:Cfg} {N:Nat} {k:List It} {K K':List (Nat×V)} {H1 P0 P2:List Blk} {lo n:Nat} {rnd:Option Nat} {Q:Ex→St→Prop} {A:List (α×β)} {vs:List V} (b2 m1 m2:Nat) (keep:List (Option Nat)) (idf:Nat→Nat) (hP:set P0 m2 (famM F b2 A)=P2)
    (h:GS C N k ⟨K',P2++famB F A,lo,rnd,n⟩ Q) (hlo:lo=0) (k1:∀ i j,get keep i=some (some j)→N≤j∧j<H1.length) (k2:∀ i i' j,get keep i=some (some j)→get keep i'=some (some j)→i=i') (hb:Nat.beq P0.length b2=true) (hl:Nat.beq b2 (N+keep.length)=true) (hK:GK N keep K' K) (hB:GB N keep H1 0 P0)
    (hm:rx N keep m2=some m1) (hm2:Nat.blt m2 b2=true) (hmap:hget H1 m1 = .map (A.map fun p=>F.g p.1) vs) (hvs:vs=famW F idf 0 A)
    (hid:∀ j q,A[j]? = some q→hget H1 (idf j)=F.bk q.2) (hinj:∀ i j,i<A.length→j<A.length→idf i=idf j→i=j) (hdis:∀ i j t,get keep i=some (some j)→t<A.length→j≠idf t) (hNi:∀ t,t<A.length→N≤idf t):GS C N k ⟨K,H1,lo,rnd,n⟩ Q:=by
  subst hlo hP hvs
  have hb':P0.length=b2:=Nat.eq_of_beq_eq_true hb
  have hl':b2=N+keep.length:=Nat.eq_of_beq_eq_true hl
  have hm2':m2<b2:=by simpa [Nat.blt_eq] using hm2
  let kp:List (Option Nat):=keep++(List.range A.length).map fun j=>some (idf j)
  have g1:∀ i,i<keep.length→get kp i=get keep i:=fun i hi=>by
    rw [zP,zP,List.getElem?_append_left hi]
  have g2:∀ j,j<A.length→get kp (keep.length+j)=some (some (idf j)):=fun j hj=>by
    rw [zP,List.getElem?_append_right (by omega),show keep.length+j - keep.length=j by omega]
    simp [hj]
  have g3:∀ i j,get kp i=some (some j)→(i<keep.length∧get keep i=some (some j))∨(∃ t,t<A.length∧i=keep.length+t∧j=idf t):=fun i j h=>by
    by_cases c:i<keep.length
    · exact .inl ⟨c,by rw [← g1 i c]; exact h⟩
    · have hlt := jm h
      simp only [kp,List.length_append,List.length_map,List.length_range] at hlt
      have:=g2 (i - keep.length) (by omega)
      rw [show keep.length+(i - keep.length)=i by omega] at this
      rw [this] at h
      cases h
      exact .inr ⟨i - keep.length,by omega,by omega,rfl⟩
  have hx:∀ id j,rx N keep id=some j→rx N kp id=some j:=fun id j h=>by
    by_cases c:id<N
    · rw [zAZ c] at h ⊢; exact h
    · have hg := qR h c
      have hlt:=jm hg
      unfold rx
      rw [show Nat.blt id N=false from Bool.eq_false_iff.2 fun hb=>c (by simpa [Nat.blt_eq] using hb),g1 _ hlt,hg]
      rfl
  have hx2:∀ j,j<A.length→rx N kp (b2+j)=some (idf j):=fun j hj=>by
    unfold rx
    rw [show Nat.blt (b2 + j) N = false from Bool.eq_false_iff.2 fun hb => by have : b2 + j < N := by simpa [Nat.blt_eq] using hb
                                                                              omega,show b2+j - N=keep.length+j by omega,g2 j hj]
    rfl
  have hB':∀ id B,get P0 id=some B→B≠.free∧(B.live=true→∃ j,rx N keep id=some j∧RB N keep B (hget H1 j)):=fun id B hg=>by have:=GB.spec hB id B hg; rwa [Nat.zero_add] at this
  have hidl:∀ j,j<A.length→idf j<H1.length:=fun j hj=>by
    have:=hid j A[j] (List.getElem?_eq_getElem hj)
    have hlv:(hget H1 (idf j)).live=true:=by rw [this]; exact F.live _
    rcases Nat.lt_or_ge (idf j) H1.length with c | c
    · exact c
    · exfalso
      unfold hget at hlv
      rw [ja.2 c] at hlv
      cases hlv
  refine GS.gc (keep:=kp) ⟨fun i j h=>?_,fun i i' j h h' => ?_,?_,fun t v hv=>?_,fun id B hB hlv=>?_,fun id hid' => absurd hid' (Nat.not_lt_zero _),fun id hf=>?_⟩ h
  · rcases g3 i j h with ⟨_, h⟩ | ⟨t, ht, _, rfl⟩
    · exact k1 i j h
    · exact ⟨hNi t ht,hidl t ht⟩
  · rcases g3 i j h with ⟨_, h⟩ | ⟨t, ht, e, e2⟩
    · rcases g3 i' j h' with ⟨_, h'⟩ | ⟨t', ht', e', e2'⟩
      · exact k2 i i' j h h'
      · exact absurd e2' (hdis i j t' h ht')
    · rcases g3 i' j h' with ⟨_, h'⟩ | ⟨t', ht', e', e2'⟩
      · exact absurd e2 (hdis i' j t h' ht)
      · have:=hinj t t' ht ht' (e2.symm.trans e2'); omega
  · simp only [List.length_append,Zy,List.length_set,zCY,kp,List.length_map,List.length_range]; omega
  · obtain ⟨n', v1, v0, q1, q2, q3⟩ := hK t v hv
    exact ⟨n',v1,v0,zDU hx n' v v1 q1,q2,q3⟩
  · by_cases c : id < b2
    · rw [zP, List.getElem?_append_left (by rw [Zy, List.length_set]; omega), Zy, List.getElem?_set] at hB
      by_cases e:m2=id
      · subst e
        rw [if_pos rfl,if_pos (by omega)] at hB
        cases hB
        refine ⟨m1,hx _ _ hm,.inl ⟨9,?_⟩⟩
        rw [hmap]
        unfold famM
        simp only [rnB]
        have e1:mapO (rn N kp 9) (A.map fun p=>F.g p.1)=some (A.map fun p=>F.g p.1):=JV (f:=fun p:α×β=>F.g p.1) (fun p=>F.hg N kp p.1) A
        have e2:∀ (B:List (α×β)) (i:Nat),i+B.length≤A.length→mapO (rn N kp 9) (famW F (b2 + ·) i B)=some (famW F idf i B):=by
          intro B
          induction B with
          | nil=>intro i _; rfl
          | cons q r ih =>
            intro i hi
            simp only [List.length_cons] at hi
            simp only [famW,mapO]
            rw [F.hmk N kp (b2+i) (idf i) q.2 (hx2 i (by omega)),ih (i+1) (by omega)]
        rw [e1,e2 A 0 (by omega)]
      · rw [if_neg e] at hB
        obtain ⟨j,q1,q2⟩:=(hB' id B (by rw [zP]; exact hB)).2 hlv
        exact ⟨j,hx _ _ q1,zNb hx q2⟩
    · rw [zP, List.getElem?_append_right (by rw [Zy, List.length_set]; omega), Zy, List.length_set, hb'] at hB
      unfold famB at hB
      rw [List.getElem?_map] at hB
      cases hq:A[id - b2]? with
      | none=>rw [hq] at hB; cases hB
      | some q =>
        rw [hq] at hB
        simp only [Option.map_some,Option.some.injEq] at hB
        subst hB
        have hj:=(List.getElem?_eq_some_iff.1 hq).1
        have:=hx2 (id - b2) hj
        rw [show b2+(id - b2)=id by omega] at this
        exact ⟨_,this,.inl ⟨9,by rw [hid _ q hq]; exact F.hbk N kp q.2⟩⟩
  · by_cases c : id < b2
    · rw [zP, List.getElem?_append_left (by rw [Zy, List.length_set]; omega), Zy, List.getElem?_set] at hf
      by_cases e:m2=id
      · subst e
        rw [if_pos rfl,if_pos (by omega)] at hf
        cases hf
      · rw [if_neg e] at hf
        exact (hB' id _ (by rw [zP]; exact hf)).1 rfl
    · rw [zP, List.getElem?_append_right (by rw [Zy, List.length_set]; omega), Zy, List.length_set, hb'] at hf
      unfold famB at hf
      rw [List.getElem?_map] at hf
      cases hq:A[id - b2]? with
      | none=>rw [hq] at hf; cases hf
      | some q=>rw [hq] at hf; simp only [Option.map_some,Option.some.injEq] at hf; exact F.nofree _ hf
theorem zJ0 {N b:Nat} {keep:List (Option Nat)} {H1 H2:List Blk} (hk:kokL N b keep=true) (hN:N≤b) (h:∀ j,j<b→hget H1 j=hget H2 j):∀ {P:List Blk} {i:Nat},GB N keep H2 i P→GB N keep H1 i P
  | [],i,_=>trivial
  | B :: r,i,hg=>by
    refine ⟨⟨hg.1.1,fun hl=>?_⟩,zJ0 hk hN h hg.2⟩
    obtain ⟨j,h1,h2⟩:=hg.1.2 hl
    refine ⟨j,h1,?_⟩
    rw [h j ?_]
    · exact h2
    · by_cases c : i < N
      · rw [zAZ c] at h1; cases h1; omega
      · exact ((Qp hk).1 _ j (qR h1 c)).2
end
namespace X
section
variable {α β:Type} {F:FK α β} {C:Cfg} {N:Nat} {k:List It} {K K':List (Nat×V)} {H1 P P0 P2:List Blk} {lo n d:Nat} {rnd:Option Nat} {Q:Ex→St→Prop} {A:List (α×β)} {all os:List Oper} {p:Op} {ty:TypeId} {pos:String} {after:Array Edge} {g:Option (Nat×Bool)}
theorem zAS (b1 b2 m1 m2:Nat) (keep:List (Option Nat)) (hP:set P0 m2 (famM F b2 A)=P2) (h:GS C N k ⟨K',P2++famB F A,lo,rnd,n⟩ Q) (hlo:lo=0) (hk:kokL N b1 keep=true) (hb:Nat.beq P0.length b2=true) (hl:Nat.beq b2 (N+keep.length)=true) (hK:GK N keep K' K) (hB:GB N keep P 0 P0)
    (hm:rx N keep m2=some m1) (hm2:Nat.blt m2 b2=true) (hb1:Nat.beq P.length b1=true) (hN:Nat.ble N b1=true) (hmap:get P m1=some (famM F b1 A)):GS C N k ⟨K,P++famB F A,lo,rnd,n⟩ Q:=by
  have hb1':P.length=b1:=Nat.eq_of_beq_eq_true hb1
  have hN':N≤b1:=Nat.le_of_ble_eq_true hN
  obtain ⟨k1,k2⟩:=Qp hk
  have hpre:∀ j,j<b1→hget (P++famB F A) j=hget P j:=fun j hj=>by
    unfold hget
    rw [zP,zP,List.getElem?_append_left (by omega)]
  exact zOd b2 m1 m2 keep (b1 + ·) hP h hlo (fun i j h=>by have:=k1 i j h; simp only [List.length_append]; omega) k2 hb hl hK (zJ0 hk hN' hpre hB) hm hm2 (zGo hmap) rfl
    (fun j q hq=>zCR hb1' hq) (fun i j _ _ e=>by omega) (fun i j t h _ e=>by have:=(k1 i j h).2; omega) (fun t _=>by omega)
theorem zEW {B:Blk} (b m:Nat) (keep:List (Option Nat)) (K':List (Nat×V)) (he:zM C K (P++famB F A) lo (P++famB F A).length p=some ⟨.ptr (P++famB F A).length 0 0,[((P++famB F A).length,B)],[(P++famB F A).length]⟩) (hB1:∀ N' keep',rnB N' keep' 9 B=some B) (hBf:B≠.free) (hw:wants all K g=some true) (hd:Nat.blt d n=true) (hlo:lo=0) (hb:Nat.beq P.length b=true) (hN:Nat.ble N b=true) (hk:kokL N b keep=true) (hl:Nat.beq b (N+keep.length)=true) (hm:rx N keep m=some m) (hm2:Nat.blt m b=true) (hmap:get P m=some (famM F b A)) (hP0:set P m .dead=P0) (hK:GK N keep K' K) (hB:GB N keep P 0 P0) (hP2:set P0 m (famM F (b+1) A)++[B]=P2)
    (h:GS C N (.ops all os :: k) ⟨(d,.ptr b 0 0) :: K',P2++famB F A,lo,rnd,n⟩ Q):GS C N (.ops all (⟨some d,p,ty,pos,after,g⟩ :: os) :: k) ⟨K,P++famB F A,lo,rnd,n⟩ Q:=by
  have hb':P.length=b:=Nat.eq_of_beq_eq_true hb
  have hN':N≤b:=Nat.le_of_ble_eq_true hN
  have hl':b=N+keep.length:=Nat.eq_of_beq_eq_true hl
  have hm2':m<b:=by simpa [Nat.blt_eq] using hm2
  have hP0l:P0.length=b:=by rw [← hP0,Zy,List.length_set,hb']
  have hlen:(P++famB F A).length=b+A.length:=by rw [List.length_append,zCY,hb']
  obtain ⟨k1,k2⟩:=Qp hk
  refine opW hw he (zAu) hd ?_
  rw [hlen]
  have hpre:∀ j,j<b→hget ((P++famB F A)++[B]) j=hget P j:=fun j hj=>by
    unfold hget
    rw [zP,zP,List.append_assoc,List.getElem?_append_left (by omega)]
  have hnew:hget ((P++famB F A)++[B]) (b+A.length)=B:=by rw [← hlen]; exact zGp
  have hx:∀ id j,rx N keep id=some j→rx N (keep++[some (b+A.length)]) id=some j:=fun id j h=>by
    by_cases c:id<N
    · rw [zAZ c] at h ⊢; exact h
    · have hg := qR h c
      have hlt:=jm hg
      unfold rx
      rw [show Nat.blt id N=false from Bool.eq_false_iff.2 fun hb=>c (by simpa [Nat.blt_eq] using hb),zP,List.getElem?_append_left hlt,← zP,hg]
      rfl
  have hxb:rx N (keep++[some (b+A.length)]) b=some (b+A.length):=by
    unfold rx
    rw [show Nat.blt b N = false from Bool.eq_false_iff.2 fun hb => by have : b < N := by simpa [Nat.blt_eq] using hb
                                                                       omega,zP,List.getElem?_append_right (by omega),show b - N - keep.length=0 by omega]
    rfl
  have g3:∀ i j,get (keep++[some (b+A.length)]) i=some (some j)→get keep i=some (some j)∨(i=keep.length∧j=b+A.length):=fun i j h=>by
    rw [zP] at h ⊢
    by_cases c:i<keep.length
    · rw [List.getElem?_append_left c] at h; exact .inl h
    · rw [List.getElem?_append_right (by omega)] at h
      have hlt:=(List.getElem?_eq_some_iff.1 h).1
      simp only [List.length_singleton] at hlt
      have e:i - keep.length=0:=by omega
      rw [e] at h
      simp only [List.getElem?_cons_zero,Option.some.injEq] at h
      exact .inr ⟨by omega,h.symm⟩
  have hB2:GB N (keep++[some (b+A.length)]) ((P++famB F A)++[B]) 0 (P0++[B]):=by
    have key:∀ (L:List Blk) (i:Nat),i+L.length=b→GB N keep P i L→GB N (keep++[some (b+A.length)]) ((P++famB F A)++[B]) i (L++[B]):=by
      intro L
      induction L with
      | nil =>
        intro i hi _
        have:i=b:=by simpa using hi
        subst this
        exact ⟨⟨hBf,fun _=>⟨_,hxb,.inl ⟨9,by rw [hnew]; exact hB1 _ _⟩⟩⟩,trivial⟩
      | cons x r ih =>
        intro i hi hg
        refine ⟨⟨hg.1.1,fun hl=>?_⟩,ih (i+1) (by simp only [List.length_cons] at hi; omega) hg.2⟩
        obtain ⟨j,h1,h2⟩:=hg.1.2 hl
        refine ⟨j,hx _ _ h1,zNb hx ?_⟩
        rw [hpre j ?_]
        · exact h2
        · by_cases c : i < N
          · rw [zAZ c] at h1; cases h1; omega
          · exact (k1 _ j (qR h1 c)).2
    exact key P0 0 (by omega) hB
  refine zOd (F:=F) (A:=A) (P0:=P0++[B]) (P2:=P2) (b+1) m m (keep++[some (b+A.length)]) (b + ·) ?_ h hlo (fun i j h=>?_) (fun i i' j h h' => ?_) ?_ ?_ ?_ hB2 (hx _ _ hm) ?_ ?_ rfl (fun j q hq=>?_) (fun i j _ _ e=>by omega) (fun i j t h ht e=>?_) (fun t _=>by omega)
  · rw [← hP2,Zy,Zy,List.set_append_left _ _ (by omega)]
  · rcases g3 i j h with h | ⟨_, rfl⟩
    · have:=k1 i j h; simp only [List.length_append,List.length_singleton]; omega
    · simp only [List.length_append,List.length_singleton,zCY]; omega
  · rcases g3 i j h with h | ⟨e, e2⟩
    · rcases g3 i' j h' with h' | ⟨e', e2'⟩
      · exact k2 i i' j h h'
      · have:=(k1 i j h).2; omega
    · rcases g3 i' j h' with h' | ⟨e', e2'⟩
      · have:=(k1 i' j h').2; omega
      · omega
  · rw [List.length_append,hP0l]; simp
  · rw [List.length_append]; simp only [List.length_singleton]; rw [show N+(keep.length+1)=b+1 by omega]; simp
  · intro t v hv
    simp only [kget] at hv ⊢
    by_cases e:d=t
    · subst e
      simp only [Nat.beq_refl,cond_true,Option.some.injEq] at hv ⊢
      subst hv
      exact ⟨9,.ptr (b+A.length) 0 0,_,by simp only [rn,hxb,Option.map_some],rfl,.inl rfl⟩
    · rw [zAk e] at hv ⊢
      obtain ⟨n',v1,v0,q1,q2,q3⟩:=hK t v hv
      exact ⟨n',v1,v0,zDU hx n' v v1 q1,q2,q3⟩
  · simp only [Nat.blt_eq]; omega
  · rw [hpre m hm2']; unfold hget; rw [hmap]; rfl
  · unfold hget
    rw [zP,List.getElem?_append_left (by rw [hlen]; have:=(List.getElem?_eq_some_iff.1 hq).1; omega)]
    have:=zCR (F:=F) hb' hq
    unfold hget at this
    rw [zP] at this
    exact this
  · rcases g3 i j h with h | ⟨_, e2⟩
    · have:=(k1 i j h).2; omega
    · omega
variable {H:List Blk} {nid b m t:Nat} [DecidableEq α] {k0:α} {x0:β} {kd:Kd} {Te T:TI} {mo ko vo xo yo:Operand} {pos0:α→List α→Nat}
theorem zC4 {A:List (α×β)} {k0:α} {j:Nat} (h:JB k0 A=some j):∃ q,A[j]? = some q∧zO k0 A=some q.2∧q.1=k0:=by
  have:=JF (k:=k0) (l:=A)
  rw [h] at this
  obtain ⟨v,h1,h2⟩:=this
  exact ⟨_,h1,h2,rfl⟩
theorem zGz {A:List (α×β)} {k0:α} (h:JB k0 A=none):zO k0 A=none:=by
  have:=JF (k:=k0) (l:=A)
  rw [h] at this
  exact this.1
theorem zEV (hq:∀ a c,QC (F.g a) (F.g c)=some (decide (a=c))) (hm:zBk C t=some (kd,Te)) (hkd:Q4 C kd (F.g k0)=true) (h1:kev K mo=some (.map m)) (h2:kev K ko=some (F.g k0)) (hH:hget H m=famM F b A) (hz:Te.zero=F.nilv):zM C K H lo nid (.lookup t mo ko false)=some ⟨Q9 F b A k0,[],[m]⟩:=by
  simp only [zM,yg,h1,h2,zCK,hm,hkd,cond_true,hH,famM,qi,zBY hq]
  cases hf:JB k0 A with
  | none=>simp [Q9,hf,hz]
  | some j =>
    obtain ⟨q,h3,_,_⟩:=zC4 hf
    simp [Q9,hf,h3,zP,QF]
def idOK : Nat→List (Option Nat)→Bool
  | _,[]=>true
  | n,some j :: r=>Nat.beq j n&&idOK (n+1) r
  | _,none :: _=>false
theorem zJw : ∀ {l:List (Option Nat)} {n:Nat},idOK n l=true→∀ i x,get l i=some x→x=some (n+i)
  | [],n,_,i,x,h=>by cases h
  | some j :: r,n,h,0,x,hx=>by
    simp only [idOK,Bool.and_eq_true] at h
    simp only [Am.get,Option.some.injEq] at hx
    rw [← hx,Nat.eq_of_beq_eq_true h.1]; rfl
  | some j :: r,n,h,i+1,x,hx=>by
    simp only [idOK,Bool.and_eq_true] at h
    have:=zJw h.2 i x hx
    rw [this]; congr 1; omega
  | none :: r,n,h,i,x,hx=>by cases h
theorem zM7 {N:Nat} {keep:List (Option Nat)} (h:idOK N keep=true) (i:Nat):rx N keep i=some i∨rx N keep i=none:=by
  by_cases c:i<N
  · exact .inl (zAZ c)
  · unfold rx
    rw [show Nat.blt i N=false from Bool.eq_false_iff.2 fun hb=>c (by simpa [Nat.blt_eq] using hb)]
    cases hg:get keep (i - N) with
    | none=>exact .inr rfl
    | some x =>
      have:=zJw h _ _ hg
      subst this
      simp only [cond_false]
      exact .inl (by congr 1; omega)
theorem famPut (b m nb:Nat) (keep:List (Option Nat)) (K':List (Nat×V)) (hw:wants all K g=some true) (hq:∀ a c,QC (F.g a) (F.g c)=some (decide (a=c))) (hp:∀ l:List α,Ya (F.g k0) (l.map F.g)=pos0 k0 l) (hm:zBk C t=some (kd,Te)) (hkd:Q4 C kd (F.g k0)=true) (h1:kev K mo=some (.map m)) (h2:kev K ko=some (F.g k0)) (h3:kev K vo=some (F.mv nb x0)) (hlo:lo=0)
    (hmap:hget H1 m=famM F b A) (hpre:∀ j,j<b→hget H1 j=hget P j) (hold:∀ j q,A[j]? = some q→JB k0 A≠some j→hget H1 (b+j)=F.bk q.2) (hnb:b+A.length≤nb) (hnew:hget H1 nb=F.bk x0) (hbH:b+A.length≤H1.length) (hb:Nat.beq P.length b=true) (hN:Nat.ble N b=true) (hk:kokL N b keep=true) (hl:Nat.beq b (N+keep.length)=true) (hmm:rx N keep m=some m) (hm2:Nat.blt m b=true) (hP0:set P m .dead=P0) (hid0:idOK N keep=true) (hK:GK N keep K' K) (hB:GB N keep P 0 P0) (hP2:set P0 m (famM F b (putM pos0 A k0 x0))=P2)
    (h:GS C N (.ops all os :: k) ⟨K',P2++famB F (putM pos0 A k0 x0),lo,rnd,n⟩ Q):GS C N (.ops all (⟨none,.mapUpdate t mo ko vo,ty,pos,after,g⟩ :: os) :: k) ⟨K,H1,lo,rnd,n⟩ Q:=by
  subst hlo
  have hb':P.length=b:=Nat.eq_of_beq_eq_true hb
  have hN':N≤b:=Nat.le_of_ble_eq_true hN
  have hm2':m<b:=by simpa [Nat.blt_eq] using hm2
  have hP0l:P0.length=b:=by rw [← hP0,Zy,List.length_set,hb']
  obtain ⟨k1,k2⟩:=Qp hk
  have hid:=zM7 hid0
  have hgo:∀ (idf:Nat→Nat) (vs:List V),zM C K H1 0 H1.length (.mapUpdate t mo ko vo)=some ⟨jA,[(m,.map ((putM pos0 A k0 x0).map fun p=>F.g p.1) vs)],[m]⟩→vs=famW F idf 0 (putM pos0 A k0 x0)→(∀ j q,(putM pos0 A k0 x0)[j]? = some q→b≤idf j∧hget H1 (idf j)=F.bk q.2)→(∀ i j,i<(putM pos0 A k0 x0).length→j<(putM pos0 A k0 x0).length→idf i=idf j→i=j)→GS C N (.ops all (⟨none,.mapUpdate t mo ko vo,ty,pos,after,g⟩ :: os) :: k) ⟨K,H1,0,rnd,n⟩ Q:=by
    intro idf vs he hvs hidf hinj
    refine op0W hw he rfl ?_
    simp only [puts]
    have hge:∀ t,t<(putM pos0 A k0 x0).length→b≤idf t:=fun t ht=>(hidf t _ (List.getElem?_eq_getElem ht)).1
    have hputE:∀ j,j≠m→hget (hput H1 m (.map ((putM pos0 A k0 x0).map fun p=>F.g p.1) vs)) j=hget H1 j:=fun j hj=>by
      unfold hget
      rw [zh _ _ _ _ (by omega),if_neg (fun e=>hj e.symm)]
    refine zOd (F:=F) (A:=putM pos0 A k0 x0) (P0:=P0) (P2:=P2) (vs:=vs) b m m keep idf hP2 h rfl (fun i j h=>?_) k2 (by rw [hP0l]; simp) hl hK ?_ hmm hm2 ?_ hvs (fun j q hq=>?_) hinj (fun i j t h ht e=>?_) (fun t ht=>Nat.le_trans hN' (hge t ht))
    · have := k1 i j h
      rw [zq _ _ _ (by omega)]
      omega
    · have key : ∀ (L : List Blk) (i : Nat), (∀ s, L[s]? = P0[i + s]?) → GB N keep P i L → GB N keep (hput H1 m (.map ((putM pos0 A k0 x0).map fun p => F.g p.1) vs)) i L := by
        intro L
        induction L with
        | nil=>intro i _ _; trivial
        | cons x r ih =>
          intro i hi hg
          refine ⟨⟨hg.1.1,fun hl=>?_⟩,ih (i+1) (fun s=>by have:=hi (s+1); rw [List.getElem?_cons_succ] at this; rw [this]; congr 1; omega) hg.2⟩
          obtain ⟨j,h4,h5⟩:=hg.1.2 hl
          have hx:=hi 0
          simp only [List.getElem?_cons_zero,Nat.add_zero] at hx
          have hji:i=j:=by
            rcases hid i with h6 | h6
            · rw [h6] at h4; cases h4; rfl
            · rw [h6] at h4; cases h4
          subst hji
          have hib:i<b:=by rw [← hP0l]; exact (List.getElem?_eq_some_iff.1 hx.symm).1
          have hne:i≠m:=fun e=>by
            subst e
            rw [← hP0,Zy,List.getElem?_set_self (by omega)] at hx
            cases hx
            cases hl
          refine ⟨i,h4,?_⟩
          rw [hputE i hne,hpre i hib]
          exact h5
      exact key P0 0 (fun s=>by rw [Nat.zero_add]) hB
    · unfold hget
      rw [zh _ _ _ _ (by omega),if_pos rfl]
    · obtain ⟨h4, h5⟩ := hidf j q hq
      rw [hputE _ (by omega)]
      exact h5
    · have := (k1 i j h).2
      have:=hge t ht
      omega
  have hbase:zM C K H1 0 H1.length (.mapUpdate t mo ko vo)=Qy C H1 0 t (.map m) (F.g k0) (F.mv nb x0):=by simp only [zM,yF,h1,h2,h3]
  cases hf:JB k0 A with
  | none =>
    have hpm:putM pos0 A k0 x0=insL A (pos0 k0 (A.map (·.1))) (k0,x0):=by unfold putM; rw [hf]
    have hins:∀ (L:List (α×β)) (s:Nat),(insL L s (k0,x0)).map (fun p=>F.g p.1)=ins (L.map fun p=>F.g p.1) s (F.g k0):=by
      intro L
      induction L with
      | nil=>intro s; cases s <;> rfl
      | cons y r ih=>intro s; cases s with
        | zero=>rfl
        | succ s=>simp only [insL,ins,List.map_cons,ih]
    let s0:=min (pos0 k0 (A.map (·.1))) A.length
    have hinsg:∀ (L:List (α×β)) (s j:Nat),(insL L s (k0,x0))[j]? = if j<min s L.length then L[j]? else if j=min s L.length then some (k0,x0) else L[j - 1]?:=by
      intro L
      induction L with
      | nil =>
        intro s j
        cases s <;> cases j <;> simp [insL]
      | cons y r ih =>
        intro s j
        cases s with
        | zero=>cases j <;> simp [insL]
        | succ s =>
          cases j with
          | zero=>simp [insL]
          | succ j =>
            simp only [insL,List.getElem?_cons_succ,ih s j,List.length_cons]
            by_cases c1:j<min s r.length
            · rw [if_pos c1,if_pos (show j+1<min (s+1) (r.length+1) by omega)]
            · rw [if_neg c1, if_neg (show ¬ j + 1 < min (s + 1) (r.length + 1) by omega)]
              by_cases c2:j=min s r.length
              · rw [if_pos c2,if_pos (show j+1=min (s+1) (r.length+1) by omega)]
              · rw [if_neg c2, if_neg (show ¬ j + 1 = min (s + 1) (r.length + 1) by omega)]
                cases j with
                | zero=>omega
                | succ j=>simp
    let idf:Nat→Nat:=fun j=>if j<s0 then b+j else if j=s0 then nb else b+(j - 1)
    have hlen:(insL A (pos0 k0 (A.map (·.1))) (k0,x0)).length=A.length+1:=by
      have:∀ (L:List (α×β)) (s:Nat),(insL L s (k0,x0)).length=L.length+1:=by
        intro L
        induction L with
        | nil=>intro s; cases s <;> rfl
        | cons y r ih=>intro s; cases s with
          | zero=>rfl
          | succ s=>simp only [insL,List.length_cons,ih]
      exact this _ _
    refine hgo idf (famW F idf 0 (putM pos0 A k0 x0)) ?_ rfl (fun j q hq=>?_) (fun i j hi hj e=>?_)
    · rw [hbase]
      simp only [Qy,hm,hkd,cond_true,Nat.not_lt_zero,if_false,hmap,famM,zBY hq,hf,Option.map_none]
      have ek:Ya (F.g k0) (A.map fun p=>F.g p.1)=pos0 k0 (A.map (·.1)):=by
        rw [← hp (A.map (·.1)),List.map_map]; rfl
      rw [ek,hpm,hins]
      congr 5
      refine List.ext_getElem? fun j=>?_
      rw [QF,hinsg,Nat.zero_add]
      have hinsv:∀ (L:List V) (s j:Nat) (v:V),(ins L s v)[j]? = if j<min s L.length then L[j]? else if j=min s L.length then some v else L[j - 1]?:=by
        intro L
        induction L with
        | nil=>intro s j v; cases s <;> cases j <;> simp [ins]
        | cons y r ih =>
          intro s j v
          cases s with
          | zero=>cases j <;> simp [ins]
          | succ s =>
            cases j with
            | zero=>simp [ins]
            | succ j =>
              simp only [ins,List.getElem?_cons_succ,ih s j,List.length_cons]
              by_cases c1:j<min s r.length
              · rw [if_pos c1,if_pos (show j+1<min (s+1) (r.length+1) by omega)]
              · rw [if_neg c1, if_neg (show ¬ j + 1 < min (s + 1) (r.length + 1) by omega)]
                by_cases c2:j=min s r.length
                · rw [if_pos c2,if_pos (show j+1=min (s+1) (r.length+1) by omega)]
                · rw [if_neg c2, if_neg (show ¬ j + 1 = min (s + 1) (r.length + 1) by omega)]
                  cases j with
                  | zero=>omega
                  | succ j=>simp
      rw [hinsv,zG3]
      show _=Option.map (fun q:α×β=>F.mv (if j<s0 then b+j else if j=s0 then nb else b+(j - 1)) q.2) _
      by_cases c1:j<s0
      · rw [if_pos c1,if_pos c1,if_pos c1,QF,Nat.zero_add]
      · rw [if_neg c1, if_neg c1, if_neg c1]
        by_cases c2:j=s0
        · rw [if_pos c2,if_pos c2,if_pos c2]; rfl
        · rw [if_neg c2,if_neg c2,if_neg c2,QF,Nat.zero_add]
    · rw [hpm, hinsg] at hq
      show b≤(if j<s0 then b+j else if j=s0 then nb else b+(j - 1))∧hget H1 (if j<s0 then b+j else if j=s0 then nb else b+(j - 1))=_
      by_cases c1:j<s0
      · rw [if_pos c1] at hq ⊢
        exact ⟨by omega,hold j q hq (by rw [hf]; simp)⟩
      · rw [if_neg c1] at hq ⊢
        by_cases c2:j=s0
        · rw [if_pos c2] at hq ⊢
          cases hq
          exact ⟨by omega,hnew⟩
        · rw [if_neg c2] at hq ⊢
          exact ⟨by omega,hold (j - 1) q hq (by rw [hf]; simp)⟩
    · rw [hpm, hlen] at hi hj
      have e:(if i<s0 then b+i else if i=s0 then nb else b+(i - 1))=(if j<s0 then b+j else if j=s0 then nb else b+(j - 1)):=e
      have:s0≤A.length:=Nat.min_le_right _ _
      split at e <;> split at e <;> (try split at e) <;> (try split at e) <;> omega
  | some i =>
    obtain ⟨q0,g1,g2,g3⟩:=zC4 hf
    have hpm:putM pos0 A k0 x0=A.set i (k0,x0):=by unfold putM; rw [hf]
    have hilt:=(List.getElem?_eq_some_iff.1 g1).1
    let idf:Nat→Nat:=fun j=>if j=i then nb else b+j
    refine hgo idf (famW F idf 0 (putM pos0 A k0 x0)) ?_ rfl (fun j q hq=>?_) (fun i' j hi hj e=>?_)
    · rw [hbase]
      simp only [Qy,hm,hkd,cond_true,Nat.not_lt_zero,if_false,hmap,famM,zBY hq,hf,Option.map_some,Nat.zero_add]
      congr 4
      rw [hpm]
      congr 1
      · refine List.ext_getElem? fun j => ?_
        rw [List.getElem?_map,List.getElem?_map,List.getElem?_set]
        by_cases c:i=j
        · subst c; rw [if_pos rfl,if_pos hilt,g1]; simp [g3]
        · rw [if_neg c]
      · refine List.ext_getElem? fun j => ?_
        rw [Zy,List.getElem?_set,zG3,QF,QF,List.getElem?_set,Nat.zero_add]
        show _=Option.map (fun q:α×β=>F.mv (if j=i then nb else b+j) q.2) _
        by_cases c:i=j
        · subst c; rw [if_pos rfl,if_pos rfl,if_pos hilt,if_pos hilt,if_pos rfl]; rfl
        · rw [if_neg c,if_neg c,if_neg (fun e=>c e.symm)]
    · rw [hpm, List.getElem?_set] at hq
      show b≤(if j=i then nb else b+j)∧hget H1 (if j=i then nb else b+j)=_
      by_cases c:i=j
      · subst c
        rw [if_pos rfl,if_pos hilt] at hq
        cases hq
        rw [if_pos rfl]
        exact ⟨by omega,hnew⟩
      · rw [if_neg c] at hq
        rw [if_neg (fun e=>c e.symm)]
        exact ⟨by omega,hold j q hq (by rw [hf]; simpa using c)⟩
    · rw [hpm, List.length_set] at hi hj
      have e:(if i'=i then nb else b+i')=(if j=i then nb else b+j):=e
      split at e <;> split at e <;> omega
theorem zH5 (b m:Nat) (keep:List (Option Nat)) (K':List (Nat×V)) (hw:wants all K g=some true) (hq:∀ a c,QC (F.g a) (F.g c)=some (decide (a=c))) (hp:∀ l:List α,Ya (F.g k0) (l.map F.g)=pos0 k0 l) (hm:zBk C t=some (kd,Te)) (hkd:Q4 C kd (F.g k0)=true) (h1:kev K mo=some (.map m)) (h2:kev K ko=some (F.g k0)) (h3:kev K vo=some (F.mv (P++famB F A).length x0)) (hlo:lo=0)
    (hmap:get P m=some (famM F b A)) (hb:Nat.beq P.length b=true) (hN:Nat.ble N b=true) (hk:kokL N b keep=true) (hl:Nat.beq b (N+keep.length)=true) (hmm:rx N keep m=some m) (hm2:Nat.blt m b=true) (hP0:set P m .dead=P0) (hid0:idOK N keep=true) (hK:GK N keep K' K) (hB:GB N keep P 0 P0) (hP2:set P0 m (famM F b (putM pos0 A k0 x0))=P2)
    (h:GS C N (.ops all os :: k) ⟨K',P2++famB F (putM pos0 A k0 x0),lo,rnd,n⟩ Q):GS C N (.ops all (⟨none,.mapUpdate t mo ko vo,ty,pos,after,g⟩ :: os) :: k) ⟨K,(P++famB F A)++[F.bk x0],lo,rnd,n⟩ Q:=by
  have hb':P.length=b:=Nat.eq_of_beq_eq_true hb
  have hlen:(P++famB F A).length=b+A.length:=by rw [List.length_append,zCY,hb']
  refine famPut b m (P++famB F A).length keep K' hw hq hp hm hkd h1 h2 h3 hlo (by rw [List.append_assoc]; exact zGo hmap) (fun j hj=>?_) (fun j q hq _=>?_) (by rw [hlen]; exact Nat.le_refl _) zGp (by rw [List.length_append,hlen]; simp) hb hN hk hl hmm hm2 hP0 hid0 hK hB hP2 h
  · unfold hget
    rw [zP,zP,List.append_assoc,List.getElem?_append_left (by omega)]
  · unfold hget
    rw [zP,List.getElem?_append_left (by rw [hlen]; have:=(List.getElem?_eq_some_iff.1 hq).1; omega)]
    have:=zCR (F:=F) hb' hq
    unfold hget at this
    rw [zP] at this
    exact this
end
end X
section
variable {α β γ δ:Type}
def fkM (g:α→V) (hg:∀ N keep a,rn N keep 9 (g a)=some (g a)) (f1:γ→V) (f2:δ→V) (h1:∀ N keep a,rn N keep 9 (f1 a)=some (f1 a)) (h2:∀ N keep a,rn N keep 9 (f2 a)=some (f2 a)):FK α (List (γ×δ)) where
  g:=g
  mv:=fun i _=>.map i
  bk:=fun l=>.map (l.map fun p=>f1 p.1) (l.map fun p=>f2 p.2)
  nilv:=.lit (.map none)
  hg:=hg
  hmk:=fun N keep i j x h=>by simp only [rn,h,Option.map_some]
  hbk:=fun N keep x=>by simp only [rnB,JV (f:=fun p:γ×δ=>f1 p.1) (fun p=>h1 N keep p.1),JV (f:=fun p:γ×δ=>f2 p.2) (fun p=>h2 N keep p.2)]
  live:=fun _=>rfl
  nofree:=fun _ h=>by cases h
end
namespace X
theorem frM {α γ δ:Type} {P:List Blk} {b m:Nat} {g:α→V} {hg:∀ N keep a,rn N keep 9 (g a)=some (g a)} {f1:γ→V} {f2:δ→V} {h1:∀ N keep a,rn N keep 9 (f1 a)=some (f1 a)} {h2:∀ N keep a,rn N keep 9 (f2 a)=some (f2 a)} {A:List (α×List (γ×δ))} (hb:Nat.beq P.length b=true) (hm:get P m=some (famM (fkM g hg f1 f2 h1 h2) b A)) (s0:∀ H a,frz H 0 9 (g a)=some (g a)) (s1:∀ H a,frz H 0 9 (f1 a)=some (f1 a)) (s2:∀ H a,frz H 0 9 (f2 a)=some (f2 a)):FR (P++famB (fkM g hg f1 f2 h1 h2) A) 0 (.map m) (.fmap (A.map fun p=>g p.1) (A.map fun p=>V.fmap (p.2.map fun p=>f1 p.1) (p.2.map fun p=>f2 p.2))):=by
  have hb':=Nat.eq_of_beq_eq_true hb
  refine ⟨11,?_⟩
  have e0:mapO (frz (P++famB (fkM g hg f1 f2 h1 h2) A) 0 10) (A.map fun p=>g p.1)=some (A.map fun p=>g p.1):=JV (f:=fun p:α×List (γ×δ)=>g p.1) (fun p=>zGs _ _ _ (s0 _ p.1)) A
  have key:∀ (L:List (α×List (γ×δ))) (i:Nat),(∀ s,L[s]? = A[i+s]?)→mapO (frz (P++famB (fkM g hg f1 f2 h1 h2) A) 0 10) (famW (fkM g hg f1 f2 h1 h2) (b + ·) i L)=some (L.map fun p=>V.fmap (p.2.map fun p=>f1 p.1) (p.2.map fun p=>f2 p.2)):=by
    intro L
    induction L with
    | nil=>intro i _; rfl
    | cons q r ih =>
      intro i hi
      have hq:=hi 0
      simp only [List.getElem?_cons_zero,Nat.add_zero] at hq
      simp only [famW,mapO,List.map_cons]
      rw [ih (i+1) fun s=>by have:=hi (s+1); rw [List.getElem?_cons_succ] at this; rw [this]; congr 1; omega]
      have e1:frz (P++famB (fkM g hg f1 f2 h1 h2) A) 0 10 ((fkM g hg f1 f2 h1 h2).mv (b+i) q.2)=some (V.fmap (q.2.map fun p=>f1 p.1) (q.2.map fun p=>f2 p.2)) :=
        zFN (m:=9) (by rw [zCR hb' hq.symm]; rfl) (JV (f:=fun p:γ×δ=>f1 p.1) (fun p=>s1 _ p.1) q.2) (JV (f:=fun p:γ×δ=>f2 p.2) (fun p=>s2 _ p.2) q.2)
      rw [e1]
  exact zFN (m:=10) (zGo hm) e0 (key A 0 fun s=>by rw [Nat.zero_add])
end X
namespace X
section
variable {α β γ δ:Type} {C:Cfg} {N:Nat} {k:List It} {K K':List (Nat×V)} {H H1 P P0 P2:List Blk} {lo n d nid b m t:Nat} {rnd:Option Nat} {Q:Ex→St→Prop} {all os:List Oper} {p:Op} {ty:TypeId} {pos:String} {after:Array Edge} {gu:Option (Nat×Bool)} [DecidableEq α] {k0:α} {kd:Kd} {Te T:TI} {mo ko vo xo yo:Operand}
variable {g:α→V} {hg:∀ N keep a,rn N keep 9 (g a)=some (g a)} {es:Nat} {f:β→V} {hf:∀ N keep a,rn N keep 9 (f a)=some (f a)} {f1:γ→V} {f2:δ→V} {h1:∀ N keep a,rn N keep 9 (f1 a)=some (f1 a)} {h2:∀ N keep a,rn N keep 9 (f2 a)=some (f2 a)}
theorem zOc {A:List (α×List (γ×δ))} {t2 kt e:Nat} (hT:C.ty t=some T) (hk:T.kd = .map kt e) (hx:kev K xo=some (Q9 (fkM g hg f1 f2 h1 h2) b A k0)) (hy:kev K yo=some (.lit (.map none))):zM C K H lo nid (.binOp .eql t xo yo t2)=some ⟨.b (!(zO k0 A).isSome),[],[]⟩:=by
  simp only [zM,YF,hx,hy,binA,eqA,hT,hk]
  unfold Q9
  cases hfk:JB k0 A with
  | none=>rw [zGz hfk]; rfl
  | some j =>
    obtain ⟨q,q1,q2,q3⟩:=zC4 hfk
    rw [q2]
    simp only [q1]
    rfl
theorem famIn {A:List (α×List (γ×δ))} [DecidableEq γ] {v0:List (γ×δ)} {a:γ} {c:δ} {pos0:α→List α→Nat} {pos1:γ→List γ→Nat} (m:Nat) (hl0:zO k0 A=some v0) (hq:∀ a b,QC (f1 a) (f1 b)=some (decide (a=b))) (hp:∀ l:List γ,Ya (f1 a) (l.map f1)=pos1 a l) (hm:zBk C t=some (kd,Te)) (hkd:Q4 C kd (f1 a)=true) (g1:kev K mo=some (Q9 (fkM g hg f1 f2 h1 h2) b A k0)) (g2:kev K ko=some (f1 a)) (g3:kev K vo=some (f2 c)) (hw:wants all K gu=some true) (hlo:lo=0) (hb:Nat.beq P.length b=true) (hmap:get P m=some (famM (fkM g hg f1 f2 h1 h2) b A)) (hP2:set P m (famM (fkM g hg f1 f2 h1 h2) b (putM pos0 A k0 (putM pos1 v0 a c)))=P2)
    (h:GS C N (.ops all os :: k) ⟨K,P2++famB (fkM g hg f1 f2 h1 h2) (putM pos0 A k0 (putM pos1 v0 a c)),lo,rnd,n⟩ Q):GS C N (.ops all (⟨none,.mapUpdate t mo ko vo,ty,pos,after,gu⟩ :: os) :: k) ⟨K,P++famB (fkM g hg f1 f2 h1 h2) A,lo,rnd,n⟩ Q:=by
  subst hlo
  have hb':=Nat.eq_of_beq_eq_true hb
  cases hfk:JB k0 A with
  | none=>rw [zGz hfk] at hl0; cases hl0
  | some j =>
    obtain ⟨q,q1,q2,q3⟩:=zC4 hfk
    rw [q2] at hl0
    cases hl0
    have hj:=(List.getElem?_eq_some_iff.1 q1).1
    have hpm:putM pos0 A k0 (putM pos1 q.2 a c)=A.set j (k0,putM pos1 q.2 a c):=by unfold putM; rw [hfk]
    have eM:famM (fkM g hg f1 f2 h1 h2) b (putM pos0 A k0 (putM pos1 q.2 a c))=famM (fkM g hg f1 f2 h1 h2) b A:=by
      rw [hpm]
      unfold famM
      congr 1
      · refine List.ext_getElem? fun i => ?_
        rw [List.getElem?_map,List.getElem?_map,List.getElem?_set]
        by_cases c:j=i
        · subst c; rw [if_pos rfl,if_pos hj,q1]; simp [q3]
        · rw [if_neg c]
      · refine List.ext_getElem? fun i => ?_
        rw [QF,QF,List.getElem?_set]
        by_cases c:j=i
        · subst c; rw [if_pos rfl,if_pos hj,q1]; rfl
        · rw [if_neg c]
    have eP:P2=P:=by
      rw [← hP2,eM,Zy]
      refine List.ext_getElem? fun i=>?_
      rw [zP] at hmap
      rw [List.getElem?_set]
      by_cases c:m=i
      · subst c; rw [if_pos rfl,if_pos (List.getElem?_eq_some_iff.1 hmap).1,hmap]
      · rw [if_neg c]
    have g1':kev K mo=some (.map (b+j)):=by rw [g1]; unfold Q9; rw [hfk]; simp only [q1]; rfl
    have hH:hget (P++famB (fkM g hg f1 f2 h1 h2) A) (b+j) = .map (q.2.map fun p=>f1 p.1) (q.2.map fun p=>f2 p.2):=by rw [zCR hb' q1]; rfl
    rw [eP] at h
    refine op0W hw (putW (f:=f1) (g:=f2) (pos:=pos1) (l:=q.2) hq hp hm hkd g1' g2 g3 hH (by simp)) ?_ h
    simp only [puts]
    refine List.ext_getElem? fun i=>?_
    rw [← zP,zh _ _ _ _ (by rw [List.length_append,zCY]; omega)]
    by_cases c:b+j=i
    · rw [if_pos c, ← c, List.getElem?_append_right (by omega), show b + j - P.length = j by omega, hpm]
      simp only [famB,List.map_set]
      rw [List.getElem?_set_self (by simpa using hj)]
      rfl
    · rw [if_neg c, zP]
      by_cases c2:i<P.length
      · rw [List.getElem?_append_left c2,List.getElem?_append_left c2]
      · rw [List.getElem?_append_right (by omega), List.getElem?_append_right (by omega), hpm]
        simp only [famB,List.map_set]
        rw [List.getElem?_set_ne (by omega)]
end
section
variable {γ:Type} {C:Cfg} {N:Nat} {k:List It} {K K':List (Nat×V)} {H:List Blk} {lo n d nid t:Nat} {rnd:Option Nat} {Q:Ex→St→Prop} {T:TI} {xo:Operand}
theorem zOT : ∀ t v,kget ([]:List (Nat×V)) t=some v→∃ v0,kget K t=some v0∧(FR H 0 v0 v∨v0=v∧∃ x,v = .lit x):=fun t v h=>by cases h
theorem fw_cons' {t:Nat} {v v0:V} (hk:kget K t=some v0) (hv:FR H 0 v0 v∨v0=v∧∃ x,v = .lit x) (h:∀ t v,kget K' t=some v→∃ v0,kget K t=some v0∧(FR H 0 v0 v∨v0=v∧∃ x,v = .lit x)):∀ t' v',kget ((t,v) :: K') t'=some v'→∃ v0,kget K t'=some v0∧(FR H 0 v0 v'∨v0=v'∧∃ x,v' = .lit x):=fun t' v' h' => by
  simp only [kget] at h'
  by_cases e:t=t'
  · subst e
    simp only [Nat.beq_refl,cond_true,Option.some.injEq] at h'
    subst h'
    exact ⟨v0,hk,hv⟩
  · rw [zAk e] at h'; exact h t' v' h'
theorem zF2 {t:Nat} {v v0:V} (hk:kget K t=some v0) (hv:FR H 0 v0 v) (h:∀ t v,kget K' t=some v→∃ v0,kget K t=some v0∧(FR H 0 v0 v∨v0=v∧∃ x,v = .lit x)):∀ t' v',kget ((t,v) :: K') t'=some v'→∃ v0,kget K t'=some v0∧(FR H 0 v0 v'∨v0=v'∧∃ x,v' = .lit x):=fw_cons' hk (.inl hv) h
theorem zOU {t:Nat} {x:Value} (hk:kget K t=some (.lit x)) (h:∀ t v,kget K' t=some v→∃ v0,kget K t=some v0∧(FR H 0 v0 v∨v0=v∧∃ x,v = .lit x)):∀ t' v',kget ((t,.lit x) :: K') t'=some v'→∃ v0,kget K t'=some v0∧(FR H 0 v0 v'∨v0=v'∧∃ x,v' = .lit x):=fw_cons' hk (.inr ⟨rfl,x,rfl⟩) h
theorem lenMF {l:List γ} {fa fb:γ→V} {kt e:Nat} (hT:C.ty t=some T) (hk:T.kd = .map kt e) (hx:kev K xo=some (.fmap (l.map fa) (l.map fb))):zM C K H lo nid (.call ⟨.builtin .len,#[xo],#[t]⟩)=some ⟨.i (l.length:Nat),[],[]⟩:=by
  simp [zM,Zd,kevs,hx,Z0,zAC,hT,hk,Am.lenM]
theorem zNd {σ κ τ:Type} {ga:κ→V} {gb:τ→V} {f0:κ×τ→σ→Option σ} {R:σ→σ→Prop} {es0:List (κ×τ)} {v0 vE:σ} {c:Code} {s:St} (S:σ→List Nat→Option Nat→St) (hM:QO f0 es0 v0=some vE) (hR:zI7 f0 R)
    (step:∀ v left last,left≠[]→(∀ j kv vv,j∈left→get (es0.map fun p=>ga p.1) j=some kv→get (es0.map fun p=>gb p.2) j=some vv→∃ p v',kv=ga p.1∧vv=gb p.2∧f0 p v=some v'∧GS C N (.inLoop c :: k) (S v' (left.filter (·≠j)) (some j)) Q)→GS C N (.code c :: .inLoop c :: k) (S v left last) Q)
    (exit:∀ v last,R vE v→GS C N (.code c :: .inLoop c :: k) (S v [] last) Q) (e:S v0 (idxs 0 (es0.map fun p=>ga p.1).length) none=s):GS C N (.code (.loop c) :: k) s Q:=by
  subst e
  have hperm:∀ (l:List Nat) (j:Nat),l.Nodup→j∈l→l.Perm (j :: l.filter (·≠j)):=by
    intro l
    induction l with
    | nil=>intro j _ h; cases h
    | cons x r ih =>
      intro j hn hj
      rw [List.nodup_cons] at hn
      by_cases e:x=j
      · subst e
        rw [List.filter_cons_of_neg (by simp),List.filter_eq_self.2 fun y hy=>by simp; rintro rfl; exact hn.1 hy]
      · rw [List.filter_cons_of_pos (by simpa using e)]
        have hj' : j ∈ r := by rcases List.mem_cons.1 hj with h | h
                               · exact absurd h.symm e
                               · exact h
        exact ((ih j hn.2 hj').cons x).trans (List.Perm.swap j x _)
  have key:∀ (m:Nat) (left:List Nat) (last:Option Nat) (v vR:σ),left.length≤m→left.Nodup→(∀ j∈left,j<es0.length)→QO f0 (left.filterMap (es0[·]?)) v=some vR→R vE vR→GS C N (.code c :: .inLoop c :: k) (S v left last) Q:=by
    intro m
    induction m with
    | zero =>
      intro left last v vR hl hn hb hf hr
      have:left=[]:=List.eq_nil_of_length_eq_zero (by omega)
      subst this
      simp only [List.filterMap_nil,QO,Option.some.injEq] at hf
      subst hf
      exact exit v last hr
    | succ m ih =>
      intro left last v vR hl hn hb hf hr
      by_cases hne:left=[]
      · subst hne
        simp only [List.filterMap_nil,QO,Option.some.injEq] at hf
        subst hf
        exact exit v last hr
      · refine step v left last hne fun j kv vv hj hk hv => ?_
        have hjl:=hb j hj
        have hpe:=(hperm left j hn hj).filterMap (es0[·]?)
        rw [List.filterMap_cons_some (List.getElem?_eq_getElem hjl)] at hpe
        obtain ⟨vR',h1,h2⟩:=zLH hR hpe v vR hf
        simp only [QO] at h1
        obtain ⟨v',h3,h4⟩:=zK h1
        rw [zP,List.getElem?_map,List.getElem?_eq_getElem hjl] at hk hv
        simp only [Option.map_some,Option.some.injEq] at hk hv
        refine ⟨es0[j],v',hk.symm,hv.symm,h3,.inLoop (ih _ _ v' vR' ?_ (hn.filter _) (fun i hi=>hb i (List.mem_filter.1 hi).1) h4 (hR.tr _ _ _ hr h2))⟩
        have:=(hperm left j hn hj).length_eq
        simp only [List.length_cons] at this
        omega
  have hidx:∀ (n i:Nat),(idxs i n).Nodup∧(idxs i n).length=n:=by
    intro n
    induction n with
    | zero=>intro i; exact ⟨List.nodup_nil,rfl⟩
    | succ n ih =>
      intro i
      refine ⟨List.nodup_cons.2 ⟨fun h=>?_,(ih (i+1)).1⟩,by simp only [idxs,List.length_cons,(ih (i+1)).2]⟩
      have:=(QE n (i+1) i).1 h
      omega
  have hget:∀ (n i:Nat),i+n=es0.length→(idxs i n).filterMap (es0[·]?)=es0.drop i:=by
    intro n
    induction n with
    | zero=>intro i h; simp only [idxs,List.filterMap_nil]; rw [List.drop_eq_nil_of_le (by omega)]
    | succ n ih =>
      intro i h
      simp only [idxs]
      rw [List.filterMap_cons_some (List.getElem?_eq_getElem (by omega)),ih (i+1) (by omega),← List.drop_eq_getElem_cons (by omega)]
  have hlen:(es0.map fun p=>ga p.1).length=es0.length:=List.length_map ..
  refine .loop (key _ (idxs 0 (es0.map fun p=>ga p.1).length) none v0 vE (Nat.le_refl _) (hidx _ _).1 (fun j hj=>?_) ?_ (hR.rfl' vE))
  · rw [hlen] at hj; have:=(QE _ _ _).1 hj; omega
  · rw [hlen,hget _ 0 (by omega)]; exact hM
theorem zKG {s:St} {id:Nat} {l:List Oper} (b:Nat) (hb:(l.take b).length=b) (hreg:zAI l=true) (hcut:zG7 l b=true) (h0:YV (l.take b)=0) (h:DW C N (.ops l (l.drop b) :: k) Q l (l.take b) 0 s.H.length s []):GS C N (.code (.region id l.toArray true) :: k) s Q:=by
  refine zEe b hb hreg hcut ?_
  rw [h0]
  have e:s.H++zl 0=s.H:=List.append_nil _
  rw [e]
  exact h
theorem clearU {α:Type} {z:Bool} {f:α→V} {l r l':List α} {z0:α} {t id e es:Nat} {a:Int} {T Te:TI} {xo:Operand} {all os:List Oper} {ty:TypeId} {pos:String} {after:Array Edge} {g:Option (Nat×Bool)} {H':List Blk} (d:Nat) (hc:clrE l a z0=some l') (hsub:sub l a (l.length:Int)=some r) (hw:wants all K g=some true) (hT:C.ty t=some T) (hk:T.kd = .slice e es) (hTe:C.ty e=some Te) (hes:Te.size=es) (hz:Te.zero=f z0) (hd:kget K d=some (ovlz z id l)) (hx:kev K xo=some (ovs z id l r a)) (hH:hget H id=oblz z es f l) (hlo:Nat.ble lo id=true) (hH':hput H id (oblz z es f l')=H')
    (h:GS C N (.ops all os :: k) ⟨(d,ovlz z id l') :: K,H',lo,rnd,n⟩ Q):GS C N (.ops all (⟨none,.call ⟨.builtin .clear,#[xo],#[t]⟩,ty,pos,after,g⟩ :: os) :: k) ⟨K,H,lo,rnd,n⟩ Q:=by
  obtain ⟨c1,c2,c3,c4⟩:=zME hc
  obtain ⟨_,_,_,s4⟩:=zE2 hsub
  have hll:=zOt hc
  have hne:l≠[]:=fun e=>by rw [e] at c1; cases c1
  have hne':l'≠[]:=fun e=>by rw [e] at hll; rw [hll] at c1; cases c1
  rcases zCp z id l r a with ⟨_,e⟩ | ⟨e1,_,_,e4⟩
  · exact absurd e hne
  · have hrl : r.length = l.length - a.toNat := by
      rw [s4,List.length_drop,List.length_take]
      omega
    have hx':kev K xo=some (.osl id a.toNat ((l.map f).length - a.toNat)):=by rw [hx,e1,hrl,List.length_map]
    have he:oblz z es f l' = .rows es ((l.map f).take a.toNat++List.replicate ((l.map f).length - a.toNat) Te.zero):=by
      rw [Yi hne',c4,hz]
      simp [List.map_append,List.map_take,List.map_replicate]
    refine op0W hw (clrO (R:=l.map f) hT hk hTe hes hx' (by rw [hH,e4]) rfl hlo (by rw [List.length_map]; omega)) (H':=H') (by rw [← he]; exact hH') ?_
    refine GS.drop ((d,ovlz z id l') :: K) (fun t' v hv=>?_) h
    simp only [kget] at hv
    by_cases e:d=t'
    · subst e
      simp only [Nat.beq_refl,cond_true,Option.some.injEq] at hv
      subst hv
      show kget K d=_
      rw [hd,zAg hne,zAg hne',hll]
    · rw [zAk e] at hv; exact hv
theorem zNB {α:Type} {z:Bool} {f:α→V} {l r:List α} {id es:Nat} {b:Int} (d:Nat) (hs:sub l 0 b=some r) (hd:kget K d=some (ovs z id l r 0)) (hg:hget H id=oblz z es f l) (hid:Nat.blt id H.length=true) (hlo:Nat.ble lo id=true) (hsh:∀ x,shut 9 (f x)=true)
    (h:GS C 0 k ⟨(d,.sl (r.map f)) :: K,hput H id .dead,lo,rnd,n⟩ Q):GS C 0 k ⟨K,H,lo,rnd,n⟩ Q:=by
  obtain ⟨_,h1,h2,h3⟩:=zE2 hs
  rcases zCp z id l r 0 with ⟨rfl,rfl⟩ | ⟨e1,_,_,e4⟩
  · have : r = [] := by simpa using h3
    subst this
    exact zCS (z:=true) (l:=([]:List α)) d hd hg hid hlo hsh h
  · rw [e1] at hd
    rw [e4] at hg
    have hr:l=r++l.drop b.toNat:=by rw [h3]; simp
    refine zNC (f:=f) (r:=r) (s:=l.drop b.toNat) d hd (by rw [← hr]; exact hg) hlo hsh h
end
end X
end Go.Am
