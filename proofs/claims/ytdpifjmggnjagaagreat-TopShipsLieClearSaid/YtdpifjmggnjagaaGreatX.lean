/- Rules for walks that a program prints. Conditions: none. -/
import Derived.Test.YtdpifjmggnjagaaGreatGs
import Derived.Test.YtdpifjmggnjagaaGreatXl
set_option linter.unusedVariables false
set_option linter.unusedSimpArgs false
namespace Go.Am
open Go Go.Wk Go.RowKit Go.Mx
def ovlz {α:Type} (z:Bool) (id:Nat) (l:List α):V:=match z,l with
  | true,[]=>.nil
  | _,l=>.osl id 0 l.length
def oblz {α:Type} (z:Bool) (es:Nat) (f:α→V) (l:List α):Blk:=match z,l with
  | true,[]=>.dead
  | _,l=>.rows es (l.map f)
abbrev ovl {α:Type} (id:Nat) (l:List α):V:=ovlz true id l
abbrev obl {α:Type} (es:Nat) (f:α→V) (l:List α):Blk:=oblz true es f l
theorem zAm {α:Type} (z:Bool) (id es:Nat) (f:α→V) (l:List α):(z=true∧l=[])∨(ovlz z id l = .osl id 0 l.length∧oblz z es f l = .rows es (l.map f)):=by cases z <;> cases l <;> simp [ovlz,oblz]
theorem zON {α:Type} {z:Bool} {id:Nat} {l:List α} (h:l≠[]):ovlz z id l = .osl id 0 l.length:=by cases l with
  | nil=>exact absurd rfl h
  | cons=>cases z <;> rfl
theorem zGb {α:Type} {z:Bool} {es:Nat} {f:α→V} {l:List α} (h:l≠[]):oblz z es f l = .rows es (l.map f):=by cases l with
  | nil=>exact absurd rfl h
  | cons=>cases z <;> rfl
theorem put_ne {α:Type} {l:List α} {i:Int} {x y:α} (h:ix l i=some y):Mx.put l i x≠[]:=by
  obtain ⟨h1,h2,h3⟩:=zD8 h
  intro e
  have:(Mx.put l i x).length=0:=by rw [e]; rfl
  simp [Mx.put] at this
  subst this
  simp at h3
section
variable {N:Nat} {keep:List (Option Nat)} {K K1:List (Nat×V)} {H H1:List Blk}
def GK (N:Nat) (keep:List (Option Nat)) (K K1:List (Nat×V)):Prop := ∀ t v,kget K t=some v→∃ n v1 v0,rn N keep n v=some v1∧kget K1 t=some v0∧(v0=v1∨∃ n',frz [] 0 n' v0=some v1)
def Rv (N:Nat) (keep:List (Option Nat)) (v v1:V):Prop := ∃ n,rn N keep n v=some v1
theorem QO : GK N keep [] K1:=fun t v h=>by cases h
theorem zG {K:List (Nat×V)} {t:Nat} {v v1:V} (hk:kget K1 t=some v1) (h:Rv N keep v v1) (h2:GK N keep K K1):GK N keep ((t,v) :: K) K1:=fun t' u h' => by
  simp only [kget] at h'
  cases hb:Nat.beq t t' with
  | true =>
    rw [hb] at h'
    simp only [cond_true,ce] at h'
    subst h'
    rw [← cy hb]
    obtain ⟨n,h⟩:=h
    exact ⟨n,v1,v1,h,hk,.inl rfl⟩
  | false=>rw [hb] at h'; exact h2 t' u h'
theorem zY {α:Type} {z:Bool} {l:List α} {i j:Nat} (h:rx N keep i=some j):Rv N keep (ovlz z i l) (ovlz z j l):=⟨1,by cases z <;> cases l <;> simp [ovlz,rn,h,V.nil]⟩
def getL (K1:List (Nat×V)):List (Nat×V)→List (Option V)
  | []=>[]
  | p :: r=>kget K1 p.1 :: getL K1 r
def zO3 : List (Nat×V)→List (Option V)
  | []=>[]
  | p :: r=>some p.2 :: zO3 r
def rnL (N:Nat) (keep:List (Option Nat)):List (Nat×V)→List (Option V)
  | []=>[]
  | p :: r=>rn N keep 9 p.2 :: rnL N keep r
def allS : List (Option V)→Bool
  | []=>true
  | some _ :: r=>allS r
  | none :: _=>false
theorem ga : ∀ {K:List (Nat×V)},rnL N keep K=getL K1 K→allS (getL K1 K)=true→GK N keep K K1
  | [],_,_=>QO
  | (t,v) :: r,h,h2=>by
    simp only [rnL,getL,List.cons.injEq] at h
    simp only [getL] at h2
    cases hk:kget K1 t with
    | none=>rw [hk] at h2; cases h2
    | some u =>
      rw [hk] at h2
      exact zG hk ⟨9,by rw [h.1,hk]⟩ (ga h.2 h2)
theorem sr {K:List (Nat×V)}:∀ {K':List (Nat×V)},getL K K'=zO3 K'→W.Sub K' K
  | [],_=>W.zGt
  | (t,v) :: r,h=>by
    simp only [zO3,getL,List.cons.injEq] at h
    exact W.zEw h.1 (sr h.2)
def GB (N:Nat) (keep:List (Option Nat)) (H1:List Blk):Nat→List Blk→Prop
  | _,[]=>True
  | i,B :: r=>(B≠.free∧(B.live=true→∃ j,rx N keep i=some j∧RB N keep B (hget H1 j)))∧GB N keep H1 (i+1) r
theorem zb {i:Nat}:GB N keep H1 i []:=trivial
theorem zI1 {i j:Nat} {B B1:Blk} {r:List Blk} (hj:rx N keep i=some j) (h1:hget H1 j=B1) (hf:B≠.free) (hr:B.live=true→∃ n,rnB N keep n B=some B1) (h:GB N keep H1 (i+1) r):GB N keep H1 i (B :: r):=⟨⟨hf,fun hl=>by obtain ⟨n,hn⟩:=hr hl; exact ⟨j,hj,.inl ⟨n,by rw [h1]; exact hn⟩⟩⟩,h⟩
theorem zH1 {i:Nat} {r:List Blk} (h:GB N keep H1 (i+1) r):GB N keep H1 i (.dead :: r):=⟨⟨(by intro h; cases h),(by intro h; cases h)⟩,h⟩
theorem gb_pad' {i:Nat} {B:Blk} {r:List Blk} (e:B = .dead) (h:GB N keep H1 (i+1) r):GB N keep H1 i (B :: r):=e▸zH1 h
theorem zQt {α:Type} {z:Bool} {es:Nat} {f:α→V} {l:List α}:oblz z es f l≠.free:=by cases z <;> cases l <;> intro h <;> cases h
theorem qb {β α:Type} {g:β→Option β} {f:α→β} (h:∀ x,g (f x)=some (f x)):∀ l:List α,mapO g (l.map f)=some (l.map f)
  | []=>rfl
  | x :: r=>by simp [mapO,h x,qb h r]
theorem zLw {α:Type} {es:Nat} {f:α→V} {l:List α} (n:Nat) (h:∀ x,rn N keep n (f x)=some (f x)):∃ n,rnB N keep n (.rows es (l.map f))=some (.rows es (l.map f)):=⟨n,by simp [rnB,qb h]⟩
theorem zLv {α:Type} {z:Bool} {es:Nat} {f:α→V} {l:List α} (n:Nat) (h:∀ x,rn N keep n (f x)=some (f x)):∃ n,rnB N keep n (oblz z es f l)=some (oblz z es f l):=by
  cases z with
  | false=>exact zLw n h
  | true=>cases l with
    | nil=>exact ⟨1,rfl⟩
    | cons=>exact zLw n h
theorem rnB_one {es:Nat} {v v1:V} (h:Rv N keep v v1):∃ n,rnB N keep n (.rows es [v])=some (.rows es [v1]):=by
  obtain ⟨n,h⟩:=h
  exact ⟨n,by simp [rnB,mapO,h]⟩
theorem zO4 : ∀ (n:Nat) (v v1:V),rn N keep n v=some v1→rn N keep (n+1) v=some v1
  | 0,v,v1,h=>by cases h
  | n+1,v,v1,h=>by
    have key:∀ (l l1:List V),mapO (rn N keep n) l=some l1→mapO (rn N keep (n+1)) l=some l1:=by
      intro l
      induction l with
      | nil=>intro l1 h; exact h
      | cons x r ih =>
        intro l1 h
        simp only [mapO] at h ⊢
        cases hx:rn N keep n x with
        | none=>rw [hx] at h; cases h
        | some y =>
          cases hr:mapO (rn N keep n) r with
          | none=>rw [hx,hr] at h; cases h
          | some s=>rw [hx,hr] at h; rw [zO4 n x y hx,ih s hr]; exact h
    cases v <;> simp only [rn] at h ⊢ <;> first | exact h | skip
    all_goals
      rw [cr] at h ⊢
      obtain ⟨l1,h1,h2⟩:=h
      exact ⟨l1,key _ _ h1,h2⟩
theorem rn_le {n m:Nat} {v v1:V} (hnm:n≤m) (h:rn N keep n v=some v1):rn N keep m v=some v1:=by
  induction hnm with
  | refl=>exact h
  | step _ ih=>exact zO4 _ _ _ ih
inductive RvL (N:Nat) (keep:List (Option Nat)):List V→List V→Prop where
  | nil:RvL N keep [] []
  | cons {v v1:V} {l l1:List V}:Rv N keep v v1→RvL N keep l l1→RvL N keep (v :: l) (v1 :: l1)
theorem RvL.mapO {l l1:List V} (h:RvL N keep l l1):∃ n,∀ m,n≤m→Am.mapO (rn N keep m) l=some l1:=by
  induction h with
  | nil=>exact ⟨0,fun _ _=>rfl⟩
  | cons h1 _ ih =>
    obtain ⟨a,ha⟩:=h1
    obtain ⟨b,hb⟩:=ih
    exact ⟨max a b,fun m hm=>by simp [Am.mapO,rn_le (show a≤m by omega) ha,hb m (by omega)]⟩
theorem Qv {l l1:List V} (h:RvL N keep l l1):Rv N keep (.agg l) (.agg l1):=by obtain ⟨n,h⟩:=h.mapO; exact ⟨n+1,by simp [rn,h n (dc _)]⟩
def kokL (N len:Nat):List (Option Nat)→Bool
  | []=>true
  | none :: r=>kokL N len r
  | some j :: r=>Nat.ble N j&&Nat.blt j len && !r.contains (some j)&&kokL N len r
theorem zHJ {N len:Nat}:∀ {l:List (Option Nat)},kokL N len l=true→(∀ i j,get l i=some (some j)→N≤j∧j<len)∧∀ i i' j,get l i=some (some j)→get l i'=some (some j)→i=i'
  | [],_=>⟨fun i j h=>(by cases h),fun i i' j h=>(by cases h)⟩
  | none :: r,h=>by
    obtain ⟨h1,h2⟩:=zHJ (l:=r) (by simpa [kokL] using h)
    refine ⟨fun i j h=>?_,fun i i' j h h' => ?_⟩
    · cases i with
      | zero=>cases h
      | succ i=>exact h1 i j h
    · cases i with
      | zero=>cases h
      | succ i=>cases i' with
        | zero=>cases h'
        | succ i' => rw [h2 i i' j h h']
  | some a :: r,h=>by
    simp only [kokL,cq,Nat.ble_eq,Bool.not_eq_true',List.contains_iff_mem,← Bool.not_eq_true] at h
    obtain ⟨⟨⟨q1,q2⟩,q3⟩,q4⟩:=h
    have q2':a<len:=by simpa [Nat.blt_eq] using q2
    obtain ⟨h1,h2⟩:=zHJ q4
    have hm:∀ i,get r i≠some (some a):=fun i hi=>q3 (by rw [Zr] at hi; exact List.mem_of_getElem? hi)
    refine ⟨fun i j h=>?_,fun i i' j h h' => ?_⟩
    · cases i with
      | zero=>simp only [Am.get,ce] at h; subst h; exact ⟨q1,q2'⟩
      | succ i=>exact h1 i j h
    · cases i with
      | zero=>cases i' with
        | zero=>rfl
        | succ i' => simp only [Am.get,ce] at h; subst h; exact absurd h' (hm i')
      | succ i=>cases i' with
        | zero=>simp only [Am.get,ce] at h'; subst h'; exact absurd h (hm i)
        | succ i' => rw [h2 i i' j h h']
theorem GB.spec : ∀ {H:List Blk} {i:Nat},GB N keep H1 i H→∀ id B,get H id=some B→B≠.free∧(B.live=true→∃ j,rx N keep (i+id)=some j∧RB N keep B (hget H1 j))
  | [],_,_,_,_,h=>by cases h
  | B :: r,i,h,0,B',hg=>by simp only [Am.get,ce] at hg; subst hg; exact h.1
  | B :: r,i,h,id+1,B',hg=>by have:=GB.spec h.2 id B' hg; rwa [show i+1+id=i+(id+1) by omega] at this
end
namespace X
section
variable {C:Cfg} {N:Nat} {all os:List Oper} {o:Oper} {k:List It} {K K':List (Nat×V)} {H H':List Blk} {lo n nid:Nat} {rnd:Option Nat} {Q:Ex→St→Prop} {dst:Option Nat} {d:Nat} {p:Op} {ty:TypeId} {pos:String} {after:Array Edge} {e:Eff} {v:V} {x y:Bool} {g:Option (Nat×Bool)} {wr:List (Nat×Blk)} {rd:List Nat}
theorem gc (keep:List (Option Nat)) (h:GS C N k ⟨K',H',lo,rnd,n⟩ Q) (hlo:lo=0) (hk:kokL N H.length keep=true) (hl:Nat.beq H'.length (N+keep.length)=true) (hK:GK N keep K' K) (hH:GB N keep H 0 H'):GS C N k ⟨K,H,lo,rnd,n⟩ Q:=by
  refine GS.gc (keep:=keep) ⟨(zHJ hk).1,(zHJ hk).2,cy hl,hK,fun id B hB hlv=>?_,fun id hid=>?_,fun id hf=>(hH.spec id _ hf).1 rfl⟩ h
  · have := (hH.spec id B hB).2 hlv
    simpa using this
  · subst hlo
    exact absurd hid (Nat.not_lt_zero _)
theorem norm {s:St} (K':List (Nat×V)) (h:GS C N k ⟨K',H',lo,rnd,n⟩ Q) (e:s=⟨K,H',lo,rnd,n⟩) (hK:W.Sub K' K):GS C N k s Q:=by
  subst e
  exact GS.drop K' hK h
theorem front {s s':St} (hs:s.put (some d) v=s') (hd:Nat.blt d n=true) (h:GS C N k ⟨(d,v) :: K,H,lo,rnd,n⟩ Q) (e1:s=⟨K,H,lo,rnd,n⟩):GS C N k s' Q:=by
  subst e1
  subst hs
  have e2:St.put ⟨K,H,lo,rnd,n⟩ (some d) v=⟨kput K d v,H,lo,rnd,n⟩:=by unfold St.put; simp only; rw [hd]; rfl
  rw [e2]
  refine .drop ((d,v) :: K) (fun t u h=>?_) h
  simp only [kget] at h
  show kget (kput K d v) t=some u
  rw [zFT]
  cases hb:Nat.beq d t with
  | true=>rw [hb] at h; rw [ck (cy hb)]; exact h
  | false=>rw [hb] at h; rw [cj (Nat.ne_of_beq_eq_false hb)]; exact h
theorem opR (hw:wants all K g=some true) (he:zZ C K H lo H.length p=some ⟨v,[],rd⟩) (hd:Nat.blt d n=true) (h:GS C N (.ops all os :: k) ⟨(d,v) :: K,H,lo,rnd,n⟩ Q):GS C N (.ops all (⟨some d,p,ty,pos,after,g⟩ :: os) :: k) ⟨K,H,lo,rnd,n⟩ Q:=.op hw he (front rfl hd h rfl)
theorem op0 (hw:wants all K g=some true) (he:zZ C K H lo H.length p=some ⟨v,[],rd⟩) (h:GS C N (.ops all os :: k) ⟨K,H,lo,rnd,n⟩ Q):GS C N (.ops all (⟨none,p,ty,pos,after,g⟩ :: os) :: k) ⟨K,H,lo,rnd,n⟩ Q:=.op hw he h
theorem opW (hw:wants all K g=some true) (he:zZ C K H lo H.length p=some ⟨v,wr,rd⟩) (hH:puts H wr=H') (hd:Nat.blt d n=true) (h:GS C N (.ops all os :: k) ⟨(d,v) :: K,H',lo,rnd,n⟩ Q):GS C N (.ops all (⟨some d,p,ty,pos,after,g⟩ :: os) :: k) ⟨K,H,lo,rnd,n⟩ Q:=.op hw he (front rfl hd (by subst hH; exact h) rfl)
theorem op0W (hw:wants all K g=some true) (he:zZ C K H lo H.length p=some ⟨v,wr,rd⟩) (hH:puts H wr=H') (h:GS C N (.ops all os :: k) ⟨K,H',lo,rnd,n⟩ Q):GS C N (.ops all (⟨none,p,ty,pos,after,g⟩ :: os) :: k) ⟨K,H,lo,rnd,n⟩ Q:=.op hw he (by subst hH; exact h)
theorem off (hw:wants all K g=some false) (hd:Nat.blt d n=true) (h:GS C N (.ops all os :: k) ⟨(d,jT) :: K,H,lo,rnd,n⟩ Q):GS C N (.ops all (⟨some d,p,ty,pos,after,g⟩ :: os) :: k) ⟨K,H,lo,rnd,n⟩ Q:=.zJV hw (front rfl hd h rfl)
theorem call {f:Nat} {args args':List V} (hX:C.X f args' v) (hw:wants all K g=some true) (hc:callee K p=some (.fn f args)) (hd:Nat.blt d n=true) (ha:Zt H false args args') (h:GS C N (.ops all os :: k) ⟨(d,v) :: K,H,lo,rnd,n⟩ Q):GS C N (.ops all (⟨some d,p,ty,pos,after,g⟩ :: os) :: k) ⟨K,H,lo,rnd,n⟩ Q :=
  .ext (fl:=false) hw hc ha hX (fun h=>by cases h) (front rfl hd h rfl)
theorem zBk {f m:Nat} {args args':List V} (hX:C.X f args' v) (hw:wants all K g=some true) (hc:callee K p=some (.fn f args)) (hd:Nat.blt d n=true) (hf:flat m v=true) (ha:Zt H true args args') (h:GS C N (.ops all os :: k) ⟨(d,v) :: K,H,lo,rnd,n⟩ Q):GS C N (.ops all (⟨some d,p,ty,pos,after,g⟩ :: os) :: k) ⟨K,H,lo,rnd,n⟩ Q :=
  .ext (fl:=true) hw hc ha hX (fun _=>⟨m,hf⟩) (front rfl hd h rfl)
theorem on_t {j:Nat} {t:Nat} {o':Oper} (h1:Am.get all j=some o') (h2:o'.dst=some t) (h3:kget K t=some (.b x)) (hx:x=true):wants all K (some (j,true))=some true:=by rw [W.zIu h1 h2 h3,hx]; rfl
theorem on_f {j:Nat} {t:Nat} {o':Oper} (h1:Am.get all j=some o') (h2:o'.dst=some t) (h3:kget K t=some (.b x)) (hx:x=false):wants all K (some (j,false))=some true:=by rw [W.zIu h1 h2 h3,hx]; rfl
theorem zLC {j:Nat} {t:Nat} {o':Oper} (h1:Am.get all j=some o') (h2:o'.dst=some t) (h3:kget K t=some (.b x)) (hx:x=false):wants all K (some (j,true))=some false:=by rw [W.zIu h1 h2 h3,hx]; rfl
theorem off_f {j:Nat} {t:Nat} {o':Oper} (h1:Am.get all j=some o') (h2:o'.dst=some t) (h3:kget K t=some (.b x)) (hx:x=true):wants all K (some (j,false))=some false:=by rw [W.zIu h1 h2 h3,hx]; rfl
theorem zOK {c a b:Operand} (hc:kev K c=some (.b x)) (hx:x=true) (ha:kev K a=some v):zZ C K H lo nid (.pick c a b)=some ⟨v,[],[]⟩:=by subst hx; simp only [zZ,zDh,hc,ha,yG]
theorem zOL {c a b:Operand} (hc:kev K c=some (.b x)) (hx:x=false) (hb:kev K b=some v):zZ C K H lo nid (.pick c a b)=some ⟨v,[],[]⟩:=by subst hx; simp only [zZ,zDh,hc,hb,yG]
theorem split (x:Bool) (ht:x=true→GS C N k ⟨K,H,lo,rnd,n⟩ Q) (hf:x=false→GS C N k ⟨K,H,lo,rnd,n⟩ Q):GS C N k ⟨K,H,lo,rnd,n⟩ Q:=by
  cases x with
  | true=>exact ht rfl
  | false=>exact hf rfl
theorem cond {c:Operand} {c1 c2:Code} (hc:kev K c=some (.b x)) (ht:x=true→GS C N (.code c1 :: k) ⟨K,H,lo,rnd,n⟩ Q) (hf:x=false→GS C N (.code c2 :: k) ⟨K,H,lo,rnd,n⟩ Q):GS C N (.code (.cond c c1 c2) :: k) ⟨K,H,lo,rnd,n⟩ Q:=by
  cases x with
  | true=>exact .zHZ hc (ht rfl)
  | false=>exact .zCR hc (hf rfl)
theorem join {τ:Type} {it:It} {s:St} (J:τ→Prop) (S:τ→St) (hj:∀ v,J v→GS C N k (S v) Q) (h:(∀ v,J v→GS C N k (S v) Q)→GS C N (it :: k) s Q):GS C N (it :: k) s Q:=h hj
theorem lp {σ ρ:Type} {body:σ→Option (σ ⊕ ρ)} {c:Code} {a:ρ} (S:σ→St) (step:∀ s b,body s=some b→(∀ s',b = .inl s'→GS C N (.inLoop c :: k) (S s') Q)→(∀ y,b = .inr y→y=a)→GS C N (.code c :: .inLoop c :: k) (S s) Q):∀ (m:Nat) (s:σ),Lp body m s=some a→GS C N (.code c :: .inLoop c :: k) (S s) Q
  | 0,s,h=>by cases h
  | m+1,s,h=>by
    simp only [Lp] at h
    split at h
    · cases h
    · rename_i s' hb
      exact step s _ hb (fun s2 e=>by cases e; exact .inLoop (lp S step m s' h)) (fun y e=>by cases e)
    · rename_i r hb
      simp only [ce] at h
      exact step s _ hb (fun s2 e=>by cases e) (fun y e=>by cases e; exact h)
theorem loop {σ ρ:Type} {body:σ→Option (σ ⊕ ρ)} {c:Code} {a:ρ} {m:Nat} {s0:σ} {s:St} (S:σ→St) (hM:Lp body m s0=some a) (step:∀ s b,body s=some b→(∀ s',b = .inl s'→GS C N (.inLoop c :: k) (S s') Q)→(∀ y,b = .inr y→y=a)→GS C N (.code c :: .inLoop c :: k) (S s) Q) (e:S s0=s):GS C N (.code (.loop c) :: k) s Q:=e▸.loop (lp S step m s0 hM)
theorem zDx (n:Int):IntKind.wrap .i64 n=w64 n:=IntKind.wrap_i64 n
theorem addE {t t2:Nat} {a b:Int} {xo yo:Operand} (hx:kev K xo=some (.i a)) (hy:kev K yo=some (.i b)):zZ C K H lo nid (.binOp .add t xo yo t2)=some ⟨.i (w64 (a+b)),[],[]⟩:=by
  simp [zZ,zAI,hx,hy,binA,J6,intA,yG,zDx]
theorem subE {t t2:Nat} {a b:Int} {xo yo:Operand} (hx:kev K xo=some (.i a)) (hy:kev K yo=some (.i b)):zZ C K H lo nid (.binOp .sub t xo yo t2)=some ⟨.i (w64 (a - b)),[],[]⟩:=by
  simp [zZ,zAI,hx,hy,binA,J6,intA,yG,zDx]
theorem mulE {t t2:Nat} {a b:Int} {xo yo:Operand} (hx:kev K xo=some (.i a)) (hy:kev K yo=some (.i b)):zZ C K H lo nid (.binOp .mul t xo yo t2)=some ⟨.i (w64 (a*b)),[],[]⟩:=by
  simp [zZ,zAI,hx,hy,binA,J6,intA,yG,zDx]
theorem quoE {t t2:Nat} {a b r:Int} {xo yo:Operand} (h:quo a b=some r) (hx:kev K xo=some (.i a)) (hy:kev K yo=some (.i b)):zZ C K H lo nid (.binOp .quo t xo yo t2)=some ⟨.i r,[],[]⟩:=by
  obtain ⟨h1,rfl⟩:=quo_of h
  simp [zZ,zAI,hx,hy,binA,J6,intA,yG,zDx,h1]
theorem remE {t t2:Nat} {a b r:Int} {xo yo:Operand} (h:rem a b=some r) (hx:kev K xo=some (.i a)) (hy:kev K yo=some (.i b)):zZ C K H lo nid (.binOp .rem t xo yo t2)=some ⟨.i r,[],[]⟩:=by
  obtain ⟨h1,rfl⟩:=rem_of h
  simp [zZ,zAI,hx,hy,binA,J6,intA,yG,h1]
theorem negE {t:Nat} {a:Int} {xo:Operand} (hx:kev K xo=some (.i a)):zZ C K H lo nid (.unOp .neg t xo)=some ⟨.i (w64 (0 - a)),[],[]⟩:=by
  simp [zZ,zNh,hx,unA,yG,zDx]
theorem convE {s t:Nat} {a:Int} {ik:IntKind} {S T:TI} {xo:Operand} (hS:C.ty s=some S) (hT:C.ty t=some T) (hk:T.kd = .int .i64) (hx:kev K xo=some (.lit (.int ik a))):zZ C K H lo nid (.convert s t xo)=some ⟨.i (w64 a),[],[]⟩:=by
  simp [zZ,zDP,hS,hT,hx,hk,zDx]
theorem minE {a b:Int} {t u:Nat} {xo yo:Operand} (hx:kev K xo=some (.i a)) (hy:kev K yo=some (.i b)):zZ C K H lo nid (.call ⟨.builtin .min,#[xo,yo],#[t,u]⟩)=some ⟨.i (min a b),[],[]⟩:=by
  have:(if b<a then b else a)=min a b:=by rw [Int.min_def]; split <;> split <;> omega
  simp [zZ,jb,kevs,hx,hy,Jd,zPU,minR,J6,yG,this]
theorem maxE {a b:Int} {t u:Nat} {xo yo:Operand} (hx:kev K xo=some (.i a)) (hy:kev K yo=some (.i b)):zZ C K H lo nid (.call ⟨.builtin .max,#[xo,yo],#[t,u]⟩)=some ⟨.i (max a b),[],[]⟩:=by
  have:(if a<b then b else a)=max a b:=by rw [Int.max_def]; split <;> split <;> omega
  simp [zZ,jb,kevs,hx,hy,Jd,zNs,maxR,J6,yG,this]
theorem lenF {α:Type} {f:α→V} {l:List α} {xo:Operand} {t:Nat} {T:TI} {e es:Nat} (hT:C.ty t=some T) (hk:T.kd = .slice e es) (hx:kev K xo=some (.sl (l.map f))):zZ C K H lo nid (.call ⟨.builtin .len,#[xo],#[t]⟩)=some ⟨.i (l.length:Nat),[],[]⟩:=by
  simp [zZ,jb,kevs,hx,Jd,zDQ,hT,hk,lenS]
theorem YH {α:Type} {f:α→V} {l:List α} {a:α} {t:Nat} {xo io:Operand} {T:TI} {e es:Nat} {m:Int} {ik:IntKind} (hm:ix l m=some a) (hf:∀ a,(f a).cells.length=es) (hT:C.ty t=some T) (hk:T.kd = .slice e es) (hx:kev K xo=some (.sl (l.map f))) (hi:kev K io=some (.lit (.int ik m))):zZ C K H lo nid (.indexAddr t xo io)=some ⟨.fptr (l.map f) m.toNat 0,[],[]⟩:=by
  obtain ⟨h0,h1,h2⟩:=zD8 hm
  have hg:Am.get (l.map f) m.toNat=some (f a):=by rw [Zr,List.getElem?_map,h2]; rfl
  simp [zZ,Jc,hT,hx,hi,zEb,hk,h0,h1,hg,rowOK,hf]
theorem zDC {α:Type} {f:α→V} {l:List α} {a:α} {t:Nat} {xo:Operand} {T:TI} {m:Int} {off:Nat} (hm:ix l m=some a) (hT:C.ty t=some T) (hx:kev K xo=some (.fptr (l.map f) m.toNat off)) (hp:YA T off (f a).cells=some v):zZ C K H lo nid (.load t xo)=some ⟨v,[],[]⟩:=by
  obtain ⟨h0,h1,h2⟩:=zD8 hm
  have hg:Am.get (l.map f) m.toNat=some (f a):=by rw [Zr,List.getElem?_map,h2]; rfl
  simp only [zZ,zB8,hT,hx,zEp,hg,hp,da]
theorem zGm {op:Operand} {a dflt:Int} {ik:IntKind} (h:kev K op=some (.lit (.int ik a))):YC K (some op) dflt=some a:=by simp [YC,h]
theorem sliceFE {α:Type} {f:α→V} {l r:List α} {es:Nat} {a b:Int} {lo1 hi1:Option Operand} (hm:sub l a b=some r) (hf:∀ a,(f a).cells.length=es) (h1:YC K lo1 0=some a) (h2:YC K hi1 (l.length:Nat)=some b):zCw K H es (.sl (l.map f)) lo1 hi1 none=some ⟨.sl (r.map f),[],[]⟩:=by
  obtain ⟨q1,q2,q3,rfl⟩:=zOA hm
  have hr:rowOK' es (Am.get (l.map f) a.toNat)=true:=by
    rw [Zr,List.getElem?_map]
    cases l[a.toNat]? with
    | none=>rfl
    | some x=>simp [rowOK',hf]
  have e:zEy H es (.sl (l.map f)) a b false b=some (.sl (((l.take b.toNat).drop a.toNat).map f),[]):=by
    simp [zEy,q1,q2,q3,hr,List.map_take,List.map_drop]
  unfold zCw
  simp only [lenS,List.length_map,h1,h2,Option.isSome_none,Bool.false_and,Bool.false_eq_true,if_false]
  rw [show YC K none b=some b from rfl]
  simp only [e]
theorem zQW {α:Type} {f:α→V} {l r:List α} {t:Nat} {T Te:TI} {e es:Nat} {a b:Int} {xo:Operand} {lo1 hi1:Option Operand} (hm:sub l a b=some r) (hf:∀ a,(f a).cells.length=es) (hT:C.ty t=some T) (hk:T.kd = .slice e es) (hTe:C.ty e=some Te) (hes:Te.size=es) (hx:kev K xo=some (.sl (l.map f))) (h1:YC K lo1 0=some a) (h2:YC K hi1 (l.length:Nat)=some b):zZ C K H lo nid (.slice t xo lo1 hi1 none)=some ⟨.sl (r.map f),[],[]⟩:=by
  simp only [zZ,zBS,yu,hT,hk,hTe,hx]
  rw [hes]
  exact sliceFE hm hf h1 h2
theorem lenO {α:Type} {l:List α} {xo:Operand} {t id:Nat} {T:TI} {e es:Nat} (hT:C.ty t=some T) (hk:T.kd = .slice e es) (hx:kev K xo=some (.osl id 0 l.length)):zZ C K H lo nid (.call ⟨.builtin .len,#[xo],#[t]⟩)=some ⟨.i (l.length:Nat),[],[]⟩:=by
  simp [zZ,jb,kevs,hx,Jd,zDQ,hT,hk,lenS]
theorem lenN {α:Type} {z:Bool} {l:List α} {xo:Operand} {t id:Nat} {T:TI} {e es:Nat} (hT:C.ty t=some T) (hk:T.kd = .slice e es) (hx:kev K xo=some (ovlz z id l)):zZ C K H lo nid (.call ⟨.builtin .len,#[xo],#[t]⟩)=some ⟨.i (l.length:Nat),[],[]⟩:=by
  cases z with
  | false=>exact lenO hT hk hx
  | true=>cases l with
    | nil=>simp [zZ,jb,kevs,hx,Jd,zDQ,hT,hk,lenS,ovlz,V.nil]
    | cons=>exact lenO hT hk hx
theorem jB {α:Type} {f:α→V} {l:List α} {a:α} {t id:Nat} {xo io:Operand} {T:TI} {e es:Nat} {m:Int} {ik:IntKind} (hm:ix l m=some a) (hT:C.ty t=some T) (hk:T.kd = .slice e es) (hx:kev K xo=some (.osl id 0 l.length)) (hi:kev K io=some (.lit (.int ik m))) (hH:hget H id = .rows es (l.map f)):zZ C K H lo nid (.indexAddr t xo io)=some ⟨.ptr id m.toNat 0,[],[id]⟩:=by
  obtain ⟨h0,h1,h2⟩:=zD8 hm
  simp [zZ,Jc,hT,hx,hi,zEb,hk,h0,h1,hH]
theorem zPF {α:Type} {l:List α} {m:Int} {a:α} (hm:ix l m=some a):l≠[]:=by
  obtain ⟨h0,h1,h2⟩:=zD8 hm
  rintro rfl
  simp at h2
theorem JY {α:Type} {z:Bool} {f:α→V} {l:List α} {a:α} {t id:Nat} {xo io:Operand} {T:TI} {e es:Nat} {m:Int} {ik:IntKind} (hm:ix l m=some a) (hT:C.ty t=some T) (hk:T.kd = .slice e es) (hx:kev K xo=some (ovlz z id l)) (hi:kev K io=some (.lit (.int ik m))) (hH:hget H id=oblz z es f l):zZ C K H lo nid (.indexAddr t xo io)=some ⟨.ptr id m.toNat 0,[],[id]⟩:=by
  rw [zON (zPF hm)] at hx
  rw [zGb (zPF hm)] at hH
  exact jB hm hT hk hx hi hH
theorem Y9 {α:Type} {f:α→V} {l:List α} {a:α} {t id:Nat} {xo:Operand} {T:TI} {m:Int} {off es:Nat} (hm:ix l m=some a) (hT:C.ty t=some T) (hx:kev K xo=some (.ptr id m.toNat off)) (hH:hget H id = .rows es (l.map f)) (hp:YA T off (f a).cells=some v):zZ C K H lo nid (.load t xo)=some ⟨v,[],[id]⟩:=by
  obtain ⟨h0,h1,h2⟩:=zD8 hm
  have hg:Am.get (l.map f) m.toNat=some (f a):=by rw [Zr,List.getElem?_map,h2]; rfl
  simp only [zZ,zB8,hT,hx,zEp,hH,hg,hp,da]
theorem zBh {α:Type} {z:Bool} {f:α→V} {l:List α} {a:α} {t id:Nat} {xo:Operand} {T:TI} {m:Int} {off es:Nat} (hm:ix l m=some a) (hT:C.ty t=some T) (hx:kev K xo=some (.ptr id m.toNat off)) (hH:hget H id=oblz z es f l) (hp:YA T off (f a).cells=some v):zZ C K H lo nid (.load t xo)=some ⟨v,[],[id]⟩:=by
  rw [zGb (zPF hm)] at hH
  exact Y9 hm hT hx hH hp
theorem zMx {α:Type}:∀ (r c:List α) (off:Nat),off+r.length≤c.length→setAt c off r=some (c.take off++r++c.drop (off+r.length))
  | [],c,off,h=>by simp [setAt]
  | v :: r,c,off,h=>by
    have hlt:off<c.length:=by simp only [cv] at h; omega
    simp only [setAt,Zr,List.getElem?_eq_getElem hlt,zAl]
    rw [zMx r (c.set off v) (off+1) (by simp only [List.length_set,cv] at h ⊢; omega)]
    congr 1
    rw [List.take_set,List.drop_set_of_lt (by omega)]
    have e:(c.take (off+1)).set off v=c.take off++[v]:=by
      rw [List.take_add_one,List.getElem?_eq_getElem hlt,Option.toList_some,List.set_append_right _ _ (by rw [List.length_take]; omega)]
      simp [Nat.min_eq_left (cx hlt)]
    rw [e,cv,show off+1+r.length=off+(r.length+1) by omega]
    simp
theorem stA {t id es:Nat} {xo yo:Operand} {T:TI} {l cs:List V} (hT:C.ty t=some T) (hx:kev K xo=some (.ptr id 0 0)) (hy:kev K yo=some (.agg cs)) (hH:hget H id = .rows es [.agg l]) (hl:l.length=cs.length) (hs:qA T (.agg cs)=true) (hlo:Nat.ble lo id=true):zZ C K H lo nid (.store t xo yo)=some ⟨jT,[(id,.rows es [.agg cs])],[id]⟩:=by
  have hlo' : ¬ id<lo:=by have:=cz hlo; omega
  have e:setAt l 0 cs=some cs:=by
    rw [zMx _ _ _ (by omega),show 0+cs.length=l.length by omega,List.drop_length]
    simp
  simp only [zZ,qL,hT,hx,hy,zDk,hlo',if_false,hs,if_true,hH]
  simp [get,set,zE3,V.cells,e]
theorem YY {α:Type} {f:α→V} {l:List α} {a b:α} {t id:Nat} {xo yo:Operand} {T:TI} {m:Int} {off es:Nat} (hm:ix l m=some a) (hT:C.ty t=some T) (hx:kev K xo=some (.ptr id m.toNat off)) (hy:kev K yo=some v) (hlo:Nat.ble lo id=true) (hs:qA T v=true) (hH:hget H id = .rows es (l.map f)) (hp:zE3 (f a) off v.cells=some (f b)):zZ C K H lo nid (.store t xo yo)=some ⟨jT,[(id,.rows es ((Mx.put l m b).map f))],[id]⟩:=by
  obtain ⟨h0,h1,h2⟩:=zD8 hm
  have hg:Am.get (l.map f) m.toNat=some (f a):=by rw [Zr,List.getElem?_map,h2]; rfl
  have hlo' : ¬ id<lo:=by have:=cz hlo; omega
  simp only [zZ,qL,hT,hx,hy,zDk,hlo',if_false,hs,if_true,hH,hg,hp,da]
  rw [zAl,Mx.put,List.map_set]
theorem Q9 {α:Type} {z:Bool} {f:α→V} {l:List α} {a b:α} {t id:Nat} {xo yo:Operand} {T:TI} {m:Int} {off es:Nat} (hm:ix l m=some a) (hT:C.ty t=some T) (hx:kev K xo=some (.ptr id m.toNat off)) (hy:kev K yo=some v) (hlo:Nat.ble lo id=true) (hs:qA T v=true) (hH:hget H id=oblz z es f l) (hp:zE3 (f a) off v.cells=some (f b)):zZ C K H lo nid (.store t xo yo)=some ⟨jT,[(id,oblz z es f (Mx.put l m b))],[id]⟩:=by
  rw [zGb (zPF hm)] at hH
  rw [zGb (put_ne hm)]
  exact YY hm hT hx hy hlo hs hH hp
end
end X
end Go.Am
namespace Go.Am
open Go Go.Wk Go.RowKit Go.Mx
section
variable {H:List Blk} {lo:Nat}
theorem Yi {N:Nat} {keep:List (Option Nat)} {v v1 v2:V} (e:v1=v2) (h:Rv N keep v v2):Rv N keep v v1:=e▸h
theorem qz {α:Type} {z:Bool} {N:Nat} {keep:List (Option Nat)} {l:List α} {i j:Nat} (hne:l≠[]) (h:rx N keep i=some j):Rv N keep (ovlz z i l) (.osl j 0 l.length):=⟨1,by rw [zON hne]; simp [rn,h]⟩
def FR (H:List Blk) (lo:Nat) (v v':V):Prop := ∃ n,frz H lo n v=some v'
inductive FRL (H:List Blk) (lo:Nat):List V→List V→Prop where
  | nil:FRL H lo [] []
  | cons {v v1:V} {l l1:List V}:FR H lo v v1→FRL H lo l l1→FRL H lo (v :: l) (v1 :: l1)
theorem zJn {α β:Type} {f g:α→Option β} (h:∀ x y,f x=some y→g x=some y):∀ (l:List α) (r:List β),mapO f l=some r→mapO g l=some r
  | [],r,e=>e
  | x :: l,r,e=>by
    simp only [mapO] at e ⊢
    cases hx:f x with
    | none=>rw [hx] at e; cases e
    | some y =>
      cases hr:mapO f l with
      | none=>rw [hx,hr] at e; cases e
      | some s=>rw [hx,hr] at e; rw [h x y hx,zJn h l s hr]; exact e
theorem zNW : ∀ (n:Nat) (v v1:V),frz H lo n v=some v1→frz H lo (n+1) v=some v1
  | 0,v,v1,h=>by cases h
  | n+1,v,v1,h=>by
    have ih:=zJn (fun v v1 h=>zNW n v v1 h)
    unfold frz at h ⊢
    split at h
    · exact h
    · exact h
    · rw [cr] at h ⊢; obtain ⟨l1,h1,h2⟩:=h; exact ⟨l1,ih _ _ h1,h2⟩
    · rw [cr] at h ⊢; obtain ⟨l1,h1,h2⟩:=h; exact ⟨l1,ih _ _ h1,h2⟩
    · rw [cr] at h ⊢; obtain ⟨l1,h1,h2⟩:=h; exact ⟨l1,ih _ _ h1,h2⟩
    · split at h
      · cases h
      · rename_i hc
        (try simp only [hc,if_false])
        split at h
        · rename_i hb
          (try simp only [hb])
          rw [cr] at h ⊢; obtain ⟨l1,h1,h2⟩:=h; exact ⟨l1,ih _ _ h1,h2⟩
        · cases h
    · split at h
      · cases h
      · rename_i hc
        (try simp only [hc,if_false])
        split at h
        · rename_i hb
          (try simp only [hb])
          split at h
          · rename_i ht
            (try simp only [ht])
            rw [cr] at h ⊢; obtain ⟨l1,h1,h2⟩:=h; exact ⟨l1,ih _ _ h1,h2⟩
          · cases h
        · cases h
    · split at h
      · cases h
      · rename_i hc
        (try simp only [hc,if_false])
        split at h
        · rename_i hb
          (try simp only [hb])
          split at h
          · rename_i q1 q2
            rw [ih _ _ q1,ih _ _ q2]; exact h
          · cases h
        · cases h
    · exact h
    · exact h
theorem frz_le {n m:Nat} {v v1:V} (hnm:n≤m) (h:frz H lo n v=some v1):frz H lo m v=some v1:=by
  induction hnm with
  | refl=>exact h
  | step _ ih=>exact zNW _ _ _ ih
theorem FRL.mapO {l l1:List V} (h:FRL H lo l l1):∃ n,∀ m,n≤m→Am.mapO (frz H lo m) l=some l1:=by
  induction h with
  | nil=>exact ⟨0,fun _ _=>rfl⟩
  | cons h1 _ ih =>
    obtain ⟨a,ha⟩:=h1
    obtain ⟨b,hb⟩:=ih
    exact ⟨max a b,fun m hm=>by simp [Am.mapO,frz_le (show a≤m by omega) ha,hb m (by omega)]⟩
theorem FR.agg {l l1:List V} (h:FRL H lo l l1):FR H lo (.agg l) (.agg l1):=by obtain ⟨n,h⟩:=h.mapO; exact ⟨n+1,by simp [frz,h n (dc _)]⟩
theorem FR.tup {l l1:List V} (h:FRL H lo l l1):FR H lo (.tup l) (.tup l1):=by obtain ⟨n,h⟩:=h.mapO; exact ⟨n+1,by simp [frz,h n (dc _)]⟩
theorem FR.fn {f:Nat} {l l1:List V} (h:FRL H lo l l1):FR H lo (.fn f l) (.fn f l1):=by obtain ⟨n,h⟩:=h.mapO; exact ⟨n+1,by simp [frz,h n (dc _)]⟩
theorem FR.ptr {id off es:Nat} {v v1:V} (hl:Nat.ble lo id=true) (hH:hget H id = .rows es [v]) (h:FR H lo v v1):FR H lo (.ptr id 0 off) (.fptr [v1] 0 off):=by
  obtain ⟨n,h⟩:=h
  have : ¬ id<lo:=by have:=cz hl; omega
  exact ⟨n+1,by simp [frz,this,hH,Am.mapO,h]⟩
theorem zN8 {α:Type} (l:List α):YX l 0 l.length=some l:=by
  have:=zKt l l.length 0 (by omega)
  simpa using this
theorem FR.osl {α:Type} {f:α→V} {l:List α} {id es:Nat} (n:Nat) (hl:Nat.ble lo id=true) (hH:hget H id = .rows es (l.map f)) (hf:∀ x,frz H lo n (f x)=some (f x)):FR H lo (.osl id 0 l.length) (.sl (l.map f)):=by
  have h1 : ¬ id<lo:=by have:=cz hl; omega
  have h2:YX (l.map f) 0 l.length=some (l.map f):=by simpa using zN8 (l.map f)
  exact ⟨n+1,by simp [frz,h1,hH,h2,qb hf]⟩
theorem FR.ovl {α:Type} {z:Bool} {f:α→V} {l:List α} {id es:Nat} (n:Nat) (hl:Nat.ble lo id=true) (hH:hget H id=oblz z es f l) (hf:∀ x,frz H lo n (f x)=some (f x)):FR H lo (ovlz z id l) (.sl (l.map f)):=by
  cases z with
  | false=>exact FR.osl n hl hH hf
  | true=>cases l with
    | nil=>exact ⟨1,rfl⟩
    | cons x r=>exact FR.osl n hl hH hf
theorem FR.eq {v v2 v':V} (e:v=v2) (h:FR H lo v2 v'):FR H lo v v':=e▸h
theorem FR.arg {v v':V} (h:FR H 0 v v'):zKS H true v v':=by obtain ⟨n,h⟩:=h; exact .frz h
section
variable {N:Nat} {keep:List (Option Nat)} {H1:List Blk} {i j es:Nat} {r:List Blk}
theorem Zj {v v1:V} (hj:rx N keep i=some j) (h1:hget H1 j = .rows es [v1]) (hv:Rv N keep v v1) (h:GB N keep H1 (i+1) r):GB N keep H1 i (.rows es [v] :: r):=zI1 hj h1 (by intro h; cases h) (fun _=>rnB_one hv) h
theorem gb9 {v v1:V} (hj:rx N keep i=some j) (h1:hget H1 j = .rows es [v1]) (hv:rn N keep 9 v=some v1) (h:GB N keep H1 (i+1) r):GB N keep H1 i (.rows es [v] :: r):=Zj hj h1 ⟨9,hv⟩ h
theorem Q0 {α:Type} {f:α→V} {l:List α} (n:Nat) (hj:rx N keep i=some j) (h1:hget H1 j = .rows es (l.map f)) (hf:∀ x,rn N keep n (f x)=some (f x)) (h:GB N keep H1 (i+1) r):GB N keep H1 i (.rows es (l.map f) :: r):=zI1 hj h1 (by intro h; cases h) (fun _=>zLw n hf) h
theorem ZB {α:Type} {z:Bool} {f:α→V} {l:List α} (n:Nat) (hj:rx N keep i=some j) (h1:hget H1 j=oblz z es f l) (hf:∀ x,rn N keep n (f x)=some (f x)) (h:GB N keep H1 (i+1) r):GB N keep H1 i (oblz z es f l :: r):=zI1 hj h1 zQt (fun _=>zLv n hf) h
theorem gb_obl' {α:Type} {z:Bool} {f:α→V} {l:List α} (n:Nat) (hne:l≠[]) (hj:rx N keep i=some j) (h1:hget H1 j = .rows es (l.map f)) (hf:∀ x,rn N keep n (f x)=some (f x)) (h:GB N keep H1 (i+1) r):GB N keep H1 i (oblz z es f l :: r):=ZB n hj (h1.trans (zGb hne).symm) hf h
end
theorem jH {α:Type} {l xs r:List α} {a:α} (h:app l (a :: xs)=some r):r≠[]:=by
  obtain ⟨_,rfl⟩:=zGo h
  simp
end
namespace X
section
variable {C:Cfg} {N:Nat} {all os:List Oper} {o:Oper} {k:List It} {K K':List (Nat×V)} {H H':List Blk} {lo n nid:Nat} {rnd:Option Nat} {Q:Ex→St→Prop} {dst:Option Nat} {d:Nat} {p:Op} {ty:TypeId} {pos:String} {after:Array Edge} {e:Eff} {v:V} {x y:Bool} {g:Option (Nat×Bool)} {wr:List (Nat×Blk)} {rd:List Nat}
theorem zHu {α:Type} {f:α→V} {T:TI} (h:∀ a,qA T (f a)=true) (l:List α):zNH T (l.map f)=true:=by
  cases l with
  | nil=>rfl
  | cons=>exact h _
theorem appO {α:Type} {f:α→V} {l xs r:List α} {t e es id:Nat} {T Te:TI} {xo yo:Operand} {yv:V} (hm:app l xs=some r) (hs:∀ a,qA Te (f a)=true) (hT:C.ty t=some T) (hk:T.kd = .slice e es) (hTe:C.ty e=some Te) (hes:Te.size=es) (hby:Nat.ble Te.bytes 4096=true) (hx:kev K xo=some (.osl id 0 l.length)) (hH:hget H id = .rows es (l.map f)) (hlo:Nat.ble lo id=true) (hy:kev K yo=some yv) (hr:rowsOf H yv=some (xs.map f,rd)) :
    zZ C K H lo nid (.call ⟨.builtin .append,#[xo,yo],#[t,t]⟩)=some ⟨.osl nid 0 r.length,[(id,.dead),(nid,.rows es (r.map f))],nid :: id :: rd⟩:=by
  obtain ⟨h1,rfl⟩:=zGo hm
  subst hes
  have hlo' : ¬ id<lo:=by have:=cz hlo; omega
  have hby':Te.bytes≤4096:=cz hby
  have ht:Nat.beq t t=true:=Nat.beq_refl t
  have he:Nat.beq Te.size Te.size=true:=Nat.beq_refl _
  simp only [zZ,jb,kevs,hx,hy,Jd,zDR,ht,cond_true,yu,hT,hk,hTe,zBc,hr,zHu hs,hlo',if_false,hH,he,zEJ,List.length_map,Nat.zero_add,if_true,zB1]
  rw [ck ⟨h1,hby'⟩]
  simp
theorem zRi {α:Type} {f:α→V} {a:α} {xs r:List α} {t e es:Nat} {T Te:TI} {xo yo:Operand} {yv:V} (hm:app [] (a :: xs)=some r) (hs:∀ a,qA Te (f a)=true) (hT:C.ty t=some T) (hk:T.kd = .slice e es) (hTe:C.ty e=some Te) (hes:Te.size=es) (hby:Nat.ble Te.bytes 4096=true) (hx:kev K xo=some .nil) (hy:kev K yo=some yv) (hr:rowsOf H yv=some ((a :: xs).map f,rd)) :
    zZ C K H lo nid (.call ⟨.builtin .append,#[xo,yo],#[t,t]⟩)=some ⟨.osl nid 0 r.length,[(nid,.rows es (r.map f))],nid :: rd⟩:=by
  obtain ⟨h1,rfl⟩:=zGo hm
  subst hes
  have hby':Te.bytes≤4096:=cz hby
  have ht:Nat.beq t t=true:=Nat.beq_refl t
  have h2:xs.length+1≤4294967296:=by simpa using h1
  have hn:=zHu hs (a :: xs)
  simp only [zZ,jb,kevs,hx,hy,Jd,zDR,ht,cond_true,yu,hT,hk,hTe,zBc,hr,hn,V.nil]
  simp only [cw,cv,List.length_map,zB1]
  rw [ck ⟨h2,hby'⟩]
  simp
theorem zCv {H:List Blk} {id:Nat} {B:Blk} (h:hget H id=B) (hid:Nat.blt id H.length=true):hput H id B=H:=by
  have hid':id<H.length:=by simpa [Nat.blt_eq] using hid
  have:get H id=some B:=by
    unfold hget at h
    rw [Zr,List.getElem?_eq_getElem hid'] at h ⊢
    simp only at h
    rw [h]
  refine list_ext' fun i=>?_
  rw [jD H id i B (cx hid')]
  by_cases hi:id=i
  · subst hi; rw [ck rfl,this]
  · rw [cj hi]
theorem appN {α:Type} {z:Bool} {f:α→V} {l:List α} {a:α} {xs r:List α} {t e es id:Nat} {T Te:TI} {xo yo:Operand} {yv:V} (hm:app l (a :: xs)=some r) (hs:∀ a,qA Te (f a)=true) (hw:wants all K g=some true) (hT:C.ty t=some T) (hk:T.kd = .slice e es) (hTe:C.ty e=some Te) (hes:Te.size=es) (hby:Nat.ble Te.bytes 4096=true) (hx:kev K xo=some (ovlz z id l)) (hH:hget H id=oblz z es f l) (hid:Nat.blt id H.length=true) (hlo:Nat.ble lo id=true) (hy:kev K yo=some yv) (hr:rowsOf H yv=some ((a :: xs).map f,rd)) (hd:Nat.blt d n=true) (hH':puts H [(id,.dead),(H.length,.rows es (r.map f))]=H')
    (h:GS C N (.ops all os :: k) ⟨(d,.osl H.length 0 r.length) :: K,H',lo,rnd,n⟩ Q):GS C N (.ops all (⟨some d,.call ⟨.builtin .append,#[xo,yo],#[t,t]⟩,ty,pos,after,g⟩ :: os) :: k) ⟨K,H,lo,rnd,n⟩ Q:=by
  cases z with
  | false=>exact opW hw (appO hm hs hT hk hTe hes hby hx hH hlo hy hr) hH' hd h
  | true =>
  cases l with
  | nil =>
    refine opW hw (zRi hm hs hT hk hTe hes hby hx hy hr) ?_ hd h
    rw [← hH']
    simp only [puts]
    rw [show hput H id Blk.dead=H from zCv hH hid]
  | cons b r' => exact opW hw (appO hm hs hT hk hTe hes hby hx hH hlo hy hr) hH' hd h
theorem q (h1:(wants all K g,zZ C K H lo H.length p,Nat.blt d n)=(some true,some ⟨v,[],rd⟩,true)) (h:GS C N (.ops all os :: k) ⟨(d,v) :: K,H,lo,rnd,n⟩ Q):GS C N (.ops all (⟨some d,p,ty,pos,after,g⟩ :: os) :: k) ⟨K,H,lo,rnd,n⟩ Q:=by
  simp only [Prod.mk.injEq] at h1
  exact opR h1.1 h1.2.1 h1.2.2 h
theorem sq {s:St} {id:Nat} {l:List Oper} {y:Code} (h:GS C N (.ops l l :: .code y :: k) s Q):GS C N (.code (.seq (.region id l.toArray false) y) :: k) s Q:=.seq (.region h)
theorem nq {s:St} {id:Nat} {l:List Oper} {y:Code} (h:GS C N (.ops l l :: .code y :: k) s Q):GS C N (.ops all [] :: .code (.seq (.region id l.toArray false) y) :: k) s Q:=.ZT (.seq (.region h))
theorem mid {it:It} (K':List (Nat×V)) (h:GS C N k ⟨K',H,lo,rnd,n⟩ Q→GS C N (it :: k) ⟨K,H,lo,rnd,n⟩ Q) (hr:GS C N k ⟨K',H,lo,rnd,n⟩ Q):GS C N (it :: k) ⟨K,H,lo,rnd,n⟩ Q:=h hr
theorem midS {it:It} {s:St} (s':St) (h:GS C N k s' Q→GS C N (it :: k) s Q) (hr:GS C N k s' Q):GS C N (it :: k) s Q:=h hr
theorem bb : (∀ b,(true&&b)=b)∧(∀ b,(false&&b)=false)∧(∀ b,(b&&true)=b)∧(∀ b,(b&&false)=false)∧(∀ b,(true||b)=true)∧(∀ b,(false||b)=b)∧(∀ b,(b||true)=true)∧(∀ b,(b||false)=b)∧(!true)=false∧(!false)=true∧(∀ a b:V,(bif true then a else b)=a)∧∀ a b:V,(bif false then a else b)=b:=by refine ⟨by decide,by decide,by decide,by decide,by decide,by decide,by decide,by decide,rfl,rfl,fun _ _=>rfl,fun _ _=>rfl⟩
theorem zHn {K':List (Nat×V)} {t:Nat} {v0 v:V} (h:kget K t=some v0) (e:v0=v) (h2:W.Sub K' K):W.Sub ((t,v) :: K') K:=W.zEw (h.trans (congrArg some e)) h2
theorem zFo {c a b:Operand} (hc:kev K c=some (.b x)) (hx:x=true) (ha:kev K a=some (.b y)):zZ C K H lo nid (.pick c a b)=some ⟨.b (x&&y),[],[]⟩:=by subst hx; simp only [zZ,zDh,hc,ha,yG,Bool.true_and]
theorem zFp {c a b:Operand} (hc:kev K c=some (.b x)) (hx:x=false) (hb:kev K b=some (.b false)):zZ C K H lo nid (.pick c a b)=some ⟨.b (x&&y),[],[]⟩:=by subst hx; simp only [zZ,zDh,hc,hb,yG,Bool.false_and]
theorem zDa {z:Bool} (hx:x=false) (hy:y=z):(x||y)=z:=by rw [hx,hy]; rfl
theorem zKO {z:Bool} (hx:x=true) (hy:y=z):(x&&y)=z:=by rw [hx,hy]; rfl
theorem eqlE {t t2:Nat} {xs ys:List V} {b:Bool} {xo yo:Operand} (he:eqA C.ty t (.agg xs) (.agg ys)=some b) (hx:kev K xo=some (.agg xs)) (hy:kev K yo=some (.agg ys)):zZ C K H lo nid (.binOp .eql t xo yo t2)=some ⟨.b b,[],[]⟩:=by
  simp [zZ,zAI,hx,hy,binA,he,yG]
theorem neqE {t t2:Nat} {xs ys:List V} {b:Bool} {xo yo:Operand} (he:eqA C.ty t (.agg xs) (.agg ys)=some b) (hx:kev K xo=some (.agg xs)) (hy:kev K yo=some (.agg ys)):zZ C K H lo nid (.binOp .neq t xo yo t2)=some ⟨.b (!b),[],[]⟩:=by
  simp [zZ,zAI,hx,hy,binA,he,yG]
theorem eqn' {f:Nat→V→V→Option Bool} {part:Nat→Nat→List V→Option V} {xs ys:List V}:qo f part xs ys []=some true:=rfl
theorem eqp {f:Nat→V→V→Option Bool} {part:Nat→Nat→List V→Option V} {xs ys:List V} {p:Fld} {ps:List Fld} {u v:V} {b c:Bool} (hx:part p.ty p.off xs=some u) (hy:part p.ty p.off ys=some v) (hf:f p.ty u v=some b) (h:qo f part xs ys ps=some c):qo f part xs ys (p :: ps)=some (b&&c):=by
  simp only [qo,hx,hy,hf]
  cases b
  · simp
  · simpa using h
theorem eqs {ty:Nat→Option TI} {d t:Nat} {T:TI} {xs ys:List V} {ps:List Fld} {b:Bool} (hT:ty t=some T) (hk:T.kd = .struct ps) (h:qo (eqT ty d) (fun t off cs=>match ty t with | some T=>YA T off cs | none=>none) xs ys ps=some b):eqT ty (d+1) t (.agg xs) (.agg ys)=some b:=by
  simp only [eqT,hT,hk]
  exact h
theorem eqa {ty:Nat→Option TI} {t:Nat} {T:TI} {xs ys:List V} {ps:List Fld} {b:Bool} (hT:ty t=some T) (hk:T.kd = .struct ps) (h:qo (eqT ty 5) (fun t off cs=>match ty t with | some T=>YA T off cs | none=>none) xs ys ps=some b):eqA ty t (.agg xs) (.agg ys)=some b:=by
  simp only [eqA,hT,hk]
  exact eqs hT hk h
theorem nt (hx:x=false):(!x)=true:=by rw [hx]; rfl
theorem YS {α:Type} {z:Bool} {id:Nat} {l:List α} {i:Int} {a:α}:ovlz z id l=ovlz z id (Mx.put l i a):=by
  unfold Mx.put
  cases z with
  | false=>simp [ovlz]
  | true=>cases l with
    | nil=>rfl
    | cons b r=>cases i.toNat <;> simp [ovlz]
theorem JE {α:Type} {id:Nat} {l:List α} {i:Int} {a:α}:V.osl id 0 l.length=V.osl id 0 (Mx.put l i a).length:=by simp [Mx.put]
theorem zJw {xo:Operand} {v1 v2:V} (h:kev K xo=some v1) (e:v1=v2):kev K xo=some v2:=e▸h
theorem yM {α:Type} {z:Bool} (id:Nat) (l:List α):ovlz z id l = .nil∨∃ n,ovlz z id l = .osl id 0 n:=by
  cases z with
  | false=>exact .inr ⟨_,rfl⟩
  | true=>cases l with
    | nil=>exact .inl rfl
    | cons a r=>exact .inr ⟨_,rfl⟩
def DW (C:Cfg) (N:Nat) (k:List It) (Q:Ex→St→Prop) (all os:List Oper) (i nid:Nat) (s:St) (log:List (Nat×List Nat×List Nat)):Prop :=
  ∃ es sn,DRun C all os i nid s log es sn∧(∀ p,p∈es→p.2=none)∧GS C N k sn Q
variable {i:Nat} {s:St} {log:List (Nat×List Nat×List Nat)}
theorem draw {id:Nat} {l:List Oper} (hreg:zE4 l=true) (h:DW C N k Q l l 0 s.H.length { s with H:=s.H++YF (zBx l) } []):GS C N (.code (.region id l.toArray true) :: k) s Q:=by
  obtain ⟨es,sn,h1,h2,h3⟩:=h
  exact GS.draw es (by simpa using hreg) (by simpa using h1) (fun i e d hd=>by have:=h2 _ (List.mem_of_getElem? hd); cases this) h3
theorem dnil (h:GS C N k s Q):DW C N k Q all [] i nid s log:=⟨[],s,.nil,fun p hp=>(by cases hp),h⟩
theorem dstep {d:Eff} (hs:Q4 C all o nid s d none) (hl:zAP all i (rdOf o nid d) (je d.wr) log=true) (h:DW C N k Q all os (i+1) (bif allocs o.op then nid+1 else nid) (s.eff o.dst d) ((i,rdOf o nid d,je d.wr) :: log)):DW C N k Q all (o :: os) i nid s log:=by
  obtain ⟨es,sn,h1,h2,h3⟩:=h
  refine ⟨_,sn,.cons hs hl h1,fun p hp=>?_,h3⟩
  rcases List.mem_cons.1 hp with rfl | hp
  · rfl
  · exact h2 p hp
theorem wrIn_spec' {m:Nat}:∀ {l:List (Nat×Blk)},wrIn m l=true→∀ id,id∈je l→id<m
  | [],_,id,h=>by cases h
  | (j,B) :: r,h,id,hm=>by
    simp only [wrIn,cq] at h
    simp only [je,List.mem_cons] at hm
    rcases hm with rfl | hm
    · simpa [Nat.blt_eq] using h.1
    · exact wrIn_spec' h.2 id hm
theorem eqv_eff {s t:St} (h:Eqv s t) (d:Option Nat) (e:Eff):Eqv (s.eff d e) (t.eff d e):=by
  refine ⟨?_,?_,?_,?_,fun u=>?_⟩
  · rw [zEF,zEF,h.H]
  · rw [zDO,zDO,h.lo]
  · rw [zEg,zEg,h.rnd]
  · rw [zHV,zHV,h.n]
  · rw [zEq,zEq,h.n,h.K]
theorem zRP {es:List (Eff×Option zBf)} {s sn:St} {log:List (Nat×List Nat×List Nat)} (h:DRun C all os i nid s log es sn):∀ {t:St},Eqv s t→∃ tn,DRun C all os i nid t log es tn∧Eqv sn tn:=by
  induction h with
  | nil=>exact fun he=>⟨_,.nil,he⟩
  | cons h1 h2 _ ih =>
    intro t he
    obtain ⟨tn,q1,q2⟩:=ih (eqv_eff he _ _)
    exact ⟨tn,.cons (h1.loc (fun u _=>he.K u) (fun id _=>by rw [he.H]) (by rw [he.H]) he.lo) h2 q1,q2⟩
theorem gs_eqv {s t:St} (h:Eqv s t) (hs:GS C N k s Q):GS C N k t Q:=by
  obtain ⟨K,H,lo,rnd,n⟩:=s
  obtain ⟨K',H',lo',rnd',n'⟩:=t
  obtain ⟨h1,h2,h3,h4,h5⟩:=h
  simp only at h1 h2 h3 h4 h5
  subst h1 h2 h3 h4
  exact GS.drop K (fun t v hv=>by rw [← hv]; exact h5 t) hs
theorem DW.eqv {s t:St} (h:Eqv s t) (hd:DW C N k Q all os i nid s log):DW C N k Q all os i nid t log:=by
  obtain ⟨es,sn,h1,h2,h3⟩:=hd
  obtain ⟨tn,q1,q2⟩:=zRP h1 h
  exact ⟨es,tn,q1,h2,gs_eqv q2 h3⟩
theorem qm (hd:Nat.blt d n=true) (hH:puts H wr=H'):Eqv ⟨(d,v) :: K,H',lo,rnd,n⟩ (St.eff ⟨K,H,lo,rnd,n⟩ (some d) ⟨v,wr,rd⟩):=by
  subst hH
  have hd':d<n:=by simpa [Nat.blt_eq] using hd
  refine ⟨by rw [zEF],by rw [zDO],by rw [zEg],by rw [zHV],fun u=>?_⟩
  rw [zEq]
  show _=kget ((d,v) :: K) u
  simp only [kget]
  by_cases e:d=u
  · subst e
    rw [ck ⟨rfl,hd'⟩,Nat.beq_refl]
    rfl
  · rw [cj (fun h => e (cf h.1)), zGn e]
    rfl
theorem zOh (hH:puts H wr=H'):Eqv ⟨K,H',lo,rnd,n⟩ (St.eff ⟨K,H,lo,rnd,n⟩ none ⟨v,wr,rd⟩):=by
  subst hH
  exact ⟨by rw [zEF],by rw [zDO],by rw [zEg],by rw [zHV],fun u=>by rw [zEq,cj (fun h=>by cases h.1)]⟩
theorem zMT (ha:(!allocs p||zEZ (get H nid))=true) (hal:allocs p=true):get H nid=some .free:=by
  rw [hal] at ha
  simp only [Bool.not_true,Bool.false_or] at ha
  unfold zEZ at ha
  split at ha
  · assumption
  · cases ha
theorem dop (hw:wants all K g=some true) (he:zZ C K H lo nid p=some ⟨v,wr,rd⟩) (ha:(!allocs p||zEZ (get H nid))=true) (hwr:wrIn H.length wr=true) (hl:zAP all i (bif allocs p then nid :: rd else rd) (je wr) log=true) (hH:puts H wr=H') (hd:Nat.blt d n=true)
    (h:DW C N k Q all os (i+1) (bif allocs p then nid+1 else nid) ⟨(d,v) :: K,H',lo,rnd,n⟩ ((i,bif allocs p then nid :: rd else rd,je wr) :: log)):DW C N k Q all (⟨some d,p,ty,pos,after,g⟩ :: os) i nid ⟨K,H,lo,rnd,n⟩ log :=
  dstep (d:=⟨v,wr,rd⟩) (.op hw he (zMT ha) (wrIn_spec' hwr)) hl (DW.eqv (qm hd hH) h)
theorem dop0 (hw:wants all K g=some true) (he:zZ C K H lo nid p=some ⟨v,wr,rd⟩) (ha:(!allocs p||zEZ (get H nid))=true) (hwr:wrIn H.length wr=true) (hl:zAP all i (bif allocs p then nid :: rd else rd) (je wr) log=true) (hH:puts H wr=H')
    (h:DW C N k Q all os (i+1) (bif allocs p then nid+1 else nid) ⟨K,H',lo,rnd,n⟩ ((i,bif allocs p then nid :: rd else rd,je wr) :: log)):DW C N k Q all (⟨none,p,ty,pos,after,g⟩ :: os) i nid ⟨K,H,lo,rnd,n⟩ log :=
  dstep (d:=⟨v,wr,rd⟩) (.op hw he (zMT ha) (wrIn_spec' hwr)) hl (DW.eqv (zOh hH) h)
theorem doff (hw:wants all K g=some false) (hl:zAP all i (bif allocs p then [nid] else []) [] log=true) (hd:Nat.blt d n=true) (h:DW C N k Q all os (i+1) (bif allocs p then nid+1 else nid) ⟨(d,jT) :: K,H,lo,rnd,n⟩ ((i,bif allocs p then [nid] else [],[]) :: log)):DW C N k Q all (⟨some d,p,ty,pos,after,g⟩ :: os) i nid ⟨K,H,lo,rnd,n⟩ log :=
  dstep (d:=⟨jT,[],[]⟩) (.skip hw) hl (DW.eqv (qm hd rfl) h)
theorem dcall {f:Nat} {args args':List V} (hX:C.X f args' v) (hw:wants all K g=some true) (hc:callee K p=some (.fn f args)) (ha:allocs p=false) (hl:zAP all i [] [] log=true) (hd:Nat.blt d n=true) (hca:Zt [] false args args')
    (h:DW C N k Q all os (i+1) nid ⟨(d,v) :: K,H,lo,rnd,n⟩ ((i,[],[]) :: log)):DW C N k Q all (⟨some d,p,ty,pos,after,g⟩ :: os) i nid ⟨K,H,lo,rnd,n⟩ log:=by
  refine dstep (d:=⟨v,[],[]⟩) (.ext hw hc hca hX) ?_ ?_
  · simp only [rdOf,ha,cond_false]; exact hl
  · simp only [rdOf,ha,cond_false]; exact DW.eqv (qm hd rfl) h
def DC (C:Cfg) (N:Nat) (k:List It) (Q:Ex→St→Prop) (all os:List Oper) (i nid:Nat) (s:St):Prop :=
  ∀ log:List (Nat×List Nat×List Nat),(∀ p,p∈log→p.2.2=[])→DW C N k Q all os i nid s log
theorem zIO {j:Nat} {rd:List Nat}:∀ {log:List (Nat×List Nat×List Nat)},(∀ p,p∈log→p.2.2=[])→zAP all j rd [] log=true
  | [],_=>rfl
  | (i,rd',wr') :: r,h=>by
    have h1:wr'=[]:=h _ ct
    subst h1
    simp [zAP,meet,zIO (fun p hp=>h p (cu _ hp))]
theorem drawc {id:Nat} {l:List Oper} (hreg:zE4 l=true) (h0:zBx l=0) (h:DC C N k Q l l 0 s.H.length s):GS C N (.code (.region id l.toArray true) :: k) s Q:=by
  refine draw hreg ?_
  rw [h0]
  have e:({ s with H:=s.H++YF 0 }:St)=s:=by simp [YF]
  rw [e]
  exact h [] (fun p hp=>by cases hp)
theorem cnil (h:GS C N k s Q):DC C N k Q all [] i nid s:=fun log _=>dnil h
theorem cstep {d:Eff} (hs:Q4 C all o nid s d none) (ha:allocs o.op=false) (hwr:d.wr=[]) (h:DC C N k Q all os (i+1) nid (s.eff o.dst d)):DC C N k Q all (o :: os) i nid s:=by
  intro log hl
  refine dstep hs (by rw [hwr]; exact zIO hl) ?_
  rw [ha]
  refine h _ fun p hp=>?_
  rcases List.mem_cons.1 hp with rfl | hp
  · rw [hwr]; rfl
  · exact hl p hp
theorem DC.eqv {s t:St} (h:Eqv s t) (hd:DC C N k Q all os i nid s):DC C N k Q all os i nid t:=fun log hl=>DW.eqv h (hd log hl)
theorem cop (hw:wants all K g=some true) (he:zZ C K H lo nid p=some ⟨v,[],rd⟩) (ha:allocs p=false) (hd:Nat.blt d n=true) (h:DC C N k Q all os (i+1) nid ⟨(d,v) :: K,H,lo,rnd,n⟩):DC C N k Q all (⟨some d,p,ty,pos,after,g⟩ :: os) i nid ⟨K,H,lo,rnd,n⟩ :=
  cstep (d:=⟨v,[],rd⟩) (.op hw he (fun hal=>by rw [ha] at hal; cases hal) (fun id hid=>by cases hid)) ha rfl (DC.eqv (qm hd rfl) h)
theorem coff (hw:wants all K g=some false) (ha:allocs p=false) (hd:Nat.blt d n=true) (h:DC C N k Q all os (i+1) nid ⟨(d,jT) :: K,H,lo,rnd,n⟩):DC C N k Q all (⟨some d,p,ty,pos,after,g⟩ :: os) i nid ⟨K,H,lo,rnd,n⟩ :=
  cstep (d:=⟨jT,[],[]⟩) (.skip hw) ha rfl (DC.eqv (qm hd rfl) h)
theorem ccall {f:Nat} {args args':List V} (hX:C.X f args' v) (hw:wants all K g=some true) (hc:callee K p=some (.fn f args)) (ha:allocs p=false) (hd:Nat.blt d n=true) (hca:Zt [] false args args') (h:DC C N k Q all os (i+1) nid ⟨(d,v) :: K,H,lo,rnd,n⟩):DC C N k Q all (⟨some d,p,ty,pos,after,g⟩ :: os) i nid ⟨K,H,lo,rnd,n⟩ :=
  cstep (d:=⟨v,[],[]⟩) (.ext hw hc hca hX) ha rfl (DC.eqv (qm hd rfl) h)
theorem zRa {f m:Nat} {args args':List V} (hX:C.X f args' v) (hw:wants all K g=some true) (hc:callee K p=some (.fn f args)) (ha:allocs p=false) (hd:Nat.blt d n=true) (hf:flat m v=true) (hca:Zt H true args args') (h:DC C N k Q all os (i+1) nid ⟨(d,v) :: K,H,lo,rnd,n⟩):DC C N k Q all (⟨some d,p,ty,pos,after,g⟩ :: os) i nid ⟨K,H,lo,rnd,n⟩ :=
  cstep (d:=⟨v,[],zBI H 0⟩) (.extF hw hc ⟨rfl,fun id B hB _=>hB⟩ hca hX ⟨m,hf⟩) ha rfl (DC.eqv (qm hd rfl) h)
inductive zFi : List (Nat×List Nat×List Nat)→List (Nat×List Nat×List Nat)→Prop where
  | nil:zFi [] []
  | cons {x y:Nat×List Nat×List Nat} {a b:List (Nat×List Nat×List Nat)}:(x.1=y.1∧(∀ z,z∈x.2.1→z∈y.2.1)∧∀ z,z∈x.2.2→z∈y.2.2)→zFi a b→zFi (x :: a) (y :: b)
theorem zFi.rfl' : ∀ a,zFi a a
  | []=>.nil
  | x :: r=>.cons ⟨rfl,fun _ h=>h,fun _ h=>h⟩ (zFi.rfl' r)
theorem zJi : ∀ {l l':List Nat},meet l l'=true↔∃ x,x∈l∧x∈l'
  | [],l' => by simp [meet]
  | a :: r,l' => by
    simp only [meet,Bool.or_eq_true,zJg,zJi,List.mem_cons]
    constructor
    · rintro (h | ⟨x, h1, h2⟩)
      · exact ⟨a,.inl rfl,h⟩
      · exact ⟨x,.inr h1,h2⟩
    · rintro ⟨x, rfl | h1, h2⟩
      · exact .inl h2
      · exact .inr ⟨x,h1,h2⟩
theorem zJh {a b a' b':List Nat} (h:meet a b=false) (h1:∀ z,z∈a'→z∈a) (h2:∀ z,z∈b'→z∈b):meet a' b'=false:=by
  rw [Bool.eq_false_iff] at h ⊢
  intro hm
  obtain ⟨x,q1,q2⟩:=zJi.1 hm
  exact h (zJi.2 ⟨x,h1 x q1,h2 x q2⟩)
theorem zNK {j:Nat} {rd wr rd' wr':List Nat} {a b:List (Nat×List Nat×List Nat)} (hr:∀ z,z∈rd→z∈rd') (hw:∀ z,z∈wr→z∈wr') (hl:zFi a b) (h:zAP all j rd' wr' b=true):zAP all j rd wr a=true:=by
  induction hl with
  | nil=>rfl
  | cons hxy _ ih =>
    rename_i x y _ _ _
    obtain ⟨i,r1,w1⟩:=x
    obtain ⟨i',r2,w2⟩:=y
    obtain ⟨e,g1,g2⟩:=hxy
    simp only at e g1 g2
    subst e
    simp only [zAP,cq,Bool.or_eq_true,Bool.not_eq_true'] at h ⊢
    refine ⟨?_,ih h.2⟩
    rcases h.1 with q | q
    · refine .inl ?_
      simp only [Bool.or_eq_false_iff] at q ⊢
      exact ⟨⟨zJh q.1.1 g2 hr,zJh q.1.2 g2 hw⟩,zJh q.2 hw g1⟩
    · exact .inr q
theorem drun_le {es:List (Eff×Option zBf)} {sn:St} {a b:List (Nat×List Nat×List Nat)} (h:DRun C all os i nid s b es sn):∀ {a},zFi a b→DRun C all os i nid s a es sn:=by
  induction h with
  | nil=>exact fun _=>.nil
  | cons h1 h2 _ ih=>exact fun hl=>.cons h1 (zNK (fun _ h=>h) (fun _ h=>h) hl h2) (ih (.cons ⟨rfl,fun _ h=>h,fun _ h=>h⟩ hl))
theorem DW.le {a b:List (Nat×List Nat×List Nat)} (hl:zFi a b) (h:DW C N k Q all os i nid s b):DW C N k Q all os i nid s a:=by
  obtain ⟨es,sn,h1,h2,h3⟩:=h
  exact ⟨es,sn,drun_le (a:=a) h1 hl,h2,h3⟩
theorem zKH {α:Type} {z:Bool} {f:α→V} {l:List α} {a:α} {xs r:List α} {t e es id:Nat} {T Te:TI} {xo yo:Operand} {yv:V} (hm:app l (a :: xs)=some r) (hs:∀ a,qA Te (f a)=true) (hw:wants all K g=some true) (hT:C.ty t=some T) (hk:T.kd = .slice e es) (hTe:C.ty e=some Te) (hes:Te.size=es) (hby:Nat.ble Te.bytes 4096=true) (hx:kev K xo=some (ovlz z id l)) (hH:hget H id=oblz z es f l) (hid:Nat.blt id H.length=true) (hlo:Nat.ble lo id=true) (hy:kev K yo=some yv) (hr:rowsOf H yv=some ((a :: xs).map f,rd)) (hf:zEZ (get H nid)=true) (hlen:Nat.blt nid H.length=true) (hl:zAP all i (nid :: nid :: id :: rd) [id,nid] log=true) (hH':puts H [(id,.dead),(nid,.rows es (r.map f))]=H') (hd:Nat.blt d n=true)
    (h:DW C N k Q all os (i+1) (nid+1) ⟨(d,.osl nid 0 r.length) :: K,H',lo,rnd,n⟩ ((i,nid :: nid :: id :: rd,[id,nid]) :: log)):DW C N k Q all (⟨some d,.call ⟨.builtin .append,#[xo,yo],#[t,t]⟩,ty,pos,after,g⟩ :: os) i nid ⟨K,H,lo,rnd,n⟩ log:=by
  replace h:=DW.eqv (qm (rd:=nid :: id :: rd) hd hH') h
  generalize hs0:(⟨K,H,lo,rnd,n⟩:St)=s at h ⊢
  have e1:K=s.K:=by rw [← hs0]
  have e2:H=s.H:=by rw [← hs0]
  have e3:lo=s.lo:=by rw [← hs0]
  rw [e1] at hx hy hw
  rw [e2] at hH hid hr hf hlen
  rw [e3] at hlo
  have hid':id<s.H.length:=by simpa [Nat.blt_eq] using hid
  have hlen':nid<s.H.length:=by simpa [Nat.blt_eq] using hlen
  have hal:allocs (.call ⟨.builtin .append,#[xo,yo],#[t,t]⟩)=true:=rfl
  have hfr : get s.H nid = some .free := by unfold zEZ at hf; split at hf; · assumption
                                            · cases hf
  rcases zAm z id es f l with ⟨rfl,rfl⟩ | ⟨q1,q2⟩
  · refine dstep (.op hw (zRi hm hs hT hk hTe hes hby hx hy hr) (fun _ => hfr) (fun j hj => ?_)) (zNK ?_ ?_ (zFi.rfl' log) hl) ?_
    · simp only [je,db] at hj; omega
    · intro z hz; simp only [rdOf,hal,cond_true,List.mem_cons] at hz ⊢; grind
    · intro z hz; simp only [je,List.mem_cons] at hz ⊢; grind
    · refine DW.le (b := (i, nid :: nid :: id :: rd, [id, nid]) :: log) (.cons ⟨rfl, ?_, ?_⟩ (zFi.rfl' log)) ?_
      · intro z hz; simp only [rdOf,hal,cond_true,List.mem_cons] at hz ⊢; grind
      · intro z hz; simp only [je,List.mem_cons] at hz ⊢; grind
      · have e : puts s.H [(id, .dead), (nid, .rows es (r.map f))] = puts s.H [(nid, .rows es (r.map f))] := by
          simp only [puts]
          rw [show hput s.H id Blk.dead=s.H from zCv hH hid]
        have e2:s.eff (some d) ⟨.osl nid 0 r.length,[(id,.dead),(nid,.rows es (r.map f))],nid :: id :: rd⟩=s.eff (some d) ⟨.osl nid 0 r.length,[(nid,.rows es (r.map f))],nid :: rd⟩:=by
          simp only [St.eff,e]
        rw [e2] at h
        exact h
  · rw [q1] at hx
    rw [q2] at hH
    refine dstep (.op hw (appO hm hs hT hk hTe hes hby hx hH hlo hy hr) (fun _=>hfr) (fun j hj=>?_)) ?_ ?_
    · simp only [je,List.mem_cons,List.not_mem_nil,or_false] at hj; rcases hj with rfl | rfl <;> assumption
    · exact hl
    · exact h
end
end X
end Go.Am
namespace Go.Am
open Go Go.Wk Go.RowKit Go.Mx
abbrev lr (r:zEL) (st:LoopState) (pend:Option Code):Blk:=.loop ⟨r.n,r.K,r.ps,r.assign,r.body,st,pend⟩
section
variable {N N0:Nat} {keep:List (Option Nat)} {K:List (Nat×V)} {H1 r:List Blk} {i j:Nat}
def LowV (N:Nat) (v:V):Prop := ∃ n,rn N [] n v=some v
theorem zQa (h:N0≤N):∀ (n:Nat) (v v1:V),rn N0 [] n v=some v1→rn N keep n v=some v1
  | 0,v,v1,e=>by cases e
  | n+1,v,v1,e=>by
    have ih:=zJn (fun v v1 h' => zQa h n v v1 h')
    have hx:∀ a b,rx N0 [] a=some b→rx N keep a=some b:=by
      intro a b hab
      by_cases h1:a<N0
      · rw [zGQ h1] at hab
        rw [zGQ (show a<N by omega)]; exact hab
      · have := zEz hab h1
        cases this
    cases v <;> simp only [rn] at e ⊢ <;> first | exact e | skip
    all_goals
      rw [cr] at e ⊢
      obtain ⟨a,h1,h2⟩:=e
      exact ⟨a,(by first | exact ih _ _ h1 | exact hx _ _ h1),h2⟩
theorem LowV.rv {v:V} (h:N0≤N) (hv:LowV N0 v):Rv N keep v v:=by obtain ⟨n,hn⟩:=hv; exact ⟨n,zQa h n v v hn⟩
def LowK (N:Nat) (K:List (Nat×V)):Prop := ∀ t v,kget K t=some v→LowV N v
theorem zFP : LowK N []:=fun t v h=>by cases h
theorem jO {t:Nat} {v:V} (h:LowV N v) (h2:LowK N K):LowK N ((t,v) :: K):=fun t' u h' => by
  simp only [kget] at h'
  cases hb:Nat.beq t t' with
  | true =>
    rw [hb] at h'
    simp only [cond_true,ce] at h'
    subst h'
    exact h
  | false=>rw [hb] at h'; exact h2 t' u h'
theorem jR {R:zEL} {st:LoopState} {pend:Option Code} (hl:LowK N0 R.K) (hN:Nat.ble N0 N=true) (hj:rx N keep i=some j) (h1:hget H1 j=lr R st pend) (h:GB N keep H1 (i+1) r):GB N keep H1 i (lr R st pend :: r) :=
  ⟨⟨(by intro h; cases h),fun _=>⟨j,hj,.inr ⟨_,rfl,h1,fun t v hv=>LowV.rv (cz hN) (hl t v hv)⟩⟩⟩,h⟩
end
namespace X
section
variable {C:Cfg} {N:Nat} {all os:List Oper} {o:Oper} {k:List It} {K K':List (Nat×V)} {H H':List Blk} {lo n nid:Nat} {rnd:Option Nat} {Q:Ex→St→Prop} {dst:Option Nat} {d:Nat} {p:Op} {ty:TypeId} {pos:String} {after:Array Edge} {e:Eff} {v:V} {x y:Bool} {g:Option (Nat×Bool)} {wr:List (Nat×Blk)} {rd:List Nat}
theorem range {gv:Operand} {ps:Array Tmp} {assign body:Code} {f:Nat} {caps:List V} {c:Code} {fn:Func} (hg:kev K gv=some (.fn f caps)) (hb:YD C f (caps.length+1)=some (c,fn)) (hlow:LowK H.length K) (hro:zK3 ⟨K,H,lo,rnd,n⟩=true)
    (h:∀ r:zEL,r.n=n→r.K=K→r.ps=ps.toList→r.assign=assign→r.body=body→LowK H.length r.K→GS C (H.length+1) [.code c] ⟨kargs 0 (.yld H.length :: caps),H++[lr r .ready none],lo,none,fn.ntmps⟩ (fun e s' => ∃ v p,finA C fn e s'=some v∧zCP H.length e s' ⟨K,H,lo,rnd,n⟩ k=some p∧GS C N p.1 p.2 Q)):GS C N (.code (.rangeFunc gv ps assign body) :: k) ⟨K,H,lo,rnd,n⟩ Q :=
  GS.range (fun p=>GS C N p.1 p.2 Q) hg hb hro (h ⟨n,K,ps.toList,assign,body,.ready,none⟩ rfl rfl rfl rfl rfl hlow) (fun p hp=>hp)
theorem yld {id:Nat} {args:List V} {r:zEL} {K0 K2:List (Nat×V)} {n0:Nat} {ps:List Nat} {assign body:Code} (hn:r.n=n0) (hK0:r.K=K0) (hps0:r.ps=ps) (has:r.assign=assign) (hbd:r.body=body) (hw:wants all K g=some true) (hc:callee K p=some (.yld id args)) (hg:hget H id=lr r .ready none) (hK:kputs K0 ps args=some K2) (hps:ps.all (fun p=>Nat.blt p n0)=true) (hlo:Nat.ble lo id=true)
    (h:GS C H.length [.code assign] ⟨K2,H,lo,some id,n0⟩ (fun e s1 => ∃ s1',zEl id e s1=some s1'∧GS C s1'.H.length [.code body] s1' (fun e s2 => ∃ s3,endRound id e s2 ⟨K,H,lo,rnd,n⟩ (some d)=some s3∧GS C N (.ops all os :: k) s3 Q))):GS C N (.ops all (⟨some d,p,ty,pos,after,g⟩ :: os) :: k) ⟨K,H,lo,rnd,n⟩ Q:=by
  subst hn hK0 hps0 has hbd
  exact GS.yld (r:=⟨r.n,r.K,r.ps,r.assign,r.body,.ready,none⟩) (fun s1' => GS C s1'.H.length [.code r.body] s1' (fun e s2 => ∃ s3,endRound id e s2 ⟨K,H,lo,rnd,n⟩ (some d)=some s3∧GS C N (.ops all os :: k) s3 Q)) (fun s3=>GS C N (.ops all os :: k) s3 Q) hw hc hg hK hps (cz hlo) h (fun s1' h=>h) (fun s3 h=>h)
theorem begin' {s1:St} {id:Nat} {r:zEL} {c:Code} {Q:Ex→St→Prop} {n0:Nat} {K0:List (Nat×V)} (e:s1=⟨K0,H,lo,rnd,n0⟩) (hg:hget H id=lr r .ready none) (h:GS C N [.code c] ⟨K0,hput H id (lr r .busy none),lo,rnd,n0⟩ Q) (hN:N=(hput H id (lr r .busy none)).length):∃ s1',zEl id .normal s1=some s1'∧GS C s1'.H.length [.code c] s1' Q:=by
  subst e
  refine ⟨⟨K0,hput H id (lr r .busy none),lo,rnd,n0⟩,?_,?_⟩
  · simp [zEl,hg]
  · subst hN; exact h
theorem loopI {c:Code} (S:Nat→St) (m:Nat) (step:∀ i,i<m→GS C N (.inLoop c :: k) (S (i+1)) Q→GS C N (.code c :: .inLoop c :: k) (S i) Q) (last:GS C N (.code c :: .inLoop c :: k) (S m) Q):GS C N (.code (.loop c) :: k) (S 0) Q:=by
  have key:∀ j,j≤m→GS C N (.code c :: .inLoop c :: k) (S (m - j)) Q:=by
    intro j
    induction j with
    | zero=>intro _; exact last
    | succ j ih =>
      intro hj
      refine step (m - (j+1)) (by omega) (.inLoop ?_)
      rw [show m - (j+1)+1=m - j by omega]
      exact ih (by omega)
  have:=key m (dc _)
  rw [Nat.sub_self] at this
  exact .loop this
theorem normH {s:St} (K':List (Nat×V)) (h:GS C N k ⟨K',H',lo,rnd,n⟩ Q) (e:s=⟨K,H,lo,rnd,n⟩) (hH:H=H') (hK:W.Sub K' K):GS C N k s Q:=by
  subst e hH
  exact GS.drop K' hK h
theorem zM4 {B:Blk}:puts H [(H.length,B)]=H++[B]:=zED H B
theorem zNU {B:Blk}:hget (H++[B]) H.length=B:=by simp [hget,Zr]
theorem puts_end' {B B':Blk}:puts (H++[B]) [(H.length,B')]=H++[B']:=by
  simp only [puts]
  induction H with
  | nil=>rfl
  | cons x r ih=>simp only [List.cons_append,cv,hput]; rw [ih]
theorem zQU {t es:Nat} {T:TI} {z v r:V} {xo yo:Operand} (hT:C.ty t=some T) (hx:kev K xo=some (.ptr H.length 0 0)) (hy:kev K yo=some v) (hs:qA T v=true) (hp:zE3 z 0 v.cells=some r):zZ C K (H++[.rows es [z]]) 0 nid (.store t xo yo)=some ⟨jT,[(H.length,.rows es [r])],[H.length]⟩:=by
  simp only [zZ,qL,hT,hx,hy,zDk,Nat.not_lt_zero,if_false,hs,if_true,zNU,Am.get,hp,da,Am.set]
theorem zPw {t id:Nat} {kd:Kd} {Te:TI} {ks vs:List V} {kv vv:V} {mo ko vo:Operand} (hm:zGC C t=some (kd,Te)) (hkd:zDe C kd kv=true) (h1:kev K mo=some (.map id)) (h2:kev K ko=some kv) (h3:kev K vo=some vv) (hH:hget H id = .map ks vs) (hf:zCO kv ks 0=some none):zZ C K H 0 nid (.mapUpdate t mo ko vo)=some ⟨jT,[(id,.map (ins ks (zAC kv ks) kv) (ins vs (zAC kv ks) vv))],[id]⟩:=by
  simp only [zZ,Yx,h1,h2,h3,zDr,hm,hkd,cond_true,Nat.not_lt_zero,if_false,hH,hf]
theorem zMJ {α:Type}:∀ (l:List α) (x:α),ins l l.length x=l++[x]
  | [],x=>rfl
  | y :: r,x=>by simp [ins,zMJ r x]
theorem zLO : ∀ (l:List Int) (i:Int),(∀ j∈l,j<i)→zAC (.i i) (l.map V.i)=l.length
  | [],i,_=>rfl
  | j :: r,i,h=>by
    simp only [cw,zAC,h j ct,decide_true,cond_true,cv]
    rw [zLO r i fun j hj=>h j (cu _ hj)]
theorem zKC : ∀ (l:List Int) (i:Int) (k:Nat),i∉l→zCO (.i i) (l.map V.i) k=some none
  | [],i,k,_=>rfl
  | j :: r,i,k,h=>by
    simp only [List.mem_cons,not_or] at h
    simp only [cw,zCO,zBJ,J6,if_true,h.1,decide_false]
    exact zKC r i (k+1) h.2
theorem frzMap {id m:Nat} {ks vs a b:List V} (hH:hget H id = .map ks vs) (h1:mapO (frz H 0 m) ks=some a) (h2:mapO (frz H 0 m) vs=some b):frz H 0 (m+1) (.map id)=some (.fmap a b):=by
  simp only [frz,Nat.not_lt_zero,if_false,hH,h1,h2]
theorem frzFn {f m:Nat} {l a:List V} (h:mapO (frz H 0 m) l=some a):frz H 0 (m+1) (.fn f l)=some (.fn f a):=by
  simp only [frz,h,da]
theorem frzPtr {id m es off:Nat} {v v':V} (hH:hget H id = .rows es [v]) (h:frz H 0 m v=some v'):frz H 0 (m+1) (.ptr id 0 off)=some (.fptr [v'] 0 off):=by
  simp only [frz,Nat.not_lt_zero,if_false,hH,mapO,h,da]
theorem mapO1 {α β:Type} {f:α→Option β} {x:α} {y:β} (h:f x=some y):mapO f [x]=some [y]:=by simp only [mapO,h]
theorem next {x:Operand} {id:Nat} {ks vs:List V} {left:List Nat} {last:Option Nat} (hw:wants all K g=some true) (hx:kev K x=some (.ptr id 0 0)) (hg:hget H id = .iter ks vs left last) (hlo:Nat.ble lo id=true) (hd:Nat.blt d n=true)
    (h1:left=[]→GS C N (.ops all os :: k) ⟨(d,.tup [.b false]) :: K,H,lo,rnd,n⟩ Q) (h2:∀ j kv vv,j∈left→get ks j=some kv→get vs j=some vv→GS C N (.ops all os :: k) ⟨(d,.tup [.b true,kv,vv]) :: K,hput H id (.iter ks vs (left.filter (·≠j)) (some j)),lo,rnd,n⟩ Q):GS C N (.ops all (⟨some d,.next x false,ty,pos,after,g⟩ :: os) :: k) ⟨K,H,lo,rnd,n⟩ Q :=
  GS.next rfl hw hx hg (cz hlo) (fun h=>front rfl hd (h1 h) rfl) (fun j kv vv q1 q2 q3=>front rfl hd (h2 j kv vv q1 q2 q3) rfl)
theorem entry {x:Operand} {id j:Nat} {ks vs:List V} {left:List Nat} {kv vv:V} (hw:wants all K g=some true) (hx:kev K x=some (.ptr id 0 0)) (hg:hget H id = .iter ks vs left (some j)) (hk:get ks j=some kv) (hv:get vs j=some vv) (hd:Nat.blt d n=true)
    (h:GS C N (.ops all os :: k) ⟨(d,.tup [kv,vv]) :: K,H,lo,rnd,n⟩ Q):GS C N (.ops all (⟨some d,.entry x,ty,pos,after,g⟩ :: os) :: k) ⟨K,H,lo,rnd,n⟩ Q :=
  GS.entry rfl hw hx hg hk hv (front rfl hd h rfl)
end
end X
end Go.Am
