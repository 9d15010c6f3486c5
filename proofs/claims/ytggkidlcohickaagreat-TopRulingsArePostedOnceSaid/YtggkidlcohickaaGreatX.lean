/- Rules for walks that a program prints. Conditions: none. -/
import Derived.Test.YtggkidlcohickaaGreatGs
import Derived.Test.YtggkidlcohickaaGreatXl
set_option linter.unusedVariables false
set_option linter.unusedSimpArgs false
namespace Go.Am
open Go Go.Wk Go.RowKit Go.Mx
def ovlz {α:Type} (z:Bool) (id:Nat) (l:List α):V:=match z,l with
  | true,[]=>.nil
  | _,l=>.osl id 0 l.length
def oblz {α:Type} (z:Bool) (es:Nat) (f:α→V) (l:List α):Blk:=match z,l with
  | true,[]=>.dead
  | _,l=>.rows es (l.map f)
abbrev ovl {α:Type} (id:Nat) (l:List α):V:=ovlz true id l
abbrev obl {α:Type} (es:Nat) (f:α→V) (l:List α):Blk:=oblz true es f l
theorem Ju {α:Type} (z:Bool) (id es:Nat) (f:α→V) (l:List α):(z=true∧l=[])∨(ovlz z id l = .osl id 0 l.length∧oblz z es f l = .rows es (l.map f)):=by cases z <;> cases l <;> simp [ovlz,oblz]
theorem zAg {α:Type} {z:Bool} {id:Nat} {l:List α} (h:l≠[]):ovlz z id l = .osl id 0 l.length:=by cases l with
  | nil=>exact absurd rfl h
  | cons=>cases z <;> rfl
theorem Yi {α:Type} {z:Bool} {es:Nat} {f:α→V} {l:List α} (h:l≠[]):oblz z es f l = .rows es (l.map f):=by cases l with
  | nil=>exact absurd rfl h
  | cons=>cases z <;> rfl
theorem put_ne {α:Type} {l:List α} {i:Int} {x y:α} (h:ix l i=some y):Mx.put l i x≠[]:=by
  obtain ⟨h1,h2,h3⟩:=zBn h
  intro e
  have:(Mx.put l i x).length=0:=by rw [e]; rfl
  simp [Mx.put] at this
  subst this
  simp at h3
section
variable {N:Nat} {keep:List (Option Nat)} {K K1:List (Nat×V)} {H H1:List Blk}
def GK (N:Nat) (keep:List (Option Nat)) (K K1:List (Nat×V)):Prop := ∀ t v,kget K t=some v→∃ n v1 v0,rn N keep n v=some v1∧kget K1 t=some v0∧(v0=v1∨∃ n',frz [] 0 n' v0=some v1)
def Rv (N:Nat) (keep:List (Option Nat)) (v v1:V):Prop := ∃ n,rn N keep n v=some v1
theorem QY : GK N keep [] K1:=fun t v h=>by cases h
theorem zU {K:List (Nat×V)} {t:Nat} {v v1:V} (hk:kget K1 t=some v1) (h:Rv N keep v v1) (h2:GK N keep K K1):GK N keep ((t,v) :: K) K1:=fun t' u h' => by
  simp only [kget] at h'
  cases hb:Nat.beq t t' with
  | true =>
    rw [hb] at h'
    simp only [cond_true,Option.some.injEq] at h'
    subst h'
    rw [← Nat.eq_of_beq_eq_true hb]
    obtain ⟨n,h⟩:=h
    exact ⟨n,v1,v1,h,hk,.inl rfl⟩
  | false=>rw [hb] at h'; exact h2 t' u h'
theorem yO {α:Type} {z:Bool} {l:List α} {i j:Nat} (h:rx N keep i=some j):Rv N keep (ovlz z i l) (ovlz z j l):=⟨1,by cases z <;> cases l <;> simp [ovlz,rn,h,V.nil]⟩
def getL (K1:List (Nat×V)):List (Nat×V)→List (Option V)
  | []=>[]
  | p :: r=>kget K1 p.1 :: getL K1 r
def zJH : List (Nat×V)→List (Option V)
  | []=>[]
  | p :: r=>some p.2 :: zJH r
def rnL (N:Nat) (keep:List (Option Nat)):List (Nat×V)→List (Option V)
  | []=>[]
  | p :: r=>rn N keep 9 p.2 :: rnL N keep r
def allS : List (Option V)→Bool
  | []=>true
  | some _ :: r=>allS r
  | none :: _=>false
theorem ga : ∀ {K:List (Nat×V)},rnL N keep K=getL K1 K→allS (getL K1 K)=true→GK N keep K K1
  | [],_,_=>QY
  | (t,v) :: r,h,h2=>by
    simp only [rnL,getL,List.cons.injEq] at h
    simp only [getL] at h2
    cases hk:kget K1 t with
    | none=>rw [hk] at h2; cases h2
    | some u =>
      rw [hk] at h2
      exact zU hk ⟨9,by rw [h.1,hk]⟩ (ga h.2 h2)
theorem sr {K:List (Nat×V)}:∀ {K':List (Nat×V)},getL K K'=zJH K'→W.Sub K' K
  | [],_=>W.sub_nil
  | (t,v) :: r,h=>by
    simp only [zJH,getL,List.cons.injEq] at h
    exact W.zJE h.1 (sr h.2)
def GB (N:Nat) (keep:List (Option Nat)) (H1:List Blk):Nat→List Blk→Prop
  | _,[]=>True
  | i,B :: r=>(B≠.free∧(B.live=true→∃ j,rx N keep i=some j∧RB N keep B (hget H1 j)))∧GB N keep H1 (i+1) r
theorem ZT {i:Nat}:GB N keep H1 i []:=trivial
theorem zEU {i j:Nat} {B B1:Blk} {r:List Blk} (hj:rx N keep i=some j) (h1:hget H1 j=B1) (hf:B≠.free) (hr:B.live=true→∃ n,rnB N keep n B=some B1) (h:GB N keep H1 (i+1) r):GB N keep H1 i (B :: r):=⟨⟨hf,fun hl=>by obtain ⟨n,hn⟩:=hr hl; exact ⟨j,hj,.inl ⟨n,by rw [h1]; exact hn⟩⟩⟩,h⟩
theorem jU {i:Nat} {r:List Blk} (h:GB N keep H1 (i+1) r):GB N keep H1 i (.dead :: r):=⟨⟨(by intro h; cases h),(by intro h; cases h)⟩,h⟩
theorem gb_pad' {i:Nat} {B:Blk} {r:List Blk} (e:B = .dead) (h:GB N keep H1 (i+1) r):GB N keep H1 i (B :: r):=e▸jU h
theorem zNy {α:Type} {z:Bool} {es:Nat} {f:α→V} {l:List α}:oblz z es f l≠.free:=by cases z <;> cases l <;> intro h <;> cases h
theorem JV {β α:Type} {g:β→Option β} {f:α→β} (h:∀ x,g (f x)=some (f x)):∀ l:List α,mapO g (l.map f)=some (l.map f)
  | []=>rfl
  | x :: r=>by simp [mapO,h x,JV h r]
theorem zIS {α:Type} {es:Nat} {f:α→V} {l:List α} (n:Nat) (h:∀ x,rn N keep n (f x)=some (f x)):∃ n,rnB N keep n (.rows es (l.map f))=some (.rows es (l.map f)):=⟨n,by simp [rnB,JV h]⟩
theorem zLZ {α:Type} {z:Bool} {es:Nat} {f:α→V} {l:List α} (n:Nat) (h:∀ x,rn N keep n (f x)=some (f x)):∃ n,rnB N keep n (oblz z es f l)=some (oblz z es f l):=by
  cases z with
  | false=>exact zIS n h
  | true=>cases l with
    | nil=>exact ⟨1,rfl⟩
    | cons=>exact zIS n h
theorem rnB_one {es:Nat} {v v1:V} (h:Rv N keep v v1):∃ n,rnB N keep n (.rows es [v])=some (.rows es [v1]):=by
  obtain ⟨n,h⟩:=h
  exact ⟨n,by simp [rnB,mapO,h]⟩
theorem zLY : ∀ (n:Nat) (v v1:V),rn N keep n v=some v1→rn N keep (n+1) v=some v1
  | 0,v,v1,h=>by cases h
  | n+1,v,v1,h=>by
    have key:∀ (l l1:List V),mapO (rn N keep n) l=some l1→mapO (rn N keep (n+1)) l=some l1:=by
      intro l
      induction l with
      | nil=>intro l1 h; exact h
      | cons x r ih =>
        intro l1 h
        simp only [mapO] at h ⊢
        cases hx:rn N keep n x with
        | none=>rw [hx] at h; cases h
        | some y =>
          cases hr:mapO (rn N keep n) r with
          | none=>rw [hx,hr] at h; cases h
          | some s=>rw [hx,hr] at h; rw [zLY n x y hx,ih s hr]; exact h
    cases v <;> simp only [rn] at h ⊢ <;> first | exact h | skip
    all_goals
      rw [Option.map_eq_some_iff] at h ⊢
      obtain ⟨l1,h1,h2⟩:=h
      exact ⟨l1,key _ _ h1,h2⟩
theorem rn_le {n m:Nat} {v v1:V} (hnm:n≤m) (h:rn N keep n v=some v1):rn N keep m v=some v1:=by
  induction hnm with
  | refl=>exact h
  | step _ ih=>exact zLY _ _ _ ih
inductive RvL (N:Nat) (keep:List (Option Nat)):List V→List V→Prop where
  | nil:RvL N keep [] []
  | cons {v v1:V} {l l1:List V}:Rv N keep v v1→RvL N keep l l1→RvL N keep (v :: l) (v1 :: l1)
theorem RvL.mapO {l l1:List V} (h:RvL N keep l l1):∃ n,∀ m,n≤m→Am.mapO (rn N keep m) l=some l1:=by
  induction h with
  | nil=>exact ⟨0,fun _ _=>rfl⟩
  | cons h1 _ ih =>
    obtain ⟨a,ha⟩:=h1
    obtain ⟨b,hb⟩:=ih
    exact ⟨max a b,fun m hm=>by simp [Am.mapO,rn_le (show a≤m by omega) ha,hb m (by omega)]⟩
def kokL (N len:Nat):List (Option Nat)→Bool
  | []=>true
  | none :: r=>kokL N len r
  | some j :: r=>Nat.ble N j&&Nat.blt j len && !r.contains (some j)&&kokL N len r
theorem Qp {N len:Nat}:∀ {l:List (Option Nat)},kokL N len l=true→(∀ i j,get l i=some (some j)→N≤j∧j<len)∧∀ i i' j,get l i=some (some j)→get l i'=some (some j)→i=i'
  | [],_=>⟨fun i j h=>(by cases h),fun i i' j h=>(by cases h)⟩
  | none :: r,h=>by
    obtain ⟨h1,h2⟩:=Qp (l:=r) (by simpa [kokL] using h)
    refine ⟨fun i j h=>?_,fun i i' j h h' => ?_⟩
    · cases i with
      | zero=>cases h
      | succ i=>exact h1 i j h
    · cases i with
      | zero=>cases h
      | succ i=>cases i' with
        | zero=>cases h'
        | succ i' => rw [h2 i i' j h h']
  | some a :: r,h=>by
    simp only [kokL,Bool.and_eq_true,Nat.ble_eq,Bool.not_eq_true',List.contains_iff_mem,← Bool.not_eq_true] at h
    obtain ⟨⟨⟨q1,q2⟩,q3⟩,q4⟩:=h
    have q2':a<len:=by simpa [Nat.blt_eq] using q2
    obtain ⟨h1,h2⟩:=Qp q4
    have hm:∀ i,get r i≠some (some a):=fun i hi=>q3 (by rw [zP] at hi; exact List.mem_of_getElem? hi)
    refine ⟨fun i j h=>?_,fun i i' j h h' => ?_⟩
    · cases i with
      | zero=>simp only [Am.get,Option.some.injEq] at h; subst h; exact ⟨q1,q2'⟩
      | succ i=>exact h1 i j h
    · cases i with
      | zero=>cases i' with
        | zero=>rfl
        | succ i' => simp only [Am.get,Option.some.injEq] at h; subst h; exact absurd h' (hm i')
      | succ i=>cases i' with
        | zero=>simp only [Am.get,Option.some.injEq] at h'; subst h'; exact absurd h (hm i)
        | succ i' => rw [h2 i i' j h h']
theorem GB.spec : ∀ {H:List Blk} {i:Nat},GB N keep H1 i H→∀ id B,get H id=some B→B≠.free∧(B.live=true→∃ j,rx N keep (i+id)=some j∧RB N keep B (hget H1 j))
  | [],_,_,_,_,h=>by cases h
  | B :: r,i,h,0,B',hg=>by simp only [Am.get,Option.some.injEq] at hg; subst hg; exact h.1
  | B :: r,i,h,id+1,B',hg=>by have:=GB.spec h.2 id B' hg; rwa [show i+1+id=i+(id+1) by omega] at this
end
namespace X
section
variable {C:Cfg} {N:Nat} {all os:List Oper} {o:Oper} {k:List It} {K K':List (Nat×V)} {H H':List Blk} {lo n nid:Nat} {rnd:Option Nat} {Q:Ex→St→Prop} {dst:Option Nat} {d:Nat} {p:Op} {ty:TypeId} {pos:String} {after:Array Edge} {e:Eff} {v:V} {x y:Bool} {g:Option (Nat×Bool)} {wr:List (Nat×Blk)} {rd:List Nat}
theorem gc (keep:List (Option Nat)) (h:GS C N k ⟨K',H',lo,rnd,n⟩ Q) (hlo:lo=0) (hk:kokL N H.length keep=true) (hl:Nat.beq H'.length (N+keep.length)=true) (hK:GK N keep K' K) (hH:GB N keep H 0 H'):GS C N k ⟨K,H,lo,rnd,n⟩ Q:=by
  refine GS.gc (keep:=keep) ⟨(Qp hk).1,(Qp hk).2,Nat.eq_of_beq_eq_true hl,hK,fun id B hB hlv=>?_,fun id hid=>?_,fun id hf=>(hH.spec id _ hf).1 rfl⟩ h
  · have := (hH.spec id B hB).2 hlv
    simpa using this
  · subst hlo
    exact absurd hid (Nat.not_lt_zero _)
theorem norm {s:St} (K':List (Nat×V)) (h:GS C N k ⟨K',H',lo,rnd,n⟩ Q) (e:s=⟨K,H',lo,rnd,n⟩) (hK:W.Sub K' K):GS C N k s Q:=by
  subst e
  exact GS.drop K' hK h
theorem front {s s':St} (hs:s.put (some d) v=s') (hd:Nat.blt d n=true) (h:GS C N k ⟨(d,v) :: K,H,lo,rnd,n⟩ Q) (e1:s=⟨K,H,lo,rnd,n⟩):GS C N k s' Q:=by
  subst e1
  subst hs
  have e2:St.put ⟨K,H,lo,rnd,n⟩ (some d) v=⟨kput K d v,H,lo,rnd,n⟩:=by unfold St.put; simp only; rw [hd]; rfl
  rw [e2]
  refine .drop ((d,v) :: K) (fun t u h=>?_) h
  simp only [kget] at h
  show kget (kput K d v) t=some u
  rw [zCO]
  cases hb:Nat.beq d t with
  | true=>rw [hb] at h; rw [if_pos (Nat.eq_of_beq_eq_true hb)]; exact h
  | false=>rw [hb] at h; rw [if_neg (Nat.ne_of_beq_eq_false hb)]; exact h
theorem opR (hw:wants all K g=some true) (he:zM C K H lo H.length p=some ⟨v,[],rd⟩) (hd:Nat.blt d n=true) (h:GS C N (.ops all os :: k) ⟨(d,v) :: K,H,lo,rnd,n⟩ Q):GS C N (.ops all (⟨some d,p,ty,pos,after,g⟩ :: os) :: k) ⟨K,H,lo,rnd,n⟩ Q:=.op hw he (front rfl hd h rfl)
theorem op0 (hw:wants all K g=some true) (he:zM C K H lo H.length p=some ⟨v,[],rd⟩) (h:GS C N (.ops all os :: k) ⟨K,H,lo,rnd,n⟩ Q):GS C N (.ops all (⟨none,p,ty,pos,after,g⟩ :: os) :: k) ⟨K,H,lo,rnd,n⟩ Q:=.op hw he h
theorem opW (hw:wants all K g=some true) (he:zM C K H lo H.length p=some ⟨v,wr,rd⟩) (hH:puts H wr=H') (hd:Nat.blt d n=true) (h:GS C N (.ops all os :: k) ⟨(d,v) :: K,H',lo,rnd,n⟩ Q):GS C N (.ops all (⟨some d,p,ty,pos,after,g⟩ :: os) :: k) ⟨K,H,lo,rnd,n⟩ Q:=.op hw he (front rfl hd (by subst hH; exact h) rfl)
theorem op0W (hw:wants all K g=some true) (he:zM C K H lo H.length p=some ⟨v,wr,rd⟩) (hH:puts H wr=H') (h:GS C N (.ops all os :: k) ⟨K,H',lo,rnd,n⟩ Q):GS C N (.ops all (⟨none,p,ty,pos,after,g⟩ :: os) :: k) ⟨K,H,lo,rnd,n⟩ Q:=.op hw he (by subst hH; exact h)
theorem off (hw:wants all K g=some false) (hd:Nat.blt d n=true) (h:GS C N (.ops all os :: k) ⟨(d,jA) :: K,H,lo,rnd,n⟩ Q):GS C N (.ops all (⟨some d,p,ty,pos,after,g⟩ :: os) :: k) ⟨K,H,lo,rnd,n⟩ Q:=.zGT hw (front rfl hd h rfl)
theorem call {f:Nat} {args args':List V} (hX:C.X f args' v) (hw:wants all K g=some true) (hc:callee K p=some (.fn f args)) (hd:Nat.blt d n=true) (ha:ZB H false args args') (h:GS C N (.ops all os :: k) ⟨(d,v) :: K,H,lo,rnd,n⟩ Q):GS C N (.ops all (⟨some d,p,ty,pos,after,g⟩ :: os) :: k) ⟨K,H,lo,rnd,n⟩ Q :=
  .ext (fl:=false) hw hc ha hX (fun h=>by cases h) (front rfl hd h rfl)
theorem zAU {f m:Nat} {args args':List V} (hX:C.X f args' v) (hw:wants all K g=some true) (hc:callee K p=some (.fn f args)) (hd:Nat.blt d n=true) (hf:flat m v=true) (ha:ZB H true args args') (h:GS C N (.ops all os :: k) ⟨(d,v) :: K,H,lo,rnd,n⟩ Q):GS C N (.ops all (⟨some d,p,ty,pos,after,g⟩ :: os) :: k) ⟨K,H,lo,rnd,n⟩ Q :=
  .ext (fl:=true) hw hc ha hX (fun _=>⟨m,hf⟩) (front rfl hd h rfl)
theorem on_t {j:Nat} {t:Nat} {o':Oper} (h1:Am.get all j=some o') (h2:o'.dst=some t) (h3:kget K t=some (.b x)) (hx:x=true):wants all K (some (j,true))=some true:=by rw [W.zFu h1 h2 h3,hx]; rfl
theorem on_f {j:Nat} {t:Nat} {o':Oper} (h1:Am.get all j=some o') (h2:o'.dst=some t) (h3:kget K t=some (.b x)) (hx:x=false):wants all K (some (j,false))=some true:=by rw [W.zFu h1 h2 h3,hx]; rfl
theorem zLj {j:Nat} {t:Nat} {o':Oper} (h1:Am.get all j=some o') (h2:o'.dst=some t) (h3:kget K t=some (.b x)) (hx:x=false):wants all K (some (j,true))=some false:=by rw [W.zFu h1 h2 h3,hx]; rfl
theorem zLk {j:Nat} {t:Nat} {o':Oper} (h1:Am.get all j=some o') (h2:o'.dst=some t) (h3:kget K t=some (.b x)) (hx:x=true):wants all K (some (j,false))=some false:=by rw [W.zFu h1 h2 h3,hx]; rfl
theorem zKr {c a b:Operand} (hc:kev K c=some (.b x)) (hx:x=true) (ha:kev K a=some v):zM C K H lo nid (.pick c a b)=some ⟨v,[],[]⟩:=by subst hx; simp only [zM,zC6,hc,ha,Jc]
theorem zKs {c a b:Operand} (hc:kev K c=some (.b x)) (hx:x=false) (hb:kev K b=some v):zM C K H lo nid (.pick c a b)=some ⟨v,[],[]⟩:=by subst hx; simp only [zM,zC6,hc,hb,Jc]
theorem split (x:Bool) (ht:x=true→GS C N k ⟨K,H,lo,rnd,n⟩ Q) (hf:x=false→GS C N k ⟨K,H,lo,rnd,n⟩ Q):GS C N k ⟨K,H,lo,rnd,n⟩ Q:=by
  cases x with
  | true=>exact ht rfl
  | false=>exact hf rfl
theorem cond {c:Operand} {c1 c2:Code} (hc:kev K c=some (.b x)) (ht:x=true→GS C N (.code c1 :: k) ⟨K,H,lo,rnd,n⟩ Q) (hf:x=false→GS C N (.code c2 :: k) ⟨K,H,lo,rnd,n⟩ Q):GS C N (.code (.cond c c1 c2) :: k) ⟨K,H,lo,rnd,n⟩ Q:=by
  cases x with
  | true=>exact .zCZ hc (ht rfl)
  | false=>exact .zCa hc (hf rfl)
theorem join {τ:Type} {it:It} {s:St} (J:τ→Prop) (S:τ→St) (hj:∀ v,J v→GS C N k (S v) Q) (h:(∀ v,J v→GS C N k (S v) Q)→GS C N (it :: k) s Q):GS C N (it :: k) s Q:=h hj
theorem lp {σ ρ:Type} {body:σ→Option (σ ⊕ ρ)} {c:Code} {a:ρ} (S:σ→St) (step:∀ s b,body s=some b→(∀ s',b = .inl s'→GS C N (.inLoop c :: k) (S s') Q)→(∀ y,b = .inr y→y=a)→GS C N (.code c :: .inLoop c :: k) (S s) Q):∀ (m:Nat) (s:σ),Lp body m s=some a→GS C N (.code c :: .inLoop c :: k) (S s) Q
  | 0,s,h=>by cases h
  | m+1,s,h=>by
    simp only [Lp] at h
    split at h
    · cases h
    · rename_i s' hb
      exact step s _ hb (fun s2 e=>by cases e; exact .inLoop (lp S step m s' h)) (fun y e=>by cases e)
    · rename_i r hb
      simp only [Option.some.injEq] at h
      exact step s _ hb (fun s2 e=>by cases e) (fun y e=>by cases e; exact h)
theorem loop {σ ρ:Type} {body:σ→Option (σ ⊕ ρ)} {c:Code} {a:ρ} {m:Nat} {s0:σ} {s:St} (S:σ→St) (hM:Lp body m s0=some a) (step:∀ s b,body s=some b→(∀ s',b = .inl s'→GS C N (.inLoop c :: k) (S s') Q)→(∀ y,b = .inr y→y=a)→GS C N (.code c :: .inLoop c :: k) (S s) Q) (e:S s0=s):GS C N (.code (.loop c) :: k) s Q:=e▸.loop (lp S step m s0 hM)
theorem Yw (n:Int):IntKind.wrap .i64 n=w64 n:=IntKind.wrap_i64 n
theorem addE {t t2:Nat} {a b:Int} {xo yo:Operand} (hx:kev K xo=some (.i a)) (hy:kev K yo=some (.i b)):zM C K H lo nid (.binOp .add t xo yo t2)=some ⟨.i (w64 (a+b)),[],[]⟩:=by
  simp [zM,YF,hx,hy,binA,Jy,intA,Jc,Yw]
theorem subE {t t2:Nat} {a b:Int} {xo yo:Operand} (hx:kev K xo=some (.i a)) (hy:kev K yo=some (.i b)):zM C K H lo nid (.binOp .sub t xo yo t2)=some ⟨.i (w64 (a - b)),[],[]⟩:=by
  simp [zM,YF,hx,hy,binA,Jy,intA,Jc,Yw]
theorem mulE {t t2:Nat} {a b:Int} {xo yo:Operand} (hx:kev K xo=some (.i a)) (hy:kev K yo=some (.i b)):zM C K H lo nid (.binOp .mul t xo yo t2)=some ⟨.i (w64 (a*b)),[],[]⟩:=by
  simp [zM,YF,hx,hy,binA,Jy,intA,Jc,Yw]
theorem quoE {t t2:Nat} {a b r:Int} {xo yo:Operand} (h:quo a b=some r) (hx:kev K xo=some (.i a)) (hy:kev K yo=some (.i b)):zM C K H lo nid (.binOp .quo t xo yo t2)=some ⟨.i r,[],[]⟩:=by
  obtain ⟨h1,rfl⟩:=quo_of h
  simp [zM,YF,hx,hy,binA,Jy,intA,Jc,Yw,h1]
theorem remE {t t2:Nat} {a b r:Int} {xo yo:Operand} (h:rem a b=some r) (hx:kev K xo=some (.i a)) (hy:kev K yo=some (.i b)):zM C K H lo nid (.binOp .rem t xo yo t2)=some ⟨.i r,[],[]⟩:=by
  obtain ⟨h1,rfl⟩:=rem_of h
  simp [zM,YF,hx,hy,binA,Jy,intA,Jc,h1]
theorem negE {t:Nat} {a:Int} {xo:Operand} (hx:kev K xo=some (.i a)):zM C K H lo nid (.unOp .neg t xo)=some ⟨.i (w64 (0 - a)),[],[]⟩:=by
  simp [zM,zKE,hx,unA,Jc,Yw]
theorem minE {a b:Int} {t u:Nat} {xo yo:Operand} (hx:kev K xo=some (.i a)) (hy:kev K yo=some (.i b)):zM C K H lo nid (.call ⟨.builtin .min,#[xo,yo],#[t,u]⟩)=some ⟨.i (min a b),[],[]⟩:=by
  have:(if b<a then b else a)=min a b:=by rw [Int.min_def]; split <;> split <;> omega
  simp [zM,Zd,kevs,hx,hy,Z0,zMH,minR,Jy,Jc,this]
theorem maxE {a b:Int} {t u:Nat} {xo yo:Operand} (hx:kev K xo=some (.i a)) (hy:kev K yo=some (.i b)):zM C K H lo nid (.call ⟨.builtin .max,#[xo,yo],#[t,u]⟩)=some ⟨.i (max a b),[],[]⟩:=by
  have:(if a<b then b else a)=max a b:=by rw [Int.max_def]; split <;> split <;> omega
  simp [zM,Zd,kevs,hx,hy,Z0,zMI,maxR,Jy,Jc,this]
theorem lenF {α:Type} {f:α→V} {l:List α} {xo:Operand} {t:Nat} {T:TI} {e es:Nat} (hT:C.ty t=some T) (hk:T.kd = .slice e es) (hx:kev K xo=some (.sl (l.map f))):zM C K H lo nid (.call ⟨.builtin .len,#[xo],#[t]⟩)=some ⟨.i (l.length:Nat),[],[]⟩:=by
  simp [zM,Zd,kevs,hx,Z0,zAC,hT,hk,lenS]
theorem zBV {α:Type} {f:α→V} {l:List α} {a:α} {t:Nat} {xo io:Operand} {T:TI} {e es:Nat} {m:Int} {ik:IntKind} (hm:ix l m=some a) (hf:∀ a,(f a).cells.length=es) (hT:C.ty t=some T) (hk:T.kd = .slice e es) (hx:kev K xo=some (.sl (l.map f))) (hi:kev K io=some (.lit (.int ik m))):zM C K H lo nid (.indexAddr t xo io)=some ⟨.fptr (l.map f) m.toNat 0,[],[]⟩:=by
  obtain ⟨h0,h1,h2⟩:=zBn hm
  have hg:Am.get (l.map f) m.toNat=some (f a):=by rw [zP,List.getElem?_map,h2]; rfl
  simp [zM,jV,hT,hx,hi,zBW,hk,h0,h1,hg,rowOK,hf]
theorem zEK {α:Type} {f:α→V} {l:List α} {a:α} {t:Nat} {xo:Operand} {T:TI} {m:Int} {off:Nat} (hm:ix l m=some a) (hT:C.ty t=some T) (hx:kev K xo=some (.fptr (l.map f) m.toNat off)) (hp:Jd T off (f a).cells=some v):zM C K H lo nid (.load t xo)=some ⟨v,[],[]⟩:=by
  obtain ⟨h0,h1,h2⟩:=zBn hm
  have hg:Am.get (l.map f) m.toNat=some (f a):=by rw [zP,List.getElem?_map,h2]; rfl
  simp only [zM,QH,hT,hx,zAO,hg,hp,Option.map_some]
theorem zBe {op:Operand} {a dflt:Int} {ik:IntKind} (h:kev K op=some (.lit (.int ik a))):jY K (some op) dflt=some a:=by simp [jY,h]
theorem sliceFE {α:Type} {f:α→V} {l r:List α} {es:Nat} {a b:Int} {lo1 hi1:Option Operand} (hm:sub l a b=some r) (hf:∀ a,(f a).cells.length=es) (h1:jY K lo1 0=some a) (h2:jY K hi1 (l.length:Nat)=some b):YS K H es (.sl (l.map f)) lo1 hi1 none=some ⟨.sl (r.map f),[],[]⟩:=by
  obtain ⟨q1,q2,q3,rfl⟩:=zE2 hm
  have hr:rowOK' es (Am.get (l.map f) a.toNat)=true:=by
    rw [zP,List.getElem?_map]
    cases l[a.toNat]? with
    | none=>rfl
    | some x=>simp [rowOK',hf]
  have e:zAY H es (.sl (l.map f)) a b false b=some (.sl (((l.take b.toNat).drop a.toNat).map f),[]):=by
    simp [zAY,q1,q2,q3,hr,List.map_take,List.map_drop]
  unfold YS
  simp only [lenS,List.length_map,h1,h2,Option.isSome_none,Bool.false_and,Bool.false_eq_true,if_false]
  rw [show jY K none b=some b from rfl]
  simp only [e]
theorem sliceF {α:Type} {f:α→V} {l r:List α} {t:Nat} {T Te:TI} {e es:Nat} {a b:Int} {xo:Operand} {lo1 hi1:Option Operand} (hm:sub l a b=some r) (hf:∀ a,(f a).cells.length=es) (hT:C.ty t=some T) (hk:T.kd = .slice e es) (hTe:C.ty e=some Te) (hes:Te.size=es) (hx:kev K xo=some (.sl (l.map f))) (h1:jY K lo1 0=some a) (h2:jY K hi1 (l.length:Nat)=some b):zM C K H lo nid (.slice t xo lo1 hi1 none)=some ⟨.sl (r.map f),[],[]⟩:=by
  simp only [zM,YE,Z5,hT,hk,hTe,hx]
  rw [hes]
  exact sliceFE hm hf h1 h2
theorem lenO {α:Type} {l:List α} {xo:Operand} {t id:Nat} {T:TI} {e es:Nat} (hT:C.ty t=some T) (hk:T.kd = .slice e es) (hx:kev K xo=some (.osl id 0 l.length)):zM C K H lo nid (.call ⟨.builtin .len,#[xo],#[t]⟩)=some ⟨.i (l.length:Nat),[],[]⟩:=by
  simp [zM,Zd,kevs,hx,Z0,zAC,hT,hk,lenS]
theorem lenN {α:Type} {z:Bool} {l:List α} {xo:Operand} {t id:Nat} {T:TI} {e es:Nat} (hT:C.ty t=some T) (hk:T.kd = .slice e es) (hx:kev K xo=some (ovlz z id l)):zM C K H lo nid (.call ⟨.builtin .len,#[xo],#[t]⟩)=some ⟨.i (l.length:Nat),[],[]⟩:=by
  cases z with
  | false=>exact lenO hT hk hx
  | true=>cases l with
    | nil=>simp [zM,Zd,kevs,hx,Z0,zAC,hT,hk,lenS,ovlz,V.nil]
    | cons=>exact lenO hT hk hx
theorem indexO {α:Type} {f:α→V} {l:List α} {a:α} {t id:Nat} {xo io:Operand} {T:TI} {e es:Nat} {m:Int} {ik:IntKind} (hm:ix l m=some a) (hT:C.ty t=some T) (hk:T.kd = .slice e es) (hx:kev K xo=some (.osl id 0 l.length)) (hi:kev K io=some (.lit (.int ik m))) (hH:hget H id = .rows es (l.map f)):zM C K H lo nid (.indexAddr t xo io)=some ⟨.ptr id m.toNat 0,[],[id]⟩:=by
  obtain ⟨h0,h1,h2⟩:=zBn hm
  simp [zM,jV,hT,hx,hi,zBW,hk,h0,h1,hH]
theorem zLq {α:Type} {l:List α} {m:Int} {a:α} (hm:ix l m=some a):l≠[]:=by
  obtain ⟨h0,h1,h2⟩:=zBn hm
  rintro rfl
  simp at h2
theorem zK8 {α:Type} {z:Bool} {f:α→V} {l:List α} {a:α} {t id:Nat} {xo io:Operand} {T:TI} {e es:Nat} {m:Int} {ik:IntKind} (hm:ix l m=some a) (hT:C.ty t=some T) (hk:T.kd = .slice e es) (hx:kev K xo=some (ovlz z id l)) (hi:kev K io=some (.lit (.int ik m))) (hH:hget H id=oblz z es f l):zM C K H lo nid (.indexAddr t xo io)=some ⟨.ptr id m.toNat 0,[],[id]⟩:=by
  rw [zAg (zLq hm)] at hx
  rw [Yi (zLq hm)] at hH
  exact indexO hm hT hk hx hi hH
theorem loadO {α:Type} {f:α→V} {l:List α} {a:α} {t id:Nat} {xo:Operand} {T:TI} {m:Int} {off es:Nat} (hm:ix l m=some a) (hT:C.ty t=some T) (hx:kev K xo=some (.ptr id m.toNat off)) (hH:hget H id = .rows es (l.map f)) (hp:Jd T off (f a).cells=some v):zM C K H lo nid (.load t xo)=some ⟨v,[],[id]⟩:=by
  obtain ⟨h0,h1,h2⟩:=zBn hm
  have hg:Am.get (l.map f) m.toNat=some (f a):=by rw [zP,List.getElem?_map,h2]; rfl
  simp only [zM,QH,hT,hx,zAO,hH,hg,hp,Option.map_some]
theorem zJk {α:Type} {z:Bool} {f:α→V} {l:List α} {a:α} {t id:Nat} {xo:Operand} {T:TI} {m:Int} {off es:Nat} (hm:ix l m=some a) (hT:C.ty t=some T) (hx:kev K xo=some (.ptr id m.toNat off)) (hH:hget H id=oblz z es f l) (hp:Jd T off (f a).cells=some v):zM C K H lo nid (.load t xo)=some ⟨v,[],[id]⟩:=by
  rw [Yi (zLq hm)] at hH
  exact loadO hm hT hx hH hp
theorem zBw {α:Type}:∀ (r c:List α) (off:Nat),off+r.length≤c.length→setAt c off r=some (c.take off++r++c.drop (off+r.length))
  | [],c,off,h=>by simp [setAt]
  | v :: r,c,off,h=>by
    have hlt:off<c.length:=by simp only [List.length_cons] at h; omega
    simp only [setAt,zP,List.getElem?_eq_getElem hlt,Zy]
    rw [zBw r (c.set off v) (off+1) (by simp only [List.length_set,List.length_cons] at h ⊢; omega)]
    congr 1
    rw [List.take_set,List.drop_set_of_lt (by omega)]
    have e:(c.take (off+1)).set off v=c.take off++[v]:=by
      rw [List.take_add_one,List.getElem?_eq_getElem hlt,Option.toList_some,List.set_append_right _ _ (by rw [List.length_take]; omega)]
      simp [Nat.min_eq_left (Nat.le_of_lt hlt)]
    rw [e,List.length_cons,show off+1+r.length=off+(r.length+1) by omega]
    simp
theorem storeO {α:Type} {f:α→V} {l:List α} {a b:α} {t id:Nat} {xo yo:Operand} {T:TI} {m:Int} {off es:Nat} (hm:ix l m=some a) (hT:C.ty t=some T) (hx:kev K xo=some (.ptr id m.toNat off)) (hy:kev K yo=some v) (hlo:Nat.ble lo id=true) (hs:Jr T v=true) (hH:hget H id = .rows es (l.map f)) (hp:zDT (f a) off v.cells=some (f b)):zM C K H lo nid (.store t xo yo)=some ⟨jA,[(id,.rows es ((Mx.put l m b).map f))],[id]⟩:=by
  obtain ⟨h0,h1,h2⟩:=zBn hm
  have hg:Am.get (l.map f) m.toNat=some (f a):=by rw [zP,List.getElem?_map,h2]; rfl
  have hlo' : ¬ id<lo:=by have:=Nat.le_of_ble_eq_true hlo; omega
  simp only [zM,QG,hT,hx,hy,zBv,hlo',if_false,hs,if_true,hH,hg,hp,Option.map_some]
  rw [Zy,Mx.put,List.map_set]
theorem zE3 {α:Type} {z:Bool} {f:α→V} {l:List α} {a b:α} {t id:Nat} {xo yo:Operand} {T:TI} {m:Int} {off es:Nat} (hm:ix l m=some a) (hT:C.ty t=some T) (hx:kev K xo=some (.ptr id m.toNat off)) (hy:kev K yo=some v) (hlo:Nat.ble lo id=true) (hs:Jr T v=true) (hH:hget H id=oblz z es f l) (hp:zDT (f a) off v.cells=some (f b)):zM C K H lo nid (.store t xo yo)=some ⟨jA,[(id,oblz z es f (Mx.put l m b))],[id]⟩:=by
  rw [Yi (zLq hm)] at hH
  rw [Yi (put_ne hm)]
  exact storeO hm hT hx hy hlo hs hH hp
end
end X
end Go.Am
namespace Go.Am
open Go Go.Wk Go.RowKit Go.Mx
section
variable {H:List Blk} {lo:Nat}
theorem rv_eq {N:Nat} {keep:List (Option Nat)} {v v1 v2:V} (e:v1=v2) (h:Rv N keep v v2):Rv N keep v v1:=e▸h
theorem zNX {α:Type} {z:Bool} {N:Nat} {keep:List (Option Nat)} {l:List α} {i j:Nat} (hne:l≠[]) (h:rx N keep i=some j):Rv N keep (ovlz z i l) (.osl j 0 l.length):=⟨1,by rw [zAg hne]; simp [rn,h]⟩
def FR (H:List Blk) (lo:Nat) (v v':V):Prop := ∃ n,frz H lo n v=some v'
inductive FRL (H:List Blk) (lo:Nat):List V→List V→Prop where
  | nil:FRL H lo [] []
  | cons {v v1:V} {l l1:List V}:FR H lo v v1→FRL H lo l l1→FRL H lo (v :: l) (v1 :: l1)
theorem zJi {α β:Type} {f g:α→Option β} (h:∀ x y,f x=some y→g x=some y):∀ (l:List α) (r:List β),mapO f l=some r→mapO g l=some r
  | [],r,e=>e
  | x :: l,r,e=>by
    simp only [mapO] at e ⊢
    cases hx:f x with
    | none=>rw [hx] at e; cases e
    | some y =>
      cases hr:mapO f l with
      | none=>rw [hx,hr] at e; cases e
      | some s=>rw [hx,hr] at e; rw [h x y hx,zJi h l s hr]; exact e
theorem zGs : ∀ (n:Nat) (v v1:V),frz H lo n v=some v1→frz H lo (n+1) v=some v1
  | 0,v,v1,h=>by cases h
  | n+1,v,v1,h=>by
    have ih:=zJi (fun v v1 h=>zGs n v v1 h)
    unfold frz at h ⊢
    split at h
    · exact h
    · exact h
    · rw [Option.map_eq_some_iff] at h ⊢; obtain ⟨l1,h1,h2⟩:=h; exact ⟨l1,ih _ _ h1,h2⟩
    · rw [Option.map_eq_some_iff] at h ⊢; obtain ⟨l1,h1,h2⟩:=h; exact ⟨l1,ih _ _ h1,h2⟩
    · rw [Option.map_eq_some_iff] at h ⊢; obtain ⟨l1,h1,h2⟩:=h; exact ⟨l1,ih _ _ h1,h2⟩
    · split at h
      · cases h
      · rename_i hc
        (try simp only [hc,if_false])
        split at h
        · rename_i hb
          (try simp only [hb])
          rw [Option.map_eq_some_iff] at h ⊢; obtain ⟨l1,h1,h2⟩:=h; exact ⟨l1,ih _ _ h1,h2⟩
        · cases h
    · split at h
      · cases h
      · rename_i hc
        (try simp only [hc,if_false])
        split at h
        · rename_i hb
          (try simp only [hb])
          split at h
          · rename_i ht
            (try simp only [ht])
            rw [Option.map_eq_some_iff] at h ⊢; obtain ⟨l1,h1,h2⟩:=h; exact ⟨l1,ih _ _ h1,h2⟩
          · cases h
        · cases h
    · split at h
      · cases h
      · rename_i hc
        (try simp only [hc,if_false])
        split at h
        · rename_i hb
          (try simp only [hb])
          split at h
          · rename_i q1 q2
            rw [ih _ _ q1,ih _ _ q2]; exact h
          · cases h
        · cases h
    · cases h
    · exact h
    · exact h
theorem frz_le {n m:Nat} {v v1:V} (hnm:n≤m) (h:frz H lo n v=some v1):frz H lo m v=some v1:=by
  induction hnm with
  | refl=>exact h
  | step _ ih=>exact zGs _ _ _ ih
theorem FRL.mapO {l l1:List V} (h:FRL H lo l l1):∃ n,∀ m,n≤m→Am.mapO (frz H lo m) l=some l1:=by
  induction h with
  | nil=>exact ⟨0,fun _ _=>rfl⟩
  | cons h1 _ ih =>
    obtain ⟨a,ha⟩:=h1
    obtain ⟨b,hb⟩:=ih
    exact ⟨max a b,fun m hm=>by simp [Am.mapO,frz_le (show a≤m by omega) ha,hb m (by omega)]⟩
theorem FR.agg {l l1:List V} (h:FRL H lo l l1):FR H lo (.agg l) (.agg l1):=by obtain ⟨n,h⟩:=h.mapO; exact ⟨n+1,by simp [frz,h n (Nat.le_refl _)]⟩
theorem FR.tup {l l1:List V} (h:FRL H lo l l1):FR H lo (.tup l) (.tup l1):=by obtain ⟨n,h⟩:=h.mapO; exact ⟨n+1,by simp [frz,h n (Nat.le_refl _)]⟩
theorem FR.fn {f:Nat} {l l1:List V} (h:FRL H lo l l1):FR H lo (.fn f l) (.fn f l1):=by obtain ⟨n,h⟩:=h.mapO; exact ⟨n+1,by simp [frz,h n (Nat.le_refl _)]⟩
theorem FR.ptr {id off es:Nat} {v v1:V} (hl:Nat.ble lo id=true) (hH:hget H id = .rows es [v]) (h:FR H lo v v1):FR H lo (.ptr id 0 off) (.fptr [v1] 0 off):=by
  obtain ⟨n,h⟩:=h
  have : ¬ id<lo:=by have:=Nat.le_of_ble_eq_true hl; omega
  exact ⟨n+1,by simp [frz,this,hH,Am.mapO,h]⟩
theorem zKd {α:Type} (l:List α):JI l 0 l.length=some l:=by
  have:=zCj l l.length 0 (by omega)
  simpa using this
theorem FR.osl {α:Type} {f:α→V} {l:List α} {id es:Nat} (n:Nat) (hl:Nat.ble lo id=true) (hH:hget H id = .rows es (l.map f)) (hf:∀ x,frz H lo n (f x)=some (f x)):FR H lo (.osl id 0 l.length) (.sl (l.map f)):=by
  have h1 : ¬ id<lo:=by have:=Nat.le_of_ble_eq_true hl; omega
  have h2:JI (l.map f) 0 l.length=some (l.map f):=by simpa using zKd (l.map f)
  exact ⟨n+1,by simp [frz,h1,hH,h2,JV hf]⟩
theorem FR.ovl {α:Type} {z:Bool} {f:α→V} {l:List α} {id es:Nat} (n:Nat) (hl:Nat.ble lo id=true) (hH:hget H id=oblz z es f l) (hf:∀ x,frz H lo n (f x)=some (f x)):FR H lo (ovlz z id l) (.sl (l.map f)):=by
  cases z with
  | false=>exact FR.osl n hl hH hf
  | true=>cases l with
    | nil=>exact ⟨1,rfl⟩
    | cons x r=>exact FR.osl n hl hH hf
theorem FR.eq {v v2 v':V} (e:v=v2) (h:FR H lo v2 v'):FR H lo v v':=e▸h
theorem FR.arg {v v':V} (h:FR H 0 v v'):zDp H true v v':=by obtain ⟨n,h⟩:=h; exact .frz h
section
variable {N:Nat} {keep:List (Option Nat)} {H1:List Blk} {i j es:Nat} {r:List Blk}
theorem QZ {v v1:V} (hj:rx N keep i=some j) (h1:hget H1 j = .rows es [v1]) (hv:Rv N keep v v1) (h:GB N keep H1 (i+1) r):GB N keep H1 i (.rows es [v] :: r):=zEU hj h1 (by intro h; cases h) (fun _=>rnB_one hv) h
theorem gb9 {v v1:V} (hj:rx N keep i=some j) (h1:hget H1 j = .rows es [v1]) (hv:rn N keep 9 v=some v1) (h:GB N keep H1 (i+1) r):GB N keep H1 i (.rows es [v] :: r):=QZ hj h1 ⟨9,hv⟩ h
theorem zF1 {α:Type} {f:α→V} {l:List α} (n:Nat) (hj:rx N keep i=some j) (h1:hget H1 j = .rows es (l.map f)) (hf:∀ x,rn N keep n (f x)=some (f x)) (h:GB N keep H1 (i+1) r):GB N keep H1 i (.rows es (l.map f) :: r):=zEU hj h1 (by intro h; cases h) (fun _=>zIS n hf) h
theorem yD {α:Type} {z:Bool} {f:α→V} {l:List α} (n:Nat) (hj:rx N keep i=some j) (h1:hget H1 j=oblz z es f l) (hf:∀ x,rn N keep n (f x)=some (f x)) (h:GB N keep H1 (i+1) r):GB N keep H1 i (oblz z es f l :: r):=zEU hj h1 zNy (fun _=>zLZ n hf) h
theorem gb_obl' {α:Type} {z:Bool} {f:α→V} {l:List α} (n:Nat) (hne:l≠[]) (hj:rx N keep i=some j) (h1:hget H1 j = .rows es (l.map f)) (hf:∀ x,rn N keep n (f x)=some (f x)) (h:GB N keep H1 (i+1) r):GB N keep H1 i (oblz z es f l :: r):=yD n hj (h1.trans (Yi hne).symm) hf h
end
theorem zFY {α:Type} {l xs r:List α} {a:α} (h:app l (a :: xs)=some r):r≠[]:=by
  obtain ⟨_,rfl⟩:=yS h
  simp
end
namespace X
section
variable {C:Cfg} {N:Nat} {all os:List Oper} {o:Oper} {k:List It} {K K':List (Nat×V)} {H H':List Blk} {lo n nid:Nat} {rnd:Option Nat} {Q:Ex→St→Prop} {dst:Option Nat} {d:Nat} {p:Op} {ty:TypeId} {pos:String} {after:Array Edge} {e:Eff} {v:V} {x y:Bool} {g:Option (Nat×Bool)} {wr:List (Nat×Blk)} {rd:List Nat}
theorem zFC {α:Type} {f:α→V} {T:TI} (h:∀ a,Jr T (f a)=true) (l:List α):zEF T (l.map f)=true:=by
  cases l with
  | nil=>rfl
  | cons=>exact h _
theorem appO {α:Type} {f:α→V} {l xs r:List α} {t e es id:Nat} {T Te:TI} {xo yo:Operand} {yv:V} (hm:app l xs=some r) (hs:∀ a,Jr Te (f a)=true) (hT:C.ty t=some T) (hk:T.kd = .slice e es) (hTe:C.ty e=some Te) (hes:Te.size=es) (hby:Nat.ble Te.bytes 4096=true) (hx:kev K xo=some (.osl id 0 l.length)) (hH:hget H id = .rows es (l.map f)) (hlo:Nat.ble lo id=true) (hy:kev K yo=some yv) (hr:rowsOf H yv=some (xs.map f,rd)) :
    zM C K H lo nid (.call ⟨.builtin .append,#[xo,yo],#[t,t]⟩)=some ⟨.osl nid 0 r.length,[(id,.dead),(nid,.rows es (r.map f))],nid :: id :: rd⟩:=by
  obtain ⟨h1,rfl⟩:=yS hm
  subst hes
  have hlo' : ¬ id<lo:=by have:=Nat.le_of_ble_eq_true hlo; omega
  have hby':Te.bytes≤4096:=Nat.le_of_ble_eq_true hby
  have ht:Nat.beq t t=true:=Nat.beq_refl t
  have he:Nat.beq Te.size Te.size=true:=Nat.beq_refl _
  simp only [zM,Zd,kevs,hx,hy,Z0,Yb,ht,cond_true,Z5,hT,hk,hTe,yt,hr,zFC hs,hlo',if_false,hH,he,zAD,List.length_map,Nat.zero_add,if_true,Q8]
  rw [if_pos ⟨h1,hby'⟩]
  simp
theorem zO1 {α:Type} {f:α→V} {a:α} {xs r:List α} {t e es:Nat} {T Te:TI} {xo yo:Operand} {yv:V} (hm:app [] (a :: xs)=some r) (hs:∀ a,Jr Te (f a)=true) (hT:C.ty t=some T) (hk:T.kd = .slice e es) (hTe:C.ty e=some Te) (hes:Te.size=es) (hby:Nat.ble Te.bytes 4096=true) (hx:kev K xo=some .nil) (hy:kev K yo=some yv) (hr:rowsOf H yv=some ((a :: xs).map f,rd)) :
    zM C K H lo nid (.call ⟨.builtin .append,#[xo,yo],#[t,t]⟩)=some ⟨.osl nid 0 r.length,[(nid,.rows es (r.map f))],nid :: rd⟩:=by
  obtain ⟨h1,rfl⟩:=yS hm
  subst hes
  have hby':Te.bytes≤4096:=Nat.le_of_ble_eq_true hby
  have ht:Nat.beq t t=true:=Nat.beq_refl t
  have h2:xs.length+1≤4294967296:=by simpa using h1
  have hn:=zFC hs (a :: xs)
  simp only [zM,Zd,kevs,hx,hy,Z0,Yb,ht,cond_true,Z5,hT,hk,hTe,yt,hr,hn,V.nil]
  simp only [List.map_cons,List.length_cons,List.length_map,Q8]
  rw [if_pos ⟨h2,hby'⟩]
  simp
theorem qL {H:List Blk} {id:Nat} {B:Blk} (h:hget H id=B) (hid:Nat.blt id H.length=true):hput H id B=H:=by
  have hid':id<H.length:=by simpa [Nat.blt_eq] using hid
  have:get H id=some B:=by
    unfold hget at h
    rw [zP,List.getElem?_eq_getElem hid'] at h ⊢
    simp only at h
    rw [h]
  refine list_ext' fun i=>?_
  rw [zh H id i B (Nat.le_of_lt hid')]
  by_cases hi:id=i
  · subst hi; rw [if_pos rfl,this]
  · rw [if_neg hi]
theorem appN {α:Type} {z:Bool} {f:α→V} {l:List α} {a:α} {xs r:List α} {t e es id:Nat} {T Te:TI} {xo yo:Operand} {yv:V} (hm:app l (a :: xs)=some r) (hs:∀ a,Jr Te (f a)=true) (hw:wants all K g=some true) (hT:C.ty t=some T) (hk:T.kd = .slice e es) (hTe:C.ty e=some Te) (hes:Te.size=es) (hby:Nat.ble Te.bytes 4096=true) (hx:kev K xo=some (ovlz z id l)) (hH:hget H id=oblz z es f l) (hid:Nat.blt id H.length=true) (hlo:Nat.ble lo id=true) (hy:kev K yo=some yv) (hr:rowsOf H yv=some ((a :: xs).map f,rd)) (hd:Nat.blt d n=true) (hH':puts H [(id,.dead),(H.length,.rows es (r.map f))]=H')
    (h:GS C N (.ops all os :: k) ⟨(d,.osl H.length 0 r.length) :: K,H',lo,rnd,n⟩ Q):GS C N (.ops all (⟨some d,.call ⟨.builtin .append,#[xo,yo],#[t,t]⟩,ty,pos,after,g⟩ :: os) :: k) ⟨K,H,lo,rnd,n⟩ Q:=by
  cases z with
  | false=>exact opW hw (appO hm hs hT hk hTe hes hby hx hH hlo hy hr) hH' hd h
  | true =>
  cases l with
  | nil =>
    refine opW hw (zO1 hm hs hT hk hTe hes hby hx hy hr) ?_ hd h
    rw [← hH']
    simp only [puts]
    rw [show hput H id Blk.dead=H from qL hH hid]
  | cons b r' => exact opW hw (appO hm hs hT hk hTe hes hby hx hH hlo hy hr) hH' hd h
theorem q (h1:(wants all K g,zM C K H lo H.length p,Nat.blt d n)=(some true,some ⟨v,[],rd⟩,true)) (h:GS C N (.ops all os :: k) ⟨(d,v) :: K,H,lo,rnd,n⟩ Q):GS C N (.ops all (⟨some d,p,ty,pos,after,g⟩ :: os) :: k) ⟨K,H,lo,rnd,n⟩ Q:=by
  simp only [Prod.mk.injEq] at h1
  exact opR h1.1 h1.2.1 h1.2.2 h
theorem sq {s:St} {id:Nat} {l:List Oper} {y:Code} (h:GS C N (.ops l l :: .code y :: k) s Q):GS C N (.code (.seq (.region id l.toArray false) y) :: k) s Q:=.seq (.region h)
theorem nq {s:St} {id:Nat} {l:List Oper} {y:Code} (h:GS C N (.ops l l :: .code y :: k) s Q):GS C N (.ops all [] :: .code (.seq (.region id l.toArray false) y) :: k) s Q:=.za (.seq (.region h))
theorem mid {it:It} (K':List (Nat×V)) (h:GS C N k ⟨K',H,lo,rnd,n⟩ Q→GS C N (it :: k) ⟨K,H,lo,rnd,n⟩ Q) (hr:GS C N k ⟨K',H,lo,rnd,n⟩ Q):GS C N (it :: k) ⟨K,H,lo,rnd,n⟩ Q:=h hr
theorem bb : (∀ b,(true&&b)=b)∧(∀ b,(false&&b)=false)∧(∀ b,(b&&true)=b)∧(∀ b,(b&&false)=false)∧(∀ b,(true||b)=true)∧(∀ b,(false||b)=b)∧(∀ b,(b||true)=true)∧(∀ b,(b||false)=b)∧(!true)=false∧(!false)=true∧(∀ a b:V,(bif true then a else b)=a)∧∀ a b:V,(bif false then a else b)=b:=by refine ⟨by decide,by decide,by decide,by decide,by decide,by decide,by decide,by decide,rfl,rfl,fun _ _=>rfl,fun _ _=>rfl⟩
theorem sub_eq {K':List (Nat×V)} {t:Nat} {v0 v:V} (h:kget K t=some v0) (e:v0=v) (h2:W.Sub K' K):W.Sub ((t,v) :: K') K:=W.zJE (h.trans (congrArg some e)) h2
theorem eqlE {t t2:Nat} {xs ys:List V} {b:Bool} {xo yo:Operand} (he:eqA C.ty t (.agg xs) (.agg ys)=some b) (hx:kev K xo=some (.agg xs)) (hy:kev K yo=some (.agg ys)):zM C K H lo nid (.binOp .eql t xo yo t2)=some ⟨.b b,[],[]⟩:=by
  simp [zM,YF,hx,hy,binA,he,Jc]
theorem neqE {t t2:Nat} {xs ys:List V} {b:Bool} {xo yo:Operand} (he:eqA C.ty t (.agg xs) (.agg ys)=some b) (hx:kev K xo=some (.agg xs)) (hy:kev K yo=some (.agg ys)):zM C K H lo nid (.binOp .neq t xo yo t2)=some ⟨.b (!b),[],[]⟩:=by
  simp [zM,YF,hx,hy,binA,he,Jc]
theorem eqn' {f:Nat→V→V→Option Bool} {part:Nat→Nat→List V→Option V} {xs ys:List V}:YR f part xs ys []=some true:=rfl
theorem eqp {f:Nat→V→V→Option Bool} {part:Nat→Nat→List V→Option V} {xs ys:List V} {p:Fld} {ps:List Fld} {u v:V} {b c:Bool} (hx:part p.ty p.off xs=some u) (hy:part p.ty p.off ys=some v) (hf:f p.ty u v=some b) (h:YR f part xs ys ps=some c):YR f part xs ys (p :: ps)=some (b&&c):=by
  simp only [YR,hx,hy,hf]
  cases b
  · simp
  · simpa using h
theorem eqs {ty:Nat→Option TI} {d t:Nat} {T:TI} {xs ys:List V} {ps:List Fld} {b:Bool} (hT:ty t=some T) (hk:T.kd = .struct ps) (h:YR (eqT ty d) (fun t off cs=>match ty t with | some T=>Jd T off cs | none=>none) xs ys ps=some b):eqT ty (d+1) t (.agg xs) (.agg ys)=some b:=by
  simp only [eqT,hT,hk]
  exact h
theorem eqa {ty:Nat→Option TI} {t:Nat} {T:TI} {xs ys:List V} {ps:List Fld} {b:Bool} (hT:ty t=some T) (hk:T.kd = .struct ps) (h:YR (eqT ty 5) (fun t off cs=>match ty t with | some T=>Jd T off cs | none=>none) xs ys ps=some b):eqA ty t (.agg xs) (.agg ys)=some b:=by
  simp only [eqA,hT,hk]
  exact eqs hT hk h
theorem nt (hx:x=false):(!x)=true:=by rw [hx]; rfl
theorem ovl_put {α:Type} {z:Bool} {id:Nat} {l:List α} {i:Int} {a:α}:ovlz z id l=ovlz z id (Mx.put l i a):=by
  unfold Mx.put
  cases z with
  | false=>simp [ovlz]
  | true=>cases l with
    | nil=>rfl
    | cons b r=>cases i.toNat <;> simp [ovlz]
def DW (C:Cfg) (N:Nat) (k:List It) (Q:Ex→St→Prop) (all os:List Oper) (i nid:Nat) (s:St) (log:List (Nat×List Nat×List Nat)):Prop :=
  ∃ es sn,DRun C all os i nid s log es sn∧(∀ e d,(e,some d)∈es→GS C d.H.length [.code d.c] (St.call d.fn d.args d.H d.H.length) (fun x s1 => ∃ v,finA C d.fn x s1=some v∧Q5 s1 v e.v))∧GS C N k sn Q
variable {i:Nat} {s:St} {log:List (Nat×List Nat×List Nat)}
theorem draw {id:Nat} {l:List Oper} (hreg:zAI l=true) (h:DW C N k Q l l 0 s.H.length { s with H:=s.H++zl (YV l) } []):GS C N (.code (.region id l.toArray true) :: k) s Q:=by
  obtain ⟨es,sn,h1,h2,h3⟩:=h
  exact GS.draw es (by simpa using hreg) (by simpa using h1) (fun i e d hd=>h2 e d (List.mem_of_getElem? hd)) h3
theorem dnil (h:GS C N k s Q):DW C N k Q all [] i nid s log:=⟨[],s,.nil,fun e d hp=>(by cases hp),h⟩
theorem dstep {d:Eff} (hs:yM C all o nid s d none) (hl:yA all i (rdOf o nid d) (Za d.wr) log=true) (h:DW C N k Q all os (i+1) (bif allocs o.op then nid+1 else nid) (s.eff o.dst d) ((i,rdOf o nid d,Za d.wr) :: log)):DW C N k Q all (o :: os) i nid s log:=by
  obtain ⟨es,sn,h1,h2,h3⟩:=h
  refine ⟨_,sn,.cons hs hl h1,fun e d hp=>?_,h3⟩
  rcases List.mem_cons.1 hp with q | hp
  · cases q
  · exact h2 e d hp
theorem dstepC {e:Eff} {d:Yv} (hs:yM C all o nid s e (some d)) (hcd:GS C d.H.length [.code d.c] (St.call d.fn d.args d.H d.H.length) (fun x s1 => ∃ v,finA C d.fn x s1=some v∧Q5 s1 v e.v)) (hl:yA all i (rdOf o nid e) (Za e.wr) log=true) (h:DW C N k Q all os (i+1) (bif allocs o.op then nid+1 else nid) (s.eff o.dst e) ((i,rdOf o nid e,Za e.wr) :: log)):DW C N k Q all (o :: os) i nid s log:=by
  obtain ⟨es,sn,h1,h2,h3⟩:=h
  refine ⟨_,sn,.cons hs hl h1,fun e' d' hp=>?_,h3⟩
  rcases List.mem_cons.1 hp with q | hp
  · cases q
    exact hcd
  · exact h2 e' d' hp
theorem wrIn_spec' {m:Nat}:∀ {l:List (Nat×Blk)},wrIn m l=true→∀ id,id∈Za l→id<m
  | [],_,id,h=>by cases h
  | (j,B) :: r,h,id,hm=>by
    simp only [wrIn,Bool.and_eq_true] at h
    simp only [Za,List.mem_cons] at hm
    rcases hm with rfl | hm
    · simpa [Nat.blt_eq] using h.1
    · exact wrIn_spec' h.2 id hm
theorem eqv_eff {s t:St} (h:Eqv s t) (d:Option Nat) (e:Eff):Eqv (s.eff d e) (t.eff d e):=by
  refine ⟨?_,?_,?_,?_,fun u=>?_⟩
  · rw [zA9,zA9,h.H]
  · rw [qy,qy,h.lo]
  · rw [zBZ,zBZ,h.rnd]
  · rw [zEa,zEa,h.n]
  · rw [zBo,zBo,h.n,h.K]
theorem zOl {es:List (Eff×Option Yv)} {s sn:St} {log:List (Nat×List Nat×List Nat)} (h:DRun C all os i nid s log es sn):∀ {t:St},Eqv s t→∃ tn,DRun C all os i nid t log es tn∧Eqv sn tn:=by
  induction h with
  | nil=>exact fun he=>⟨_,.nil,he⟩
  | cons h1 h2 _ ih =>
    intro t he
    obtain ⟨tn,q1,q2⟩:=ih (eqv_eff he _ _)
    exact ⟨tn,.cons (h1.loc (fun u _=>he.K u) (fun id _=>by rw [he.H]) (by rw [he.H]) he.lo) h2 q1,q2⟩
theorem gs_eqv {s t:St} (h:Eqv s t) (hs:GS C N k s Q):GS C N k t Q:=by
  obtain ⟨K,H,lo,rnd,n⟩:=s
  obtain ⟨K',H',lo',rnd',n'⟩:=t
  obtain ⟨h1,h2,h3,h4,h5⟩:=h
  simp only at h1 h2 h3 h4 h5
  subst h1 h2 h3 h4
  exact GS.drop K (fun t v hv=>by rw [← hv]; exact h5 t) hs
theorem DW.eqv {s t:St} (h:Eqv s t) (hd:DW C N k Q all os i nid s log):DW C N k Q all os i nid t log:=by
  obtain ⟨es,sn,h1,h2,h3⟩:=hd
  obtain ⟨tn,q1,q2⟩:=zOl h1 h
  exact ⟨es,tn,q1,h2,gs_eqv q2 h3⟩
theorem JA (hd:Nat.blt d n=true) (hH:puts H wr=H'):Eqv ⟨(d,v) :: K,H',lo,rnd,n⟩ (St.eff ⟨K,H,lo,rnd,n⟩ (some d) ⟨v,wr,rd⟩):=by
  subst hH
  have hd':d<n:=by simpa [Nat.blt_eq] using hd
  refine ⟨by rw [zA9],by rw [qy],by rw [zBZ],by rw [zEa],fun u=>?_⟩
  rw [zBo]
  show _=kget ((d,v) :: K) u
  simp only [kget]
  by_cases e:d=u
  · subst e
    rw [if_pos ⟨rfl,hd'⟩,Nat.beq_refl]
    rfl
  · rw [if_neg (fun h => e (Option.some.inj h.1)), zAk e]
    rfl
theorem zLG (hH:puts H wr=H'):Eqv ⟨K,H',lo,rnd,n⟩ (St.eff ⟨K,H,lo,rnd,n⟩ none ⟨v,wr,rd⟩):=by
  subst hH
  exact ⟨by rw [zA9],by rw [qy],by rw [zBZ],by rw [zEa],fun u=>by rw [zBo,if_neg (fun h=>by cases h.1)]⟩
theorem zL1 (ha:(!allocs p||zFJ (get H nid))=true) (hal:allocs p=true):get H nid=some .free:=by
  rw [hal] at ha
  simp only [Bool.not_true,Bool.false_or] at ha
  unfold zFJ at ha
  split at ha
  · assumption
  · cases ha
theorem dop (hw:wants all K g=some true) (he:zM C K H lo nid p=some ⟨v,wr,rd⟩) (ha:(!allocs p||zFJ (get H nid))=true) (hwr:wrIn H.length wr=true) (hl:yA all i (bif allocs p then nid :: rd else rd) (Za wr) log=true) (hH:puts H wr=H') (hd:Nat.blt d n=true)
    (h:DW C N k Q all os (i+1) (bif allocs p then nid+1 else nid) ⟨(d,v) :: K,H',lo,rnd,n⟩ ((i,bif allocs p then nid :: rd else rd,Za wr) :: log)):DW C N k Q all (⟨some d,p,ty,pos,after,g⟩ :: os) i nid ⟨K,H,lo,rnd,n⟩ log :=
  dstep (d:=⟨v,wr,rd⟩) (.op hw he (zL1 ha) (wrIn_spec' hwr)) hl (DW.eqv (JA hd hH) h)
theorem dcall {f:Nat} {args args':List V} (hX:C.X f args' v) (hw:wants all K g=some true) (hc:callee K p=some (.fn f args)) (ha:allocs p=false) (hl:yA all i [] [] log=true) (hd:Nat.blt d n=true) (hca:ZB [] false args args')
    (h:DW C N k Q all os (i+1) nid ⟨(d,v) :: K,H,lo,rnd,n⟩ ((i,[],[]) :: log)):DW C N k Q all (⟨some d,p,ty,pos,after,g⟩ :: os) i nid ⟨K,H,lo,rnd,n⟩ log:=by
  refine dstep (d:=⟨v,[],[]⟩) (.ext hw hc hca hX) ?_ ?_
  · simp only [rdOf,ha,cond_false]; exact hl
  · simp only [rdOf,ha,cond_false]; exact DW.eqv (JA hd rfl) h
def DC (C:Cfg) (N:Nat) (k:List It) (Q:Ex→St→Prop) (all os:List Oper) (i nid:Nat) (s:St):Prop :=
  ∀ log:List (Nat×List Nat×List Nat),(∀ p,p∈log→p.2.2=[])→DW C N k Q all os i nid s log
theorem zCJ : ∀ l:List Nat,meet l []=false
  | []=>rfl
  | x :: r=>by simp [meet,memN,zCJ r]
theorem Qo {j:Nat} {rd:List Nat}:∀ {log:List (Nat×List Nat×List Nat)},(∀ p,p∈log→p.2.2=[])→yA all j rd [] log=true
  | [],_=>rfl
  | (i,rd',wr') :: r,h=>by
    have h1:wr'=[]:=h _ List.mem_cons_self
    subst h1
    simp [yA,meet,Qo (fun p hp=>h p (List.mem_cons_of_mem _ hp))]
theorem drawc {id:Nat} {l:List Oper} (hreg:zAI l=true) (h0:YV l=0) (h:DC C N k Q l l 0 s.H.length s):GS C N (.code (.region id l.toArray true) :: k) s Q:=by
  refine draw hreg ?_
  rw [h0]
  have e:({ s with H:=s.H++zl 0 }:St)=s:=by simp [zl]
  rw [e]
  exact h [] (fun p hp=>by cases hp)
theorem cnil (h:GS C N k s Q):DC C N k Q all [] i nid s:=fun log _=>dnil h
theorem cstep {d:Eff} (hs:yM C all o nid s d none) (ha:allocs o.op=false) (hwr:d.wr=[]) (h:DC C N k Q all os (i+1) nid (s.eff o.dst d)):DC C N k Q all (o :: os) i nid s:=by
  intro log hl
  refine dstep hs (by rw [hwr]; exact Qo hl) ?_
  rw [ha]
  refine h _ fun p hp=>?_
  rcases List.mem_cons.1 hp with rfl | hp
  · rw [hwr]; rfl
  · exact hl p hp
theorem DC.eqv {s t:St} (h:Eqv s t) (hd:DC C N k Q all os i nid s):DC C N k Q all os i nid t:=fun log hl=>DW.eqv h (hd log hl)
theorem cop (hw:wants all K g=some true) (he:zM C K H lo nid p=some ⟨v,[],rd⟩) (ha:allocs p=false) (hd:Nat.blt d n=true) (h:DC C N k Q all os (i+1) nid ⟨(d,v) :: K,H,lo,rnd,n⟩):DC C N k Q all (⟨some d,p,ty,pos,after,g⟩ :: os) i nid ⟨K,H,lo,rnd,n⟩ :=
  cstep (d:=⟨v,[],rd⟩) (.op hw he (fun hal=>by rw [ha] at hal; cases hal) (fun id hid=>by cases hid)) ha rfl (DC.eqv (JA hd rfl) h)
theorem coff (hw:wants all K g=some false) (ha:allocs p=false) (hd:Nat.blt d n=true) (h:DC C N k Q all os (i+1) nid ⟨(d,jA) :: K,H,lo,rnd,n⟩):DC C N k Q all (⟨some d,p,ty,pos,after,g⟩ :: os) i nid ⟨K,H,lo,rnd,n⟩ :=
  cstep (d:=⟨jA,[],[]⟩) (.skip hw) ha rfl (DC.eqv (JA hd rfl) h)
theorem ccall {f:Nat} {args args':List V} (hX:C.X f args' v) (hw:wants all K g=some true) (hc:callee K p=some (.fn f args)) (ha:allocs p=false) (hd:Nat.blt d n=true) (hca:ZB [] false args args') (h:DC C N k Q all os (i+1) nid ⟨(d,v) :: K,H,lo,rnd,n⟩):DC C N k Q all (⟨some d,p,ty,pos,after,g⟩ :: os) i nid ⟨K,H,lo,rnd,n⟩ :=
  cstep (d:=⟨v,[],[]⟩) (.ext hw hc hca hX) ha rfl (DC.eqv (JA hd rfl) h)
theorem ccallF {f m:Nat} {args args':List V} (hX:C.X f args' v) (hw:wants all K g=some true) (hc:callee K p=some (.fn f args)) (ha:allocs p=false) (hd:Nat.blt d n=true) (hf:flat m v=true) (hca:ZB H true args args') (h:DC C N k Q all os (i+1) nid ⟨(d,v) :: K,H,lo,rnd,n⟩):DC C N k Q all (⟨some d,p,ty,pos,after,g⟩ :: os) i nid ⟨K,H,lo,rnd,n⟩ :=
  cstep (d:=⟨v,[],ym H 0⟩) (.extF hw hc ⟨rfl,fun id B hB _=>hB⟩ hca hX ⟨m,hf⟩) ha rfl (DC.eqv (JA hd rfl) h)
inductive zEp : List (Nat×List Nat×List Nat)→List (Nat×List Nat×List Nat)→Prop where
  | nil:zEp [] []
  | cons {x y:Nat×List Nat×List Nat} {a b:List (Nat×List Nat×List Nat)}:(x.1=y.1∧(∀ z,z∈x.2.1→z∈y.2.1)∧∀ z,z∈x.2.2→z∈y.2.2)→zEp a b→zEp (x :: a) (y :: b)
theorem zEp.rfl' : ∀ a,zEp a a
  | []=>.nil
  | x :: r=>.cons ⟨rfl,fun _ h=>h,fun _ h=>h⟩ (zEp.rfl' r)
theorem zGZ : ∀ {l l':List Nat},meet l l'=true↔∃ x,x∈l∧x∈l'
  | [],l' => by simp [meet]
  | a :: r,l' => by
    simp only [meet,Bool.or_eq_true,zGX,zGZ,List.mem_cons]
    constructor
    · rintro (h | ⟨x, h1, h2⟩)
      · exact ⟨a,.inl rfl,h⟩
      · exact ⟨x,.inr h1,h2⟩
    · rintro ⟨x, rfl | h1, h2⟩
      · exact .inl h2
      · exact .inr ⟨x,h1,h2⟩
theorem zGY {a b a' b':List Nat} (h:meet a b=false) (h1:∀ z,z∈a'→z∈a) (h2:∀ z,z∈b'→z∈b):meet a' b'=false:=by
  rw [Bool.eq_false_iff] at h ⊢
  intro hm
  obtain ⟨x,q1,q2⟩:=zGZ.1 hm
  exact h (zGZ.2 ⟨x,h1 x q1,h2 x q2⟩)
theorem zOA {j:Nat} {rd wr rd' wr':List Nat} {a b:List (Nat×List Nat×List Nat)} (hr:∀ z,z∈rd→z∈rd') (hw:∀ z,z∈wr→z∈wr') (hl:zEp a b) (h:yA all j rd' wr' b=true):yA all j rd wr a=true:=by
  induction hl with
  | nil=>rfl
  | cons hxy _ ih =>
    rename_i x y _ _ _
    obtain ⟨i,r1,w1⟩:=x
    obtain ⟨i',r2,w2⟩:=y
    obtain ⟨e,g1,g2⟩:=hxy
    simp only at e g1 g2
    subst e
    simp only [yA,Bool.and_eq_true,Bool.or_eq_true,Bool.not_eq_true'] at h ⊢
    refine ⟨?_,ih h.2⟩
    rcases h.1 with q | q
    · refine .inl ?_
      simp only [Bool.or_eq_false_iff] at q ⊢
      exact ⟨⟨zGY q.1.1 g2 hr,zGY q.1.2 g2 hw⟩,zGY q.2 hw g1⟩
    · exact .inr q
theorem drun_le {es:List (Eff×Option Yv)} {sn:St} {a b:List (Nat×List Nat×List Nat)} (h:DRun C all os i nid s b es sn):∀ {a},zEp a b→DRun C all os i nid s a es sn:=by
  induction h with
  | nil=>exact fun _=>.nil
  | cons h1 h2 _ ih=>exact fun hl=>.cons h1 (zOA (fun _ h=>h) (fun _ h=>h) hl h2) (ih (.cons ⟨rfl,fun _ h=>h,fun _ h=>h⟩ hl))
theorem DW.le {a b:List (Nat×List Nat×List Nat)} (hl:zEp a b) (h:DW C N k Q all os i nid s b):DW C N k Q all os i nid s a:=by
  obtain ⟨es,sn,h1,h2,h3⟩:=h
  exact ⟨es,sn,drun_le (a:=a) h1 hl,h2,h3⟩
end
end X
end Go.Am
namespace Go.Am
open Go Go.Wk Go.RowKit Go.Mx
abbrev lr (r:zCe) (st:LoopState) (pend:Option Code):Blk:=.loop ⟨r.n,r.K,r.ps,r.assign,r.body,st,pend⟩
section
variable {N N0:Nat} {keep:List (Option Nat)} {K:List (Nat×V)} {H1 r:List Blk} {i j:Nat}
def LowV (N:Nat) (v:V):Prop := ∃ n,rn N [] n v=some v
def LowK (N:Nat) (K:List (Nat×V)):Prop := ∀ t v,kget K t=some v→LowV N v
end
namespace X
section
variable {C:Cfg} {N:Nat} {all os:List Oper} {o:Oper} {k:List It} {K K':List (Nat×V)} {H H':List Blk} {lo n nid:Nat} {rnd:Option Nat} {Q:Ex→St→Prop} {dst:Option Nat} {d:Nat} {p:Op} {ty:TypeId} {pos:String} {after:Array Edge} {e:Eff} {v:V} {x y:Bool} {g:Option (Nat×Bool)} {wr:List (Nat×Blk)} {rd:List Nat}
theorem range {gv:Operand} {ps:Array Tmp} {assign body:Code} {f:Nat} {caps:List V} {c:Code} {fn:Func} (hg:kev K gv=some (.fn f caps)) (hb:jM C f (caps.length+1)=some (c,fn)) (hlow:LowK H.length K) (hro:zHc ⟨K,H,lo,rnd,n⟩=true)
    (h:∀ r:zCe,r.n=n→r.K=K→r.ps=ps.toList→r.assign=assign→r.body=body→LowK H.length r.K→GS C (H.length+1) [.code c] ⟨kargs 0 (.yld H.length :: caps),H++[lr r .ready none],lo,none,fn.ntmps⟩ (fun e s' => ∃ v p,finA C fn e s'=some v∧Qq H.length e s' ⟨K,H,lo,rnd,n⟩ k=some p∧GS C N p.1 p.2 Q)):GS C N (.code (.rangeFunc gv ps assign body) :: k) ⟨K,H,lo,rnd,n⟩ Q :=
  GS.range (fun p=>GS C N p.1 p.2 Q) hg hb hro (h ⟨n,K,ps.toList,assign,body,.ready,none⟩ rfl rfl rfl rfl rfl hlow) (fun p hp=>hp)
theorem yld {id:Nat} {args:List V} {r:zCe} {K0 K2:List (Nat×V)} {n0:Nat} {ps:List Nat} {assign body:Code} (hn:r.n=n0) (hK0:r.K=K0) (hps0:r.ps=ps) (has:r.assign=assign) (hbd:r.body=body) (hw:wants all K g=some true) (hc:callee K p=some (.yld id args)) (hg:hget H id=lr r .ready none) (hK:kputs K0 ps args=some K2) (hps:ps.all (fun p=>Nat.blt p n0)=true) (hlo:Nat.ble lo id=true)
    (h:GS C H.length [.code assign] ⟨K2,H,lo,some id,n0⟩ (fun e s1 => ∃ s1',zDn id e s1=some s1'∧GS C s1'.H.length [.code body] s1' (fun e s2 => ∃ s3,endRound id e s2 ⟨K,H,lo,rnd,n⟩ (some d)=some s3∧GS C N (.ops all os :: k) s3 Q))):GS C N (.ops all (⟨some d,p,ty,pos,after,g⟩ :: os) :: k) ⟨K,H,lo,rnd,n⟩ Q:=by
  subst hn hK0 hps0 has hbd
  exact GS.yld (r:=⟨r.n,r.K,r.ps,r.assign,r.body,.ready,none⟩) (fun s1' => GS C s1'.H.length [.code r.body] s1' (fun e s2 => ∃ s3,endRound id e s2 ⟨K,H,lo,rnd,n⟩ (some d)=some s3∧GS C N (.ops all os :: k) s3 Q)) (fun s3=>GS C N (.ops all os :: k) s3 Q) hw hc hg hK hps (Nat.le_of_ble_eq_true hlo) h (fun s1' h=>h) (fun s3 h=>h)
theorem zAu {B:Blk}:puts H [(H.length,B)]=H++[B]:=ql H B
theorem zGp {B:Blk}:hget (H++[B]) H.length=B:=by simp [hget,zP]
theorem puts_end' {B B':Blk}:puts (H++[B]) [(H.length,B')]=H++[B']:=by
  simp only [puts]
  induction H with
  | nil=>rfl
  | cons x r ih=>simp only [List.cons_append,List.length_cons,hput]; rw [ih]
theorem zFN {id m:Nat} {ks vs a b:List V} (hH:hget H id = .map ks vs) (h1:mapO (frz H 0 m) ks=some a) (h2:mapO (frz H 0 m) vs=some b):frz H 0 (m+1) (.map id)=some (.fmap a b):=by
  simp only [frz,Nat.not_lt_zero,if_false,hH,h1,h2]
theorem YY {α:Type} {c:Code} {s0:St} (S:α→St) (R:α→Prop) (μ:α→Nat) (step:∀ a,R a→(∀ a',R a'→μ a'<μ a→GS C N (.inLoop c :: k) (S a') Q)→GS C N (.code c :: .inLoop c :: k) (S a) Q) (a:α) (ha:R a) (e:S a=s0:=by rfl):GS C N (.code (.loop c) :: k) s0 Q:=by
  subst e
  have key:∀ m a,μ a<m→R a→GS C N (.code c :: .inLoop c :: k) (S a) Q:=by
    intro m
    induction m with
    | zero=>intro a h; omega
    | succ m ih=>exact fun a h hr=>step a hr fun a' hr' hlt=>.inLoop (ih a' (by omega) hr')
  exact .loop (key _ a (Nat.lt_succ_self _) ha)
theorem zAT {keep:List (Option Nat)} {H1:List Blk} {i j:Nat} {r:List Blk} {ks vs:List V} {left:List Nat} {last:Option Nat} (hj:rx N keep i=some j) (h1:hget H1 j = .iter ks vs left last) (h:GB N keep H1 (i+1) r):GB N keep H1 i (.iter ks vs left last :: r) :=
  zEU hj h1 (by intro h; cases h) (fun _=>⟨1,rfl⟩) h
theorem next {x:Operand} {id:Nat} {ks vs:List V} {left:List Nat} {last:Option Nat} (hw:wants all K g=some true) (hx:kev K x=some (.ptr id 0 0)) (hg:hget H id = .iter ks vs left last) (hlo:Nat.ble lo id=true) (hd:Nat.blt d n=true)
    (h1:left=[]→GS C N (.ops all os :: k) ⟨(d,.tup [.b false]) :: K,H,lo,rnd,n⟩ Q) (h2:∀ j kv vv,j∈left→get ks j=some kv→get vs j=some vv→GS C N (.ops all os :: k) ⟨(d,.tup [.b true,kv,vv]) :: K,hput H id (.iter ks vs (left.filter (·≠j)) (some j)),lo,rnd,n⟩ Q):GS C N (.ops all (⟨some d,.next x false,ty,pos,after,g⟩ :: os) :: k) ⟨K,H,lo,rnd,n⟩ Q :=
  GS.next rfl hw hx hg (Nat.le_of_ble_eq_true hlo) (fun h=>front rfl hd (h1 h) rfl) (fun j kv vv q1 q2 q3=>front rfl hd (h2 j kv vv q1 q2 q3) rfl)
theorem entry {x:Operand} {id j:Nat} {ks vs:List V} {left:List Nat} {kv vv:V} (hw:wants all K g=some true) (hx:kev K x=some (.ptr id 0 0)) (hg:hget H id = .iter ks vs left (some j)) (hk:get ks j=some kv) (hv:get vs j=some vv) (hd:Nat.blt d n=true)
    (h:GS C N (.ops all os :: k) ⟨(d,.tup [kv,vv]) :: K,H,lo,rnd,n⟩ Q):GS C N (.ops all (⟨some d,.entry x,ty,pos,after,g⟩ :: os) :: k) ⟨K,H,lo,rnd,n⟩ Q :=
  GS.entry rfl hw hx hg hk hv (front rfl hd h rfl)
theorem zN2 {x:Operand} {id:Nat} {ks vs:List V} {left:List Nat} {last:Option Nat} (hw:wants all K g=some true) (hx:kev K x=some (.ptr id 0 0)) (hg:hget H id = .oiter ks vs left last) (hlo:Nat.ble lo id=true) (hd:Nat.blt d n=true)
    (h1:left=[]→GS C N (.ops all os :: k) ⟨(d,.tup [.b false]) :: K,H,lo,rnd,n⟩ Q) (h2:∀ j kv vv,j∈left→get ks j=some kv→get vs j=some vv→GS C N (.ops all os :: k) ⟨(d,.tup [.b true,kv,vv]) :: K,hput H id (.oiter ks vs (left.filter (·≠j)) (some j)),lo,rnd,n⟩ Q):GS C N (.ops all (⟨some d,.next x false,ty,pos,after,g⟩ :: os) :: k) ⟨K,H,lo,rnd,n⟩ Q :=
  GS.zN2 rfl hw hx hg (Nat.le_of_ble_eq_true hlo) (fun h=>front rfl hd (h1 h) rfl) (fun j kv vv q1 q2 q3=>front rfl hd (h2 j kv vv q1 q2 q3) rfl)
theorem zLM {x:Operand} {id j:Nat} {ks vs:List V} {left:List Nat} {kv vv:V} (hw:wants all K g=some true) (hx:kev K x=some (.ptr id 0 0)) (hg:hget H id = .oiter ks vs left (some j)) (hk:get ks j=some kv) (hv:get vs j=some vv) (hd:Nat.blt d n=true)
    (h:GS C N (.ops all os :: k) ⟨(d,.tup [kv,vv]) :: K,H,lo,rnd,n⟩ Q):GS C N (.ops all (⟨some d,.entry x,ty,pos,after,g⟩ :: os) :: k) ⟨K,H,lo,rnd,n⟩ Q :=
  GS.zLM rfl hw hx hg hk hv (front rfl hd h rfl)
end
end X
end Go.Am
