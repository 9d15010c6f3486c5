/- What an operation does rests on the slots that it names and the blocks that it looks at. Conditions: none. -/
import Derived.Test.YtggkidlcohickaaGreatRul
set_option linter.unusedVariables false
set_option linter.unusedSimpArgs false
namespace Go.Am
open Go
section
variable {C:Cfg} {K K':List (Nat×V)} {H H':List Blk} {lo nid:Nat} {e:Eff}
abbrev Same (H H':List Blk) (rd:List Nat):Prop := ∀ id,id∈rd→hget H' id=hget H id
theorem zGH {x:V} {p:List V×List Nat} (h:rowsOf H x=some p) (hH:Same H H' p.2):rowsOf H' x=some p:=by
 unfold rowsOf at h
 split at h
 ·simpa [rowsOf] using h
 ·simpa [rowsOf] using h
 ·rename_i id off len
  split at h
  ·rename_i hb
   simp only [Option.map_eq_some_iff] at h
   obtain ⟨r,h1,rfl⟩:=h
   have:=hH id (by simp)
   simp [rowsOf,this,hb,h1]
  ·cases h
 ·cases h
theorem zOB {x:V} {p:Nat×List Nat} (h:lenM H x=some p) (hH:Same H H' p.2):lenM H' x=some p:=by
 unfold lenM at *
 grind
theorem zK9 {T:TI} {x:V} {n:Int} {p:V×List Nat} (h:zBW H T x n=some p) (hH:Same H H' p.2):zBW H' T x n=some p:=by
 unfold zBW at *
 grind
theorem zKi {es:Nat} {x:V} {l h' m:Int} {b:Bool} {p:V×List Nat} (h:zAY H es x l h' b m=some p) (hH:Same H H' p.2):zAY H' es x l h' b m=some p:=by
 unfold zAY at *
 grind
theorem zM2 {T:TI} {x:V} {p:V×List Nat} (h:zAO H T x=some p) (hH:Same H H' p.2):zAO H' T x=some p:=by
 unfold zAO at h
 split at h
 ·rename_i id i off
  split at h
  ·rename_i hb
   split at h
   ·rename_i hg
    simp only [Option.map_eq_some_iff] at h
    obtain ⟨r,h1,rfl⟩:=h
    have:=hH id (by simp)
    simp [zAO,this,hb,hg,h1]
   ·cases h
  ·cases h
 ·simpa [zAO] using h
 ·cases h
theorem zKf {T:TI} {x v:V} (h:zBv H lo T x v=some e) (hH:Same H H' e.rd):zBv H' lo T x v=some e:=by
 unfold zBv at h
 split at h
 ·rename_i id i off
  split at h
  ·cases h
  ·rename_i hlo
   split at h
   ·rename_i hsz
    split at h
    ·rename_i es l hb
     split at h
     ·rename_i r hg
      have hm:id∈e.rd:=by
       simp only [Option.map_eq_some_iff] at h
       obtain ⟨r',_,rfl⟩:=h
       simp
      have h1:=hH id hm
      simpa [zBv,hlo,hsz,h1,hb,hg] using h
     ·cases h
    ·cases h
   ·cases h
 ·cases h
theorem zM0 {Te:TI} {ok:Bool} {k:V} {ks vs:List V} {rd:List Nat} (h:qi Te ok k ks vs rd=some e):e.rd=rd:=by
 unfold qi at h
 (repeat' split at h) <;> first | (cases h; done) | (simp only [Option.some.injEq] at h; subst h; rfl)
theorem zM1 {t:Nat} {x k:V} {ok:Bool} (h:zCK C H t x k ok=some e) (hH:Same H H' e.rd):zCK C H' t x k ok=some e:=by
 unfold zCK at h
 split at h
 ·rename_i kd Te hm
  cases hk:Q4 C kd k with
  | false=>rw [hk] at h; cases h
  | true =>
   rw [hk] at h
   simp only [cond_true] at h
   split at h
   ·simpa [zCK,hm,hk] using h
   ·simpa [zCK,hm,hk] using h
   ·rename_i id
    split at h
    ·rename_i hb
     have:=hH id (by rw [zM0 h]; simp)
     simpa [zCK,hm,hk,this,hb] using h
    ·cases h
   ·cases h
 ·cases h
theorem zKz {t:Nat} {x k v:V} (h:Qy C H lo t x k v=some e) (hH:Same H H' e.rd):Qy C H' lo t x k v=some e:=by
 unfold Qy at h
 split at h
 ·rename_i kd Te hm
  cases hk:Q4 C kd k with
  | false=>rw [hk] at h; cases h
  | true =>
   rw [hk] at h
   simp only [cond_true] at h
   split at h
   ·rename_i id
    split at h
    ·cases h
    ·rename_i hlo
     split at h
     ·rename_i hb
      have hm':id∈e.rd:=by
       split at h <;> first | (cases h; done) | (simp only [Option.some.injEq] at h; subst h; simp)
      have:=hH id hm'
      simpa [Qy,hm,hk,this,hb,hlo] using h
     ·cases h
   ·cases h
 ·cases h
theorem zLQ {T:TI} {x:V} (h:zBc T H lo x=some e) (hH:Same H H' e.rd):zBc T H' lo x=some e:=by
 unfold zBc at h
 split at h
 ·rename_i id off len
  split at h
  ·cases h
  ·rename_i hlo
   split at h
   ·rename_i es l hb
    cases hes:Nat.beq es T.size with
    | false=>rw [hes] at h; cases h
    | true =>
     rw [hes] at h
     simp only [cond_true] at h
     have hm:id∈e.rd:=by
      split at h <;> first | (cases h; done) | (simp only [Option.some.injEq] at h; subst h; simp)
     have h1:=hH id hm
     simpa [zBc,h1,hb,hes,hlo] using h
   ·cases h
 ·cases h
theorem zKQ {T:TI} {es:Nat} {l:List V} {id off len:Nat} {new:List V} {rd:List Nat} (h:zAD T es l lo nid id off len new rd=some e):id∈e.rd∧∀ i∈rd,i∈e.rd:=by
 unfold zAD at h
 (repeat' split at h) <;> first | (cases h; done) | (simp only [Option.some.injEq] at h; subst h; exact ⟨by simp,fun i hi=>by simp [hi]⟩)
theorem zKR {T:TI} {x y:V} (h:yt T H lo nid x y=some e) (hH:Same H H' e.rd):yt T H' lo nid x y=some e:=by
 unfold yt at h
 split at h
 ·cases h
 ·rename_i src rd hr
  cases hn:zEF T src with
  | false=>rw [hn] at h; cases h
  | true =>
   rw [hn] at h
   simp only [cond_true] at h
   split at h
   ·have hm:∀ i∈rd,i∈e.rd:=by
     (repeat' split at h) <;> first | (cases h; done) | (simp only [Option.some.injEq] at h; subst h; exact fun i hi=>by simp [hi])
    have h2:=zGH hr (H':=H') fun i hi=>hH i (hm i hi)
    simpa [yt,h2,hn] using h
   ·rename_i id off len
    split at h
    ·cases h
    ·rename_i hlo
     split at h
     ·rename_i es l hb
      cases hes:Nat.beq es T.size with
      | false=>rw [hes] at h; cases h
      | true =>
       rw [hes] at h
       simp only [cond_true] at h
       have hm:=zKQ h
       have h1:=hH id hm.1
       have h2:=zGH hr (H':=H') fun i hi=>hH i (hm.2 i hi)
       simpa [yt,h2,hn,h1,hb,hes,hlo] using h
     ·cases h
   ·cases h
def zKW (K K':List (Nat×V)) (xs:List Operand):Prop := ∀ x∈xs,kev K' x=kev K x
theorem zCP : ∀ {xs:List Operand},zKW K K' xs→kevs K' xs=kevs K xs
 | [],_=>rfl
 | x :: r,h=>by simp only [kevs]; rw [h x List.mem_cons_self,zCP fun y hy=>h y (List.mem_cons_of_mem _ hy)]
theorem zDf : ∀ {ps:List (Nat×Operand)},zKW K K' (ps.map (·.2))→kparts K' ps=kparts K ps
 | [],_=>rfl
 | (i,x) :: r,h=>by simp only [kparts]; rw [h x (by simp),zDf fun y hy=>h y (by simp at hy ⊢; exact .inr hy)]
theorem zDm {o:Option Operand} {d:Int} (h:∀ x,o=some x→kev K' x=kev K x):jY K' o d=jY K o d:=by
 cases o with
 | none=>rfl
 | some x=>simp only [jY]; rw [h x rfl]
theorem zKF {t:Nat} {x:Operand} (hx:kev K' x=kev K x) (h:QH C K H t x=some e) (hH:Same H H' e.rd):QH C K' H' t x=some e:=by
 unfold QH at h
 split at h
 ·rename_i T a hT ha
  split at h
  ·rename_i p hp
   simp only [Option.some.injEq] at h
   subst h
   simp [QH,hT,hx,ha,zM2 hp hH]
  ·cases h
 ·cases h
theorem zIt {t:Nat} {x y:Operand} (hx:kev K' x=kev K x) (hy:kev K' y=kev K y) (h:QG C K H lo t x y=some e) (hH:Same H H' e.rd):QG C K' H' lo t x y=some e:=by
 unfold QG at h
 split at h
 ·rename_i T a v hT ha hv
  simp only [QG,hT,hx,ha,hy,hv]
  exact zKf h hH
 ·cases h
theorem zIu {t:Nat} {x:Operand} {l h' m:Option Operand} (hx:kev K' x=kev K x) (hl:∀ d,jY K' l d=jY K l d) (hh:∀ d,jY K' h' d=jY K h' d) (hm:∀ d,jY K' m d=jY K m d) (h:YE C K H t x l h' m=some e) (hH:Same H H' e.rd):YE C K' H' t x l h' m=some e:=by
 unfold YE at h
 split at h
 ·rename_i T v hT hv
  simp only [YE,hT,hx,hv]
  unfold YS at h ⊢
  simp only [hl,hh,hm]
  split at h
  ·cases h
  ·rename_i h0
   rw [if_neg h0]
   split at h
   ·rename_i n hn
    split at h
    ·rename_i lo' hi' h1 h2
     split at h
     ·rename_i m' h3
      split at h
      ·rename_i p hp
       simp only [Option.some.injEq] at h
       subst h
       rw [zKi hp hH]
      ·cases h
     ·cases h
    ·cases h
   ·cases h
 ·cases h
theorem zFT {t:Nat} {x i:Operand} (hx:kev K' x=kev K x) (hi:kev K' i=kev K i) (h:jV C K H t x i=some e) (hH:Same H H' e.rd):jV C K' H' t x i=some e:=by
 unfold jV at h
 split at h
 ·rename_i T v k n hT hv hn
  split at h
  ·rename_i p hp
   simp only [Option.some.injEq] at h
   subst h
   simp [jV,hT,hx,hv,hi,hn,zK9 hp hH]
  ·cases h
 ·cases h
theorem zHQ {t:Nat} {x k:Operand} {ok:Bool} (hx:kev K' x=kev K x) (hk:kev K' k=kev K k) (h:yg C K H t x k ok=some e) (hH:Same H H' e.rd):yg C K' H' t x k ok=some e:=by
 unfold yg at h
 split at h
 ·rename_i v kv hv hkv
  simp only [yg,hx,hv,hk,hkv]
  exact zM1 h hH
 ·cases h
theorem zDL {t:Nat} {x k v:Operand} (hx:kev K' x=kev K x) (hk:kev K' k=kev K k) (hv:kev K' v=kev K v) (h:yF C K H lo t x k v=some e) (hH:Same H H' e.rd):yF C K' H' lo t x k v=some e:=by
 unfold yF at h
 split at h
 ·rename_i a b c ha hb hc
  simp only [yF,hx,ha,hk,hb,hv,hc]
  exact zKz h hH
 ·cases h
theorem zNJ {ats:List Nat} {l:List V} (h:zAC C H ats l=some e) (hH:Same H H' e.rd):zAC C H' ats l=some e:=by
 unfold zAC at h
 split at h
 ·split at h
  ·rename_i T hT
   split at h
   ·rename_i hk
    simpa [zAC,hT,hk] using h
   ·rename_i hk
    split at h
    ·rename_i p hp
     simp only [Option.some.injEq] at h
     subst h
     simp [zAC,hT,hk,zOB hp hH]
    ·cases h
   ·cases h
  ·cases h
 ·cases h
theorem zKM {b:Builtin} {ats:List Nat} {l:List V} (h:Z0 C H lo nid b ats l=some e) (hH:Same H H' e.rd):Z0 C H' lo nid b ats l=some e:=by
 unfold Z0 at h
 split at h
 ·exact zNJ h hH
 ·unfold Yb at h
  split at h
  ·rename_i t t2 x y
   cases hb:Nat.beq t t2 with
   | false=>rw [hb] at h; cases h
   | true =>
    rw [hb] at h
    simp only [cond_true] at h
    split at h
    ·rename_i Te hTe
     simpa [Z0,Yb,hTe,hb] using zKR h hH
    ·cases h
  ·cases h
 ·exact h
 ·exact h
 ·unfold zC8 at h
  split at h
  ·split at h
   ·rename_i Te hTe
    simpa [Z0,zC8,hTe] using zLQ h hH
   ·cases h
  ·cases h
 ·cases h
theorem zHo {op:Op} (hK:zKW K K' op.operands.toList) (hH:Same H H' e.rd) (h:zM C K H lo nid op=some e):zM C K' H' lo nid op=some e:=by
 unfold zM at h
 have hk1:∀ x,x∈op.operands.toList→kev K' x=kev K x:=hK
 split at h
 ·simp only [zM]; rw [hK _ (by simp [Op.operands])]; exact h
 ·simp only [zM]; rw [hK _ (by simp [Op.operands])]; exact h
 ·simp only [zM,zC6]; rw [hK _ (by simp [Op.operands]),hK _ (by simp [Op.operands]),hK _ (by simp [Op.operands])]; exact h
 ·exact h
 ·simp only [zM,zIw]; rw [hK _ (by simp [Op.operands])]; exact h
 ·rename_i t ps
  simp only [zM,zEd]; rw [zDf (fun x hx=>hK x (by simpa [Op.operands] using hx))]; exact h
 ·rename_i t n ps
  simp only [zM,Jz]; rw [zDf (fun x hx=>hK x (by simpa [Op.operands] using hx))]; exact h
 ·exact zKF (hK _ (by simp [Op.operands])) h hH
 ·exact zIt (hK _ (by simp [Op.operands])) (hK _ (by simp [Op.operands])) h hH
 ·simp only [zM,zIv]; rw [hK _ (by simp [Op.operands])]; exact h
 ·simp only [zM,YF]; rw [hK _ (by simp [Op.operands]),hK _ (by simp [Op.operands])]; exact h
 ·simp only [zM,zKE]; rw [hK _ (by simp [Op.operands])]; exact h
 ·simp only [zM,zBb]; rw [hK _ (by simp [Op.operands])]; exact h
 ·rename_i f first caps
  simp only [zM] at h ⊢
  unfold zF4 at h ⊢
  rw [zCP (K:=K) (K':=K') (xs:=caps.toList) (fun x hx=>hK x (by simp [Op.operands] at hx ⊢; exact .inr hx))]
  cases hq:first.toList with
  | nil=>rw [hq] at h; exact h
  | cons y r =>
   rw [hq] at h
   dsimp only at h ⊢
   rw [zCP (K:=K) (K':=K') (xs:=y :: r) (fun x hx=>hK x (by rw [← hq] at hx; simp [Op.operands] at hx ⊢; exact .inl hx))]
   exact h
 ·exact h
 ·simp only [zM,qB]; rw [hK _ (by simp [Op.operands]),hK _ (by simp [Op.operands])]; exact h
 ·rename_i t x l h' m
  exact zIu (hK _ (by simp [Op.operands])) (fun d=>zDm fun x hx=>hK x (by simp [Op.operands,hx])) (fun d=>zDm fun x hx=>hK x (by simp [Op.operands,hx])) (fun d=>zDm fun x hx=>hK x (by simp [Op.operands,hx])) h hH
 ·simp only [zM,qC]; rw [hK _ (by simp [Op.operands])]; exact h
 ·exact zFT (hK _ (by simp [Op.operands])) (hK _ (by simp [Op.operands])) h hH
 ·simp only [zM,zEc]; rw [hK _ (by simp [Op.operands]),hK _ (by simp [Op.operands])]; exact h
 ·exact zHQ (hK _ (by simp [Op.operands])) (hK _ (by simp [Op.operands])) h hH
 ·exact zDL (hK _ (by simp [Op.operands])) (hK _ (by simp [Op.operands])) (hK _ (by simp [Op.operands])) h hH
 ·exact zDL (hK _ (by simp [Op.operands])) (hK _ (by simp [Op.operands])) (hK _ (by simp [Op.operands])) h hH
 ·simp only [zM,zBa]; rw [hK _ (by simp [Op.operands])]; exact h
 ·simp only [zM,zEb]; rw [hK _ (by simp [Op.operands])]; exact h
 ·rename_i c
  unfold Zd at h
  split at h
  ·rename_i b vs hb hvs
   simp only [zM,Zd,hb]
   rw [zCP (K:=K) (K':=K') (fun x hx=>hK x (by simp [Op.operands,Call.operands,hb] at hx ⊢; exact hx)),hvs]
   exact zKM h hH
  ·cases h
 ·cases h
theorem zAB {op:Op} (hK:zKW K K' op.operands.toList):callee K' op=callee K op:=by
 unfold callee
 split
 ·rename_i f args ats
  rw [hK f (by simp [Op.operands,Call.operands]),zCP (K:=K) (K':=K') (fun x hx=>hK x (by simp [Op.operands,Call.operands] at hx ⊢; exact .inr hx))]
 ·rfl
end
end Go.Am
namespace Go.Am
open Go Go.Wk Go.RowKit
structure Ent where
 i:Nat
 nid:Nat
 o:Oper
 e:Eff
 d:Option Yv
def Ent.rd (x:Ent):List Nat:=rdOf x.o x.nid x.e
def Ent.wr (x:Ent):List Nat:=Za x.e.wr
structure Apart (all:List Oper) (x y:Ent):Prop where
 wr:∀ id,id∈x.wr→id∉y.rd
 ww:∀ id,id∈x.wr→id∉y.wr
 rw:∀ id,id∈y.wr→id∉x.rd
 dx:∀ t,x.o.dst=some t→t∉qd all y.o
 dd:∀ t,x.o.dst=some t→y.o.dst≠some t
 dy:∀ t,y.o.dst=some t→t∉qd all x.o
def Ok2 (all:List Oper) (x y:Ent):Prop:=x.i<y.i∧(JH all all.length y.i x.i=true∨Apart all x y)
structure Eqv (s s':St):Prop where
 H:s'.H=s.H
 lo:s'.lo=s.lo
 rnd:s'.rnd=s.rnd
 n:s'.n=s.n
 K:∀ t,kget s'.K t=kget s.K t
theorem Eqv.rfl' (s:St):Eqv s s:=⟨rfl,rfl,rfl,rfl,fun _=>rfl⟩
theorem Eqv.tr {a b c:St} (h:Eqv a b) (k:Eqv b c):Eqv a c:=⟨k.H.trans h.H,k.lo.trans h.lo,k.rnd.trans h.rnd,k.n.trans h.n,fun t=>(k.K t).trans (h.K t)⟩
inductive Seq (C:Cfg) (all:List Oper):List Ent→St→St→Prop where
 | nil {s s':St}:Eqv s s'→Seq C all [] s s'
 | cons {x:Ent} {r:List Ent} {s s':St}:yM C all x.o x.nid s x.e x.d→Seq C all r (s.eff x.o.dst x.e) s'→Seq C all (x :: r) s s'
theorem qy (s:St) (d:Option Nat) (e:Eff):(s.eff d e).lo=s.lo:=by
 unfold St.eff St.put; cases d with
 | none=>rfl
 | some d=>simp only; cases Nat.blt d s.n <;> rfl
theorem zBZ (s:St) (d:Option Nat) (e:Eff):(s.eff d e).rnd=s.rnd:=by
 unfold St.eff St.put; cases d with
 | none=>rfl
 | some d=>simp only; cases Nat.blt d s.n <;> rfl
theorem zEa (s:St) (d:Option Nat) (e:Eff):(s.eff d e).n=s.n:=by
 unfold St.eff St.put; cases d with
 | none=>rfl
 | some d=>simp only; cases Nat.blt d s.n <;> rfl
theorem zA9 (s:St) (d:Option Nat) (e:Eff):(s.eff d e).H=puts s.H e.wr:=by
 unfold St.eff St.put; cases d with
 | none=>rfl
 | some d=>simp only; cases Nat.blt d s.n <;> rfl
theorem zBo (s:St) (d:Option Nat) (e:Eff) (t:Nat):kget (s.eff d e).K t=if d=some t∧t<s.n then some e.v else kget s.K t:=by
 unfold St.eff St.put
 cases d with
 | none=>simp
 | some d =>
  simp only
  cases hb:Nat.blt d s.n with
  | true =>
   have hd:d<s.n:=by simpa using hb
   simp only [cond_true,zCO,Option.some.injEq]
   by_cases h:d=t
   ·subst h; simp [hd]
   ·simp [h]
  | false =>
   have hd : ¬ d<s.n:=fun h=>by
    have:Nat.blt d s.n=true:=by simpa using h
    rw [hb] at this; cases this
   simp only [cond_false,Option.some.injEq]
   rw [if_neg]
   rintro ⟨rfl,h⟩
   exact hd h
theorem zFe : ∀ (wr:List (Nat×Blk)) (H:List Blk),(∀ id,id∈Za wr→id<H.length)→(puts H wr).length=H.length
 | [],_,_=>rfl
 | (i,B) :: r,H,h=>by
  simp only [puts]
  have hi:i<H.length:=h i (by simp [Za])
  have hl:(hput H i B).length=H.length:=by rw [zq _ _ _ (Nat.le_of_lt hi)]; omega
  rw [zFe r _ (fun id hid=>by rw [hl]; exact h id (by simp [Za,hid]))]
  exact hl
theorem zJP : ∀ (wr:List (Nat×Blk)) (H:List Blk) (j:Nat),(∀ id,id∈Za wr→id<H.length)→j∉Za wr→get (puts H wr) j=get H j
 | [],_,_,_,_=>rfl
 | (i,B) :: r,H,j,h,hj=>by
  simp only [puts]
  have hi:i<H.length:=h i (by simp [Za])
  have hl:(hput H i B).length=H.length:=by rw [zq _ _ _ (Nat.le_of_lt hi)]; omega
  simp only [Za,List.mem_cons,not_or] at hj
  rw [zJP r _ j (fun id hid=>by rw [hl]; exact h id (by simp [Za,hid])) hj.2,zh _ _ _ _ (Nat.le_of_lt hi),if_neg (fun e=>hj.1 e.symm)]
theorem list_ext' {l l':List Blk} (h:∀ i,get l i=get l' i):l=l':=List.ext_getElem? fun i=>by have:=h i; rwa [zP,zP] at this
theorem zM8 {H:List Blk} {i j:Nat} {A B:Blk} (hi:i<H.length) (hj:j<H.length) (hne:i≠j):hput (hput H i A) j B=hput (hput H j B) i A:=by
 have h1:(hput H i A).length=H.length:=by rw [zq _ _ _ (Nat.le_of_lt hi)]; omega
 have h2:(hput H j B).length=H.length:=by rw [zq _ _ _ (Nat.le_of_lt hj)]; omega
 refine list_ext' fun k=>?_
 rw [zh _ _ _ _ (by omega),zh _ _ _ _ (by omega),zh _ _ _ _ (by omega),zh _ _ _ _ (by omega)]
 by_cases e1:j=k
 ·subst e1; simp [hne]
 ·simp [e1]
theorem zHh : ∀ (wr:List (Nat×Blk)) (H:List Blk) (j:Nat) (B:Blk),(∀ id,id∈Za wr→id<H.length)→j<H.length→j∉Za wr→puts (hput H j B) wr=hput (puts H wr) j B
 | [],_,_,_,_,_,_=>rfl
 | (i,A) :: r,H,j,B,h,hj,hn=>by
  simp only [puts]
  have hi:i<H.length:=h i (by simp [Za])
  simp only [Za,List.mem_cons,not_or] at hn
  have hl:(hput H i A).length=H.length:=by rw [zq _ _ _ (Nat.le_of_lt hi)]; omega
  rw [zM8 hj hi hn.1]
  exact zHh r _ j B (fun id hid=>by rw [hl]; exact h id (by simp [Za,hid])) (by omega) hn.2
theorem zHi : ∀ (wr wr':List (Nat×Blk)) (H:List Blk),(∀ id,id∈Za wr→id<H.length)→(∀ id,id∈Za wr'→id<H.length)→(∀ id,id∈Za wr→id∉Za wr')→puts (puts H wr) wr'=puts (puts H wr') wr
 | [],_,_,_,_,_=>rfl
 | (i,A) :: r,wr',H,h,h',hd=>by
  simp only [puts]
  have hi:i<H.length:=h i (by simp [Za])
  have hl:(hput H i A).length=H.length:=by rw [zq _ _ _ (Nat.le_of_lt hi)]; omega
  rw [zHi r wr' _ (fun id hid=>by rw [hl]; exact h id (by simp [Za,hid])) (fun id hid=>by rw [hl]; exact h' id hid) (fun id hid=>hd id (by simp [Za,hid]))]
  rw [zHh wr' H i A h' hi (hd i (by simp [Za]))]
theorem zAP : ∀ (H:List Blk) (k id:Nat) (B:Blk),get H id=some B→B.live=true→(id+k)∈ym H k
 | [],_,_,_,h,_=>by cases h
 | A :: r,k,0,B,h,hl=>by
  simp only [get,Option.some.injEq] at h
  subst h
  cases A <;> first | (cases hl; done) | simp [ym]
 | A :: r,k,id+1,B,h,hl=>by
  have:=zAP r (k+1) id B h hl
  rw [show id+1+k=id+(k+1) by omega]
  cases A <;> simp [ym,this]
theorem zMV {all:List Oper} {o:Oper} {K K':List (Nat×V)} (h:∀ t,t∈qd all o→kget K' t=kget K t):wants all K' o.guard=wants all K o.guard:=by
 unfold wants
 split
 ·rfl
 ·rename_i j want hg
  cases hj:get all j with
  | none=>rfl
  | some o' =>
   simp only
   cases ht:o'.dst with
   | none=>rfl
   | some t =>
    simp only
    rw [h t (by simp [qd,hg,hj,ht])]
theorem zOE {all:List Oper} {o:Oper} {K K':List (Nat×V)} (h:∀ t,t∈qd all o→kget K' t=kget K t):zKW K K' o.op.operands.toList:=fun x hx=>by
 cases x with
 | tmp t =>
  show kget K' t=kget K t
  refine h t ?_
  unfold qd
  refine List.mem_append_left _ ?_
  rw [List.mem_filterMap]
  exact ⟨_,hx,rfl⟩
 | const c=>cases c <;> rfl
 | func f=>rfl
 | global g=>rfl
theorem yM.loc {C:Cfg} {all:List Oper} {o:Oper} {nid:Nat} {s s':St} {e:Eff} {d:Option Yv} (h:yM C all o nid s e d) (hK:∀ t,t∈qd all o→kget s'.K t=kget s.K t) (hH:Same s.H s'.H (rdOf o nid e)) (hlen:s'.H.length=s.H.length) (hlo:s'.lo=s.lo):yM C all o nid s' e d:=by
 have hw:=zMV hK
 have hk:=zOE hK
 have hrd:Same s.H s'.H e.rd:=fun id hid=>hH id (by unfold rdOf; cases allocs o.op <;> simp [hid])
 cases h with
 | skip h1=>exact .skip (by rw [hw]; exact h1)
 | op h1 h2 h3 h4 =>
  refine .op (by rw [hw]; exact h1) (by rw [hlo]; exact zHo hk hrd h2) (fun ha=>?_) (fun id hid=>by rw [hlen]; exact h4 id hid)
  have h5:=h3 ha
  have h6:=hH nid (by unfold rdOf; rw [ha]; simp)
  have h7:hget s.H nid = .free:=by unfold hget; rw [h5]
  rw [h7] at h6
  unfold hget at h6
  cases hg:get s'.H nid with
  | none=>rw [hg] at h6; cases h6
  | some B=>rw [hg] at h6; simp only at h6; rw [h6]
 | ext h1 h2 h3 h4=>exact .ext (by rw [hw]; exact h1) (by rw [zAB hk]; exact h2) h3 h4
 | bld h1 hop h2 h3 h4 =>
  refine .bld (by rw [hw]; exact h1) hop (by rw [hlo]; exact zHo hk hrd h2) ?_ h4
  have h6:=hrd nid (by simp)
  have h7:hget s.H nid = .free:=by unfold hget; rw [h3]
  rw [h7] at h6
  unfold hget at h6
  cases hg:get s'.H nid with
  | none=>rw [hg] at h6; cases h6
  | some B=>rw [hg] at h6; simp only at h6; rw [h6]
 | extF h1 h2 h4 h5 h6 h7 =>
  refine .extF (by rw [hw]; exact h1) (by rw [zAB hk]; exact h2) ⟨h4.1.trans hlen.symm,fun id B hB hl=>?_⟩ h5 h6 h7
  have g5:=hrd id (by simpa using zAP _ 0 id B hB hl)
  have g6:=h4.2 id B hB hl
  have g7:hget s.H id=B:=by unfold hget; rw [g6]
  exact JN (g5.trans g7) hl
 | extO h1 h2 h4 h5 h6 =>
  refine .extO (by rw [hw]; exact h1) (by rw [zAB hk]; exact h2) ⟨h4.1.trans hlen.symm,fun id B hB hl=>?_⟩ h5 h6
  have g5:=hrd id (by simpa using zAP _ 0 id B hB hl)
  have g6:=h4.2 id B hB hl
  have g7:hget s.H id=B:=by unfold hget; rw [g6]
  exact JN (g5.trans g7) hl
 | clo h1 h2 h3 h4=>exact .clo (by rw [hw]; exact h1) (by rw [zAB hk]; exact h2) h3 h4
 | sub h1 h2 h3 h4 =>
  refine .sub (by rw [hw]; exact h1) (by rw [zAB hk]; exact h2) h3 ⟨h4.1.trans hlen.symm,fun id B hB hl=>?_,h4.2.2⟩
  have h5:=hrd id (by simpa using zAP _ 0 id B hB hl)
  have h6:=h4.2.1 id B hB hl
  have h7:hget s.H id=B:=by unfold hget; rw [h6]
  exact JN (h5.trans h7) hl
theorem yM.wrlt {C:Cfg} {all:List Oper} {o:Oper} {nid:Nat} {s:St} {e:Eff} {d:Option Yv} (h:yM C all o nid s e d):∀ id,id∈Za e.wr→id<s.H.length:=by
 cases h with
 | op h1 h2 h3 h4=>exact h4
 | _=>intro id hid; cases hid
theorem zMD {C:Cfg} {all:List Oper} {o:Oper} {nid:Nat} {s:St} {e:Eff} {d:Option Yv} {t:Option Nat} (h:yM C all o nid s e d):(s.eff t e).H.length=s.H.length:=by
 rw [zA9,zFe _ _ h.wrlt]
theorem zHz {H:List Blk} {wr:List (Nat×Blk)} {j:Nat} (h:∀ id,id∈Za wr→id<H.length) (hj:j∉Za wr):hget (puts H wr) j=hget H j:=by
 unfold hget; rw [zJP _ _ _ h hj]
theorem swap {C:Cfg} {all:List Oper} {x y:Ent} {s:St} (hx:yM C all x.o x.nid s x.e x.d) (hy:yM C all y.o y.nid (s.eff x.o.dst x.e) y.e y.d) (ha:Apart all x y) :
  yM C all y.o y.nid s y.e y.d∧yM C all x.o x.nid (s.eff y.o.dst y.e) x.e x.d∧Eqv ((s.eff x.o.dst x.e).eff y.o.dst y.e) ((s.eff y.o.dst y.e).eff x.o.dst x.e):=by
 have hxl:=hx.wrlt
 have hlx:(s.eff x.o.dst x.e).H.length=s.H.length:=zMD hx
 have hyl:∀ id,id∈Za y.e.wr→id<s.H.length:=fun id hid=>by have:=hy.wrlt id hid; rwa [hlx] at this
 have hy':yM C all y.o y.nid s y.e y.d:=hy.loc (fun t ht=>by
   rw [zBo,if_neg]
   rintro ⟨h,_⟩
   exact ha.dx t h ht) (fun id hid=>by
   rw [zA9,zHz hxl]
   intro h
   exact ha.wr id h hid) hlx.symm (qy _ _ _).symm
 refine ⟨hy',hx.loc (fun t ht=>?_) (fun id hid=>?_) (zMD hy') (qy _ _ _),?_⟩
 ·rw [zBo,if_neg]
  rintro ⟨h,_⟩
  exact ha.dy t h ht
 ·rw [zA9,zHz hyl]
  intro h
  exact ha.rw id h hid
 ·refine ⟨?_,by simp only [qy],by simp only [zBZ],by simp only [zEa],fun t=>?_⟩
  ·rw [zA9,zA9,zA9,zA9]
   exact zHi _ _ _ hyl hxl fun id h h' => ha.ww id h' h
  ·rw [zBo,zBo,zBo,zBo,zEa,zEa]
   by_cases h1:x.o.dst=some t∧t<s.n
   ·rw [if_pos h1,if_neg (fun h=>ha.dd t h1.1 h.1),if_pos h1]
   ·rw [if_neg h1,if_neg h1]
theorem Seq.eqv {C:Cfg} {all:List Oper}:∀ {R:List Ent} {s s' t:St},Seq C all R s s'→Eqv s t→Seq C all R t s'
 | [],s,s',t,.nil h,he=>.nil ((⟨he.H.symm,he.lo.symm,he.rnd.symm,he.n.symm,fun k=>(he.K k).symm⟩:Eqv t s).tr h)
 | x :: r,s,s',t,.cons h1 h2,he=>by
  refine .cons (h1.loc (fun k _=>he.K k) (fun id _=>by rw [he.H]) (by rw [he.H]) he.lo) (h2.eqv ⟨?_,?_,?_,?_,fun k=>?_⟩)
  ·rw [zA9,zA9,he.H]
  ·rw [qy,qy,he.lo]
  ·rw [zBZ,zBZ,he.rnd]
  ·rw [zEa,zEa,he.n]
  ·rw [zBo,zBo,he.K,he.n]
theorem pull {C:Cfg} {all:List Oper} {y:Ent} {post:List Ent} {s':St}:∀ {pre:List Ent} {s:St},Seq C all (pre++y :: post) s s'→(∀ x,x∈pre→Apart all x y)→yM C all y.o y.nid s y.e y.d∧Seq C all (pre++post) (s.eff y.o.dst y.e) s'
 | [],s,.cons h1 h2,_=>⟨h1,h2⟩
 | x :: pre,s,.cons h1 h2,hp=>by
  obtain ⟨h3,h4⟩:=pull h2 fun z hz=>hp z (List.mem_cons_of_mem _ hz)
  obtain ⟨h5,h6,h7⟩:=swap h1 h3 (hp x List.mem_cons_self)
  exact ⟨h5,.cons h6 (h4.eqv h7)⟩
end Go.Am
namespace Go.Am
open Go Go.Wk Go.RowKit
section
variable {C:Cfg} {I:Ij} {m:Mem} {H:List Blk} {w:World} {K:List (Nat×V)} {a:Act} {lo nid:Nat} {dst:Option Tmp} {ty:TypeId} {pos:String} {after:Array Edge} {g:Option (Nat×Bool)}
theorem zLR (hC:C.OK) (hs:Sim I m H w) (hk:Slots m I K a.tmps) {t n es:Nat} {ps:Array (Nat×Operand)} {l:List V} {len:Nat} {rd:List Nat} (h:Jz C K nid t n ps.toList=some ⟨.osl nid 0 len,[(nid,.rows es l)],rd⟩) (hsh:l.all (shut 9)=true) :
  ∃ (u:Value) (w':World) (m':Mem),(execOp a.eval ⟨dst,.buildSlice t n ps,ty,pos,after,g⟩).run C.P w = .ok (.value u) w'∧Xt w w'∧m.Le m'∧m'.Le (wmem w')∧(∀ k o,m' k=some o→m k=some o∨w.heap.size≤k)∧Rep m' (.sl l) I u:=by
 unfold Jz at h
 split at h
 ·rename_i Te l0 hTe hl
  obtain ⟨el,hu,hTel,hTI⟩:=y8 hC hTe
  split at h
  ·rename_i hsm
   split at h
   ·rename_i rows hrows
    simp only [Option.some.injEq,Eff.mk.injEq,V.osl.injEq,List.cons.injEq,Prod.mk.injEq,Blk.rows.injEq,and_true,true_and] at h
    obtain ⟨hlen,⟨hes,hrl⟩,_⟩:=h
    subst hrl
    obtain ⟨c',h1,h2,h3⟩:=zCW (us:=ps.toList.map fun p=>(p.1,a.eval p.2)) rfl hTI.pos (zBS hk hl) (Zr.zero hTI n) hrows
    rw [List.length_replicate] at h3
    have hr:=run_buildSlice (w:=w) (parts:=ps.map fun (p:Nat×Operand)=>(p.1,a.eval p.2)) hu hTI hsm (by simpa using h1)
    have hx:=Xt.Y9 w (.cells c'.toArray el (0,0))
    have hnew:=heap_alloc_new w (.cells c'.toArray el (0,0))
    have hno:∀ o,m w.heap.size≠some o:=fun o ho=>by
     have:=hs.sub _ _ ho
     have:=(Array.getElem?_eq_some_iff.1 this).1
     omega
    let m':Mem:=fun k=>if k=w.heap.size then some (.cells c'.toArray el (0,0)) else m k
    have hself:m' w.heap.size=some (.cells c'.toArray el (0,0)):=if_pos rfl
    have hother:∀ k,k≠w.heap.size→m' k=m k:=fun k hk=>if_neg hk
    have hle:m.Le m':=fun k o hk=>by
     by_cases e:k=w.heap.size
     ·subst e; exact absurd hk (hno o)
     ·rw [hother k e]; exact hk
    refine ⟨.slice (some ⟨w.heap.size,0,none⟩) n n,w.alloc (.cells c'.toArray el (0,0)),m',by simp [execOp,hr],hx,hle,fun k o hk=>?_,fun k o hk=>?_,?_⟩
    ·by_cases e:k=w.heap.size
     ·subst e; rw [hself] at hk; rw [← hk]; exact hnew
     ·rw [hother k e] at hk
      have h5:=hs.sub k o hk
      show (w.alloc _).heap[k]? = some o
      rw [hx.block k (Array.getElem?_eq_some_iff.1 h5).1]; exact h5
    ·by_cases e:k=w.heap.size
     ·exact .inr (by omega)
     ·rw [hother k e] at hk; exact .inl hk
    ·unfold Rep
     refine ⟨some ⟨w.heap.size,0,none⟩,n,Te.size,by rw [h3],by omega,fun hne=>⟨w.heap.size,0,rfl,Zq.mk fun i v hv=>?_⟩⟩
     obtain ⟨u,q1,q2,q3⟩:=h2.2 i v hv
     have hsv:shut 9 v=true:=List.all_eq_true.1 hsh v (List.mem_of_getElem? hv)
     refine ⟨u,Rep.mono hle v (Ij.Le.rfl' _) (QS 9 v u hsv q1),q2,fun j x hx=>⟨(q3 j x hx).1,?_⟩⟩
     unfold Mem.cell
     rw [hself]
     simpa using (q3 j x hx).2
   ·cases h
  ·cases h
 ·cases h
theorem zKO (hC:C.OK) {E:Env} {s:St} {t n es:Nat} {ps:Array (Nat×Operand)} {l:List V} {len:Nat} {rd:List Nat} (hss:SS E s I m a w) (h:Jz C s.K nid t n ps.toList=some ⟨.osl nid 0 len,[(nid,.rows es l)],rd⟩) (hsh:l.all (shut 9)=true):∃ (u:Value) (w':World) (m':Mem),(execOp a.eval ⟨dst,.buildSlice t n ps,ty,pos,after,g⟩).run C.P w = .ok (.value u) w'∧SS E s I m' a w'∧Rep m' (.sl l) I u:=by
 obtain ⟨u,w',m',h1,hx,h2,h3,h4,h5⟩:=zLR (dst:=dst) (ty:=ty) (pos:=pos) (after:=after) (g:=g) hC hss.sim hss.slots h hsh
 refine ⟨u,w',m',h1,hss.step (H':=s.H) (hss.sim.world h2 h3 fun id f hl hf=>?_) ⟨hx.stays,fun k hk _=>hx.block k hk,Ij.Le.rfl' _,fun id f h1 h2 h3=>.inr ⟨id,f,h1,h2,h3,rfl⟩,fun _ _=>rfl,Nat.le_refl _⟩ h2 h4,h5⟩
 have hoff:=hss.sim.off id f hl hf
 obtain ⟨B,hB,hlv⟩:=hl
 obtain ⟨g,q1,q2⟩:=hss.sim.blk id B hB hlv
 rw [hf] at q1
 cases q1
 have hlt:=q2.lt hlv
 refine ⟨hx.block _ hlt,?_⟩
 cases hm:m' f.b with
 | none=>rfl
 | some o =>
  rcases h4 _ _ hm with h | h
  ·rw [hoff] at h; cases h
  ·omega
end
end Go.Am
namespace Go.Am
open Go Go.Wk Go.RowKit
section
variable {C:Cfg} {E:Env} {s:St} {I:Ij} {m:Mem} {a:Act} {w:World} {all:List Oper} {o:Oper} {ρ:Option Nat} {P:Program} {Q:Exit→Act→World→Prop} {K:Act→World→Prop}
theorem zNo {i:Nat} (hi:all[i]? = some o) (hw:Region.wanted o (yielded all.toArray a.tmps)=false) (h:K (a.put o.dst undef) w):wpOpIn (Wd ρ) 0 P all.toArray Q i K a w:=by
 unfold wpOpIn
 simp only [List.getElem?_toArray,hi,hw]
 exact ⟨fun _ _=>trivial,h⟩
theorem zLf {i:Nat} (hi:all[i]? = some o) (hw:Region.wanted o (yielded all.toArray a.tmps)=true) (hn:Opnd o.op=true) {w':World} {r:Next} {u:Value} (hr:(execOp a.eval o).run P w = .ok r w') (hu:r = .value u∨(r = .skip∧u=undef)) (h:K (a.put o.dst u) w'):wpOpIn (Wd ρ) 0 P all.toArray Q i K a w:=by
 unfold wpOpIn
 simp only [List.getElem?_toArray,hi,hw,if_true]
 refine Qu hn ?_
 rw [hr]
 rcases hu with rfl | ⟨rfl,rfl⟩
 ·exact h
 ·exact h
theorem zCG {i:Nat} (hi:all[i]? = some o) (hw:Region.wanted o (yielded all.toArray a.tmps)=true) (hn:Opnd o.op=true) {f:FuncId} {args:Array Value} (hr:(execOp a.eval o).run P w = .ok (.enter f args) w) (h:Calls P f args w (fun e w' => ∃ u,e = .returned u∧K (a.put o.dst u) w')):wpOpIn (Wd ρ) 0 P all.toArray Q i K a w:=by
 unfold wpOpIn
 simp only [List.getElem?_toArray,hi,hw,if_true]
 refine Qu hn ?_
 rw [hr]
 refine ⟨(fun h=>by cases h),zBd.2 (h.mono ?_)⟩
 rintro e w' ⟨u,rfl,h⟩
 exact h
theorem ZB.nil' {H:List Blk}:∀ {l l':List V},ZB [] false l l'→ZB H false l l'
 | _,_,.nil=>.nil
 | _,_,.cons h r=>.cons (by
   cases h with
   | shut h=>exact .shut h
   | nil h=>exact .nil h) (ZB.nil' r)
theorem SubD.sub {H' H:List Blk} (h:SubD H' H):SubH H' H:=⟨h.1,h.2.1,fun id hf=>absurd hf (h.2.2 id)⟩
theorem QA_mono {E:Env} {Q Q':Ex→St→Prop} (h:∀ e s,Q e s→Q' e s):∀ (e:Exit) (a:Act) (w:World),QA E Q e a w→QA E Q' e a w
 | .normal,_,_,⟨s,I,m,hq,hs⟩=>⟨s,I,m,h _ _ hq,hs⟩
 | .ret,_,_,⟨s,I,m,hq,hs⟩=>⟨s,I,m,h _ _ hq,hs⟩
 | .exit _,_,_,⟨s,I,m,hq,hs⟩=>⟨s,I,m,h _ _ hq,hs⟩
 | .goto _,_,_,h=>h.elim
 | .panic _,_,_,h=>h.elim
 | .outgrown,_,_,h=>h.elim
theorem zEo {ρ:Option Nat} {E:Env} {c:Code} {Q Q':Ex→St→Prop} (h:∀ e s,Q e s→Q' e s) (hs:SA P ρ (QA E Q) [.code c] .normal a w):SA P ρ (QA E Q') [.code c] .normal a w :=
 Code.wpIn_mono (QA_mono h) hs
def zFa (C:Cfg) (e:Eff) (d:Yv):Prop := ∀ (E:Env) (I:Ij) (m:Mem) (a:Act) (w:World),SS E (St.call d.fn d.args d.H d.H.length) I m a w→SA C.P E.ρ (QA E (fun x s1 => ∃ v,finA C d.fn x s1=some v∧Q5 s1 v e.v)) [.code d.c] .normal a w
theorem zLz {H' H:List Blk} (h:∀ id B,get H' id=some B→B.live=true→get H id=some B):∀ (n:Nat) (v v1:V),frz H' 0 n v=some v1→frz H 0 n v=some v1
 | 0,v,v1,e=>by cases e
 | n+1,v,v1,e=>by
  have ih:∀ (l r:List V),mapO (frz H' 0 n) l=some r→mapO (frz H 0 n) l=some r:=by
   intro l
   induction l with
   | nil=>intro r e; exact e
   | cons x l ihl =>
    intro r e
    simp only [mapO] at e ⊢
    cases hx:frz H' 0 n x with
    | none=>rw [hx] at e; cases e
    | some y =>
     cases hr:mapO (frz H' 0 n) l with
     | none=>rw [hx,hr] at e; cases e
     | some q=>rw [hx,hr] at e; rw [zLz h n x y hx,ihl q hr]; exact e
  have hg:∀ id B,hget H' id=B→B.live=true→hget H id=B:=fun id B hB hl=>by
   have:=h id B (JN hB hl) hl
   unfold hget; rw [this]
  cases v with
  | lit w =>
   cases w <;> first | exact e | (rename_i a l c; cases a <;> cases l <;> cases c <;> exact e)
  | agg l=>simp only [frz,Option.map_eq_some_iff] at e ⊢; obtain ⟨a,h1,h2⟩:=e; exact ⟨a,ih _ _ h1,h2⟩
  | tup l=>simp only [frz,Option.map_eq_some_iff] at e ⊢; obtain ⟨a,h1,h2⟩:=e; exact ⟨a,ih _ _ h1,h2⟩
  | fn f l=>simp only [frz,Option.map_eq_some_iff] at e ⊢; obtain ⟨a,h1,h2⟩:=e; exact ⟨a,ih _ _ h1,h2⟩
  | ptr id i off =>
   simp only [frz,Nat.not_lt_zero,if_false] at e ⊢
   split at e
   ·rename_i hb
    rw [hg _ _ hb rfl]
    simp only [Option.map_eq_some_iff] at e ⊢
    obtain ⟨a,h1,h2⟩:=e; exact ⟨a,ih _ _ h1,h2⟩
   ·cases e
  | osl id off len =>
   simp only [frz,Nat.not_lt_zero,if_false] at e ⊢
   split at e
   ·rename_i hb
    rw [hg _ _ hb rfl]
    simp only
    split at e
    ·rename_i ht
     simp only [Option.map_eq_some_iff] at e ⊢
     obtain ⟨a,h1,h2⟩:=e; exact ⟨a,ih _ _ h1,h2⟩
    ·cases e
   ·cases e
  | map id =>
   simp only [frz,Nat.not_lt_zero,if_false] at e ⊢
   split at e
   ·rename_i hb
    rw [hg _ _ hb rfl]
    simp only
    split at e
    ·rename_i q1 q2
     rw [ih _ _ q1,ih _ _ q2]; exact e
    ·cases e
   ·cases e
  | _=>exact e
theorem ZB.sub {H' H:List Blk} (h:∀ id B,get H' id=some B→B.live=true→get H id=some B):∀ {l l':List V},ZB H' true l l'→ZB H true l l'
 | _,_,.nil=>.nil
 | _,_,.cons (.shut q) r=>.cons (.shut q) (ZB.sub h r)
 | _,_,.cons (.nil q) r=>.cons (.nil q) (ZB.sub h r)
 | _,_,.cons (.frz q) r=>.cons (.frz (zLz h _ _ _ q)) (ZB.sub h r)
theorem zFo (hC:C.OK) (hss:SS E s I m a w) {i nid:Nat} {e:Eff} {d:Option Yv} (hi:all[i]? = some o) (hd:yM C all o nid s e d) (hlo:s.lo≤nid) (hc:∀ x,d=some x→zFa C e x) (h:∀ I' m' a' w',SS E (s.eff o.dst e) I' m' a' w'→K a' w'):wpOpIn (Wd ρ) 0 C.P all.toArray Q i K a w:=by
 cases hd with
 | skip h1=>exact zNo hi (zb hss.slots h1) (h I m _ w (hss.put Rep.undef))
 | op h1 h2 h3 h4 =>
  obtain ⟨r,w',I',u,g1,g2,g3,g4,g5⟩:=zJX hC hss.sim hss.slots (fun ha=>⟨.inr (h3 ha),hlo⟩) h2
  exact zLf hi (zb hss.slots h1) (zBP h2) g1 g2 (h I' m _ w' ((hss.step g3 g5 (fun _ _ h=>h) (fun _ _ h=>.inl h)).put g4))
 | @bld t n es ps l h1 hop h2 h3 h4 =>
  obtain ⟨dst,op,ty,pos,after,g⟩:=o
  simp only at hop
  subst hop
  obtain ⟨u,w',m',g1,g2,g3⟩:=zKO (dst:=dst) (ty:=ty) (pos:=pos) (after:=after) (g:=g) hC hss h2 h4
  exact zLf hi (zb hss.slots h1) (zBP h2) g1 (.inl rfl) (h I m' _ w' (g2.put g3))
 | ext h1 h2 h3 h4 =>
  obtain ⟨g1,us,g2,g3⟩:=Z9 hss.slots h2
  refine zCG hi (zb hss.slots h1) g1 ((g3 w).trans ((hC.X _ _ _ h4).2 _ w)) ((zEX hC hss (h3.nil' (H:=s.H)) g2 h4 (fun h=>by cases h)).mono ?_)
  rintro e w' ⟨u,rfl,m',hv,hs'⟩
  exact ⟨u,rfl,h I m' _ w' (hs'.put hv)⟩
 | extF h1 h2 h4 h5 h6 h7 =>
  obtain ⟨g1,us,g2,g3⟩:=Z9 hss.slots h2
  refine zCG hi (zb hss.slots h1) g1 ((g3 w).trans ((hC.X _ _ _ h6).2 _ w)) ((zEX hC hss (h5.sub h4.2) g2 h6 (fun _=>h7)).mono ?_)
  rintro e w' ⟨u,rfl,m',hv,hs'⟩
  exact ⟨u,rfl,h I m' _ w' (hs'.put hv)⟩
 | extO h1 h2 h4 h5 h6 =>
  obtain ⟨g1,us,g2,g3⟩:=Z9 hss.slots h2
  refine zCG hi (zb hss.slots h1) g1 ((g3 w).trans (h6.2 _ w)) ((zL2 hss (h5.sub h4.2) g2 h6).mono ?_)
  rintro e w' ⟨u,rfl,m',hv,hs'⟩
  exact ⟨u,rfl,h I m' _ w' (hs'.put hv)⟩
 | @clo f args args' v0 c fn h1 h2 h3 h4 =>
  obtain ⟨g1,us,g2,g3⟩:=Z9 hss.slots h2
  have hc':=hc _ rfl
  refine zCG hi (zb hss.slots h1) g1 ((g3 w).trans ((jE hC h3).2.2.2 _ w)) ((zG8 (T:=fun v' => v'=v0) hC hss h3 rfl (h4.nil' (H:=s.H)) g2 ?_).mono ?_)
  ·intro E I m a w hs
   exact zEo (fun e s1 ⟨v,q1,q2⟩=>⟨v,_,q1,q2,(fun h=>by cases h),rfl⟩) (hc' E I m a w hs)
  ·rintro e' w' ⟨u,rfl,v',m',rfl,hv,hs'⟩
   exact ⟨u,rfl,h I m' _ w' (hs'.put hv)⟩
 | @sub f args v0 c fn H' h1 h2 h3 h4 =>
  obtain ⟨g1,us,g2,g3⟩:=Z9 hss.slots h2
  have hc':=hc _ rfl
  refine zCG hi (zb hss.slots h1) g1 ((g3 w).trans ((jE hC h3).2.2.2 _ w)) ((zGB (T:=fun v' => v'=v0) hC hss h3 rfl h4.sub g2 ?_).mono ?_)
  ·intro E I m a w hs
   exact zEo (fun e s1 ⟨v,q1,q2⟩=>⟨v,_,q1,q2,rfl⟩) (hc' E I m a w hs)
  ·rintro e' w' ⟨u,rfl,v',m',rfl,hv,hs'⟩
   exact ⟨u,rfl,h I m' _ w' (hs'.put hv)⟩
def Binds (o:Oper) (j:Nat):Prop := ∃ e,e∈o.after.toList∧Region.binds .any e=true∧e.on=j
theorem Yx {L:Nat→Prop} (hcl:∀ (j:Nat),L j→∀ (o:Oper),all[j]? = some o→∀ k,Binds o k→L k):∀ (f j i:Nat),JH all f j i=true→(∀ (o:Oper),all[j]? = some o→∀ k,Binds o k→L k)→L i
 | 0,_,_,h,_=>by cases h
 | f+1,j,i,h,hj=>by
  unfold JH at h
  split at h
  ·rename_i oj ho
   rw [zP] at ho
   rw [List.any_eq_true] at h
   obtain ⟨e,he,h⟩:=h
   simp only [Bool.and_eq_true,Bool.or_eq_true] at h
   obtain ⟨h1,h2⟩:=h
   have hL:L e.on:=hj oj ho e.on ⟨e,he,h1,rfl⟩
   rcases h2 with h2 | ⟨_,h2⟩
   ·have:=Nat.eq_of_beq_eq_true h2
    rw [← this]; exact hL
   ·exact Yx hcl f e.on i h2 (hcl e.on hL)
  ·cases h
theorem mem_ready {listed:Array Bool} {i:Nat}:i∈Region.ready .any all.toArray listed↔i<all.length∧listed.getD i true=false∧∃ o,all[i]? = some o∧∀ k,Binds o k→listed.getD k false=true:=by
 unfold Region.ready
 simp only [List.mem_filter,List.mem_range,List.size_toArray,Bool.and_eq_true,Bool.not_eq_true',List.getElem?_toArray]
 constructor
 ·rintro ⟨h1,h2,h3⟩
  refine ⟨h1,h2,all[i],by simp [h1],fun k ⟨e,he,hb,hk⟩=>?_⟩
  have hi:all[i]? = some all[i]:=by simp [h1]
  rw [hi] at h3
  simp only [Option.map_some,Option.getD_some] at h3
  rw [← Array.all_toList,List.all_eq_true] at h3
  have:=h3 e he
  rw [hb] at this
  simp only [Bool.not_true,Bool.false_or] at this
  rw [← hk]; exact this
 ·rintro ⟨h1,h2,o,ho,h3⟩
  refine ⟨h1,h2,?_⟩
  rw [ho]
  simp only [Option.map_some,Option.getD_some]
  rw [← Array.all_toList,List.all_eq_true]
  intro e he
  cases hb:Region.binds .any e with
  | false=>simp
  | true=>simp [h3 e.on ⟨e,he,hb,rfl⟩]
structure Rest (all:List Oper) (R:List Ent) (listed:Array Bool):Prop where
 size:listed.size=all.length
 left:∀ i,i<all.length→(listed[i]? = some false↔∃ x,x∈R∧x.i=i)
 op:∀ x,x∈R→all[x.i]? = some x.o
 closed:∀ (j:Nat),listed[j]? = some true→∀ (o:Oper),all[j]? = some o→∀ k,Binds o k→listed[k]? = some true
 low:∀ x,x∈R→∀ k,Binds x.o k→k<x.i
 pair:R.Pairwise (Ok2 all)
theorem YP {listed:Array Bool} {k:Nat}:listed.getD k false=true↔listed[k]? = some true:=by
 rw [Array.getD_eq_getD_getElem?]
 cases listed[k]? with
 | none=>simp
 | some b=>simp
theorem YD {listed:Array Bool} {k:Nat}:listed.getD k true=false↔listed[k]? = some false:=by
 rw [Array.getD_eq_getD_getElem?]
 cases listed[k]? with
 | none=>simp
 | some b=>simp
theorem zIC (hC:C.OK) {sn:St} {k:List It} {Q:Exit→Act→World→Prop} (hk:∀ (I:Ij) (m:Mem) (a:Act) (w:World),SS E sn I m a w→SA C.P E.ρ Q k .normal a w):∀ (n:Nat) (R:List Ent) (listed:Array Bool) (s:St) (I:Ij) (m:Mem) (a:Act) (w:World),R.length=n→Seq C all R s sn→Rest all R listed→(∀ x,x∈R→s.lo≤x.nid∧∀ d,x.d=some d→zFa C x.e d)→SS E s I m a w→wpAnyIn (Wd E.ρ) 0 C.P .any all.toArray (SA C.P E.ρ Q k) n listed a w
 | 0,[],listed,s,I,m,a,w,_,.nil he,hl,_,hss=>by
  have hnr:Region.ready .any all.toArray listed=[]:=by
   rw [List.eq_nil_iff_forall_not_mem]
   intro i hi
   obtain ⟨h1,h2,_⟩:=mem_ready.1 hi
   obtain ⟨x,hx,_⟩:=(hl.left i h1).1 (YD.1 h2)
   cases hx
  refine ⟨hnr,hk I m a w { hss with slots:=fun t v hv=>hss.slots t v (by rw [← he.K]; exact hv),sim:=by rw [he.H]; exact hss.sim,n:=he.n.trans hss.n,lo:=he.lo.trans hss.lo,rnd:=he.rnd.trans hss.rnd,fx:=by rw [he.H]; exact hss.fx,dfr:=by rw [he.H]; exact hss.dfr }⟩
 | 0,_ :: _,_,_,_,_,_,_,h,_,_,_,_=>by cases h
 | n+1,[],_,_,_,_,_,_,h,_,_,_,_=>by cases h
 | n+1,x0 :: R0,listed,s,I,m,a,w,hn,hseq,hl,hx,hss=>by
  have h0:x0.i∈Region.ready .any all.toArray listed:=by
   have hlt:x0.i<all.length:=(List.getElem?_eq_some_iff.1 (hl.op x0 List.mem_cons_self)).1
   refine mem_ready.2 ⟨hlt,YD.2 ((hl.left _ hlt).2 ⟨x0,List.mem_cons_self,rfl⟩),x0.o,hl.op x0 List.mem_cons_self,fun k hb=>YP.2 ?_⟩
   have hkl:=hl.low x0 List.mem_cons_self k hb
   have hkL:k<all.length:=by omega
   cases hlk:listed[k]? with
   | none=>rw [Array.getElem?_eq_none_iff,hl.size] at hlk; omega
   | some b =>
    cases b with
    | true=>rfl
    | false =>
     obtain ⟨y,hy,hyi⟩:=(hl.left k hkL).1 hlk
     rcases List.mem_cons.1 hy with rfl | hy
     ·omega
     ·have:=(List.rel_of_pairwise_cons hl.pair hy).1
      omega
  refine ⟨fun h=>(by rw [h] at h0; cases h0),fun i hi=>?_⟩
  obtain ⟨h1,h2,o,h3,h4⟩:=mem_ready.1 hi
  obtain ⟨y,hy,hyi⟩:=(hl.left i h1).1 (YD.1 h2)
  have hyo:y.o=o:=by have:=hl.op y hy; rw [hyi,h3] at this; exact (Option.some.inj this).symm
  obtain ⟨pre,post,hR⟩:=List.append_of_mem hy
  rw [hR] at hseq hn hl hx
  have hpw:=List.pairwise_append.1 hl.pair
  have hap:∀ x,x∈pre→Apart all x y:=fun x hxp=>by
   rcases (hpw.2.2 x hxp y List.mem_cons_self).2 with hwt | h
   ·have:=Yx (all:=all) (L:=fun j=>listed[j]? = some true) hl.closed _ _ _ hwt (fun o' ho' k hb=>by
     have:o'=o:=by rw [hyi,h3] at ho'; exact (Option.some.inj ho').symm
     rw [this] at hb
     exact YP.1 (h4 k hb))
    have hxlt:x.i<all.length:=(List.getElem?_eq_some_iff.1 (hl.op x (by simp [hxp]))).1
    have h5:=(hl.left x.i hxlt).2 ⟨x,by simp [hxp],rfl⟩
    rw [this] at h5; cases h5
   ·exact h
  obtain ⟨g1,g2⟩:=pull hseq hap
  have hyy:=hx y (by simp)
  have hio:all[i]? = some y.o:=by rw [hyo]; exact h3
  refine zFo (o:=y.o) hC hss hio g1 hyy.1 hyy.2 fun I' m' a' w' hs' => ?_
  have hinc:∀ z,z∈pre++post→z∈pre++y :: post:=fun z hz=>by
   rcases List.mem_append.1 hz with h | h <;> simp [h]
  have hpair':(pre++post).Pairwise (Ok2 all):=by
   rw [List.pairwise_append]
   exact ⟨hpw.1,(List.pairwise_cons.1 hpw.2.1).2,fun u hu v hv=>hpw.2.2 u hu v (List.mem_cons_of_mem _ hv)⟩
  have hne:∀ z,z∈pre++post→z.i≠i:=fun z hz=>by
   rcases List.mem_append.1 hz with h | h
   ·have:=(hpw.2.2 z h y List.mem_cons_self).1; omega
   ·have:=(List.rel_of_pairwise_cons hpw.2.1 h).1; omega
  have hlen:(pre++post).length=n:=by
   simp only [List.length_append,List.length_cons] at hn ⊢; omega
  have hisz:i<listed.size:=by rw [hl.size]; exact h1
  refine zIC hC hk n (pre++post) _ _ I' m' a' w' hlen g2 ⟨by simpa using hl.size,fun j hj=>?_,fun z hz=>hl.op z (hinc z hz),fun j hj o' ho' k hb=>?_,fun z hz=>hl.low z (hinc z hz),hpair'⟩ (fun z hz=>⟨by rw [qy]; exact (hx z (hinc z hz)).1,(hx z (hinc z hz)).2⟩) hs'
  ·by_cases hji:j=i
   ·subst hji
    simp only [hisz,Array.getElem?_setIfInBounds_self_of_lt,Option.some.injEq,Bool.true_eq_false,false_iff]
    rintro ⟨z,hz,hzi⟩
    exact hne z hz hzi
   ·rw [Array.getElem?_setIfInBounds_ne (fun e=>hji e.symm),hl.left j hj]
    constructor
    ·rintro ⟨z,hz,hzj⟩
     refine ⟨z,?_,hzj⟩
     rcases List.mem_append.1 hz with h | h
     ·exact List.mem_append_left _ h
     ·rcases List.mem_cons.1 h with rfl | h
      ·exact absurd (hzj.symm.trans hyi) hji
      ·exact List.mem_append_right _ h
    ·rintro ⟨z,hz,hzj⟩
     exact ⟨z,hinc z hz,hzj⟩
  ·have key:listed[k]? = some true:=by
    by_cases hji:j=i
    ·subst hji
     have:o'=o:=by rw [h3] at ho'; exact (Option.some.inj ho').symm
     rw [this] at hb
     exact YP.1 (h4 k hb)
    ·rw [Array.getElem?_setIfInBounds_ne (fun e=>hji e.symm)] at hj
     exact hl.closed j hj o' ho' k hb
   by_cases hki:i=k
   ·subst hki
    simp [hisz]
   ·rw [Array.getElem?_setIfInBounds_ne hki]; exact key
theorem zGX {i:Nat}:∀ {l:List Nat},memN i l=true↔i∈l
 | []=>by simp [memN]
 | x :: r=>by
  simp only [memN,Bool.or_eq_true,zGX (l:=r),List.mem_cons]
  constructor
  ·rintro (h | h)
   ·exact .inl (Nat.eq_of_beq_eq_true h).symm
   ·exact .inr h
  ·rintro (h | h)
   ·exact .inl (by rw [h]; simp)
   ·exact .inr h
theorem Jw : ∀ {l l':List Nat},meet l l'=false→∀ x,x∈l→x∉l'
 | [],_,_,_,h,_=>by cases h
 | y :: r,l',h,x,hx,hx' => by
  simp only [meet,Bool.or_eq_false_iff] at h
  rcases List.mem_cons.1 hx with rfl | hx
  ·rw [zGX.2 hx'] at h; cases h.1
  ·exact Jw h.2 x hx hx'
theorem zDe {j:Nat} {rd wr:List Nat}:∀ {log:List (Nat×List Nat×List Nat)},yA all j rd wr log=true→∀ p,p∈log→JH all all.length j p.1=true∨((∀ x,x∈p.2.2→x∉rd)∧(∀ x,x∈p.2.2→x∉wr)∧∀ x,x∈wr→x∉p.2.1)
 | [],_,p,hp=>by cases hp
 | (i,rd',wr') :: r,h,p,hp=>by
  simp only [yA,Bool.and_eq_true,Bool.or_eq_true] at h
  rcases List.mem_cons.1 hp with rfl | hp
  ·rcases h.1 with h1 | h1
   ·right
    simp only [Bool.not_eq_true',Bool.or_eq_false_iff] at h1
    exact ⟨Jw h1.1.1,Jw h1.1.2,Jw h1.2⟩
   ·exact .inl h1
  ·exact zDe h.2 p hp
theorem zCE {j:Nat} {oj:Oper}:∀ {l:List Oper} {i:Nat},zGR all j oj l i=true→∀ k oi,l[k]? = some oi→i+k<j→JH all all.length j (i+k)=true∨((∀ t,oi.dst=some t→t∉qd all oj)∧(∀ t,oi.dst=some t→oj.dst≠some t)∧∀ t,oj.dst=some t→t∉qd all oi)
 | [],_,_,k,oi,hk,_=>by simp at hk
 | x :: r,i,h,k,oi,hk,hj=>by
  simp only [zGR,Bool.and_eq_true,Bool.or_eq_true] at h
  cases k with
  | succ k =>
   have:=zCE h.2 k oi (by simpa using hk) (by omega)
   rwa [show i+1+k=i+(k+1) by omega] at this
  | zero =>
   simp only [List.getElem?_cons_zero,Option.some.injEq] at hk
   subst hk
   rcases h.1 with h1 | h1
   ·have:=Nat.le_of_ble_eq_true h1; omega
   ·rcases h1 with h1 | h1
    ·right
     simp only [Bool.not_eq_true',Bool.or_eq_false_iff] at h1
     refine ⟨fun t ht=>Jw h1.1.1 t (by simp [ht]),fun t ht ht' => Jw h1.1.2 t (by simp [ht]) (by simp [ht']),fun t ht=>Jw h1.2 t (by simp [ht])⟩
    ·exact .inl h1
theorem Yn : ∀ {l:List Oper} {j:Nat},zDW all l j=true→∀ k oj,l[k]? = some oj→(∀ i,Binds oj i→i<j+k)∧zGR all (j+k) oj all 0=true
 | [],_,_,k,oj,hk=>by simp at hk
 | x :: r,j,h,k,oj,hk=>by
  simp only [zDW,Bool.and_eq_true] at h
  cases k with
  | succ k =>
   have:=Yn h.2 k oj (by simpa using hk)
   rwa [show j+1+k=j+(k+1) by omega] at this
  | zero =>
   simp only [List.getElem?_cons_zero,Option.some.injEq] at hk
   subst hk
   refine ⟨fun i ⟨e,he,hb,hi⟩=>?_,h.1.2⟩
   have:=List.all_eq_true.1 h.1.1 e he
   rw [hb] at this
   simp only [Bool.not_true,Bool.false_or] at this
   rw [Nat.blt_eq] at this
   omega
theorem zOk (hreg:zDW all all 0=true) {os:List Oper} {i nid:Nat} {s s':St} {log:List (Nat×List Nat×List Nat)} {es:List (Eff×Option Yv)} (h:DRun C all os i nid s log es s'):∀ (p:List Oper),all=p++os→p.length=i→∀ lo,lo≤nid →
  ∃ R:List Ent,Seq C all R s s'∧(∀ x,x∈R→i≤x.i∧all[x.i]? = some x.o∧lo≤x.nid∧∃ j:Nat,es[j]? = some (x.e,x.d))∧(∀ k,i≤k→k<all.length→∃ x,x∈R∧x.i=k)∧R.Pairwise (Ok2 all) ∧
   (∀ x,x∈R→∀ q,q∈log→JH all all.length x.i q.1=true∨((∀ id,id∈q.2.2→id∉x.rd)∧(∀ id,id∈q.2.2→id∉x.wr)∧∀ id,id∈x.wr→id∉q.2.1)):=by
 induction h with
 | nil =>
  intro p hp hi lo _
  refine ⟨[],.nil (Eqv.rfl' _),(fun x hx=>by cases hx),fun k h1 h2=>?_,List.Pairwise.nil,fun x hx=>by cases hx⟩
  rw [hp] at h2
  simp at h2
  omega
 | @cons o os i nid s s' log e d es hd hlog hrest IH =>
  intro p hp hi lo hlo
  obtain ⟨R,h1,h2,h3,h4,h5⟩:=IH (p++[o]) (by rw [hp]; simp) (by simp [hi]) lo (by cases allocs o.op <;> simp <;> omega)
  have hoi:all[i]? = some o:=by rw [hp,List.getElem?_append_right (by omega),hi]; simp
  let x0:Ent:=⟨i,nid,o,e,d⟩
  refine ⟨x0 :: R,.cons hd h1,fun x hx=>?_,fun k hk1 hk2=>?_,List.pairwise_cons.2 ⟨fun x hx=>?_,h4⟩,fun x hx q hq=>?_⟩
  ·rcases List.mem_cons.1 hx with rfl | hx
   ·exact ⟨Nat.le_refl _,hoi,hlo,0,rfl⟩
   ·obtain ⟨g1,g2,g3,j,g4⟩:=h2 x hx
    exact ⟨by omega,g2,g3,j+1,by simpa using g4⟩
  ·rcases Nat.eq_or_lt_of_le hk1 with rfl | hlt
   ·exact ⟨x0,List.mem_cons_self,rfl⟩
   ·obtain ⟨x,hx,hxk⟩:=h3 k hlt hk2
    exact ⟨x,List.mem_cons_of_mem _ hx,hxk⟩
  ·obtain ⟨g1,g2,g3,_⟩:=h2 x hx
   refine ⟨show i<x.i by omega,?_⟩
   have h6:=h5 x hx (i,rdOf o nid e,Za e.wr) List.mem_cons_self
   have h7:=(Yn hreg x.i x.o g2).2
   rw [Nat.zero_add] at h7
   have h8:=zCE h7 i o hoi (by omega)
   rw [Nat.zero_add] at h8
   rcases h6 with h6 | ⟨h6,h6',h6''⟩
   ·exact .inl h6
   ·rcases h8 with h8 | ⟨h8,h8',h8''⟩
    ·exact .inl h8
    ·exact .inr ⟨h6,h6',h6'',h8,h8',h8''⟩
  ·rcases List.mem_cons.1 hx with rfl | hx
   ·exact zDe hlog q hq
   ·exact h5 x hx q (List.mem_cons_of_mem _ hq)
theorem zFk : ∀ (n k:Nat),get (zl n) k=if k<n then some .free else none
 | 0,_=>by simp [zl,Am.get]
 | n+1,0=>by simp [zl,Am.get]
 | n+1,k+1=>by simp only [zl,Am.get,zFk n k]; simp
theorem zGr (H:List Blk) (n k:Nat):get (H++zl n) k=if k<H.length then get H k else if k<H.length+n then some .free else none:=by
 rw [zP,List.getElem?_append]
 by_cases h:k<H.length
 ·rw [if_pos h,if_pos h,zP]
 ·rw [if_neg h,if_neg h,← zP,zFk]
  by_cases h2:k<H.length+n
  ·rw [if_pos h2,if_pos (by omega)]
  ·rw [if_neg h2,if_neg (by omega)]
theorem zHx {H:List Blk} {n k:Nat} {B:Blk} (h:get (H++zl n) k=some B) (hl:B.live=true):get H k=some B:=by
 rw [zGr] at h
 split at h
 ·exact h
 ·split at h
  ·cases h; cases hl
  ·cases h
theorem SS.room (h:SS E s I m a w) (n:Nat):SS E { s with H:=s.H++zl n } I m a { w with drawn:=w.drawn+1 }:=by
 have hlo:s.lo≤s.H.length:=by rw [h.lo]; exact Nat.le_trans h.lole h.fx.len
 have hL:∀ id,Live (s.H++zl n) id→Live s.H id:=fun id ⟨B,hB,hl⟩=>⟨B,zHx hB hl,hl⟩
 refine h.step (w':={ w with drawn:=w.drawn+1 }) ⟨h.sim.sub,fun id B hB hl=>?_,fun id hid=>?_,fun id f hl hf=>h.sim.off id f (hL id hl) hf,fun i j f g hi hj=>h.sim.inj i j f g (hL i hi) (hL j hj)⟩ ⟨⟨⟨rfl,rfl,rfl,Nat.le_refl _⟩,Nat.le_succ _⟩,fun _ _ _=>rfl,Ij.Le.rfl' _,fun id f h1 h2 h3=>.inr ⟨id,f,h1,hL id h2,h3,rfl⟩,fun id hid=>?_,by simp⟩ (fun _ _ h=>h) (fun _ _ h=>.inl h)
 ·obtain ⟨f,h1,h2⟩:=h.sim.blk id B (zHx hB hl) hl
  exact ⟨f,h1,h2.mono (fun _ _ h=>h) (Ij.Le.rfl' _) rfl⟩
 ·refine h.sim.free id ?_
  rw [zGr] at hid
  by_cases hk:id<s.H.length
  ·rw [if_pos hk] at hid; exact hid
  ·exact .inl (ja.2 (by omega))
 ·rw [zGr,if_pos (by omega)]
theorem zH7 (hC:C.OK) (hss:SS E s I m a w) {id:Nat} {ops:Array Oper} {k:List It} {sn:St} {Q:Ex→St→Prop} {es:List (Eff×Option Yv)} (hreg:zAI ops.toList=true) (hrun:DRun C ops.toList ops.toList 0 s.H.length { s with H:=s.H++zl (YV ops.toList) } [] es sn)
  (IH1:∀ (i:Nat) (e:Eff) (d:Yv),es[i]? = some (e,some d)→∀ (E:Env) (I:Ij) (m:Mem) (a:Act) (w:World),SS E (St.call d.fn d.args d.H d.H.length) I m a w→SA C.P E.ρ (QA E (fun x s1 => ∃ v,finA C d.fn x s1=some v∧Q5 s1 v e.v)) [.code d.c] .normal a w)
  (IH2:∀ (I:Ij) (m:Mem) (a:Act) (w:World),SS E sn I m a w→SA C.P E.ρ (QA E Q) k .normal a w):SA C.P E.ρ (QA E Q) (.code (.region id ops true) :: k) .normal a w:=by
 unfold zAI at hreg
 rw [Bool.and_eq_true] at hreg
 have hlo:s.lo≤s.H.length:=by rw [hss.lo]; exact Nat.le_trans hss.lole hss.fx.len
 obtain ⟨R,h1,h2,h3,h4,_⟩:=zOk hreg.2 hrun [] rfl rfl s.lo hlo
 refine wpIn_region_any hC.mixed ?_
 have hlen:R.length=ops.size:=by
  have hmap:(R.map (·.i)).Pairwise (· < ·):=by
   rw [List.pairwise_map]
   exact h4.imp fun h=>h.1
  have hperm:(R.map (·.i)).Perm (List.range ops.toList.length):=by
   refine (List.perm_ext_iff_of_nodup (hmap.imp fun h=>Nat.ne_of_lt h) List.nodup_range).2 fun x=>?_
   rw [List.mem_map,List.mem_range]
   constructor
   ·rintro ⟨y,hy,rfl⟩
    exact (List.getElem?_eq_some_iff.1 (h2 y hy).2.1).1
   ·intro hx
    obtain ⟨y,hy,h⟩:=h3 x (Nat.zero_le _) hx
    exact ⟨y,hy,h⟩
  have:=hperm.length_eq
  simpa using this
 have:=zIC (all:=ops.toList) (E:=E) hC (fun I m a w h=>IH2 I m a w h) ops.size R (Array.replicate ops.size false) _ I m a _ hlen h1 ⟨by simp,fun i hi=>?_,fun x hx=>(h2 x hx).2.1,fun j hj=>?_,fun x hx i hb=>?_,h4⟩ (fun x hx=>⟨(h2 x hx).2.2.1,fun d hd=>?_⟩) (hss.room (YV ops.toList))
 ·simpa only [Array.toArray_toList] using this
 ·have hi':i<ops.size:=by simpa using hi
  simp only [Array.getElem?_replicate,hi',if_true,true_iff]
  exact h3 i (Nat.zero_le _) hi
 ·rw [Array.getElem?_replicate] at hj
  split at hj <;> cases hj
 ·have:=(Yn hreg.2 x.i x.o (h2 x hx).2.1).1 i hb
  omega
 ·obtain ⟨j,hj⟩:=(h2 x hx).2.2.2
  rw [hd] at hj
  exact IH1 j x.e d hj
end
end Go.Am
namespace Go.Am
open Go Go.Wk Go.RowKit
section
variable {C:Cfg}
theorem zLg (hC:C.OK) {E:Env} {s:St} {I:Ij} {m:Mem} {a:Act} {w:World} {Q:Exit→Act→World→Prop} {all os:List Oper} {o:Oper} {e:Eff} (hss:SS E s I m a w) (hw:wants all s.K o.guard=some true) (he:zM C s.K s.H s.lo s.H.length o.op=some e)
  (h:∀ I' a' w',SS E (s.eff o.dst e) I' m a' w'→wpListIn (Wd E.ρ) 0 C.P all.toArray Q os a' w'):wpListIn (Wd E.ρ) 0 C.P all.toArray Q (o :: os) a w:=by
 have hlo:s.lo≤s.H.length:=by rw [hss.lo]; exact Nat.le_trans hss.lole hss.fx.len
 obtain ⟨r,w',I',u,h1,h2,h3,h4,h5⟩:=zJX hC hss.sim hss.slots (fun _=>⟨.inl rfl,hlo⟩) he
 refine zBO (zb hss.slots hw) (zBP he) h1 h2 ?_
 exact h I' _ w' ((hss.step h3 h5 (fun _ _ h=>h) (fun _ _ h=>.inl h)).put h4)
theorem zOS (hC:C.OK) {k:List It} {s:St} {Q:Ex→St→Prop} (h:Gm C k s Q):∀ (E:Env) (I:Ij) (m:Mem) (a:Act) (w:World),SS E s I m a w→SA C.P E.ρ (QA E Q) k .normal a w:=by
 induction h with
 | nil h=>exact fun E I m a w hs=>⟨_,I,m,h,hs⟩
 | drop K hK h IH=>exact fun E I m a w hs=>IH E I m a w { hs with slots:=fun t v hv=>hs.slots t v (hK t v hv),sim:=hs.sim,n:=hs.n,lo:=hs.lo,rnd:=hs.rnd,fx:=hs.fx,dfr:=hs.dfr }
 | cut Q1 kp K H _ hc hr _ _ hx IH1 IH2 IH3=>exact fun E I m a w hs=>zOo hs (IH1 E I m a w hs) hc hr (fun s1 h I m a w hs=>IH2 s1 h E I m a w hs) (fun id k' s1 h1 h2 I m a w hs=>IH3 id k' s1 h1 h2 E I m a w hs) hx
 | skip h IH=>exact fun E I m a w hs=>wpIn_skip (IH E I m a w hs)
 | label h IH=>exact fun E I m a w hs=>wpIn_label (IH E I m a w hs)
 | seq h IH=>exact fun E I m a w hs=>wpIn_seq (IH E I m a w hs)
 | zCZ hc h IH=>exact fun E I m a w hs=>wpIn_cond_true (ZA hs.slots hc).lit (IH E I m a w hs)
 | zCa hc h IH=>exact fun E I m a w hs=>wpIn_cond_false (ZA hs.slots hc).lit (IH E I m a w hs)
 | block h IH=>exact fun E I m a w hs=>wpIn_block (IH E I m a w hs)
 | endB h IH=>exact fun E I m a w hs=>IH E I m a w hs
 | loop h IH=>exact fun E I m a w hs=>zDu (IH E I m a w hs)
 | inLoop h IH=>exact fun E I m a w hs=>zGl (IH E I m a w hs)
 | exit hp h IH=>exact fun E I m a w hs=>wpIn_exit (by rw [Qj,hp]; exact IH E I m a w hs)
 | zF3 hp h=>exact fun E I m a w hs=>wpIn_exit (by rw [Qj,hp]; exact ⟨_,I,m,h,hs⟩)
 | ret h=>exact fun E I m a w hs=>wpIn_ret (by rw [zCc]; exact ⟨_,I,m,h,hs⟩)
 | region h IH=>exact fun E I m a w hs=>wpIn_region_list (by have:=IH E I m a w hs; simpa only [SA,Exit.then] using this)
 | za h IH=>exact fun E I m a w hs=>IH E I m a w hs
 | zGT hw h IH=>exact fun E I m a w hs=>zJV (zb hs.slots hw) (IH E I m _ w (hs.put Rep.undef))
 | op hw he h IH=>exact fun E I m a w hs=>zLg hC hs hw he fun I' a' w' hs' => IH E I' m a' w' hs'
 | ext hw hc hca hX hfl h IH =>
  intro E I m a w hs
  obtain ⟨h1,us,h2,h3⟩:=Z9 hs.slots hc
  refine Jl (zb hs.slots hw) h1 ((h3 w).trans ((hC.X _ _ _ hX).2 _ w)) ((zEX hC hs hca h2 hX hfl).mono ?_)
  rintro e w' ⟨u,rfl,m',hv,hs'⟩
  exact ⟨u,rfl,IH E I m' _ w' (hs'.put hv)⟩
 | clo T hw hc hb hca _ _ IH1 IH2 =>
  intro E I m a w hs
  obtain ⟨h1,us,h2,h3⟩:=Z9 hs.slots hc
  refine Jl (zb hs.slots hw) h1 ((h3 w).trans ((jE hC hb).2.2.2 _ w)) ((zG8 hC hs hb rfl hca h2 IH1).mono ?_)
  rintro e w' ⟨u,rfl,v',m',hT,hv,hs'⟩
  exact ⟨u,rfl,IH2 v' hT E I m' _ w' (hs'.put hv)⟩
 | sub T hw hc hb hsub _ _ IH1 IH2 =>
  intro E I m a w hs
  obtain ⟨h1,us,h2,h3⟩:=Z9 hs.slots hc
  refine Jl (zb hs.slots hw) h1 ((h3 w).trans ((jE hC hb).2.2.2 _ w)) ((zGB hC hs hb rfl hsub h2 IH1).mono ?_)
  rintro e w' ⟨u,rfl,v',m',hT,hv,hs'⟩
  exact ⟨u,rfl,IH2 v' hT E I m' _ w' (hs'.put hv)⟩
 | im T hw hc hb _ _ IH1 IH2 =>
  intro E I m a w hs
  obtain ⟨h1,us,h2,h3⟩:=Z9 hs.slots hc
  refine Jl (zb hs.slots hw) h1 ((h3 w).trans ((jE hC hb).2.2.2 _ w)) ((zLu hC hs hb rfl h2 IH1).mono ?_)
  rintro e w' ⟨u,rfl,v,H',I',m',hT,hv,hs'⟩
  exact ⟨u,rfl,IH2 v H' hT E I' m' _ w' (hs'.put hv)⟩
 | next hop hw hx hg hlo _ _ IH1 IH2=>exact fun E I m a w hs=>zHr hC hs hop hw hx hg hlo (fun h I m a w hs=>IH1 h E I m a w hs) (fun j kv vv h1 h2 h3 I m a w hs=>IH2 j kv vv h1 h2 h3 E I m a w hs)
 | yld T1 T2 hw hc hg hK hps hlo _ _ _ IH1 IH2 IH3 =>
  intro E I m a w hs
  obtain ⟨h1,f,us,h2,h3,h4⟩:=zHB hs.slots hc
  obtain ⟨fn,tmps,h5,h6⟩:=zI8 hC hs h2 h3 hg hK hps hlo IH1 IH2
  refine zHm (zb hs.slots hw) h1 ((h4 w).trans h5) (h6.mono ?_)
  rintro e w' ⟨u,rfl,s3,I',m',hT,hs3⟩
  exact ⟨u,rfl,IH3 s3 hT E I' m' _ w' hs3⟩
 | range T hg hb hro _ _ IH1 IH2=>exact fun E I m a w hs=>zGM hC hs hg hb hro IH1 (fun p hp=>IH2 p hp E)
 | draw es hreg hrun hcalls hk IH1 IH2=>exact fun E I m a w hs=>zH7 hC hs hreg hrun IH1 (IH2 E)
end
end Go.Am
