/- What is left of an own slice from a place on (a queue). Conditions: none. -/
import Derived.Test.YtmebbbblomlgdaaGreatOwn
set_option linter.unusedVariables false
set_option linter.unusedSimpArgs false
namespace Go.Am
open Go Go.Wk Go.RowKit Go.Mx
namespace X
section
variable {C:Cfg} {K:List (Nat×V)} {H:List Blk} {lo nid:Nat}
end
end X
end Go.Am
namespace Go.Am
open Go Go.Wk Go.RowKit Go.Mx
namespace X
end X
end Go.Am
namespace Go.Am
open Go Go.Wk Go.RowKit Go.Mx
namespace X
end X
end Go.Am
namespace Go.Am
open Go Go.Wk Go.RowKit Go.Mx
namespace X
end X
end Go.Am
namespace Go.Am
open Go Go.Wk Go.RowKit Go.Mx
namespace X
theorem zB9 : ∀ (H:List Blk) (B:Blk),hput H H.length B=H++[B]
  | [],B=>rfl
  | x :: r,B=>by simp only [List.length_cons,hput,zB9 r B,List.cons_append]
theorem appNilS {C:Cfg} {N:Nat} {all os:List Oper} {k:List It} {K:List (Nat×V)} {H H':List Blk} {lo n:Nat} {rnd:Option Nat} {Q:Ex→St→Prop} {d:Nat} {ty:TypeId} {pos:String} {after:Array Edge} {g:Option (Nat×Bool)} {α:Type} {f:α→V} {xs r:List α} {t e es:Nat} {T Te:TI} {xo yo:Operand} {yv:V} {rd:List Nat} {m:Nat} (hL:H.length=m) (hm:app [] xs=some r) (hs:∀ a,YP Te (f a)=true) (hw:wants all K g=some true) (hT:C.ty t=some T) (hk:T.kd = .slice e es) (hTe:C.ty e=some Te) (hes:Te.size=es) (hby:Nat.ble Te.bytes 4096=true) (hx:kev K xo=some .nil) (hy:kev K yo=some yv) (hr:rowsOf H yv=some (xs.map f,rd)) (hd:Nat.blt d n=true) (hH':H++[obl es f r]=H')
    (h:GS C N (.ops all os :: k) ⟨(d,ovl m r) :: K,H',lo,rnd,n⟩ Q):GS C N (.ops all (⟨some d,.call ⟨.builtin .append,#[xo,yo],#[t,t]⟩,ty,pos,after,g⟩ :: os) :: k) ⟨K,H,lo,rnd,n⟩ Q:=by
  subst hH' hL
  cases xs with
  | nil =>
    obtain ⟨_,rfl⟩:=zCd hm
    have he:zS C K H lo H.length (.call ⟨.builtin .append,#[xo,yo],#[t,t]⟩)=some ⟨.nil,[],rd⟩:=by
      have ht:Nat.beq t t=true:=Nat.beq_refl t
      simp [zS,jA,kevs,hx,hy,jo,zBL,ht,Jq,hT,hk,hTe,qI,hr,zHv,V.nil]
    exact opR hw he hd (GS.pad h)
  | cons a xs =>
    refine opW hw (zMH hm hs hT hk hTe hes hby hx hy hr) ?_ hd ?_ (H':=H++[.rows es (r.map f)])
    · simp only [puts,zB9]
    · have hne : r ≠ [] := Z6 hm
      have e1:ovl H.length r = .osl H.length 0 r.length:=zHf hne
      have e2:obl es f r = .rows es (r.map f):=zC9 hne
      rw [e1,e2] at h
      exact h
theorem zFY {C:Cfg} {K:List (Nat×V)} {H:List Blk} {lo nid:Nat} {α:Type} {f:α→V} {n m:Int} {y:α} {l:List α} {t e es:Nat} {T Te:TI} {xo yo:Operand} (hm:mkS n m y=some l) (hT:C.ty t=some T) (hk:T.kd = .slice e es) (hTe:C.ty e=some Te) (hes:Te.size=es) (hz:Te.zero=f y) (hby:Nat.ble Te.bytes 4096=true) (hx:kev K xo=some (.i n)) (hy:kev K yo=some (.i m)) :
    zS C K H lo nid (.makeSlice t xo yo)=some ⟨.osl nid 0 l.length,[(nid,.rows es (l.map f))],[nid]⟩:=by
  unfold mkS at hm
  split at hm
  · rename_i h
    cases hm
    have hby':Te.bytes≤4096:=Nat.le_of_ble_eq_true hby
    simp only [zS,zAP,Jq,hT,hk,hTe,hx,hy]
    rw [if_pos ⟨h.1,h.2.1,h.2.2,hby'⟩,hz,hes]
    simp
  · cases hm
end X
mutual
def zJQ : V→V
  | .sl _=>.uns
  | .agg l=>.agg (zKq l)
  | .tup l=>.tup (zKq l)
  | v=>v
def zKq : List V→List V
  | []=>[]
  | v :: r=>zJQ v :: zKq r
end
mutual
theorem zH1 {m:Mem} {I:Ij}:∀ (v:V) {u:Value},Rep m v I u→Rep m (zJQ v) I u
  | .sl _,u,h=>by unfold Rep at h; obtain ⟨ad,cap,_,rfl,_⟩:=h; unfold zJQ Rep; exact ⟨_,_,_,rfl⟩
  | .agg l,u,h=>by unfold Rep at h; obtain ⟨us,rfl,h1,h2⟩:=h; unfold zJQ Rep; exact ⟨us,rfl,h1,zDy l h2⟩
  | .tup l,u,h=>by unfold Rep at h; obtain ⟨us,rfl,h2⟩:=h; unfold zJQ Rep; exact ⟨us,rfl,zDy l h2⟩
  | .lit _,u,h=>h
  | .ptr _ _ _,u,h=>h
  | .fptr _ _ _,u,h=>h
  | .osl _ _ _,u,h=>h
  | .fn _ _,u,h=>h
  | .yld _,u,h=>h
  | .map _,u,h=>h
  | .fmap _ _,u,h=>h
  | .uns,u,h=>h
theorem zDy {m:Mem} {I:Ij}:∀ (l:List V) {us:List Value},RepL m l I us→RepL m (zKq l) I us
  | [],us,h=>h
  | v :: r,us,h=>by
    unfold RepL at h
    obtain ⟨u,us',rfl,h1,h2⟩:=h
    unfold zKq RepL
    exact ⟨u,us',rfl,zH1 v h1,zDy r h2⟩
end
theorem Ct.mask {P:Program} {f:Nat} {args:List V} {v:V} (h:Ct P f args v):Ct P f args (zJQ v):=⟨fun m w us hm hr=>(h.1 m w us hm hr).mono fun e w' ⟨u,m',h1,h2,h3,h4,h5,h6⟩=>⟨u,m',h1,h2,h3,h4,h5,zH1 v h6⟩,h.2⟩
end Go.Am
