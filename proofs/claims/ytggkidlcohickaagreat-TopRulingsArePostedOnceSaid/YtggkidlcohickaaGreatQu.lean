/- What is left of an own slice from a place on (a queue). Conditions: none. -/
import Derived.Test.YtggkidlcohickaaGreatOwn
set_option linter.unusedVariables false
set_option linter.unusedSimpArgs false
namespace Go.Am
open Go Go.Wk Go.RowKit Go.Mx
abbrev oqv {α:Type} (id:Nat) (l:List α) (a:Int):V:=.osl id a.toNat (l.drop a.toNat).length
namespace X
section
variable {C:Cfg} {K:List (Nat×V)} {H:List Blk} {lo nid:Nat}
theorem lenQ {α:Type} {l:List α} {a:Int} {xo:Operand} {t id:Nat} {T:TI} {e es:Nat} (hT:C.ty t=some T) (hk:T.kd = .slice e es) (hx:kev K xo=some (oqv id l a)):zM C K H lo nid (.call ⟨.builtin .len,#[xo],#[t]⟩)=some ⟨.i ((l.drop a.toNat).length:Nat),[],[]⟩:=by
  simp [zM,Zd,kevs,hx,Z0,zAC,hT,hk,Am.lenS]
theorem oqv_put {α:Type} {id:Nat} {l:List α} {a i:Int} {x:α}:oqv id l a=oqv id (Mx.put l i x) a:=by simp [Mx.put]
theorem zIk {α:Type} {l:List α} {a m:Int} {y:α} (hm:ix (l.drop a.toNat) m=some y):ix l ((a.toNat:Int)+m)=some y:=by
  obtain ⟨h0,h1,h2⟩:=zBn hm
  unfold ix
  rw [if_pos (by omega)]
  rw [List.getElem?_drop] at h2
  rw [← h2]; congr 1; omega
theorem indexQ {α:Type} {f:α→V} {l:List α} {y:α} {a:Int} {t id:Nat} {xo io:Operand} {T:TI} {e es:Nat} {m:Int} {ik:IntKind} (hm:ix (l.drop a.toNat) m=some y) (hT:C.ty t=some T) (hk:T.kd = .slice e es) (hx:kev K xo=some (oqv id l a)) (hi:kev K io=some (.lit (.int ik m))) (hH:hget H id = .rows es (l.map f)):zM C K H lo nid (.indexAddr t xo io)=some ⟨.ptr id ((a.toNat:Int)+m).toNat 0,[],[id]⟩:=by
  obtain ⟨h0,h1,h2⟩:=zBn hm
  have e5:((a.toNat:Int)+m).toNat=a.toNat+m.toNat:=by omega
  have h3:a.toNat+m.toNat<l.length:=by rw [List.length_drop] at h1; omega
  have h4:m<((l.length - a.toNat:Nat):Int):=by rw [List.length_drop] at h1; exact h1
  rw [e5]
  simp [zM,jV,hT,hx,hi,zBW,hk,h0,h4,hH]
theorem sliceQ {α:Type} {f:α→V} {l:List α} {a b x:Int} {t id:Nat} {xo lo1:Operand} {T Te:TI} {e es:Nat} (hm:qsl l a x=some b) (hT:C.ty t=some T) (hk:T.kd = .slice e es) (hTe:C.ty e=some Te) (hes:Te.size=es) (hx:kev K xo=some (oqv id l a)) (hH:hget H id = .rows es (l.map f)) (h1:jY K (some lo1) 0=some x):zM C K H lo nid (.slice t xo (some lo1) none none)=some ⟨oqv id l b,[],[id]⟩:=by
  unfold qsl at hm
  split at hm
  · rename_i hc
    cases hm
    obtain ⟨q0,q1⟩:=hc
    simp only [zM,YE,Z5,hT,hk,hTe,hx]
    rw [hes]
    unfold YS
    simp only [Am.lenS,h1,zAV,Option.isSome_none,Bool.false_and,Bool.false_eq_true,if_false,zAY,hH]
    rw [if_pos ⟨q0,by rw [List.length_drop]; omega,by rw [List.length_map,List.length_drop]; omega,by simp⟩]
    have e1:((a.toNat:Int)+x).toNat=a.toNat+x.toNat:=by omega
    have e2:((List.drop a.toNat l).length:Int).toNat - x.toNat=(List.drop ((a.toNat:Int)+x).toNat l).length:=by
      rw [e1,List.length_drop,List.length_drop]; omega
    rw [e2,← e1]
  · cases hm
theorem zIn {α:Type} {z:Bool} {f:α→V} {l:List α} {y:α} {a:Int} {t id:Nat} {xo io:Operand} {T:TI} {e es:Nat} {m:Int} {ik:IntKind} (hm:ix (l.drop a.toNat) m=some y) (hT:C.ty t=some T) (hk:T.kd = .slice e es) (hx:kev K xo=some (oqv id l a)) (hi:kev K io=some (.lit (.int ik m))) (hH:hget H id=oblz z es f l):zM C K H lo nid (.indexAddr t xo io)=some ⟨.ptr id ((a.toNat:Int)+m).toNat 0,[],[id]⟩ :=
  indexQ (f:=f) hm hT hk hx hi (hH.trans (Yi (by rintro rfl; simp [ix] at hm)))
theorem sliceQN {α:Type} {z:Bool} {f:α→V} {l:List α} {b x:Int} {t id:Nat} {xo lo1:Operand} {T Te:TI} {e es:Nat} (hm:qslN l x=some b) (hT:C.ty t=some T) (hk:T.kd = .slice e es) (hTe:C.ty e=some Te) (hes:Te.size=es) (hx:kev K xo=some (ovlz z id l)) (hH:hget H id=oblz z es f l) (h1:jY K (some lo1) 0=some x):zM C K H lo nid (.slice t xo (some lo1) none none)=some ⟨oqv id l b,[],[id]⟩:=by
  unfold qslN at hm
  split at hm
  · rename_i hc
    have hne:l≠[]:=by rintro rfl; simp at hc
    have e0:ovlz z id l=oqv id l 0:=by rw [zAg hne]; simp
    refine sliceQ (f:=f) (a:=0) ?_ hT hk hTe hes (hx.trans (by rw [e0])) (hH.trans (Yi hne)) h1
    unfold qsl
    rw [if_pos ⟨hc.2.1,by have:=hc.2.2; simp; omega⟩]
    rw [← hm]; simp
  · cases hm
end
end X
end Go.Am
namespace Go.Am
open Go Go.Wk Go.RowKit Go.Mx
namespace X
end X
end Go.Am
namespace Go.Am
open Go Go.Wk Go.RowKit Go.Mx
namespace X
end X
end Go.Am
namespace Go.Am
open Go Go.Wk Go.RowKit Go.Mx
namespace X
theorem zNC {C:Cfg} {k:List It} {K:List (Nat×V)} {H:List Blk} {lo n id es:Nat} {rnd:Option Nat} {Q:Ex→St→Prop} {α:Type} {f:α→V} {r s:List α} (d:Nat) (hd:kget K d=some (.osl id 0 (List.length r))) (hg:hget H id = .rows es ((r++s).map f)) (hlo:Nat.ble lo id=true) (hsh:∀ x,shut 9 (f x)=true)
    (h:GS C 0 k ⟨(d,.sl (r.map f)) :: K,hput H id .dead,lo,rnd,n⟩ Q):GS C 0 k ⟨K,H,lo,rnd,n⟩ Q:=by
  have ht:((r++s).map f).take r.length=r.map f:=by rw [List.map_append,List.take_left' (by simp)]
  have h2:=GS.freeze (C:=C) (k:=k) (K:=K) (d:=d) (len:=r.length) (rnd:=rnd) (n:=n) (Q:=Q) hg (Nat.le_of_ble_eq_true hlo) (by simp) (by rw [ht]; intro v hv; obtain ⟨x,_,rfl⟩:=List.mem_map.1 hv; exact hsh x) (by rw [ht]; exact h)
  refine GS.drop ((d,.osl id 0 r.length) :: K) (fun t v hv=>?_) h2
  simp only [kget] at hv
  by_cases ed:d=t
  · subst ed
    simp only [Nat.beq_refl,cond_true,Option.some.injEq] at hv
    subst hv
    exact hd
  · rw [zAk ed] at hv
    exact hv
end X
end Go.Am
namespace Go.Am
open Go Go.Wk Go.RowKit Go.Mx
namespace X
theorem ql : ∀ (H:List Blk) (B:Blk),hput H H.length B=H++[B]
  | [],B=>rfl
  | x :: r,B=>by simp only [List.length_cons,hput,ql r B,List.cons_append]
theorem appNS {C:Cfg} {N:Nat} {all os:List Oper} {k:List It} {K:List (Nat×V)} {H H':List Blk} {lo n:Nat} {rnd:Option Nat} {Q:Ex→St→Prop} {d:Nat} {ty:TypeId} {pos:String} {after:Array Edge} {g:Option (Nat×Bool)} {α:Type} {z:Bool} {f:α→V} {l xs r:List α} {t e es id:Nat} {T Te:TI} {xo yo:Operand} {yv:V} {rd:List Nat} {m:Nat} (hL:H.length=m) (hm:app l xs=some r) (hs:∀ a,Jr Te (f a)=true) (hw:wants all K g=some true) (hT:C.ty t=some T) (hk:T.kd = .slice e es) (hTe:C.ty e=some Te) (hes:Te.size=es) (hby:Nat.ble Te.bytes 4096=true) (hx:kev K xo=some (ovlz z id l)) (hH:hget H id=oblz z es f l) (hid:Nat.blt id H.length=true) (hlo:Nat.ble lo id=true) (hy:kev K yo=some yv) (hr:rowsOf H yv=some (xs.map f,rd)) (hd:Nat.blt d n=true) (hH':hput H id .dead++[oblz z es f r]=H')
    (h:GS C N (.ops all os :: k) ⟨(d,ovlz z m r) :: K,H',lo,rnd,n⟩ Q):GS C N (.ops all (⟨some d,.call ⟨.builtin .append,#[xo,yo],#[t,t]⟩,ty,pos,after,g⟩ :: os) :: k) ⟨K,H,lo,rnd,n⟩ Q:=by
  subst hH' hL
  have hidl:id<H.length:=by simpa [Nat.blt_eq] using hid
  have hlen:(hput H id .dead).length=H.length:=by rw [zq _ _ _ (Nat.le_of_lt hidl)]; omega
  have hend:∀ B:Blk,puts H [(id,.dead),(H.length,B)]=hput H id .dead++[B]:=fun B=>by
    simp only [puts]
    have:=ql (hput H id .dead) B
    rw [hlen] at this; exact this
  cases xs with
  | cons a xs =>
    have hne:r≠[]:=by
      obtain ⟨_,rfl⟩:=yS hm
      simp
    refine appN hm hs hw hT hk hTe hes hby hx hH hid hlo hy hr hd (hend _) ?_
    rw [← zAg (z:=z) (id:=H.length) hne,← Yi (z:=z) (es:=es) (f:=f) hne]
    exact h
  | nil =>
    obtain ⟨hmax,e0⟩:=yS hm
    rw [List.append_nil] at e0
    subst e0
    rcases Ju z id es f r with ⟨rfl,rfl⟩ | ⟨e1,e2⟩
    · have ht : Nat.beq t t = true := Nat.beq_refl t
      have he:zM C K H lo H.length (.call ⟨.builtin .append,#[xo,yo],#[t,t]⟩)=some ⟨.nil,[],rd⟩:=by
        simp only [zM,Zd,kevs,hx,hy,Z0,Yb,ht,_root_.cond_true,Z5,hT,hk,hTe,yt,hr,List.map_nil,zEF,ovlz]
      refine opR hw he hd (GS.pad ?_)
      rw [show hput H id Blk.dead=H from qL hH hid] at h
      exact h
    · rw [e2] at hH
      rw [e1] at hx
      have e3:ovlz z H.length r = .osl H.length 0 r.length:=by
        rcases Ju z H.length es f r with ⟨rfl,rfl⟩ | ⟨e3,_⟩
        · cases e1
        · exact e3
      refine opW hw (appO (l:=r) (xs:=[]) (r:=r) hm hs hT hk hTe hes hby hx hH hlo hy hr) (hend _) hd ?_
      rw [← e3,← e2]
      exact h
end X
end Go.Am
