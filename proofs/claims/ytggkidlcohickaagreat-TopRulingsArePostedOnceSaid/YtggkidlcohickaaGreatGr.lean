/- slices.Grow of no slice, by the kit's summary, as a contract of this layer: an own slice without elements. -/
import Derived.Shelf.Spec.SlicesGrow
import Derived.Test.YtggkidlcohickaaGreatOwn
import Derived.Test.YtggkidlcohickaaGreatAw
set_option linter.unusedVariables false
set_option linter.unusedSimpArgs false
namespace Go.Am
open Go Go.Proofs Go.Wk Go.RowKit Go.Mx Go.Shelf
namespace X
theorem zOQ {α:Type} {f:α→V} {es:Nat} {P:Program} {ρ:Ren} (L:Lays8.n4 P ρ) {F n:Nat} (hF:ρ.f 4=F) (i0:TypeInfo) (z:Value) (hi0:P.info? (ρ.t 25)=some i0) (hz0:i0.zero=some z) (hz1:z.cells.size=es) (hs0:i0.size=es) (hes:0<es) (hn:n*i0.bytes≤140737488355328) (hn2:n≤4294967296)
  (en:∀ (args:Array Value) (w:World),(callFunc F args).run P w = .ok (.enter F args) w):zBq P F [V.nil,V.i (n:Nat)] (fun z=>ovlz z 0 ([]:List α)) (fun z=>oblz z es f ([]:List α)):=by
 subst hF
 refine ⟨fun m w us hm hr=>?_,en⟩
 unfold RepL at hr
 obtain ⟨u,us',rfl,hu,hus⟩:=hr
 unfold RepL at hus
 obtain ⟨u2,us2,rfl,hu2,hus2⟩:=hus
 unfold RepL at hus2
 subst hus2
 have hu:=hu.lit
 have hu2:=hu2.lit
 subst hu hu2
 rcases Nat.eq_zero_or_pos n with rfl | hpos
 ·refine (Any8.slices_Grow_room L none 0 0 0 w (Nat.le_refl 0) (by decide) (by decide) (Nat.le_refl 0)).mono ?_
  rintro e w' ⟨rfl,rfl⟩
  refine ⟨true,_,m,Ij.none,rfl,Xt.rfl' _,fun k o h=>h,fun k o h=>.inl h,⟨hm,fun id B hB hl=>?_,fun _ _=>rfl,(fun id f h hI=>by cases hI),(fun i j f g hi hj hI=>by cases hI)⟩,(fun g h=>by cases h),Rep.zBR (fun c q=>by cases q)⟩
  have:B = .dead:=by
   cases id with
   | zero=>simpa [Am.get,oblz] using hB.symm
   | succ id=>simp [Am.get,oblz] at hB
  rw [this] at hl; cases hl
 ·refine (Any8.slices_Grow_grow L i0 z hi0 hz0 (by omega) none 0 0 n [] w (Nat.le_refl 0) (by omega) (by simpa using hn) (by omega) (by simp) (fun _=>rfl) (fun a h=>by cases h)).mono ?_
  rintro e w' ⟨rfl,rfl⟩
  have hc1:=grownCap_ge w (0+n) 0 (ρ.t 25)
  have hc2:=grownCap_le_maxLen w (0+n) 0 (ρ.t 25) (by unfold maxLen; omega)
  generalize hcap:grownCap w (0+n) 0 (ρ.t 25)=cap at hc1 hc2
  have hsize:([].toArray++Builtin.zeroCells z.cells (0+n - 0)++Builtin.zeroCells z.cells (cap - (0+n))).size=cap*es:=by
   simp only [Array.size_append,Builtin.zeroCells,Array.size_map,Array.size_range,hz1]
   have:cap=n+(cap - n):=by omega
   simp only [List.size_toArray,List.length_nil,Nat.zero_add,Nat.sub_zero]
   rw [← Nat.add_mul]
   congr 1
   omega
  have hnew:∀ o:Obj,(w.drew.alloc o).heap=w.heap.push o:=fun o=>rfl
  refine ⟨false,_,m,fun id=>if id=0 then some ⟨w.heap.size,0,es,cap⟩ else none,rfl,⟨(Below.drew (Below.refl _ _)).alloc (Nat.le_refl _) _,Nat.le_succ _⟩,fun k o h=>h,fun k o h=>.inl h,⟨fun k o hk=>?_,fun id B hB hl=>?_,fun id hid=>?_,fun id f hl hI=>?_,fun i j f g hi hj hI hJ _=>?_⟩,fun g h _=>?_,?_⟩
  ·have hk:=hm k o hk
   show (w.heap.push _)[k]? = some o
   have hk:w.heap[k]? = some o:=hk
   rw [Array.getElem?_push_lt (Array.getElem?_eq_some_iff.1 hk).1]
   rw [← Array.getElem?_eq_getElem]; exact hk
  ·cases id with
   | succ id=>simp [Am.get,oblz] at hB
   | zero =>
    have hB:B = .rows es []:=by simpa [Am.get,oblz] using hB.symm
    subst hB
    refine ⟨_,if_pos rfl,rfl,([]:List Value).toArray++Builtin.zeroCells z.cells (0+n - 0)++Builtin.zeroCells z.cells (cap - (0+n)),ρ.t 25,?_,?_,Nat.zero_le _,hc2,hes,fun i v hv=>by simp at hv⟩
    ·show (w.heap.push _)[w.heap.size]? = _
     rw [Array.getElem?_push_size]
    ·show 0+cap*es≤_
     rw [hsize]; omega
  ·have:id≠0:=fun q=>by
    subst q
    rcases hid with h | h <;> simp [Am.get,oblz] at h
   exact if_neg this
  ·by_cases q:id=0
   ·rw [if_pos q] at hI
    cases hI
    cases hmk:m w.heap.size with
    | none=>rfl
    | some o =>
     have:w.heap[w.heap.size]? = some o:=hm _ _ hmk
     rw [Array.getElem?_eq_none (Nat.le_refl _)] at this
     cases this
   ·rw [if_neg q] at hI; cases hI
  ·by_cases q:i=0
   ·by_cases q2:j=0
    ·rw [q,q2]
    ·rw [if_neg q2] at hJ; cases hJ
   ·rw [if_neg q] at hI; cases hI
  ·have h:some (⟨w.heap.size,0,es,cap⟩:Inf)=some g:=h
   cases h
   exact Nat.le_refl _
  ·show Rep m (.osl 0 0 0) _ _
   unfold Rep
   exact ⟨_,_,if_pos rfl,by rw [Nat.sub_zero],Nat.zero_le _,fun _=>by simp,fun _=>⟨_,_,rfl⟩⟩
end X
namespace S
open X
section
variable {C:Cfg} {N:Nat} {k:List It} {K:List (Nat×V)} {H:List Blk} {L R:Hp} {lo n d:Nat} {rnd:Option Nat} {Q:Ex→St→Prop} {all os:List Oper} {p:Op} {ty:TypeId} {pos:String} {after:Array Edge} {g:Option (Nat×Bool)} {v:V} {rd:List Nat}
theorem appA (kk:Nat) {α:Type} {z:Bool} {f:α→V} {l xs r:List α} {t e es id:Nat} {T Te:TI} {xo yo:Operand} {yv:V} (hH:Has H L) (hL:Am.get L kk=some (id,isB (oblz z es f l))) (hm:Mx.app l xs=some r) (hs:∀ a,Jr Te (f a)=true) (hw:wants all K g=some true) (hT:C.ty t=some T) (hk:T.kd = .slice e es) (hTe:C.ty e=some Te) (hes:Te.size=es) (hby:Nat.ble Te.bytes 4096=true) (hx:kev K xo=some (ovlz z id l)) (hlo:Nat.ble lo id=true) (hy:kev K yo=some yv) (hr:rowsOf H yv=some (xs.map f,rd)) (hd:Nat.blt d n=true)
  (h:∀ H',H.length≤H'.length→Has H' (Am.set L kk (H.length,isB (oblz z es f r)))→GS C N (.ops all os :: k) ⟨(d,ovlz z H.length r) :: K,H',lo,rnd,n⟩ Q):GS C N (.ops all (⟨some d,.call ⟨.builtin .append,#[xo,yo],#[t,t]⟩,ty,pos,after,g⟩ :: os) :: k) ⟨K,H,lo,rnd,n⟩ Q:=by
 have hid:=hH.lt hL
 have hl1:(hput H id .dead).length=H.length:=by rw [zq _ _ _ (Nat.le_of_lt hid)]; omega
 refine X.appNS (m:=H.length) rfl hm hs hw hT hk hTe hes hby hx (hH.is hL) (hH.blt hL) hlo hy hr hd rfl ?_
 refine h _ ?_ (hH.to hL (.inr (Nat.le_refl _)) (B:=oblz z es f r) ?_ rfl fun j hj hlt=>?_)
 ·rw [List.length_append,hl1]; omega
 ·rw [zP,List.getElem?_append_right (by omega),hl1,Nat.sub_self]; rfl
 ·rw [zP,List.getElem?_append_left (by omega),← zP,zh _ _ _ _ (Nat.le_of_lt hid),if_neg fun e=>hj e.symm]
theorem wmk {i nid:Nat} {B:Blk} {log:List (Nat×List Nat×List Nat)} (hw:wants all K g=some true) (he:zM C K H lo nid p=some ⟨v,[(nid,B)],rd⟩) (ha:allocs p=true) (hf:Am.get H nid=some .free) (hlt:nid<H.length) (hd:Nat.blt d n=true) (hcl:(log.all fun e=>e.2.2.isEmpty)=true) (hsep:∀ e∈log,∀ y∈e.2.1,y≠nid)
  (h:DW C N k Q all os (i+1) (nid+1) ⟨(d,v) :: K,hput H nid B,lo,rnd,n⟩ ((i,rdOf ⟨some d,p,ty,pos,after,g⟩ nid ⟨v,[(nid,B)],rd⟩,[nid]) :: log)):DW C N k Q all (⟨some d,p,ty,pos,after,g⟩ :: os) i nid ⟨K,H,lo,rnd,n⟩ log:=by
 refine dstep (d:=⟨v,[(nid,B)],rd⟩) (.op hw he (fun _=>hf) (fun k hk=>by simp only [Za,List.mem_singleton] at hk; subst hk; exact hlt)) (zFF hcl hsep) ?_
 rw [show allocs (Oper.op ⟨some d,p,ty,pos,after,g⟩)=true from ha]
 exact DW.eqv (JA hd rfl) h
theorem has_two (hH:Has H L) (B0 B1:Blk):Has (puts (hput (H++zl 2) H.length B0) [(H.length+1,B1)]) ((H.length+1,isB B1) :: (H.length,isB B0) :: L):=by
 have e:puts (hput (H++zl 2) H.length B0) [(H.length+1,B1)]=(H++[B0])++[B1]:=by
  have hl:(hput (H++zl 2) H.length B0).length=H.length+2:=by rw [zq _ _ _ (by simp),List.length_append,qo]; omega
  refine List.ext_getElem? fun k=>?_
  simp only [puts]
  rw [← zP,← zP,zh _ _ _ _ (by omega),zh _ _ _ _ (by simp)]
  rcases Nat.lt_trichotomy k H.length with q | q | q
  ·rw [if_neg (by omega),if_neg (by omega),zP,zP,List.getElem?_append_left q,List.append_assoc,List.getElem?_append_left q]
  ·rw [if_neg (by omega),if_pos q.symm,zP,q,List.append_assoc,List.getElem?_append_right (Nat.le_refl _),Nat.sub_self]; rfl
  ·by_cases q2:k=H.length+1
   ·rw [if_pos q2.symm,zP,q2,List.append_assoc,List.getElem?_append_right (by omega),show H.length+1 - H.length=1 by omega]; rfl
   ·rw [if_neg (fun h=>q2 h.symm),if_neg (by omega),zP,zP,List.getElem?_eq_none (by rw [List.length_append,qo]; omega),List.getElem?_eq_none (by simp; omega)]
 rw [e]
 have h1:=hH.new (B:=B0) (q:=isB B0) rfl
 have h2:=h1.new (B:=B1) (q:=isB B1) rfl
 rw [List.length_append,List.length_singleton] at h2
 exact h2
theorem wbox2 {i:Nat} {B0 B1:Blk} {log:List (Nat×List Nat×List Nat)} (hH:Has H L) (hw:wants all K g=some true) (he:zM C K (hput (H++zl 2) H.length B0) lo (H.length+1) p=some ⟨.ptr (H.length+1) 0 0,[(H.length+1,B1)],rd⟩) (hd:Nat.blt d n=true) (hlog:∀ e∈log,JH all all.length i e.1=true∨(e.2.2=[]∧∀ y∈e.2.1,y<H.length))
  (h:∀ i0 i1 H',i0=H.length→i1=H.length+1→Has H' ((i1,isB B1) :: (i0,isB B0) :: L)→GS C N k ⟨(d,.ptr (H.length+1) 0 0) :: K,H',lo,rnd,n⟩ Q):DW C N k Q all [⟨some d,p,ty,pos,after,g⟩] i (H.length+1) ⟨K,hput (H++zl 2) H.length B0,lo,rnd,n⟩ log:=by
 refine wend hw he (by rw [zh _ _ _ _ (by simp),if_neg (by omega)]; exact zA6 (H:=H) (m:=2) (j:=1) (by decide)) (fun k hk=>?_) hd (fun e q=>(hlog e q).imp id fun q=>⟨q.1,fun x hx y hy=>?_⟩) (h _ _ _ rfl rfl (has_two hH B0 B1))
 ·have:k=H.length+1:=by simpa [Za] using hk
  rw [zq _ _ _ (by simp),List.length_append,qo]
  omega
 ·have:=q.2 y hy
  have:x=H.length+1:=by simpa [Za] using hx
  omega
end
end S
end Go.Am
