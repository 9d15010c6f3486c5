/- The program's functions compute the plain ones. Conditions: none. Printed by a program (wip/tools/xg.py). -/
import Derived.Test.YtfoafeaplgmhmaaGreatP1
set_option linter.unusedVariables false
set_option linter.unusedSimpArgs false
namespace Go.Proofs.YtfoafeaplgmhmaaGreat
open Go Go.Am Go.Proofs Go.Mx
theorem zJD {all os:List Oper} {k:List It} {K:List (Nat×V)} {H:List Blk} {lo n d N:Nat} {rnd:Option Nat} {Q:Ex→St→Prop} {p:Op} {ty:TypeId} {pos:String} {after:Array Edge} {g:Option (Nat×Bool)} {l r:List zA} (hM:app [] l=some r) (hw:wants all K g=some true) (hc:callee K p=some (.fn 33 [.sl (l.map zB)])) (hd:Nat.blt d n=true) (hlo:Nat.ble lo H.length=true) {i:Nat} (hi:H.length+1=i)
  (h:∀ z:Bool,GS CC N (.ops all os :: k) ⟨(d,ovlz z i r) :: K,H++[.dead,oblz z 8 zB r],lo,rnd,n⟩ Q):GS CC N (.ops all (⟨some d,p,ty,pos,after,g⟩ :: os) :: k) ⟨K,H,lo,rnd,n⟩ Q:=by
 subst hi
 have hr:r=l:=by obtain ⟨_,e⟩:=Yv hM; simpa using e
 refine GS.im (s:=⟨K,H,lo,rnd,n⟩) (fun v H1 => ∃ z:Bool,v=ovlz z (H.length+1) r∧H1=H++[.dead,oblz z 8 zB r]) hw hc rfl ?_ (fun v H1 hT=>?_)
 ·refine GS.seq ?_
  refine GS.region ?_
  refine X.opR rfl rfl rfl ?_
  refine GS.zC ?_
  iterate 2 refine GS.seq ?_
  refine GS.region ?_
  refine X.opR rfl rfl rfl ?_
  refine X.zJo rfl rfl rfl rfl rfl rfl (fun h=>?_) ?_
  ·have hl:r=[]:=by rw [hr]; simpa using h
   subst hl
   refine GS.zC ?_
   refine GS.zCJ rfl ?_
   refine GS.seq ?_
   refine GS.region ?_
   refine X.opR rfl rfl rfl ?_
   refine GS.zC ?_
   refine GS.pad ?_
   refine GS.pad ?_
   exact GS.ret ⟨_,rfl,true,rfl,by simp [oblz]⟩
  ·refine GS.zC ?_
   refine GS.zAs rfl ?_
   refine GS.skip ?_
   refine GS.seq ?_
   refine GS.region ?_
   refine X.opW rfl (v:=.osl H.length 0 0) (wr:=[(H.length,.rows 8 [])]) rfl X.zBQ rfl ?_
   refine X.opR rfl rfl rfl ?_
   refine X.opW (H':=H++[.dead,.rows 8 (r.map zB)]) rfl (X.appO (f:=zB) (l:=[]) (xs:=l) (es:=8) hM (fun _=>rfl) rfl rfl rfl rfl rfl rfl X.zGx hlo rfl rfl) ?_ rfl ?_
   ·show hput (hput (H++[Blk.rows 8 []]) H.length Blk.dead) (H++[Blk.rows 8 []]).length (Blk.rows 8 (r.map zB))=_
    have e1:hput (H++[Blk.rows 8 []]) H.length Blk.dead=H++[Blk.dead]:=X.puts_end' (B:=.rows 8 []) (B':=.dead)
    rw [e1,show (H++[Blk.rows 8 []]).length=(H++[Blk.dead]).length by simp,zBc]
    simp
   refine X.opR rfl rfl rfl ?_
   refine GS.zC ?_
   exact GS.ret ⟨_,rfl,false,by simp [ovlz],rfl⟩
 ·obtain ⟨z,rfl,rfl⟩:=hT
  exact X.front rfl hd (h z) rfl
theorem YQ {l r:List zA} (hM:app [] l=some r):zDi Tryz.prog 33 [V.sl (List.map zB l)] (fun z=>ovlz z 0 r) (fun z=>oblz z 8 zB r):=by
 have hr:r=l:=by obtain ⟨_,e⟩:=Yv hM; simpa using e
 refine zFN Zh rfl ?_
 refine GS.seq ?_
 refine GS.region ?_
 refine X.opR rfl rfl rfl ?_
 refine GS.zC ?_
 iterate 2 refine GS.seq ?_
 refine GS.region ?_
 refine X.opR rfl rfl rfl ?_
 refine X.zJo rfl rfl rfl rfl rfl rfl (fun h=>?_) ?_
 ·have hl:r=[]:=by rw [hr]; simpa using h
  subst hl
  refine GS.zC ?_
  refine GS.zCJ rfl ?_
  refine GS.seq ?_
  refine GS.region ?_
  refine X.opR rfl rfl rfl ?_
  refine GS.zC ?_
  refine GS.pad ?_
  exact GS.ret ⟨true,rfl,rfl⟩
 ·refine GS.zC ?_
  refine GS.zAs rfl ?_
  refine GS.skip ?_
  refine GS.seq ?_
  refine GS.region ?_
  refine X.opW rfl rfl rfl rfl ?_
  refine X.opR rfl rfl rfl ?_
  refine X.opW rfl (X.appO (f:=zB) (l:=[]) (xs:=l) hM (fun _=>rfl) rfl rfl rfl rfl rfl rfl rfl rfl rfl rfl) rfl rfl ?_
  refine X.opR rfl rfl rfl ?_
  refine GS.zC ?_
  refine X.gc [some 1] (H':=[.rows 8 (List.map zB r)]) (K':=[(2,(V.osl 0 0 (List.length r)))]) ?_ rfl rfl rfl (ga rfl rfl) (zLz 9 rfl rfl (fun _=>rfl) zU)
  exact GS.ret ⟨false,rfl,rfl⟩
theorem zCe {l r:List Int} (hM:app [] l=some r):zDi Tryz.prog 34 [V.sl (List.map V.i l)] (fun z=>ovlz z 0 r) (fun z=>oblz z 1 V.i r):=by
 have hr:r=l:=by obtain ⟨_,e⟩:=Yv hM; simpa using e
 refine zFN Zh rfl ?_
 refine GS.seq ?_
 refine GS.region ?_
 refine X.opR rfl rfl rfl ?_
 refine GS.zC ?_
 iterate 2 refine GS.seq ?_
 refine GS.region ?_
 refine X.opR rfl rfl rfl ?_
 refine X.zJo rfl rfl rfl rfl rfl rfl (fun h=>?_) ?_
 ·have hl:r=[]:=by rw [hr]; simpa using h
  subst hl
  refine GS.zC ?_
  refine GS.zCJ rfl ?_
  refine GS.seq ?_
  refine GS.region ?_
  refine X.opR rfl rfl rfl ?_
  refine GS.zC ?_
  refine GS.pad ?_
  exact GS.ret ⟨true,rfl,rfl⟩
 ·refine GS.zC ?_
  refine GS.zAs rfl ?_
  refine GS.skip ?_
  refine GS.seq ?_
  refine GS.region ?_
  refine X.opW rfl rfl rfl rfl ?_
  refine X.opR rfl rfl rfl ?_
  refine X.opW rfl (X.appO (f:=V.i) (l:=[]) (xs:=l) hM (fun _=>rfl) rfl rfl rfl rfl rfl rfl rfl rfl rfl rfl) rfl rfl ?_
  refine X.opR rfl rfl rfl ?_
  refine GS.zC ?_
  refine X.gc [some 1] (H':=[.rows 1 (List.map V.i r)]) (K':=[(2,(V.osl 0 0 (List.length r)))]) ?_ rfl rfl rfl (ga rfl rfl) (zLz 9 rfl rfl (fun _=>rfl) zU)
  exact GS.ret ⟨false,rfl,rfl⟩
theorem zFQ {c:zG} {round:Int} {r:Int} (hM:yZ c round=some r):Ct Tryz.prog 104 [(zD c),(V.i round)] (V.i r):=by
 refine zX Zh rfl ?_
 unfold yZ at hM
 refine X.sq ?_
 refine X.opW rfl rfl rfl rfl (X.q rfl (GS.zC (GS.seq (X.sq ?_))))
 refine X.mid [(1,(V.i round)),(2,(V.ptr 0 0 0)),(12,(V.b ((!decide ((za c)=0))||(!(zP round 1 1048576)))))] ?_ ?_
 ·intro hg
  refine X.split (!decide ((za c)=0)) (fun h_1=>?_) (fun h_1=>?_)
  ·refine X.q rfl ?_
   refine X.call (Z7 c) rfl rfl rfl (.cons (.shut (n:=9) rfl) .nil) (X.q rfl (X.q rfl ?_))
   iterate 3 refine X.off (X.JN rfl rfl rfl h_1) rfl ?_
   refine X.opR rfl (X.Zq (y := !(zP round 1 1048576)) rfl h_1 rfl) rfl (GS.zC ?_)
   exact X.norm _ hg rfl (sr rfl)
  refine X.q rfl ?_
  refine X.call (Z7 c) rfl rfl rfl (.cons (.shut (n:=9) rfl) .nil) (X.q rfl (X.q rfl ?_))
  refine X.opR (X.on_f rfl rfl rfl h_1) rfl rfl ?_
  refine X.call (ZI round 1 1048576) (X.on_f rfl rfl rfl h_1) rfl rfl (.cons (.shut (n:=9) rfl) (.cons (.shut (n:=9) rfl) (.cons (.shut (n:=9) rfl) .nil))) ?_
  refine X.opR (X.on_f rfl rfl rfl h_1) rfl rfl ?_
  refine X.opR rfl (X.Zo (y := !(zP round 1 1048576)) rfl h_1 rfl) rfl (GS.zC ?_)
  exact X.norm _ hg rfl (sr rfl)
 refine X.cond rfl (fun h_2=>?_) (fun h_2=>?_)
 ·replace hM:=Zb h_2 hM
  refine X.sq (X.q rfl (GS.zC ?_))
  cases hM
  exact GS.ret ⟨_,rfl,⟨30,rfl⟩⟩
 replace hM:=Zc h_2 hM
 refine GS.skip (GS.seq ?_)
 obtain ⟨q,h_3,hM⟩:=zM hM
 refine GS.region (X.q rfl ?_)
 refine X.opR rfl (X.subE rfl rfl) rfl (X.q rfl (X.q rfl ?_))
 refine X.opR rfl (X.remE h_3 rfl rfl) rfl (X.q rfl (GS.zC ?_))
 cases hM
 exact GS.ret ⟨_,rfl,⟨30,rfl⟩⟩
set_option maxHeartbeats 4000000 in
theorem zEZ {c:zG} {l:zA} {r:Bool} (hM:yw c l=some r):Ct Tryz.prog 79 [(zD c),(zB l)] (V.b r):=by
 refine zX Zh rfl ?_
 unfold yw at hM
 refine X.sq ?_
 iterate 2 refine X.opW rfl rfl rfl rfl ?_
 refine X.q rfl (GS.zC (GS.seq (X.sq ?_)))
 refine X.mid [(2,(V.ptr 0 0 0)),(3,(V.ptr 1 0 0)),(46,(V.b (((((((!decide ((za c)=0))||(!(zZ l.Case)))||(!(zP l.Round 1 1048576)))||(!(zN c l.From)))||(!(zN c l.To)))||(!(zP l.ID 0 1099511627776)))||(!(Zd l.Finding)))))] ?_ ?_
 ·intro hg
  refine X.split (!decide ((za c)=0)) (fun h_1=>?_) (fun h_1=>?_)
  ·refine X.q rfl ?_
   refine X.call (Z7 c) rfl rfl rfl (.cons (.shut (n:=9) rfl) .nil) (X.q rfl (X.q rfl ?_))
   iterate 4 refine X.off (X.JN rfl rfl rfl h_1) rfl ?_
   refine X.opR rfl (X.Zq (y := !(zZ l.Case)) rfl h_1 rfl) rfl (X.q rfl ?_)
   iterate 4 refine X.off (X.JN rfl rfl rfl (X.Za h_1)) rfl ?_
   refine X.opR rfl (X.Zq (y := !(zP l.Round 1 1048576)) rfl (X.Za h_1) rfl) rfl (X.q rfl ?_)
   iterate 5 refine X.off (X.JN rfl rfl rfl (X.Za (X.Za h_1))) rfl ?_
   refine X.opR rfl (X.Zq (y := !(zN c l.From)) rfl (X.Za (X.Za h_1)) rfl) rfl (X.q rfl ?_)
   iterate 5 refine X.off (X.JN rfl rfl rfl (X.Za (X.Za (X.Za h_1)))) rfl ?_
   refine X.opR rfl (X.Zq (y := !(zN c l.To)) rfl (X.Za (X.Za (X.Za h_1))) rfl) rfl (X.q rfl ?_)
   iterate 4 refine X.off (X.JN rfl rfl rfl (X.Za (X.Za (X.Za (X.Za h_1))))) rfl ?_
   refine X.opR rfl (X.Zq (y := !(zP l.ID 0 1099511627776)) rfl (X.Za (X.Za (X.Za (X.Za h_1)))) rfl) rfl (X.q rfl ?_)
   iterate 4 refine X.off (X.JN rfl rfl rfl (X.Za (X.Za (X.Za (X.Za (X.Za h_1)))))) rfl ?_
   refine X.opR rfl (X.Zq (y := !(Zd l.Finding)) rfl (X.Za (X.Za (X.Za (X.Za (X.Za h_1))))) rfl) rfl (GS.zC ?_)
   exact X.norm _ hg rfl (sr rfl)
  refine X.split (((!decide ((za c)=0))||(!(zZ l.Case)))) (fun h_2=>?_) (fun h_2=>?_)
  ·refine X.q rfl ?_
   refine X.call (Z7 c) rfl rfl rfl (.cons (.shut (n:=9) rfl) .nil) (X.q rfl (X.q rfl ?_))
   iterate 2 refine X.opR (X.on_f rfl rfl rfl h_1) rfl rfl ?_
   refine X.call (jZ l.Case) (X.on_f rfl rfl rfl h_1) rfl rfl (.cons (.shut (n:=9) rfl) .nil) ?_
   refine X.opR (X.on_f rfl rfl rfl h_1) rfl rfl ?_
   refine X.opR rfl (X.Zo (y := !(zZ l.Case)) rfl h_1 rfl) rfl (X.q rfl ?_)
   iterate 4 refine X.off (X.JN rfl rfl rfl h_2) rfl ?_
   refine X.opR rfl (X.Zq (y := !(zP l.Round 1 1048576)) rfl h_2 rfl) rfl (X.q rfl ?_)
   iterate 5 refine X.off (X.JN rfl rfl rfl (X.Za h_2)) rfl ?_
   refine X.opR rfl (X.Zq (y := !(zN c l.From)) rfl (X.Za h_2) rfl) rfl (X.q rfl ?_)
   iterate 5 refine X.off (X.JN rfl rfl rfl (X.Za (X.Za h_2))) rfl ?_
   refine X.opR rfl (X.Zq (y := !(zN c l.To)) rfl (X.Za (X.Za h_2)) rfl) rfl (X.q rfl ?_)
   iterate 4 refine X.off (X.JN rfl rfl rfl (X.Za (X.Za (X.Za h_2)))) rfl ?_
   refine X.opR rfl (X.Zq (y := !(zP l.ID 0 1099511627776)) rfl (X.Za (X.Za (X.Za h_2))) rfl) rfl (X.q rfl ?_)
   iterate 4 refine X.off (X.JN rfl rfl rfl (X.Za (X.Za (X.Za (X.Za h_2))))) rfl ?_
   refine X.opR rfl (X.Zq (y := !(Zd l.Finding)) rfl (X.Za (X.Za (X.Za (X.Za h_2)))) rfl) rfl (GS.zC ?_)
   exact X.norm _ hg rfl (sr rfl)
  refine X.split ((((!decide ((za c)=0))||(!(zZ l.Case)))||(!(zP l.Round 1 1048576)))) (fun h_3=>?_) (fun h_3=>?_)
  ·refine X.q rfl ?_
   refine X.call (Z7 c) rfl rfl rfl (.cons (.shut (n:=9) rfl) .nil) (X.q rfl (X.q rfl ?_))
   iterate 2 refine X.opR (X.on_f rfl rfl rfl h_1) rfl rfl ?_
   refine X.call (jZ l.Case) (X.on_f rfl rfl rfl h_1) rfl rfl (.cons (.shut (n:=9) rfl) .nil) ?_
   refine X.opR (X.on_f rfl rfl rfl h_1) rfl rfl ?_
   refine X.opR rfl (X.Zo (y := !(zZ l.Case)) rfl h_1 rfl) rfl (X.q rfl ?_)
   iterate 2 refine X.opR (X.on_f rfl rfl rfl h_2) rfl rfl ?_
   refine X.call (ZI l.Round 1 1048576) (X.on_f rfl rfl rfl h_2) rfl rfl (.cons (.shut (n:=9) rfl) (.cons (.shut (n:=9) rfl) (.cons (.shut (n:=9) rfl) .nil))) ?_
   refine X.opR (X.on_f rfl rfl rfl h_2) rfl rfl ?_
   refine X.opR rfl (X.Zo (y := !(zP l.Round 1 1048576)) rfl h_2 rfl) rfl (X.q rfl ?_)
   iterate 5 refine X.off (X.JN rfl rfl rfl h_3) rfl ?_
   refine X.opR rfl (X.Zq (y := !(zN c l.From)) rfl h_3 rfl) rfl (X.q rfl ?_)
   iterate 5 refine X.off (X.JN rfl rfl rfl (X.Za h_3)) rfl ?_
   refine X.opR rfl (X.Zq (y := !(zN c l.To)) rfl (X.Za h_3) rfl) rfl (X.q rfl ?_)
   iterate 4 refine X.off (X.JN rfl rfl rfl (X.Za (X.Za h_3))) rfl ?_
   refine X.opR rfl (X.Zq (y := !(zP l.ID 0 1099511627776)) rfl (X.Za (X.Za h_3)) rfl) rfl (X.q rfl ?_)
   iterate 4 refine X.off (X.JN rfl rfl rfl (X.Za (X.Za (X.Za h_3)))) rfl ?_
   refine X.opR rfl (X.Zq (y := !(Zd l.Finding)) rfl (X.Za (X.Za (X.Za h_3))) rfl) rfl (GS.zC ?_)
   exact X.norm _ hg rfl (sr rfl)
  refine X.split (((((!decide ((za c)=0))||(!(zZ l.Case)))||(!(zP l.Round 1 1048576)))||(!(zN c l.From)))) (fun h_4=>?_) (fun h_4=>?_)
  ·refine X.q rfl ?_
   refine X.call (Z7 c) rfl rfl rfl (.cons (.shut (n:=9) rfl) .nil) (X.q rfl (X.q rfl ?_))
   iterate 2 refine X.opR (X.on_f rfl rfl rfl h_1) rfl rfl ?_
   refine X.call (jZ l.Case) (X.on_f rfl rfl rfl h_1) rfl rfl (.cons (.shut (n:=9) rfl) .nil) ?_
   refine X.opR (X.on_f rfl rfl rfl h_1) rfl rfl ?_
   refine X.opR rfl (X.Zo (y := !(zZ l.Case)) rfl h_1 rfl) rfl (X.q rfl ?_)
   iterate 2 refine X.opR (X.on_f rfl rfl rfl h_2) rfl rfl ?_
   refine X.call (ZI l.Round 1 1048576) (X.on_f rfl rfl rfl h_2) rfl rfl (.cons (.shut (n:=9) rfl) (.cons (.shut (n:=9) rfl) (.cons (.shut (n:=9) rfl) .nil))) ?_
   refine X.opR (X.on_f rfl rfl rfl h_2) rfl rfl ?_
   refine X.opR rfl (X.Zo (y := !(zP l.Round 1 1048576)) rfl h_2 rfl) rfl (X.q rfl ?_)
   iterate 3 refine X.opR (X.on_f rfl rfl rfl h_3) rfl rfl ?_
   refine X.call (Z6 c l.From) (X.on_f rfl rfl rfl h_3) rfl rfl (.cons (.shut (n:=9) rfl) (.cons (.shut (n:=9) rfl) .nil)) ?_
   refine X.opR (X.on_f rfl rfl rfl h_3) rfl rfl ?_
   refine X.opR rfl (X.Zo (y := !(zN c l.From)) rfl h_3 rfl) rfl (X.q rfl ?_)
   iterate 5 refine X.off (X.JN rfl rfl rfl h_4) rfl ?_
   refine X.opR rfl (X.Zq (y := !(zN c l.To)) rfl h_4 rfl) rfl (X.q rfl ?_)
   iterate 4 refine X.off (X.JN rfl rfl rfl (X.Za h_4)) rfl ?_
   refine X.opR rfl (X.Zq (y := !(zP l.ID 0 1099511627776)) rfl (X.Za h_4) rfl) rfl (X.q rfl ?_)
   iterate 4 refine X.off (X.JN rfl rfl rfl (X.Za (X.Za h_4))) rfl ?_
   refine X.opR rfl (X.Zq (y := !(Zd l.Finding)) rfl (X.Za (X.Za h_4)) rfl) rfl (GS.zC ?_)
   exact X.norm _ hg rfl (sr rfl)
  refine X.split ((((((!decide ((za c)=0))||(!(zZ l.Case)))||(!(zP l.Round 1 1048576)))||(!(zN c l.From)))||(!(zN c l.To)))) (fun h_5=>?_) (fun h_5=>?_)
  ·refine X.q rfl ?_
   refine X.call (Z7 c) rfl rfl rfl (.cons (.shut (n:=9) rfl) .nil) (X.q rfl (X.q rfl ?_))
   iterate 2 refine X.opR (X.on_f rfl rfl rfl h_1) rfl rfl ?_
   refine X.call (jZ l.Case) (X.on_f rfl rfl rfl h_1) rfl rfl (.cons (.shut (n:=9) rfl) .nil) ?_
   refine X.opR (X.on_f rfl rfl rfl h_1) rfl rfl ?_
   refine X.opR rfl (X.Zo (y := !(zZ l.Case)) rfl h_1 rfl) rfl (X.q rfl ?_)
   iterate 2 refine X.opR (X.on_f rfl rfl rfl h_2) rfl rfl ?_
   refine X.call (ZI l.Round 1 1048576) (X.on_f rfl rfl rfl h_2) rfl rfl (.cons (.shut (n:=9) rfl) (.cons (.shut (n:=9) rfl) (.cons (.shut (n:=9) rfl) .nil))) ?_
   refine X.opR (X.on_f rfl rfl rfl h_2) rfl rfl ?_
   refine X.opR rfl (X.Zo (y := !(zP l.Round 1 1048576)) rfl h_2 rfl) rfl (X.q rfl ?_)
   iterate 3 refine X.opR (X.on_f rfl rfl rfl h_3) rfl rfl ?_
   refine X.call (Z6 c l.From) (X.on_f rfl rfl rfl h_3) rfl rfl (.cons (.shut (n:=9) rfl) (.cons (.shut (n:=9) rfl) .nil)) ?_
   refine X.opR (X.on_f rfl rfl rfl h_3) rfl rfl ?_
   refine X.opR rfl (X.Zo (y := !(zN c l.From)) rfl h_3 rfl) rfl (X.q rfl ?_)
   iterate 3 refine X.opR (X.on_f rfl rfl rfl h_4) rfl rfl ?_
   refine X.call (Z6 c l.To) (X.on_f rfl rfl rfl h_4) rfl rfl (.cons (.shut (n:=9) rfl) (.cons (.shut (n:=9) rfl) .nil)) ?_
   refine X.opR (X.on_f rfl rfl rfl h_4) rfl rfl ?_
   refine X.opR rfl (X.Zo (y := !(zN c l.To)) rfl h_4 rfl) rfl (X.q rfl ?_)
   iterate 4 refine X.off (X.JN rfl rfl rfl h_5) rfl ?_
   refine X.opR rfl (X.Zq (y := !(zP l.ID 0 1099511627776)) rfl h_5 rfl) rfl (X.q rfl ?_)
   iterate 4 refine X.off (X.JN rfl rfl rfl (X.Za h_5)) rfl ?_
   refine X.opR rfl (X.Zq (y := !(Zd l.Finding)) rfl (X.Za h_5) rfl) rfl (GS.zC ?_)
   exact X.norm _ hg rfl (sr rfl)
  refine X.split (((((((!decide ((za c)=0))||(!(zZ l.Case)))||(!(zP l.Round 1 1048576)))||(!(zN c l.From)))||(!(zN c l.To)))||(!(zP l.ID 0 1099511627776)))) (fun h_6=>?_) (fun h_6=>?_)
  ·refine X.q rfl ?_
   refine X.call (Z7 c) rfl rfl rfl (.cons (.shut (n:=9) rfl) .nil) (X.q rfl (X.q rfl ?_))
   iterate 2 refine X.opR (X.on_f rfl rfl rfl h_1) rfl rfl ?_
   refine X.call (jZ l.Case) (X.on_f rfl rfl rfl h_1) rfl rfl (.cons (.shut (n:=9) rfl) .nil) ?_
   refine X.opR (X.on_f rfl rfl rfl h_1) rfl rfl ?_
   refine X.opR rfl (X.Zo (y := !(zZ l.Case)) rfl h_1 rfl) rfl (X.q rfl ?_)
   iterate 2 refine X.opR (X.on_f rfl rfl rfl h_2) rfl rfl ?_
   refine X.call (ZI l.Round 1 1048576) (X.on_f rfl rfl rfl h_2) rfl rfl (.cons (.shut (n:=9) rfl) (.cons (.shut (n:=9) rfl) (.cons (.shut (n:=9) rfl) .nil))) ?_
   refine X.opR (X.on_f rfl rfl rfl h_2) rfl rfl ?_
   refine X.opR rfl (X.Zo (y := !(zP l.Round 1 1048576)) rfl h_2 rfl) rfl (X.q rfl ?_)
   iterate 3 refine X.opR (X.on_f rfl rfl rfl h_3) rfl rfl ?_
   refine X.call (Z6 c l.From) (X.on_f rfl rfl rfl h_3) rfl rfl (.cons (.shut (n:=9) rfl) (.cons (.shut (n:=9) rfl) .nil)) ?_
   refine X.opR (X.on_f rfl rfl rfl h_3) rfl rfl ?_
   refine X.opR rfl (X.Zo (y := !(zN c l.From)) rfl h_3 rfl) rfl (X.q rfl ?_)
   iterate 3 refine X.opR (X.on_f rfl rfl rfl h_4) rfl rfl ?_
   refine X.call (Z6 c l.To) (X.on_f rfl rfl rfl h_4) rfl rfl (.cons (.shut (n:=9) rfl) (.cons (.shut (n:=9) rfl) .nil)) ?_
   refine X.opR (X.on_f rfl rfl rfl h_4) rfl rfl ?_
   refine X.opR rfl (X.Zo (y := !(zN c l.To)) rfl h_4 rfl) rfl (X.q rfl ?_)
   iterate 2 refine X.opR (X.on_f rfl rfl rfl h_5) rfl rfl ?_
   refine X.call (ZI l.ID 0 1099511627776) (X.on_f rfl rfl rfl h_5) rfl rfl (.cons (.shut (n:=9) rfl) (.cons (.shut (n:=9) rfl) (.cons (.shut (n:=9) rfl) .nil))) ?_
   refine X.opR (X.on_f rfl rfl rfl h_5) rfl rfl ?_
   refine X.opR rfl (X.Zo (y := !(zP l.ID 0 1099511627776)) rfl h_5 rfl) rfl (X.q rfl ?_)
   iterate 4 refine X.off (X.JN rfl rfl rfl h_6) rfl ?_
   refine X.opR rfl (X.Zq (y := !(Zd l.Finding)) rfl h_6 rfl) rfl (GS.zC ?_)
   exact X.norm _ hg rfl (sr rfl)
  refine X.q rfl ?_
  refine X.call (Z7 c) rfl rfl rfl (.cons (.shut (n:=9) rfl) .nil) (X.q rfl (X.q rfl ?_))
  iterate 2 refine X.opR (X.on_f rfl rfl rfl h_1) rfl rfl ?_
  refine X.call (jZ l.Case) (X.on_f rfl rfl rfl h_1) rfl rfl (.cons (.shut (n:=9) rfl) .nil) ?_
  refine X.opR (X.on_f rfl rfl rfl h_1) rfl rfl ?_
  refine X.opR rfl (X.Zo (y := !(zZ l.Case)) rfl h_1 rfl) rfl (X.q rfl ?_)
  iterate 2 refine X.opR (X.on_f rfl rfl rfl h_2) rfl rfl ?_
  refine X.call (ZI l.Round 1 1048576) (X.on_f rfl rfl rfl h_2) rfl rfl (.cons (.shut (n:=9) rfl) (.cons (.shut (n:=9) rfl) (.cons (.shut (n:=9) rfl) .nil))) ?_
  refine X.opR (X.on_f rfl rfl rfl h_2) rfl rfl ?_
  refine X.opR rfl (X.Zo (y := !(zP l.Round 1 1048576)) rfl h_2 rfl) rfl (X.q rfl ?_)
  iterate 3 refine X.opR (X.on_f rfl rfl rfl h_3) rfl rfl ?_
  refine X.call (Z6 c l.From) (X.on_f rfl rfl rfl h_3) rfl rfl (.cons (.shut (n:=9) rfl) (.cons (.shut (n:=9) rfl) .nil)) ?_
  refine X.opR (X.on_f rfl rfl rfl h_3) rfl rfl ?_
  refine X.opR rfl (X.Zo (y := !(zN c l.From)) rfl h_3 rfl) rfl (X.q rfl ?_)
  iterate 3 refine X.opR (X.on_f rfl rfl rfl h_4) rfl rfl ?_
  refine X.call (Z6 c l.To) (X.on_f rfl rfl rfl h_4) rfl rfl (.cons (.shut (n:=9) rfl) (.cons (.shut (n:=9) rfl) .nil)) ?_
  refine X.opR (X.on_f rfl rfl rfl h_4) rfl rfl ?_
  refine X.opR rfl (X.Zo (y := !(zN c l.To)) rfl h_4 rfl) rfl (X.q rfl ?_)
  iterate 2 refine X.opR (X.on_f rfl rfl rfl h_5) rfl rfl ?_
  refine X.call (ZI l.ID 0 1099511627776) (X.on_f rfl rfl rfl h_5) rfl rfl (.cons (.shut (n:=9) rfl) (.cons (.shut (n:=9) rfl) (.cons (.shut (n:=9) rfl) .nil))) ?_
  refine X.opR (X.on_f rfl rfl rfl h_5) rfl rfl ?_
  refine X.opR rfl (X.Zo (y := !(zP l.ID 0 1099511627776)) rfl h_5 rfl) rfl (X.q rfl ?_)
  iterate 2 refine X.opR (X.on_f rfl rfl rfl h_6) rfl rfl ?_
  refine X.call (zAJ l.Finding) (X.on_f rfl rfl rfl h_6) rfl rfl (.cons (.shut (n:=9) rfl) .nil) ?_
  refine X.opR (X.on_f rfl rfl rfl h_6) rfl rfl ?_
  refine X.opR rfl (X.Zo (y := !(Zd l.Finding)) rfl h_6 rfl) rfl (GS.zC ?_)
  exact X.norm _ hg rfl (sr rfl)
 refine X.cond rfl (fun h_7=>?_) (fun h_7=>?_)
 ·replace hM:=Zb h_7 hM
  refine X.sq (X.q rfl (GS.zC ?_))
  cases hM
  exact GS.ret ⟨_,rfl,⟨30,rfl⟩⟩
 replace hM:=Zc h_7 hM
 refine GS.skip (GS.seq ?_)
 obtain ⟨y,h_8,hM⟩:=zM hM
 refine GS.region (X.q rfl (X.q rfl (X.q rfl ?_)))
 refine X.call (zFQ h_8) rfl rfl rfl (.cons (.shut (n:=9) rfl) (.cons (.shut (n:=9) rfl) .nil)) (X.q rfl (GS.zC (GS.seq (X.sq (X.q rfl (X.q rfl ?_))))))
 refine GS.zC (GS.block (X.sq (X.q rfl (X.q rfl ?_))))
 refine GS.zC ?_
 refine X.cond rfl (fun h_9=>?_) (fun h_9=>?_)
 ·replace hM:=Zb h_9 hM
  refine X.sq ?_
  refine X.mid [(4,(V.b (((decide (l.From=y))&&(decide (l.Voted=0)))&&(decide (l.Finding=0)))))] ?_ ?_
  ·intro hg
   refine X.split (decide (l.From=y)) (fun h_10=>?_) (fun h_10=>?_)
   ·refine X.split (((decide (l.From=y))&&(decide (l.Voted=0)))) (fun h_11=>?_) (fun h_11=>?_)
    ·iterate 5 refine X.q rfl ?_
     iterate 3 refine X.opR (X.on_t rfl rfl rfl h_10) rfl rfl ?_
     refine X.opR rfl (X.zm (y:=decide (l.Voted=0)) rfl h_10 rfl) rfl (X.q rfl ?_)
     iterate 3 refine X.opR (X.on_t rfl rfl rfl h_11) rfl rfl ?_
     refine X.opR rfl (X.zm (y:=decide (l.Finding=0)) rfl h_11 rfl) rfl (X.q rfl (GS.zC ?_))
     exact X.norm _ hg rfl (sr rfl)
    iterate 5 refine X.q rfl ?_
    iterate 3 refine X.opR (X.on_t rfl rfl rfl h_10) rfl rfl ?_
    refine X.opR rfl (X.zm (y:=decide (l.Voted=0)) rfl h_10 rfl) rfl (X.q rfl ?_)
    iterate 3 refine X.off (X.JA rfl rfl rfl h_11) rfl ?_
    refine X.opR rfl (X.ZJ (y:=decide (l.Finding=0)) rfl h_11 rfl) rfl (X.q rfl (GS.zC ?_))
    exact X.norm _ hg rfl (sr rfl)
   iterate 5 refine X.q rfl ?_
   iterate 3 refine X.off (X.JA rfl rfl rfl h_10) rfl ?_
   refine X.opR rfl (X.ZJ (y:=decide (l.Voted=0)) rfl h_10 rfl) rfl (X.q rfl ?_)
   iterate 3 refine X.off (X.JA rfl rfl rfl (X.yB h_10)) rfl ?_
   refine X.opR rfl (X.ZJ (y:=decide (l.Finding=0)) rfl (X.yB h_10) rfl) rfl (X.q rfl (GS.zC ?_))
   exact X.norm _ hg rfl (sr rfl)
  cases hM
  exact GS.ret ⟨_,rfl,⟨30,rfl⟩⟩
 replace hM:=Zc h_9 hM
 refine X.sq (X.q rfl (X.q rfl ?_))
 refine GS.zC ?_
 refine X.cond rfl (fun h_12=>?_) (fun h_12=>?_)
 ·replace hM:=Zb h_12 hM
  refine X.sq ?_
  refine X.mid [(4,(V.b (((decide (l.To=y))&&(zP l.Voted 0 (w64 (l.Round - 1))))&&((decide (0<l.Voted))||(decide (l.Finding=0))))))] ?_ ?_
  ·intro hg
   refine X.split (decide (l.To=y)) (fun h_13=>?_) (fun h_13=>?_)
   ·refine X.split (((decide (l.To=y))&&(zP l.Voted 0 (w64 (l.Round - 1))))) (fun h_14=>?_) (fun h_14=>?_)
    ·refine X.split (decide (0<l.Voted)) (fun h_15=>?_) (fun h_15=>?_)
     ·iterate 5 refine X.q rfl ?_
      iterate 4 refine X.opR (X.on_t rfl rfl rfl h_13) rfl rfl ?_
      refine X.opR (X.on_t rfl rfl rfl h_13) (X.subE rfl rfl) rfl ?_
      refine X.call (ZI l.Voted 0 (w64 (l.Round - 1))) (X.on_t rfl rfl rfl h_13) rfl rfl (.cons (.shut (n:=9) rfl) (.cons (.shut (n:=9) rfl) (.cons (.shut (n:=9) rfl) .nil))) ?_
      refine X.opR rfl (X.zm (y:=(zP l.Voted 0 (w64 (l.Round - 1)))) rfl h_13 rfl) rfl (X.q rfl ?_)
      iterate 4 refine X.opR (X.on_t rfl rfl rfl h_14) rfl rfl ?_
      iterate 3 refine X.off (X.JN rfl rfl rfl h_15) rfl ?_
      refine X.opR (X.on_t rfl rfl rfl h_14) (X.Zq (y:=decide (l.Finding=0)) rfl h_15 rfl) rfl ?_
      refine X.opR rfl (X.zm (y:=((decide (0<l.Voted))||(decide (l.Finding=0)))) rfl h_14 rfl) rfl (X.q rfl (GS.zC ?_))
      exact X.norm _ hg rfl (sr rfl)
     iterate 5 refine X.q rfl ?_
     iterate 4 refine X.opR (X.on_t rfl rfl rfl h_13) rfl rfl ?_
     refine X.opR (X.on_t rfl rfl rfl h_13) (X.subE rfl rfl) rfl ?_
     refine X.call (ZI l.Voted 0 (w64 (l.Round - 1))) (X.on_t rfl rfl rfl h_13) rfl rfl (.cons (.shut (n:=9) rfl) (.cons (.shut (n:=9) rfl) (.cons (.shut (n:=9) rfl) .nil))) ?_
     refine X.opR rfl (X.zm (y:=(zP l.Voted 0 (w64 (l.Round - 1)))) rfl h_13 rfl) rfl (X.q rfl ?_)
     iterate 4 refine X.opR (X.on_t rfl rfl rfl h_14) rfl rfl ?_
     iterate 3 refine X.opR (X.on_f rfl rfl rfl h_15) rfl rfl ?_
     refine X.opR (X.on_t rfl rfl rfl h_14) (X.Zo (y:=decide (l.Finding=0)) rfl h_15 rfl) rfl ?_
     refine X.opR rfl (X.zm (y:=((decide (0<l.Voted))||(decide (l.Finding=0)))) rfl h_14 rfl) rfl (X.q rfl (GS.zC ?_))
     exact X.norm _ hg rfl (sr rfl)
    iterate 5 refine X.q rfl ?_
    iterate 4 refine X.opR (X.on_t rfl rfl rfl h_13) rfl rfl ?_
    refine X.opR (X.on_t rfl rfl rfl h_13) (X.subE rfl rfl) rfl ?_
    refine X.call (ZI l.Voted 0 (w64 (l.Round - 1))) (X.on_t rfl rfl rfl h_13) rfl rfl (.cons (.shut (n:=9) rfl) (.cons (.shut (n:=9) rfl) (.cons (.shut (n:=9) rfl) .nil))) ?_
    refine X.opR rfl (X.zm (y:=(zP l.Voted 0 (w64 (l.Round - 1)))) rfl h_13 rfl) rfl (X.q rfl ?_)
    iterate 4 refine X.off (X.JA rfl rfl rfl h_14) rfl ?_
    iterate 3 refine X.off rfl rfl ?_
    refine X.off (X.JA rfl rfl rfl h_14) rfl ?_
    refine X.opR rfl (X.ZJ (y:=((decide (0<l.Voted))||(decide (l.Finding=0)))) rfl h_14 rfl) rfl (X.q rfl (GS.zC ?_))
    exact X.norm _ hg rfl (sr rfl)
   iterate 5 refine X.q rfl ?_
   iterate 6 refine X.off (X.JA rfl rfl rfl h_13) rfl ?_
   refine X.opR rfl (X.ZJ (y:=(zP l.Voted 0 (w64 (l.Round - 1)))) rfl h_13 rfl) rfl (X.q rfl ?_)
   iterate 4 refine X.off (X.JA rfl rfl rfl (X.yB h_13)) rfl ?_
   iterate 3 refine X.off rfl rfl ?_
   refine X.off (X.JA rfl rfl rfl (X.yB h_13)) rfl ?_
   refine X.opR rfl (X.ZJ (y:=((decide (0<l.Voted))||(decide (l.Finding=0)))) rfl (X.yB h_13) rfl) rfl (X.q rfl (GS.zC ?_))
   exact X.norm _ hg rfl (sr rfl)
  cases hM
  exact GS.ret ⟨_,rfl,⟨30,rfl⟩⟩
 replace hM:=Zc h_12 hM
 refine X.sq (X.q rfl (X.q rfl ?_))
 refine GS.zC ?_
 refine X.cond rfl (fun h_16=>?_) (fun h_16=>?_)
 ·replace hM:=Zb h_16 hM
  refine X.sq ?_
  refine X.mid [(4,(V.b ((decide (l.From=y))&&(decide (l.Voted=0)))))] ?_ ?_
  ·intro hg
   refine X.split (decide (l.From=y)) (fun h_17=>?_) (fun h_17=>?_)
   ·iterate 5 refine X.q rfl ?_
    iterate 3 refine X.opR (X.on_t rfl rfl rfl h_17) rfl rfl ?_
    refine X.opR rfl (X.zm (y:=decide (l.Voted=0)) rfl h_17 rfl) rfl (X.q rfl (GS.zC ?_))
    exact X.norm _ hg rfl (sr rfl)
   iterate 5 refine X.q rfl ?_
   iterate 3 refine X.off (X.JA rfl rfl rfl h_17) rfl ?_
   refine X.opR rfl (X.ZJ (y:=decide (l.Voted=0)) rfl h_17 rfl) rfl (X.q rfl (GS.zC ?_))
   exact X.norm _ hg rfl (sr rfl)
  cases hM
  exact GS.ret ⟨_,rfl,⟨30,rfl⟩⟩
 replace hM:=Zc h_16 hM
 refine X.sq (X.q rfl (X.q rfl ?_))
 refine GS.zC ?_
 refine X.cond rfl (fun h_18=>?_) (fun h_18=>?_)
 ·replace hM:=Zb h_18 hM
  refine X.sq ?_
  iterate 4 refine X.q rfl ?_
  refine GS.zC ?_
  cases hM
  exact GS.ret ⟨_,rfl,⟨30,rfl⟩⟩
 replace hM:=Zc h_18 hM
 refine GS.skip ?_
 refine GS.endB (X.sq (X.q rfl (GS.zC ?_)))
 cases hM
 exact GS.ret ⟨_,rfl,⟨30,rfl⟩⟩
theorem zEV {x:zA} {c:zG} {r:Bool} (hM:Qh x c=some r):Ct Tryz.prog 78 [(zB x),(V.fptr [(zD c)] 0 0)] (V.b r):=by
 refine zX Zh rfl ?_
 unfold Qh at hM
 refine X.sq ?_
 refine X.opW rfl rfl rfl rfl (X.q rfl (GS.zC (GS.seq ?_)))
 obtain ⟨y,h_1,hM⟩:=zM hM
 refine GS.region (X.q rfl (X.q rfl ?_))
 refine X.call (zEZ h_1) rfl rfl rfl (.cons (.shut (n:=9) rfl) (.cons (.shut (n:=9) rfl) .nil)) (X.q rfl (X.q rfl ?_))
 refine GS.zC ?_
 cases hM
 exact GS.ret ⟨_,rfl,⟨30,rfl⟩⟩
theorem yP {s:(List zA)} {c:zG} {r:Int} (hM:ZH s c=some r):Ct Tryz.prog 91 [(V.sl (List.map zB s)),(V.fn 78 [(V.fptr [(zD c)] 0 0)])] (V.i r):=by
 refine zX Zh rfl ?_
 unfold ZH at hM
 refine X.sq (X.q rfl (GS.zC (GS.seq (X.sq (X.q rfl ?_)))))
 refine X.opR rfl (X.lenF rfl rfl rfl) rfl (X.q rfl (GS.zC ?_))
 refine X.join (τ:=Unit) (fun v=>zy=some r) (fun v=>⟨[],[],0,none,19⟩) ?_ ?_
 ·intro _ hM
  replace hM:zy=some r:=hM
  unfold zy at hM
  refine X.sq (X.q rfl (GS.zC ?_))
  cases hM
  exact GS.ret ⟨_,rfl,⟨30,rfl⟩⟩
 intro hj_1
 refine GS.block ?_
 refine X.gc [] (X.loop (σ:=Int) (fun v=>⟨[(0,(V.sl (List.map zB s))),(1,(V.fn 78 [(V.fptr [(zD c)] 0 0)])),(7,(V.i (s.length:Int))),(8,(V.i v))],[],0,none,19⟩) hM ?_ rfl) rfl rfl rfl (ga rfl rfl) (zU)
 intro x1 b_1 hM hc_2 hr_1
 rw [Ze] at hM
 refine X.sq (X.q rfl (GS.zC (GS.seq ?_)))
 refine X.cond rfl (fun h_1=>?_) (fun h_1=>?_)
 ·replace hM:=Zb h_1 hM
  refine GS.skip (GS.seq (GS.block (X.sq (X.q rfl (X.q rfl ?_)))))
  refine GS.zC (GS.seq ?_)
  obtain ⟨x,h_2,hM⟩:=zM hM
  obtain ⟨y,h_3,hM⟩:=zM hM
  refine GS.region (X.q rfl (X.q rfl (X.q rfl ?_)))
  refine X.opR rfl (X.yT (f:=zB) h_2 (fun _=>rfl) rfl rfl rfl rfl) rfl ?_
  refine X.opR rfl (X.Yx h_2 rfl rfl rfl) rfl ?_
  refine X.call (zEV h_3) rfl rfl rfl (.cons (.shut (n:=9) rfl) (.cons (.shut (n:=9) rfl) .nil)) (GS.zC ?_)
  refine X.cond rfl (fun h_4=>?_) (fun h_4=>?_)
  ·replace hM:=Zb h_4 hM
   refine X.sq (X.q rfl (X.q rfl ?_))
   refine GS.zC ?_
   have hE:=Option.some.inj hM
   replace hE:=hr_1 _ hE.symm
   subst hE
   exact GS.ret ⟨_,rfl,⟨30,rfl⟩⟩
  replace hM:=Zc h_4 hM
  refine GS.skip ?_
  refine GS.endB (GS.region ?_)
  refine X.opR rfl (X.addE rfl rfl) rfl (X.q rfl (GS.zC ?_))
  have hE:=Option.some.inj hM
  exact X.gc [] (hc_2 (w64 (x1+1)) hE.symm) rfl rfl rfl (ga rfl rfl) (zU)
 replace hM:=Zc h_1 hM
 refine GS.exit rfl ?_
 obtain ⟨y_1,hM,hy⟩:=yR hM
 rw [hr_1 _ hy.symm] at hM
 exact X.gc [] (hj_1 () hM) rfl rfl rfl (Jd) (zU)
theorem J5 {s:(List zA)} {c:zG} {r:Bool} (hM:Zf s c=some r):Ct Tryz.prog 77 [(V.sl (List.map zB s)),(V.fn 78 [(V.fptr [(zD c)] 0 0)])] (V.b r):=by
 refine zX Zh rfl ?_
 unfold Zf at hM
 refine X.sq (X.q rfl (GS.zC (GS.seq ?_)))
 obtain ⟨y,h_1,hM⟩:=zM hM
 refine GS.region (X.q rfl (X.q rfl ?_))
 refine X.call (yP h_1) rfl rfl rfl (.cons (.shut (n:=9) rfl) (.cons (.shut (n:=9) rfl) .nil)) (X.q rfl (X.q rfl ?_))
 refine GS.zC ?_
 cases hM
 exact GS.ret ⟨_,rfl,⟨30,rfl⟩⟩
theorem qL {c:zG} {l:(List zA)} {r:Int} (hM:YA c l=some r):Ct Tryz.prog 39 [(zD c),(V.sl (List.map zB l))] (V.i r):=by
 refine zX Zh rfl ?_
 unfold YA at hM
 refine X.sq ?_
 refine X.opW rfl rfl rfl rfl (X.q rfl (GS.zC (GS.seq (X.sq (X.q rfl ?_)))))
 refine X.call (Z7 c) rfl rfl rfl (.cons (.shut (n:=9) rfl) .nil) (X.q rfl (X.nq (X.q rfl (X.q rfl ?_))))
 refine GS.zC ?_
 refine X.cond rfl (fun h_1=>?_) (fun h_1=>?_)
 ·replace hM:=Zb h_1 hM
  refine X.sq (X.q rfl (X.q rfl ?_))
  refine GS.zC ?_
  cases hM
  exact GS.ret ⟨_,rfl,⟨30,rfl⟩⟩
 replace hM:=Zc h_1 hM
 refine GS.skip (GS.seq (X.sq (X.q rfl ?_)))
 refine X.opR rfl (X.lenF rfl rfl rfl) rfl (X.q rfl (GS.zC ?_))
 refine X.cond rfl (fun h_2=>?_) (fun h_2=>?_)
 ·replace hM:=Zb h_2 hM
  refine X.sq (X.q rfl (GS.zC ?_))
  cases hM
  exact GS.ret ⟨_,rfl,⟨30,rfl⟩⟩
 replace hM:=Zc h_2 hM
 refine GS.skip ?_
 iterate 2 refine GS.seq ?_
 obtain ⟨y,h_3,hM⟩:=zM hM
 refine GS.region (X.q rfl (X.q rfl ?_))
 refine X.Y3 (J5 h_3) rfl rfl rfl (m:=9) rfl (.cons (.shut (n:=9) rfl) (.cons (FR.arg ⟨30,rfl⟩) .nil)) (GS.zC ?_)
 refine X.cond rfl (fun h_4=>?_) (fun h_4=>?_)
 ·replace hM:=Zb h_4 hM
  refine X.sq (X.q rfl (GS.zC ?_))
  cases hM
  exact GS.ret ⟨_,rfl,⟨30,rfl⟩⟩
 replace hM:=Zc h_4 hM
 refine GS.skip (X.sq (X.q rfl (GS.zC ?_)))
 cases hM
 exact GS.ret ⟨_,rfl,⟨30,rfl⟩⟩
abbrev Qo : FK Int (List zA):=fkS V.i (fun _ _ _=>rfl) 8 zB (fun _ _ _=>rfl)
theorem zCF (l:zA):Ct Tryz.prog 40 [(zB l)] (zB (zK l)):=by
 refine zX Zh rfl ?_
 generalize hM:zK l=r
 unfold zK at hM
 refine X.sq ?_
 iterate 2 refine X.opW rfl rfl rfl rfl ?_
 refine X.nq (X.q rfl ?_)
 refine X.op0W rfl rfl rfl (X.q rfl ?_)
 refine X.op0W rfl rfl rfl (X.nq (X.q rfl ?_))
 refine X.op0W rfl rfl rfl (GS.zC ?_)
 subst hM
 exact GS.ret ⟨_,rfl,⟨30,rfl⟩⟩
theorem zCo (a b:zA):Yy (zB a) (zB b)=some (decide (a=b)):=by
 have h:Yy (zB a) (zB b)=some (decide ([(IntKind.i64,a.ID),(IntKind.i64,a.Case),(IntKind.i64,a.Kind),(IntKind.i64,a.Round),(IntKind.i64,a.From),(IntKind.i64,a.To),(IntKind.i64,a.Voted),(IntKind.i64,a.Finding)]=[(IntKind.i64,b.ID),(IntKind.i64,b.Case),(IntKind.i64,b.Kind),(IntKind.i64,b.Round),(IntKind.i64,b.From),(IntKind.i64,b.To),(IntKind.i64,b.Voted),(IntKind.i64,b.Finding)])):=rfl
 rw [h]
 congr 1
 cases a
 cases b
 simp
theorem zCG {l:(List zA)} {arbiter:Int} {r:zA} (hM:Qj l arbiter=some r):Ct Tryz.prog 45 [(V.sl (List.map zB l)),(V.i arbiter)] (zB r):=by
 refine zX Zh rfl ?_
 unfold Qj at hM
 refine X.sq ?_
 refine X.opW rfl rfl rfl rfl (X.nq ?_)
 refine X.opW rfl rfl rfl rfl (GS.zC (GS.seq (X.sq (X.q rfl ?_))))
 refine X.opR rfl (X.lenF rfl rfl rfl) rfl (X.q rfl (GS.zC ?_))
 refine X.join (τ:=Int×Int×Int×Int×Int×Int×Int×Int) (fun v=>YF v.1 v.2.1 v.2.2.1 v.2.2.2.1 v.2.2.2.2.1 v.2.2.2.2.2.1 v.2.2.2.2.2.2.1 v.2.2.2.2.2.2.2=some r) (fun v=>⟨[(4,(V.ptr 0 0 0)),(5,(V.ptr 1 0 0))],[.rows 8 [(V.agg [(V.i 0),(V.i 0),(V.i 0),(V.i 0),(V.i 0),(V.i 0),(V.i 0),(V.i 0)])],.rows 8 [(V.agg [(V.i v.1),(V.i v.2.1),(V.i v.2.2.1),(V.i v.2.2.2.1),(V.i v.2.2.2.2.1),(V.i v.2.2.2.2.2.1),(V.i v.2.2.2.2.2.2.1),(V.i v.2.2.2.2.2.2.2)])]],0,none,33⟩) ?_ ?_
 ·rintro ⟨ID,Case,Kind,Round,From,To,Voted,Finding⟩ hM
  replace hM:YF ID Case Kind Round From To Voted Finding=some r:=hM
  unfold YF at hM
  refine X.sq (X.q rfl ?_)
  refine X.op0W rfl rfl rfl (GS.zC ?_)
  cases hM
  exact GS.ret ⟨_,rfl,⟨30,rfl⟩⟩
 intro hj_1
 refine GS.block ?_
 refine X.gc [some 0,some 1] (X.loop (σ:=(Int×Int×Int×Int×Int×Int×Int×Int×Int)) (fun v=>⟨[(1,(V.i arbiter)),(4,(V.ptr 0 0 0)),(5,(V.ptr 1 0 0)),(8,(V.sl (List.map zB l))),(9,(V.i (l.length:Int))),(10,(V.i v.1))],[.rows 8 [(V.agg [(V.i 0),(V.i 0),(V.i 0),(V.i 0),(V.i 0),(V.i 0),(V.i 0),(V.i 0)])],.rows 8 [(V.agg [(V.i v.2.1),(V.i v.2.2.1),(V.i v.2.2.2.1),(V.i v.2.2.2.2.1),(V.i v.2.2.2.2.2.1),(V.i v.2.2.2.2.2.2.1),(V.i v.2.2.2.2.2.2.2.1),(V.i v.2.2.2.2.2.2.2.2)])]],0,none,33⟩) hM ?_ rfl) rfl rfl rfl (ga rfl rfl) (gb9 rfl rfl rfl (gb9 rfl rfl rfl zU))
 rintro ⟨x1,ID2,Case2,Kind2,Round2,From2,To2,Voted2,Finding2⟩ b_1 hM hc_2 hr_1
 rw [YG] at hM
 refine X.sq (X.q rfl (GS.zC (GS.seq ?_)))
 refine X.cond rfl (fun h_1=>?_) (fun h_1=>?_)
 ·replace hM:=Zb h_1 hM
  refine GS.skip (GS.seq ?_)
  refine X.join (τ:=Int×Int×Int×Int×Int×Int×Int×Int) (fun v=>yD x1 v.1 v.2.1 v.2.2.1 v.2.2.2.1 v.2.2.2.2.1 v.2.2.2.2.2.1 v.2.2.2.2.2.2.1 v.2.2.2.2.2.2.2=some b_1) (fun v=>⟨[(1,(V.i arbiter)),(4,(V.ptr 0 0 0)),(5,(V.ptr 1 0 0)),(8,(V.sl (List.map zB l))),(9,(V.i (l.length:Int))),(10,(V.i x1))],[.rows 8 [(V.agg [(V.i 0),(V.i 0),(V.i 0),(V.i 0),(V.i 0),(V.i 0),(V.i 0),(V.i 0)])],.rows 8 [(V.agg [(V.i v.1),(V.i v.2.1),(V.i v.2.2.1),(V.i v.2.2.2.1),(V.i v.2.2.2.2.1),(V.i v.2.2.2.2.2.1),(V.i v.2.2.2.2.2.2.1),(V.i v.2.2.2.2.2.2.2)])]],0,none,33⟩) ?_ ?_
  ·rintro ⟨ID1,Case1,Kind1,Round1,From1,To1,Voted1,Finding1⟩ hM
   replace hM:yD x1 ID1 Case1 Kind1 Round1 From1 To1 Voted1 Finding1=some b_1:=hM
   unfold yD at hM
   refine GS.region ?_
   refine X.opR rfl (X.addE rfl rfl) rfl (X.q rfl (GS.zC ?_))
   have hE:=Option.some.inj hM
   exact X.gc [some 0,some 1] (hc_2 (w64 (x1+1),ID1,Case1,Kind1,Round1,From1,To1,Voted1,Finding1) hE.symm) rfl rfl rfl (ga rfl rfl) (gb9 rfl rfl rfl (gb9 rfl rfl rfl zU))
  intro hj_3
  refine GS.block (GS.seq ?_)
  obtain ⟨x,h_2,hM⟩:=zM hM
  refine GS.region ?_
  refine X.opR rfl (X.yT (f:=zB) h_2 (fun _=>rfl) rfl rfl rfl rfl) rfl ?_
  refine X.opR rfl (X.Yx h_2 rfl rfl rfl) rfl ?_
  refine X.opW rfl rfl rfl rfl ?_
  refine X.op0W rfl rfl rfl (X.nq ?_)
  refine X.mid [(1,(V.i arbiter)),(4,(V.ptr 0 0 0)),(5,(V.ptr 1 0 0)),(7,(V.ptr 2 0 0)),(8,(V.sl (List.map zB l))),(9,(V.i (l.length:Int))),(10,(V.i x1)),(29,(V.b (((decide (x.Kind=4))&&(decide (x.From=arbiter)))&&(decide (Round2<x.Round)))))] ?_ ?_
  ·intro hg
   refine X.split (decide (x.Kind=4)) (fun h_3=>?_) (fun h_3=>?_)
   ·refine X.split (((decide (x.Kind=4))&&(decide (x.From=arbiter)))) (fun h_4=>?_) (fun h_4=>?_)
    ·iterate 4 refine X.q rfl ?_
     iterate 4 refine X.opR (X.on_t rfl rfl rfl h_3) rfl rfl ?_
     refine X.opR rfl (X.zm (y:=decide (x.From=arbiter)) rfl h_3 rfl) rfl (X.q rfl ?_)
     iterate 5 refine X.opR (X.on_t rfl rfl rfl h_4) rfl rfl ?_
     refine X.opR rfl (X.zm (y:=decide (Round2<x.Round)) rfl h_4 rfl) rfl (GS.zC ?_)
     exact X.norm _ hg rfl (sr rfl)
    iterate 4 refine X.q rfl ?_
    iterate 4 refine X.opR (X.on_t rfl rfl rfl h_3) rfl rfl ?_
    refine X.opR rfl (X.zm (y:=decide (x.From=arbiter)) rfl h_3 rfl) rfl (X.q rfl ?_)
    iterate 5 refine X.off (X.JA rfl rfl rfl h_4) rfl ?_
    refine X.opR rfl (X.ZJ (y:=decide (Round2<x.Round)) rfl h_4 rfl) rfl (GS.zC ?_)
    exact X.norm _ hg rfl (sr rfl)
   iterate 4 refine X.q rfl ?_
   iterate 4 refine X.off (X.JA rfl rfl rfl h_3) rfl ?_
   refine X.opR rfl (X.ZJ (y:=decide (x.From=arbiter)) rfl h_3 rfl) rfl (X.q rfl ?_)
   iterate 5 refine X.off (X.JA rfl rfl rfl (X.yB h_3)) rfl ?_
   refine X.opR rfl (X.ZJ (y:=decide (Round2<x.Round)) rfl (X.yB h_3) rfl) rfl (GS.zC ?_)
   exact X.norm _ hg rfl (sr rfl)
  refine X.cond rfl (fun h_5=>?_) (fun h_5=>?_)
  ·replace hM:=Zb h_5 hM
   refine GS.region (X.q rfl ?_)
   refine X.op0W rfl rfl rfl (GS.zC ?_)
   refine GS.endB ?_
   exact X.gc [some 0,some 1] (hj_3 (x.ID,x.Case,x.Kind,x.Round,x.From,x.To,x.Voted,x.Finding) hM) rfl rfl rfl (ga rfl rfl) (gb9 rfl rfl rfl (gb9 rfl rfl rfl zU))
  replace hM:=Zc h_5 hM
  refine GS.skip ?_
  refine GS.endB ?_
  exact X.gc [some 0,some 1] (hj_3 (ID2,Case2,Kind2,Round2,From2,To2,Voted2,Finding2) hM) rfl rfl rfl (ga rfl rfl) (gb9 rfl rfl rfl (gb9 rfl rfl rfl zU))
 replace hM:=Zc h_1 hM
 refine GS.exit rfl ?_
 obtain ⟨y_1,hM,hy⟩:=yR hM
 rw [hr_1 _ hy.symm] at hM
 exact X.gc [some 0,some 1] (hj_1 (ID2,Case2,Kind2,Round2,From2,To2,Voted2,Finding2) hM) rfl rfl rfl (ga rfl rfl) (gb9 rfl rfl rfl (gb9 rfl rfl rfl zU))
theorem zDT (y:zA) (c:zA):Ct Tryz.prog 81 [(zB y),(V.fptr [(zB c)] 0 0)] (V.b (jO y c)):=by
 refine zX Zh rfl ?_
 generalize hM:jO y c=r
 unfold jO at hM
 refine X.sq ?_
 refine X.opW rfl rfl rfl rfl (X.q rfl (X.nq ?_))
 refine X.mid [(3,(V.b ((decide (y.Kind=1))&&(decide (y.Round=c.Round)))))] ?_ ?_
 ·intro hg
  refine X.split (decide (y.Kind=1)) (fun h_1=>?_) (fun h_1=>?_)
  ·iterate 4 refine X.q rfl ?_
   iterate 5 refine X.opR (X.on_t rfl rfl rfl h_1) rfl rfl ?_
   refine X.opR rfl (X.zm (y:=decide (y.Round=c.Round)) rfl h_1 rfl) rfl (X.q rfl (GS.zC ?_))
   exact X.norm _ hg rfl (sr rfl)
  iterate 4 refine X.q rfl ?_
  iterate 5 refine X.off (X.JA rfl rfl rfl h_1) rfl ?_
  refine X.opR rfl (X.ZJ (y:=decide (y.Round=c.Round)) rfl h_1 rfl) rfl (X.q rfl (GS.zC ?_))
  exact X.norm _ hg rfl (sr rfl)
 subst hM
 exact GS.ret ⟨_,rfl,⟨30,rfl⟩⟩
theorem yA {s:(List zA)} {c:zA} {r:Int} (hM:Zm s c=some r):Ct Tryz.prog 91 [(V.sl (List.map zB s)),(V.fn 81 [(V.fptr [(zB c)] 0 0)])] (V.i r):=by
 refine zX Zh rfl ?_
 unfold Zm at hM
 refine X.sq (X.q rfl (GS.zC (GS.seq (X.sq (X.q rfl ?_)))))
 refine X.opR rfl (X.lenF rfl rfl rfl) rfl (X.q rfl (GS.zC ?_))
 refine X.join (τ:=Unit) (fun v=>zu=some r) (fun v=>⟨[],[],0,none,19⟩) ?_ ?_
 ·intro _ hM
  replace hM:zu=some r:=hM
  unfold zu at hM
  refine X.sq (X.q rfl (GS.zC ?_))
  cases hM
  exact GS.ret ⟨_,rfl,⟨30,rfl⟩⟩
 intro hj_1
 refine GS.block ?_
 refine X.gc [] (X.loop (σ:=Int) (fun v=>⟨[(0,(V.sl (List.map zB s))),(1,(V.fn 81 [(V.fptr [(zB c)] 0 0)])),(7,(V.i (s.length:Int))),(8,(V.i v))],[],0,none,19⟩) hM ?_ rfl) rfl rfl rfl (ga rfl rfl) (zU)
 intro x1 b_1 hM hc_2 hr_1
 rw [ZR] at hM
 refine X.sq (X.q rfl (GS.zC (GS.seq ?_)))
 refine X.cond rfl (fun h_1=>?_) (fun h_1=>?_)
 ·replace hM:=Zb h_1 hM
  refine GS.skip (GS.seq (GS.block (X.sq (X.q rfl (X.q rfl ?_)))))
  refine GS.zC (GS.seq ?_)
  obtain ⟨x,h_2,hM⟩:=zM hM
  refine GS.region (X.q rfl (X.q rfl (X.q rfl ?_)))
  refine X.opR rfl (X.yT (f:=zB) h_2 (fun _=>rfl) rfl rfl rfl rfl) rfl ?_
  refine X.opR rfl (X.Yx h_2 rfl rfl rfl) rfl ?_
  refine X.call (zDT x c) rfl rfl rfl (.cons (.shut (n:=9) rfl) (.cons (.shut (n:=9) rfl) .nil)) (GS.zC ?_)
  refine X.cond rfl (fun h_3=>?_) (fun h_3=>?_)
  ·replace hM:=Zb h_3 hM
   refine X.sq (X.q rfl (X.q rfl ?_))
   refine GS.zC ?_
   have hE:=Option.some.inj hM
   replace hE:=hr_1 _ hE.symm
   subst hE
   exact GS.ret ⟨_,rfl,⟨30,rfl⟩⟩
  replace hM:=Zc h_3 hM
  refine GS.skip ?_
  refine GS.endB (GS.region ?_)
  refine X.opR rfl (X.addE rfl rfl) rfl (X.q rfl (GS.zC ?_))
  have hE:=Option.some.inj hM
  exact X.gc [] (hc_2 (w64 (x1+1)) hE.symm) rfl rfl rfl (ga rfl rfl) (zU)
 replace hM:=Zc h_1 hM
 refine GS.exit rfl ?_
 obtain ⟨y_1,hM,hy⟩:=yR hM
 rw [hr_1 _ hy.symm] at hM
 exact X.gc [] (hj_1 () hM) rfl rfl rfl (Jd) (zU)
theorem Js {s:(List zA)} {c:zA} {r:Bool} (hM:ZX s c=some r):Ct Tryz.prog 77 [(V.sl (List.map zB s)),(V.fn 81 [(V.fptr [(zB c)] 0 0)])] (V.b r):=by
 refine zX Zh rfl ?_
 unfold ZX at hM
 refine X.sq (X.q rfl (GS.zC (GS.seq ?_)))
 obtain ⟨y,h_1,hM⟩:=zM hM
 refine GS.region (X.q rfl (X.q rfl ?_))
 refine X.call (yA h_1) rfl rfl rfl (.cons (.shut (n:=9) rfl) (.cons (.shut (n:=9) rfl) .nil)) (X.q rfl (X.q rfl ?_))
 refine GS.zC ?_
 cases hM
 exact GS.ret ⟨_,rfl,⟨30,rfl⟩⟩
theorem JZ {c:zA} {c1:(List zA)} {r:Bool} (hM:Zz c c1=some r):Ct Tryz.prog 80 [(V.fn 81 [(V.fptr [(zB c)] 0 0)]),(V.fptr [(V.sl (List.map zB c1))] 0 0)] (V.b r):=by
 refine zX Zh rfl ?_
 unfold Zz at hM
 refine X.sq (X.q rfl (GS.zC (GS.seq ?_)))
 obtain ⟨y,h_1,hM⟩:=zM hM
 refine GS.region (X.q rfl (X.q rfl ?_))
 refine X.call (Js h_1) rfl rfl rfl (.cons (.shut (n:=9) rfl) (.cons (.shut (n:=9) rfl) .nil)) (X.q rfl (GS.zC ?_))
 cases hM
 exact GS.ret ⟨_,rfl,⟨30,rfl⟩⟩
theorem JD (l:zA):Ct Tryz.prog 83 [(zB l)] (V.b (jB l)):=by
 refine zX Zh rfl ?_
 generalize hM:jB l=r
 unfold jB at hM
 refine X.sq ?_
 refine X.opW rfl rfl rfl rfl (X.q rfl (X.nq ?_))
 refine X.mid [(2,(V.b ((decide (l.Kind=2))||(decide (l.Kind=4)))))] ?_ ?_
 ·intro hg
  refine X.split (decide (l.Kind=2)) (fun h_1=>?_) (fun h_1=>?_)
  ·iterate 4 refine X.q rfl ?_
   iterate 3 refine X.off (X.JN rfl rfl rfl h_1) rfl ?_
   refine X.opR rfl (X.Zq (y:=decide (l.Kind=4)) rfl h_1 rfl) rfl (X.q rfl (GS.zC ?_))
   exact X.norm _ hg rfl (sr rfl)
  iterate 4 refine X.q rfl ?_
  iterate 3 refine X.opR (X.on_f rfl rfl rfl h_1) rfl rfl ?_
  refine X.opR rfl (X.Zo (y:=decide (l.Kind=4)) rfl h_1 rfl) rfl (X.q rfl (GS.zC ?_))
  exact X.norm _ hg rfl (sr rfl)
 subst hM
 exact GS.ret ⟨_,rfl,⟨30,rfl⟩⟩
theorem zDS (y:zA) (c:zA):Ct Tryz.prog 82 [(zB y),(V.fptr [(zB c)] 0 0)] (V.b (jN y c)):=by
 refine zX Zh rfl ?_
 generalize hM:jN y c=r
 unfold jN at hM
 refine X.sq ?_
 refine X.opW rfl rfl rfl rfl (X.q rfl (X.nq ?_))
 refine X.mid [(3,(V.b (((jB y)&&(decide (y.From=c.From)))&&(decide (c.Round≤y.Round)))))] ?_ ?_
 ·intro hg
  refine X.split ((jB y)) (fun h_1=>?_) (fun h_1=>?_)
  ·refine X.split (((jB y)&&(decide (y.From=c.From)))) (fun h_2=>?_) (fun h_2=>?_)
   ·refine X.q rfl ?_
    refine X.call (JD y) rfl rfl rfl (.cons (.shut (n:=9) rfl) .nil) (X.q rfl ?_)
    iterate 5 refine X.opR (X.on_t rfl rfl rfl h_1) rfl rfl ?_
    refine X.opR rfl (X.zm (y:=decide (y.From=c.From)) rfl h_1 rfl) rfl (X.q rfl ?_)
    iterate 5 refine X.opR (X.on_t rfl rfl rfl h_2) rfl rfl ?_
    refine X.opR rfl (X.zm (y:=decide (c.Round≤y.Round)) rfl h_2 rfl) rfl (X.q rfl (GS.zC ?_))
    exact X.norm _ hg rfl (sr rfl)
   refine X.q rfl ?_
   refine X.call (JD y) rfl rfl rfl (.cons (.shut (n:=9) rfl) .nil) (X.q rfl ?_)
   iterate 5 refine X.opR (X.on_t rfl rfl rfl h_1) rfl rfl ?_
   refine X.opR rfl (X.zm (y:=decide (y.From=c.From)) rfl h_1 rfl) rfl (X.q rfl ?_)
   iterate 5 refine X.off (X.JA rfl rfl rfl h_2) rfl ?_
   refine X.opR rfl (X.ZJ (y:=decide (c.Round≤y.Round)) rfl h_2 rfl) rfl (X.q rfl (GS.zC ?_))
   exact X.norm _ hg rfl (sr rfl)
  refine X.q rfl ?_
  refine X.call (JD y) rfl rfl rfl (.cons (.shut (n:=9) rfl) .nil) (X.q rfl ?_)
  iterate 5 refine X.off (X.JA rfl rfl rfl h_1) rfl ?_
  refine X.opR rfl (X.ZJ (y:=decide (y.From=c.From)) rfl h_1 rfl) rfl (X.q rfl ?_)
  iterate 5 refine X.off (X.JA rfl rfl rfl (X.yB h_1)) rfl ?_
  refine X.opR rfl (X.ZJ (y:=decide (c.Round≤y.Round)) rfl (X.yB h_1) rfl) rfl (X.q rfl (GS.zC ?_))
  exact X.norm _ hg rfl (sr rfl)
 subst hM
 exact GS.ret ⟨_,rfl,⟨30,rfl⟩⟩
theorem J9 {s:(List zA)} {c:zA} {r:Int} (hM:Zl s c=some r):Ct Tryz.prog 91 [(V.sl (List.map zB s)),(V.fn 82 [(V.fptr [(zB c)] 0 0)])] (V.i r):=by
 refine zX Zh rfl ?_
 unfold Zl at hM
 refine X.sq (X.q rfl (GS.zC (GS.seq (X.sq (X.q rfl ?_)))))
 refine X.opR rfl (X.lenF rfl rfl rfl) rfl (X.q rfl (GS.zC ?_))
 refine X.join (τ:=Unit) (fun v=>zt=some r) (fun v=>⟨[],[],0,none,19⟩) ?_ ?_
 ·intro _ hM
  replace hM:zt=some r:=hM
  unfold zt at hM
  refine X.sq (X.q rfl (GS.zC ?_))
  cases hM
  exact GS.ret ⟨_,rfl,⟨30,rfl⟩⟩
 intro hj_1
 refine GS.block ?_
 refine X.gc [] (X.loop (σ:=Int) (fun v=>⟨[(0,(V.sl (List.map zB s))),(1,(V.fn 82 [(V.fptr [(zB c)] 0 0)])),(7,(V.i (s.length:Int))),(8,(V.i v))],[],0,none,19⟩) hM ?_ rfl) rfl rfl rfl (ga rfl rfl) (zU)
 intro x1 b_1 hM hc_2 hr_1
 rw [ZQ] at hM
 refine X.sq (X.q rfl (GS.zC (GS.seq ?_)))
 refine X.cond rfl (fun h_1=>?_) (fun h_1=>?_)
 ·replace hM:=Zb h_1 hM
  refine GS.skip (GS.seq (GS.block (X.sq (X.q rfl (X.q rfl ?_)))))
  refine GS.zC (GS.seq ?_)
  obtain ⟨x,h_2,hM⟩:=zM hM
  refine GS.region (X.q rfl (X.q rfl (X.q rfl ?_)))
  refine X.opR rfl (X.yT (f:=zB) h_2 (fun _=>rfl) rfl rfl rfl rfl) rfl ?_
  refine X.opR rfl (X.Yx h_2 rfl rfl rfl) rfl ?_
  refine X.call (zDS x c) rfl rfl rfl (.cons (.shut (n:=9) rfl) (.cons (.shut (n:=9) rfl) .nil)) (GS.zC ?_)
  refine X.cond rfl (fun h_3=>?_) (fun h_3=>?_)
  ·replace hM:=Zb h_3 hM
   refine X.sq (X.q rfl (X.q rfl ?_))
   refine GS.zC ?_
   have hE:=Option.some.inj hM
   replace hE:=hr_1 _ hE.symm
   subst hE
   exact GS.ret ⟨_,rfl,⟨30,rfl⟩⟩
  replace hM:=Zc h_3 hM
  refine GS.skip ?_
  refine GS.endB (GS.region ?_)
  refine X.opR rfl (X.addE rfl rfl) rfl (X.q rfl (GS.zC ?_))
  have hE:=Option.some.inj hM
  exact X.gc [] (hc_2 (w64 (x1+1)) hE.symm) rfl rfl rfl (ga rfl rfl) (zU)
 replace hM:=Zc h_1 hM
 refine GS.exit rfl ?_
 obtain ⟨y_1,hM,hy⟩:=yR hM
 rw [hr_1 _ hy.symm] at hM
 exact X.gc [] (hj_1 () hM) rfl rfl rfl (Jd) (zU)
theorem Jr {s:(List zA)} {c:zA} {r:Bool} (hM:ZW s c=some r):Ct Tryz.prog 77 [(V.sl (List.map zB s)),(V.fn 82 [(V.fptr [(zB c)] 0 0)])] (V.b r):=by
 refine zX Zh rfl ?_
 unfold ZW at hM
 refine X.sq (X.q rfl (GS.zC (GS.seq ?_)))
 obtain ⟨y,h_1,hM⟩:=zM hM
 refine GS.region (X.q rfl (X.q rfl ?_))
 refine X.call (J9 h_1) rfl rfl rfl (.cons (.shut (n:=9) rfl) (.cons (.shut (n:=9) rfl) .nil)) (X.q rfl (X.q rfl ?_))
 refine GS.zC ?_
 cases hM
 exact GS.ret ⟨_,rfl,⟨30,rfl⟩⟩
theorem Yj {c:zA} {c1:(List zA)} {r:Bool} (hM:Zy c c1=some r):Ct Tryz.prog 80 [(V.fn 82 [(V.fptr [(zB c)] 0 0)]),(V.fptr [(V.sl (List.map zB c1))] 0 0)] (V.b r):=by
 refine zX Zh rfl ?_
 unfold Zy at hM
 refine X.sq (X.q rfl (GS.zC (GS.seq ?_)))
 obtain ⟨y,h_1,hM⟩:=zM hM
 refine GS.region (X.q rfl (X.q rfl ?_))
 refine X.call (Jr h_1) rfl rfl rfl (.cons (.shut (n:=9) rfl) (.cons (.shut (n:=9) rfl) .nil)) (X.q rfl (GS.zC ?_))
 cases hM
 exact GS.ret ⟨_,rfl,⟨30,rfl⟩⟩
theorem qU (l:(List zA)) (round:Int):Ct Tryz.prog 105 [(V.sl (List.map zB l)),(V.i round)] (V.fn 113 [(V.fptr [(V.sl (List.map zB ((zH l round).1)))] 0 0),(V.fptr [(V.i ((zH l round).2))] 0 0)]):=by
 refine zX Zh rfl ?_
 generalize hM:zH l round=r
 unfold zH at hM
 refine X.sq ?_
 iterate 2 refine X.opW rfl rfl rfl rfl ?_
 refine X.q rfl (X.nq (X.q rfl (X.q rfl ?_)))
 refine GS.zC ?_
 subst hM
 exact GS.ret ⟨_,rfl,⟨30,rfl⟩⟩
set_option maxHeartbeats 4000000 in
theorem Ql {c:zG} {l:(List zA)} {round:Int} {n:Int} {r:Bool} (hM:J3 c l round n=some r):Ct Tryz.prog 84 [(zD c),(V.sl (List.map zB l)),(V.i round),(V.i n)] (V.b r):=by
 refine zX Zh rfl ?_
 unfold J3 at hM
 refine X.sq ?_
 iterate 3 refine X.opW rfl rfl rfl rfl ?_
 refine X.opW (H':=[.rows 1 [(zD c)],.rows 1 [(V.sl (List.map zB l))],.rows 1 [(V.i round)],.rows 1 [(V.i n)]]) rfl rfl rfl rfl ?_
 refine X.opW (H':=[.rows 1 [(zD c)],.rows 1 [(V.sl (List.map zB l))],.rows 1 [(V.i round)],.rows 1 [(V.i n)],.rows 1 [(V.b false)]]) rfl rfl rfl rfl (X.nq ?_)
 refine X.opW (H':=[.rows 1 [(zD c)],.rows 1 [(V.sl (List.map zB l))],.rows 1 [(V.i round)],.rows 1 [(V.i n)],.rows 1 [(V.b false)],.rows 1 [(V.i 0)]]) rfl rfl rfl rfl ?_
 refine X.op0W (H':=[.rows 1 [(zD c)],.rows 1 [(V.sl (List.map zB l))],.rows 1 [(V.i round)],.rows 1 [(V.i n)],.rows 1 [(V.b false)],.rows 1 [(V.i 0)]]) rfl rfl rfl (GS.zC (GS.seq (X.sq (X.q rfl (X.q rfl ?_)))))
 refine X.call (qU l round) rfl rfl rfl (.cons (.shut (n:=9) rfl) (.cons (.shut (n:=9) rfl) .nil)) (GS.zC (GS.block ?_))
 refine X.gc [some 0,some 1,some 2,some 3,some 4,some 5] (H':=[.rows 1 [(zD c)],.rows 1 [(V.sl (List.map zB l))],.rows 1 [(V.i round)],.rows 1 [(V.i n)],.rows 1 [(V.b false)],.rows 1 [(V.i 0)]]) (K':=[(4,(V.ptr 0 0 0)),(5,(V.ptr 1 0 0)),(6,(V.ptr 2 0 0)),(7,(V.ptr 3 0 0)),(8,(V.ptr 4 0 0)),(9,(V.ptr 5 0 0)),(15,(V.fn 113 [(V.fptr [(V.sl (List.map zB ((zH l round).1)))] 0 0),(V.fptr [(V.i ((zH l round).2))] 0 0)]))]) ?_ rfl rfl rfl (ga rfl rfl) (gb9 rfl rfl rfl (gb9 rfl rfl rfl (gb9 rfl rfl rfl (gb9 rfl rfl rfl (gb9 rfl rfl rfl (gb9 rfl rfl rfl zU))))))
 refine X.range rfl rfl (Jt ⟨9,rfl⟩ (Jt ⟨9,rfl⟩ (Jt ⟨9,rfl⟩ (Jt ⟨9,rfl⟩ (Jt ⟨9,rfl⟩ (Jt ⟨9,rfl⟩ (Jt ⟨9,rfl⟩ zJs))))))) rfl ?_
 intro R_1 hrn_1 hrK_1 hrp_1 hra_1 hrb_1 hlow_1
 refine X.sq ?_
 refine X.opW (H':=[.rows 1 [(zD c)],.rows 1 [(V.sl (List.map zB l))],.rows 1 [(V.i round)],.rows 1 [(V.i n)],.rows 1 [(V.b false)],.rows 1 [(V.i 0)],lr R_1 .ready none,.map (List.map (fun p:Int×Bool=>V.i p.1) []) (List.map (fun p:Int×Bool=>V.b p.2) [])]) rfl rfl rfl rfl (X.q rfl (X.nq (X.q rfl ?_)))
 refine X.opR rfl (X.lenF rfl rfl rfl) rfl (X.q rfl (GS.zC (GS.block ?_)))
 refine X.gc [some 7] (X.loop (σ:=(Int×(List (Int×Bool))×Int)) (fun v=>⟨[(0,(V.yld 6)),(2,(V.fptr [(V.i ((zH l round).2))] 0 0)),(4,(V.map 7)),(8,(V.sl (List.map zB ((zH l round).1)))),(9,(V.i (((zH l round).1).length:Int))),(10,(V.i v.1))],[.rows 1 [(zD c)],.rows 1 [(V.sl (List.map zB l))],.rows 1 [(V.i round)],.rows 1 [(V.i n)],.rows 1 [(V.b false)],.rows 1 [(V.i v.2.2)],lr R_1 .ready none,.map (List.map (fun p:Int×Bool=>V.i p.1) v.2.1) (List.map (fun p:Int×Bool=>V.b p.2) v.2.1)],0,none,37⟩) hM ?_ rfl) rfl rfl rfl (ga rfl rfl) (gb9 rfl rfl rfl (gb9 rfl rfl rfl (gb9 rfl rfl rfl (gb9 rfl rfl rfl (gb9 rfl rfl rfl (gb9 rfl rfl rfl (J4 hlow_1 rfl rfl rfl (X.jy 9 rfl rfl (fun _=>rfl) (fun _=>rfl) zU))))))))
 rintro ⟨x3,m3,fresh1⟩ b_1 hM hc_1 hr_1
 rw [JI] at hM
 refine X.sq (X.q rfl (GS.zC (GS.seq ?_)))
 refine X.cond rfl (fun h_2=>?_) (fun h_2=>?_)
 ·replace hM:=Zb h_2 hM
  refine GS.skip (GS.seq ?_)
  refine X.join (τ:=(List (Int×Bool))×Int) (fun v=>jD x3 v.1 v.2=some b_1) (fun v=>⟨[(0,(V.yld 6)),(2,(V.fptr [(V.i ((zH l round).2))] 0 0)),(4,(V.map 7)),(8,(V.sl (List.map zB ((zH l round).1)))),(9,(V.i (((zH l round).1).length:Int))),(10,(V.i x3))],[.rows 1 [(zD c)],.rows 1 [(V.sl (List.map zB l))],.rows 1 [(V.i round)],.rows 1 [(V.i n)],.rows 1 [(V.b false)],.rows 1 [(V.i v.2)],lr R_1 .ready none,.map (List.map (fun p:Int×Bool=>V.i p.1) v.1) (List.map (fun p:Int×Bool=>V.b p.2) v.1)],0,none,37⟩) ?_ ?_
  ·rintro ⟨m,fresh⟩ hM
   replace hM:jD x3 m fresh=some b_1:=hM
   unfold jD at hM
   refine GS.region ?_
   refine X.opR rfl (X.addE rfl rfl) rfl (X.q rfl (GS.zC ?_))
   have hE:=Option.some.inj hM
   exact X.gc [some 7] (hc_1 (w64 (x3+1),m,fresh) hE.symm) rfl rfl rfl (ga rfl rfl) (gb9 rfl rfl rfl (gb9 rfl rfl rfl (gb9 rfl rfl rfl (gb9 rfl rfl rfl (gb9 rfl rfl rfl (gb9 rfl rfl rfl (J4 hlow_1 rfl rfl rfl (X.jy 9 rfl rfl (fun _=>rfl) (fun _=>rfl) zU))))))))
  intro hj_2
  refine GS.block (GS.seq ?_)
  obtain ⟨x,h_3,hM⟩:=zM hM
  refine GS.region ?_
  refine X.opR rfl (X.yT (f:=zB) h_3 (fun _=>rfl) rfl rfl rfl rfl) rfl ?_
  refine X.opR rfl (X.Yx h_3 rfl rfl rfl) rfl ?_
  refine X.opW (H':=[.rows 1 [(zD c)],.rows 1 [(V.sl (List.map zB l))],.rows 1 [(V.i round)],.rows 1 [(V.i n)],.rows 1 [(V.b false)],.rows 1 [(V.i fresh1)],lr R_1 .ready none,.map (List.map (fun p:Int×Bool=>V.i p.1) m3) (List.map (fun p:Int×Bool=>V.b p.2) m3),.rows 8 [(V.agg [(V.i 0),(V.i 0),(V.i 0),(V.i 0),(V.i 0),(V.i 0),(V.i 0),(V.i 0)])]]) rfl rfl rfl rfl ?_
  refine X.op0W (H':=[.rows 1 [(zD c)],.rows 1 [(V.sl (List.map zB l))],.rows 1 [(V.i round)],.rows 1 [(V.i n)],.rows 1 [(V.b false)],.rows 1 [(V.i fresh1)],lr R_1 .ready none,.map (List.map (fun p:Int×Bool=>V.i p.1) m3) (List.map (fun p:Int×Bool=>V.b p.2) m3),.rows 8 [(zB x)]]) rfl rfl rfl (GS.zC (GS.seq (X.sq ?_)))
  refine X.mid [(0,(V.yld 6)),(2,(V.fptr [(V.i ((zH l round).2))] 0 0)),(4,(V.map 7)),(6,(V.ptr 8 0 0)),(8,(V.sl (List.map zB ((zH l round).1)))),(9,(V.i (((zH l round).1).length:Int))),(10,(V.i x3)),(28,(V.b (((!decide (x.Kind=2))||(!decide (x.Round=((zH l round).2))))||((zY x.From m3).getD false))))] ?_ ?_
  ·intro hg
   refine X.split (!decide (x.Kind=2)) (fun h_4=>?_) (fun h_4=>?_)
   ·iterate 4 refine X.q rfl ?_
    iterate 4 refine X.off (X.JN rfl rfl rfl h_4) rfl ?_
    refine X.opR rfl (X.Zq (y := !decide (x.Round=((zH l round).2))) rfl h_4 rfl) rfl (X.q rfl ?_)
    iterate 4 refine X.off (X.JN rfl rfl rfl (X.Za h_4)) rfl ?_
    refine X.opR rfl (X.Zq (y:=((zY x.From m3).getD false)) rfl (X.Za h_4) rfl) rfl (GS.zC ?_)
    exact X.norm _ hg rfl (sr rfl)
   refine X.split (((!decide (x.Kind=2))||(!decide (x.Round=((zH l round).2))))) (fun h_5=>?_) (fun h_5=>?_)
   ·iterate 4 refine X.q rfl ?_
    iterate 4 refine X.opR (X.on_f rfl rfl rfl h_4) rfl rfl ?_
    refine X.opR rfl (X.Zo (y := !decide (x.Round=((zH l round).2))) rfl h_4 rfl) rfl (X.q rfl ?_)
    iterate 4 refine X.off (X.JN rfl rfl rfl h_5) rfl ?_
    refine X.opR rfl (X.Zq (y:=((zY x.From m3).getD false)) rfl h_5 rfl) rfl (GS.zC ?_)
    exact X.norm _ hg rfl (sr rfl)
   iterate 4 refine X.q rfl ?_
   iterate 4 refine X.opR (X.on_f rfl rfl rfl h_4) rfl rfl ?_
   refine X.opR rfl (X.Zo (y := !decide (x.Round=((zH l round).2))) rfl h_4 rfl) rfl (X.q rfl ?_)
   iterate 3 refine X.opR (X.on_f rfl rfl rfl h_5) rfl rfl ?_
   refine X.opR (X.on_f rfl rfl rfl h_5) (X.lookW (f:=V.i) (g:=V.b) (k:=x.From) (l:=m3) (z:=false) (ok:=false) X.yH rfl rfl rfl rfl rfl rfl) rfl ?_
   refine X.opR rfl (X.Zo (y:=((zY x.From m3).getD false)) rfl h_5 rfl) rfl (GS.zC ?_)
   exact X.norm _ hg rfl (sr rfl)
  refine X.cond rfl (fun h_6=>?_) (fun h_6=>?_)
  ·replace hM:=Zb h_6 hM
   refine GS.exit rfl ?_
   exact X.gc [some 7] (hj_2 (m3,fresh1) hM) rfl rfl rfl (ga rfl rfl) (gb9 rfl rfl rfl (gb9 rfl rfl rfl (gb9 rfl rfl rfl (gb9 rfl rfl rfl (gb9 rfl rfl rfl (gb9 rfl rfl rfl (J4 hlow_1 rfl rfl rfl (X.jy 9 rfl rfl (fun _=>rfl) (fun _=>rfl) zU))))))))
  replace hM:=Zc h_6 hM
  refine GS.skip (X.sq (X.q rfl (X.q rfl (X.q rfl ?_))))
  refine X.op0W (H':=[.rows 1 [(zD c)],.rows 1 [(V.sl (List.map zB l))],.rows 1 [(V.i round)],.rows 1 [(V.i n)],.rows 1 [(V.b false)],.rows 1 [(V.i fresh1)],lr R_1 .ready none,.map (List.map (fun p:Int×Bool=>V.i p.1) (putM posI m3 x.From true)) (List.map (fun p:Int×Bool=>V.b p.2) (putM posI m3 x.From true)),.rows 8 [(zB x)]]) rfl (X.putW (f:=V.i) (g:=V.b) (pos:=posI) (k:=x.From) (v:=true) (l:=m3) X.yH (X.Y8 _) rfl rfl rfl rfl rfl rfl rfl) rfl (X.nq ?_)
  refine X.q rfl (X.q rfl ?_)
  refine X.yld hrn_1 hrK_1 hrp_1 hra_1 hrb_1 rfl rfl rfl rfl rfl rfl (GS.region ?_)
  refine X.opW (H':=[.rows 1 [(zD c)],.rows 1 [(V.sl (List.map zB l))],.rows 1 [(V.i round)],.rows 1 [(V.i n)],.rows 1 [(V.b false)],.rows 1 [(V.i fresh1)],lr R_1 .ready none,.map (List.map (fun p:Int×Bool=>V.i p.1) (putM posI m3 x.From true)) (List.map (fun p:Int×Bool=>V.b p.2) (putM posI m3 x.From true)),.rows 8 [(zB x)],.rows 8 [(V.agg [(V.i 0),(V.i 0),(V.i 0),(V.i 0),(V.i 0),(V.i 0),(V.i 0),(V.i 0)])]]) rfl rfl rfl rfl ?_
  refine X.op0W (H':=[.rows 1 [(zD c)],.rows 1 [(V.sl (List.map zB l))],.rows 1 [(V.i round)],.rows 1 [(V.i n)],.rows 1 [(V.b false)],.rows 1 [(V.i fresh1)],lr R_1 .ready none,.map (List.map (fun p:Int×Bool=>V.i p.1) (putM posI m3 x.From true)) (List.map (fun p:Int×Bool=>V.b p.2) (putM posI m3 x.From true)),.rows 8 [(zB x)],.rows 8 [(zB x)]]) rfl rfl rfl (GS.zC ?_)
  refine GS.nil (X.begin' rfl rfl ?_ rfl)
  refine GS.block (GS.seq (X.sq (X.q rfl (X.q rfl (X.q rfl ?_)))))
  refine GS.zC ?_
  refine X.cond rfl (fun h_7=>?_) (fun h_7=>?_)
  ·replace hM:=Zb h_7 hM
   refine X.sq (X.q rfl ?_)
   refine X.opR rfl (X.addE rfl rfl) rfl ?_
   refine X.op0W (H':=[.rows 1 [(zD c)],.rows 1 [(V.sl (List.map zB l))],.rows 1 [(V.i round)],.rows 1 [(V.i n)],.rows 1 [(V.b false)],.rows 1 [(V.i (w64 (fresh1+1)))],lr R_1 .busy none,.map (List.map (fun p:Int×Bool=>V.i p.1) (putM posI m3 x.From true)) (List.map (fun p:Int×Bool=>V.b p.2) (putM posI m3 x.From true)),.rows 8 [(zB x)],.rows 8 [(zB x)]]) rfl rfl rfl (GS.zC ?_)
   refine GS.exit rfl ?_
   refine GS.nil ⟨_,rfl,?_⟩
   refine X.norm (H':=[.rows 1 [(zD c)],.rows 1 [(V.sl (List.map zB l))],.rows 1 [(V.i round)],.rows 1 [(V.i n)],.rows 1 [(V.b false)],.rows 1 [(V.i (w64 (fresh1+1)))],lr R_1 .ready none,.map (List.map (fun p:Int×Bool=>V.i p.1) (putM posI m3 x.From true)) (List.map (fun p:Int×Bool=>V.b p.2) (putM posI m3 x.From true)),.rows 8 [(zB x)],.rows 8 [(zB x)]]) [(0,(V.yld 6)),(2,(V.fptr [(V.i ((zH l round).2))] 0 0)),(4,(V.map 7)),(8,(V.sl (List.map zB ((zH l round).1)))),(9,(V.i (((zH l round).1).length:Int))),(10,(V.i x3)),(34,(V.b true))] ?_ rfl (sr rfl)
   refine X.q rfl (GS.zC ?_)
   refine GS.zAs rfl (GS.skip ?_)
   refine GS.endB ?_
   exact X.gc [some 7] (hj_2 ((putM posI m3 x.From true),w64 (fresh1+1)) hM) rfl rfl rfl (ga rfl rfl) (gb9 rfl rfl rfl (gb9 rfl rfl rfl (gb9 rfl rfl rfl (gb9 rfl rfl rfl (gb9 rfl rfl rfl (gb9 rfl rfl rfl (J4 hlow_1 rfl rfl rfl (X.jy 9 rfl rfl (fun _=>rfl) (fun _=>rfl) zU))))))))
  replace hM:=Zc h_7 hM
  refine GS.skip (X.sq ?_)
  refine X.opW (H':=[.rows 1 [(zD c)],.rows 1 [(V.sl (List.map zB l))],.rows 1 [(V.i round)],.rows 1 [(V.i n)],.rows 1 [(V.b false)],.rows 1 [(V.i fresh1)],lr R_1 .busy none,.map (List.map (fun p:Int×Bool=>V.i p.1) (putM posI m3 x.From true)) (List.map (fun p:Int×Bool=>V.b p.2) (putM posI m3 x.From true)),.rows 8 [(zB x)],.rows 8 [(zB x)],.rows 1 [(V.i 0)]]) rfl rfl rfl rfl ?_
  refine X.op0W (H':=[.rows 1 [(zD c)],.rows 1 [(V.sl (List.map zB l))],.rows 1 [(V.i round)],.rows 1 [(V.i n)],.rows 1 [(V.b false)],.rows 1 [(V.i fresh1)],lr R_1 .busy none,.map (List.map (fun p:Int×Bool=>V.i p.1) (putM posI m3 x.From true)) (List.map (fun p:Int×Bool=>V.b p.2) (putM posI m3 x.From true)),.rows 8 [(zB x)],.rows 8 [(zB x)],.rows 1 [(V.i 0)]]) rfl rfl rfl (GS.zC (GS.seq (X.sq ?_)))
  refine X.q rfl (X.q rfl ?_)
  refine X.call (qU l round) rfl rfl rfl (.cons (.shut (n:=9) rfl) (.cons (.shut (n:=9) rfl) .nil)) (GS.zC (GS.block ?_))
  refine X.gc [some 10] (H':=[.rows 1 [(zD c)],.rows 1 [(V.sl (List.map zB l))],.rows 1 [(V.i round)],.rows 1 [(V.i n)],.rows 1 [(V.b false)],.rows 1 [(V.i fresh1)],lr R_1 .busy none,.map (List.map (fun p:Int×Bool=>V.i p.1) (putM posI m3 x.From true)) (List.map (fun p:Int×Bool=>V.b p.2) (putM posI m3 x.From true)),.dead,.rows 8 [(zB x)],.rows 1 [(V.i 0)]]) (K':=[(4,(V.ptr 0 0 0)),(7,(V.ptr 3 0 0)),(8,(V.ptr 4 0 0)),(10,(V.ptr 9 0 0)),(11,(V.ptr 10 0 0)),(24,(V.fn 113 [(V.fptr [(V.sl (List.map zB ((zH l round).1)))] 0 0),(V.fptr [(V.i ((zH l round).2))] 0 0)]))]) ?_ rfl rfl rfl (ga rfl rfl) (gb9 rfl rfl rfl (gb9 rfl rfl rfl (gb9 rfl rfl rfl (gb9 rfl rfl rfl (gb9 rfl rfl rfl (gb9 rfl rfl rfl (J4 hlow_1 rfl rfl rfl (X.jy 9 rfl rfl (fun _=>rfl) (fun _=>rfl) (Zp (gb9 rfl rfl rfl (gb9 rfl rfl rfl zU)))))))))))
  refine X.range rfl rfl (Jt ⟨9,rfl⟩ (Jt ⟨9,rfl⟩ (Jt ⟨9,rfl⟩ (Jt ⟨9,rfl⟩ (Jt ⟨9,rfl⟩ (Jt ⟨9,rfl⟩ zJs)))))) rfl ?_
  intro R_8 hrn_8 hrK_8 hrp_8 hra_8 hrb_8 hlow_8
  refine X.sq ?_
  refine X.opW (H':=[.rows 1 [(zD c)],.rows 1 [(V.sl (List.map zB l))],.rows 1 [(V.i round)],.rows 1 [(V.i n)],.rows 1 [(V.b false)],.rows 1 [(V.i fresh1)],lr R_1 .busy none,.map (List.map (fun p:Int×Bool=>V.i p.1) (putM posI m3 x.From true)) (List.map (fun p:Int×Bool=>V.b p.2) (putM posI m3 x.From true)),.dead,.rows 8 [(zB x)],.rows 1 [(V.i 0)],lr R_8 .ready none,.map (List.map (fun p:Int×Bool=>V.i p.1) []) (List.map (fun p:Int×Bool=>V.b p.2) [])]) rfl rfl rfl rfl ?_
  refine X.q rfl (X.nq (X.q rfl ?_))
  refine X.opR rfl (X.lenF rfl rfl rfl) rfl (X.q rfl (GS.zC (GS.block ?_)))
  refine X.gc [some 12] (X.loop (σ:=(Int×(List (Int×Bool))×Int)) (fun v=>⟨[(0,(V.yld 11)),(2,(V.fptr [(V.i ((zH l round).2))] 0 0)),(4,(V.map 12)),(8,(V.sl (List.map zB ((zH l round).1)))),(9,(V.i (((zH l round).1).length:Int))),(10,(V.i v.1))],[.rows 1 [(zD c)],.rows 1 [(V.sl (List.map zB l))],.rows 1 [(V.i round)],.rows 1 [(V.i n)],.rows 1 [(V.b false)],.rows 1 [(V.i fresh1)],lr R_1 .busy none,.map (List.map (fun p:Int×Bool=>V.i p.1) (putM posI m3 x.From true)) (List.map (fun p:Int×Bool=>V.b p.2) (putM posI m3 x.From true)),.dead,.rows 8 [(zB x)],.rows 1 [(V.i v.2.2)],lr R_8 .ready none,.map (List.map (fun p:Int×Bool=>V.i p.1) v.2.1) (List.map (fun p:Int×Bool=>V.b p.2) v.2.1)],0,none,37⟩) hM ?_ rfl) rfl rfl rfl (ga rfl rfl) (gb9 rfl rfl rfl (gb9 rfl rfl rfl (gb9 rfl rfl rfl (gb9 rfl rfl rfl (gb9 rfl rfl rfl (gb9 rfl rfl rfl (J4 hlow_1 rfl rfl rfl (X.jy 9 rfl rfl (fun _=>rfl) (fun _=>rfl) (Zp (gb9 rfl rfl rfl (gb9 rfl rfl rfl (J4 hlow_8 rfl rfl rfl (X.jy 9 rfl rfl (fun _=>rfl) (fun _=>rfl) zU)))))))))))))
  rintro ⟨x2,m2,low2⟩ b_2 hM hc_3 hr_2
  rw [jh] at hM
  refine X.sq (X.q rfl (GS.zC (GS.seq ?_)))
  refine X.cond rfl (fun h_9=>?_) (fun h_9=>?_)
  ·replace hM:=Zb h_9 hM
   refine GS.skip (GS.seq ?_)
   refine X.join (τ:=(List (Int×Bool))×Int) (fun v=>jg x2 v.1 v.2=some b_2) (fun v=>⟨[(0,(V.yld 11)),(2,(V.fptr [(V.i ((zH l round).2))] 0 0)),(4,(V.map 12)),(8,(V.sl (List.map zB ((zH l round).1)))),(9,(V.i (((zH l round).1).length:Int))),(10,(V.i x2))],[.rows 1 [(zD c)],.rows 1 [(V.sl (List.map zB l))],.rows 1 [(V.i round)],.rows 1 [(V.i n)],.rows 1 [(V.b false)],.rows 1 [(V.i fresh1)],lr R_1 .busy none,.map (List.map (fun p:Int×Bool=>V.i p.1) (putM posI m3 x.From true)) (List.map (fun p:Int×Bool=>V.b p.2) (putM posI m3 x.From true)),.dead,.rows 8 [(zB x)],.rows 1 [(V.i v.2)],lr R_8 .ready none,.map (List.map (fun p:Int×Bool=>V.i p.1) v.1) (List.map (fun p:Int×Bool=>V.b p.2) v.1)],0,none,37⟩) ?_ ?_
   ·rintro ⟨m1,low⟩ hM
    replace hM:jg x2 m1 low=some b_2:=hM
    unfold jg at hM
    refine GS.region ?_
    refine X.opR rfl (X.addE rfl rfl) rfl (X.q rfl (GS.zC ?_))
    have hE:=Option.some.inj hM
    exact X.gc [some 12] (hc_3 (w64 (x2+1),m1,low) hE.symm) rfl rfl rfl (ga rfl rfl) (gb9 rfl rfl rfl (gb9 rfl rfl rfl (gb9 rfl rfl rfl (gb9 rfl rfl rfl (gb9 rfl rfl rfl (gb9 rfl rfl rfl (J4 hlow_1 rfl rfl rfl (X.jy 9 rfl rfl (fun _=>rfl) (fun _=>rfl) (Zp (gb9 rfl rfl rfl (gb9 rfl rfl rfl (J4 hlow_8 rfl rfl rfl (X.jy 9 rfl rfl (fun _=>rfl) (fun _=>rfl) zU)))))))))))))
   intro hj_4
   refine GS.block (GS.seq ?_)
   obtain ⟨x1,h_10,hM⟩:=zM hM
   refine GS.region ?_
   refine X.opR rfl (X.yT (f:=zB) h_10 (fun _=>rfl) rfl rfl rfl rfl) rfl ?_
   refine X.opR rfl (X.Yx h_10 rfl rfl rfl) rfl ?_
   refine X.opW (H':=[.rows 1 [(zD c)],.rows 1 [(V.sl (List.map zB l))],.rows 1 [(V.i round)],.rows 1 [(V.i n)],.rows 1 [(V.b false)],.rows 1 [(V.i fresh1)],lr R_1 .busy none,.map (List.map (fun p:Int×Bool=>V.i p.1) (putM posI m3 x.From true)) (List.map (fun p:Int×Bool=>V.b p.2) (putM posI m3 x.From true)),.dead,.rows 8 [(zB x)],.rows 1 [(V.i low2)],lr R_8 .ready none,.map (List.map (fun p:Int×Bool=>V.i p.1) m2) (List.map (fun p:Int×Bool=>V.b p.2) m2),.rows 8 [(V.agg [(V.i 0),(V.i 0),(V.i 0),(V.i 0),(V.i 0),(V.i 0),(V.i 0),(V.i 0)])]]) rfl rfl rfl rfl ?_
   refine X.op0W (H':=[.rows 1 [(zD c)],.rows 1 [(V.sl (List.map zB l))],.rows 1 [(V.i round)],.rows 1 [(V.i n)],.rows 1 [(V.b false)],.rows 1 [(V.i fresh1)],lr R_1 .busy none,.map (List.map (fun p:Int×Bool=>V.i p.1) (putM posI m3 x.From true)) (List.map (fun p:Int×Bool=>V.b p.2) (putM posI m3 x.From true)),.dead,.rows 8 [(zB x)],.rows 1 [(V.i low2)],lr R_8 .ready none,.map (List.map (fun p:Int×Bool=>V.i p.1) m2) (List.map (fun p:Int×Bool=>V.b p.2) m2),.rows 8 [(zB x1)]]) rfl rfl rfl (GS.zC (GS.seq (X.sq ?_)))
   refine X.mid [(0,(V.yld 11)),(2,(V.fptr [(V.i ((zH l round).2))] 0 0)),(4,(V.map 12)),(6,(V.ptr 13 0 0)),(8,(V.sl (List.map zB ((zH l round).1)))),(9,(V.i (((zH l round).1).length:Int))),(10,(V.i x2)),(28,(V.b (((!decide (x1.Kind=2))||(!decide (x1.Round=((zH l round).2))))||((zY x1.From m2).getD false))))] ?_ ?_
   ·intro hg
    refine X.split (!decide (x1.Kind=2)) (fun h_11=>?_) (fun h_11=>?_)
    ·iterate 4 refine X.q rfl ?_
     iterate 4 refine X.off (X.JN rfl rfl rfl h_11) rfl ?_
     refine X.opR rfl (X.Zq (y := !decide (x1.Round=((zH l round).2))) rfl h_11 rfl) rfl (X.q rfl ?_)
     iterate 4 refine X.off (X.JN rfl rfl rfl (X.Za h_11)) rfl ?_
     refine X.opR rfl (X.Zq (y:=((zY x1.From m2).getD false)) rfl (X.Za h_11) rfl) rfl (GS.zC ?_)
     exact X.norm _ hg rfl (sr rfl)
    refine X.split (((!decide (x1.Kind=2))||(!decide (x1.Round=((zH l round).2))))) (fun h_12=>?_) (fun h_12=>?_)
    ·iterate 4 refine X.q rfl ?_
     iterate 4 refine X.opR (X.on_f rfl rfl rfl h_11) rfl rfl ?_
     refine X.opR rfl (X.Zo (y := !decide (x1.Round=((zH l round).2))) rfl h_11 rfl) rfl (X.q rfl ?_)
     iterate 4 refine X.off (X.JN rfl rfl rfl h_12) rfl ?_
     refine X.opR rfl (X.Zq (y:=((zY x1.From m2).getD false)) rfl h_12 rfl) rfl (GS.zC ?_)
     exact X.norm _ hg rfl (sr rfl)
    iterate 4 refine X.q rfl ?_
    iterate 4 refine X.opR (X.on_f rfl rfl rfl h_11) rfl rfl ?_
    refine X.opR rfl (X.Zo (y := !decide (x1.Round=((zH l round).2))) rfl h_11 rfl) rfl (X.q rfl ?_)
    iterate 3 refine X.opR (X.on_f rfl rfl rfl h_12) rfl rfl ?_
    refine X.opR (X.on_f rfl rfl rfl h_12) (X.lookW (f:=V.i) (g:=V.b) (k:=x1.From) (l:=m2) (z:=false) (ok:=false) X.yH rfl rfl rfl rfl rfl rfl) rfl ?_
    refine X.opR rfl (X.Zo (y:=((zY x1.From m2).getD false)) rfl h_12 rfl) rfl (GS.zC ?_)
    exact X.norm _ hg rfl (sr rfl)
   refine X.cond rfl (fun h_13=>?_) (fun h_13=>?_)
   ·replace hM:=Zb h_13 hM
    refine GS.exit rfl ?_
    exact X.gc [some 12] (hj_4 (m2,low2) hM) rfl rfl rfl (ga rfl rfl) (gb9 rfl rfl rfl (gb9 rfl rfl rfl (gb9 rfl rfl rfl (gb9 rfl rfl rfl (gb9 rfl rfl rfl (gb9 rfl rfl rfl (J4 hlow_1 rfl rfl rfl (X.jy 9 rfl rfl (fun _=>rfl) (fun _=>rfl) (Zp (gb9 rfl rfl rfl (gb9 rfl rfl rfl (J4 hlow_8 rfl rfl rfl (X.jy 9 rfl rfl (fun _=>rfl) (fun _=>rfl) zU)))))))))))))
   replace hM:=Zc h_13 hM
   refine GS.skip (X.sq (X.q rfl (X.q rfl (X.q rfl ?_))))
   refine X.op0W (H':=[.rows 1 [(zD c)],.rows 1 [(V.sl (List.map zB l))],.rows 1 [(V.i round)],.rows 1 [(V.i n)],.rows 1 [(V.b false)],.rows 1 [(V.i fresh1)],lr R_1 .busy none,.map (List.map (fun p:Int×Bool=>V.i p.1) (putM posI m3 x.From true)) (List.map (fun p:Int×Bool=>V.b p.2) (putM posI m3 x.From true)),.dead,.rows 8 [(zB x)],.rows 1 [(V.i low2)],lr R_8 .ready none,.map (List.map (fun p:Int×Bool=>V.i p.1) (putM posI m2 x1.From true)) (List.map (fun p:Int×Bool=>V.b p.2) (putM posI m2 x1.From true)),.rows 8 [(zB x1)]]) rfl (X.putW (f:=V.i) (g:=V.b) (pos:=posI) (k:=x1.From) (v:=true) (l:=m2) X.yH (X.Y8 _) rfl rfl rfl rfl rfl rfl rfl) rfl (X.nq ?_)
   refine X.q rfl (X.q rfl ?_)
   refine X.yld hrn_8 hrK_8 hrp_8 hra_8 hrb_8 rfl rfl rfl rfl rfl rfl (GS.region ?_)
   refine X.opW (H':=[.rows 1 [(zD c)],.rows 1 [(V.sl (List.map zB l))],.rows 1 [(V.i round)],.rows 1 [(V.i n)],.rows 1 [(V.b false)],.rows 1 [(V.i fresh1)],lr R_1 .busy none,.map (List.map (fun p:Int×Bool=>V.i p.1) (putM posI m3 x.From true)) (List.map (fun p:Int×Bool=>V.b p.2) (putM posI m3 x.From true)),.dead,.rows 8 [(zB x)],.rows 1 [(V.i low2)],lr R_8 .ready none,.map (List.map (fun p:Int×Bool=>V.i p.1) (putM posI m2 x1.From true)) (List.map (fun p:Int×Bool=>V.b p.2) (putM posI m2 x1.From true)),.rows 8 [(zB x1)],.rows 8 [(V.agg [(V.i 0),(V.i 0),(V.i 0),(V.i 0),(V.i 0),(V.i 0),(V.i 0),(V.i 0)])]]) rfl rfl rfl rfl ?_
   refine X.op0W (H':=[.rows 1 [(zD c)],.rows 1 [(V.sl (List.map zB l))],.rows 1 [(V.i round)],.rows 1 [(V.i n)],.rows 1 [(V.b false)],.rows 1 [(V.i fresh1)],lr R_1 .busy none,.map (List.map (fun p:Int×Bool=>V.i p.1) (putM posI m3 x.From true)) (List.map (fun p:Int×Bool=>V.b p.2) (putM posI m3 x.From true)),.dead,.rows 8 [(zB x)],.rows 1 [(V.i low2)],lr R_8 .ready none,.map (List.map (fun p:Int×Bool=>V.i p.1) (putM posI m2 x1.From true)) (List.map (fun p:Int×Bool=>V.b p.2) (putM posI m2 x1.From true)),.rows 8 [(zB x1)],.rows 8 [(zB x1)]]) rfl rfl rfl (GS.zC ?_)
   refine GS.nil (X.begin' rfl rfl ?_ rfl)
   refine GS.block (X.sq ?_)
   iterate 5 refine X.q rfl ?_
   refine GS.zC ?_
   refine X.join (τ:=Int) (fun v=>jf x2 m2 x1 v=some b_2) (fun v=>⟨[],[.rows 1 [(zD c)],.rows 1 [(V.sl (List.map zB l))],.rows 1 [(V.i round)],.rows 1 [(V.i n)],.rows 1 [(V.b false)],.rows 1 [(V.i fresh1)],lr R_1 .busy none,.map (List.map (fun p:Int×Bool=>V.i p.1) (putM posI m3 x.From true)) (List.map (fun p:Int×Bool=>V.b p.2) (putM posI m3 x.From true)),.dead,.rows 8 [(zB x)],.rows 1 [(V.i v)],lr R_8 .busy none,.map (List.map (fun p:Int×Bool=>V.i p.1) (putM posI m2 x1.From true)) (List.map (fun p:Int×Bool=>V.b p.2) (putM posI m2 x1.From true)),.dead,.dead],0,(some 11),47⟩) ?_ ?_
   ·intro low1 hM
    replace hM:jf x2 m2 x1 low1=some b_2:=hM
    unfold jf at hM
    refine GS.endB ?_
    refine GS.nil ⟨_,rfl,?_⟩
    refine X.norm (H':=[.rows 1 [(zD c)],.rows 1 [(V.sl (List.map zB l))],.rows 1 [(V.i round)],.rows 1 [(V.i n)],.rows 1 [(V.b false)],.rows 1 [(V.i fresh1)],lr R_1 .busy none,.map (List.map (fun p:Int×Bool=>V.i p.1) (putM posI m3 x.From true)) (List.map (fun p:Int×Bool=>V.b p.2) (putM posI m3 x.From true)),.dead,.rows 8 [(zB x)],.rows 1 [(V.i low1)],lr R_8 .ready none,.map (List.map (fun p:Int×Bool=>V.i p.1) (putM posI m2 x1.From true)) (List.map (fun p:Int×Bool=>V.b p.2) (putM posI m2 x1.From true)),.dead,.dead]) [(0,(V.yld 11)),(2,(V.fptr [(V.i ((zH l round).2))] 0 0)),(4,(V.map 12)),(8,(V.sl (List.map zB ((zH l round).1)))),(9,(V.i (((zH l round).1).length:Int))),(10,(V.i x2)),(34,(V.b true))] ?_ rfl (sr rfl)
    refine X.q rfl (GS.zC ?_)
    refine GS.zAs rfl (GS.skip ?_)
    refine GS.endB ?_
    exact X.gc [some 12] (hj_4 ((putM posI m2 x1.From true),low1) hM) rfl rfl rfl (ga rfl rfl) (gb9 rfl rfl rfl (gb9 rfl rfl rfl (gb9 rfl rfl rfl (gb9 rfl rfl rfl (gb9 rfl rfl rfl (gb9 rfl rfl rfl (J4 hlow_1 rfl rfl rfl (X.jy 9 rfl rfl (fun _=>rfl) (fun _=>rfl) (Zp (gb9 rfl rfl rfl (gb9 rfl rfl rfl (J4 hlow_8 rfl rfl rfl (X.jy 9 rfl rfl (fun _=>rfl) (fun _=>rfl) zU)))))))))))))
   intro hj_5
   refine X.cond rfl (fun h_14=>?_) (fun h_14=>?_)
   ·replace hM:=Zb h_14 hM
    refine GS.region (X.q rfl ?_)
    refine X.opR rfl (X.addE rfl rfl) rfl ?_
    refine X.op0W (H':=[.rows 1 [(zD c)],.rows 1 [(V.sl (List.map zB l))],.rows 1 [(V.i round)],.rows 1 [(V.i n)],.rows 1 [(V.b false)],.rows 1 [(V.i fresh1)],lr R_1 .busy none,.map (List.map (fun p:Int×Bool=>V.i p.1) (putM posI m3 x.From true)) (List.map (fun p:Int×Bool=>V.b p.2) (putM posI m3 x.From true)),.dead,.rows 8 [(zB x)],.rows 1 [(V.i (w64 (low2+1)))],lr R_8 .busy none,.map (List.map (fun p:Int×Bool=>V.i p.1) (putM posI m2 x1.From true)) (List.map (fun p:Int×Bool=>V.b p.2) (putM posI m2 x1.From true)),.rows 8 [(zB x1)],.rows 8 [(zB x1)]]) rfl rfl rfl (GS.zC ?_)
    exact X.gc [] (hj_5 (w64 (low2+1)) hM) rfl rfl rfl (Jd) (gb9 rfl rfl rfl (gb9 rfl rfl rfl (gb9 rfl rfl rfl (gb9 rfl rfl rfl (gb9 rfl rfl rfl (gb9 rfl rfl rfl (J4 hlow_1 rfl rfl rfl (X.jy 9 rfl rfl (fun _=>rfl) (fun _=>rfl) (Zp (gb9 rfl rfl rfl (gb9 rfl rfl rfl (J4 hlow_8 rfl rfl rfl (X.jy 9 rfl rfl (fun _=>rfl) (fun _=>rfl) (Zp (Zp zU)))))))))))))))
   replace hM:=Zc h_14 hM
   refine GS.skip ?_
   exact X.gc [] (hj_5 low2 hM) rfl rfl rfl (Jd) (gb9 rfl rfl rfl (gb9 rfl rfl rfl (gb9 rfl rfl rfl (gb9 rfl rfl rfl (gb9 rfl rfl rfl (gb9 rfl rfl rfl (J4 hlow_1 rfl rfl rfl (X.jy 9 rfl rfl (fun _=>rfl) (fun _=>rfl) (Zp (gb9 rfl rfl rfl (gb9 rfl rfl rfl (J4 hlow_8 rfl rfl rfl (X.jy 9 rfl rfl (fun _=>rfl) (fun _=>rfl) (Zp (Zp zU)))))))))))))))
  replace hM:=Zc h_9 hM
  refine GS.exit rfl ?_
  refine GS.nil ⟨_,_,rfl,rfl,?_⟩
  refine X.norm (H':=[.rows 1 [(zD c)],.rows 1 [(V.sl (List.map zB l))],.rows 1 [(V.i round)],.rows 1 [(V.i n)],.rows 1 [(V.b false)],.rows 1 [(V.i fresh1)],lr R_1 .busy none,.map (List.map (fun p:Int×Bool=>V.i p.1) (putM posI m3 x.From true)) (List.map (fun p:Int×Bool=>V.b p.2) (putM posI m3 x.From true)),.dead,.rows 8 [(zB x)],.rows 1 [(V.i low2)],.dead,.map (List.map (fun p:Int×Bool=>V.i p.1) m2) (List.map (fun p:Int×Bool=>V.b p.2) m2)]) [(4,(V.ptr 0 0 0)),(7,(V.ptr 3 0 0)),(8,(V.ptr 4 0 0)),(10,(V.ptr 9 0 0)),(11,(V.ptr 10 0 0)),(24,(V.fn 113 [(V.fptr [(V.sl (List.map zB ((zH l round).1)))] 0 0),(V.fptr [(V.i ((zH l round).2))] 0 0)]))] ?_ rfl (sr rfl)
  refine GS.endB (GS.seq ?_)
  obtain ⟨y,h_15,hM⟩:=zJ8 hM
  refine X.mid [(8,(V.ptr 4 0 0)),(42,(V.b ((decide (x.Finding=n))&&(decide (y≤low2)))))] ?_ ?_
  ·intro hg
   refine X.split (decide (x.Finding=n)) (fun h_16=>?_) (fun h_16=>?_)
   ·refine X.drawc (by kernel_rfl) rfl ?_
    iterate 5 refine X.cop rfl rfl rfl rfl ?_
    iterate 2 refine X.cop (X.on_t rfl rfl rfl h_16) rfl rfl rfl ?_
    refine X.ccall (Jg (h_15 h_16)) (X.on_t rfl rfl rfl h_16) rfl rfl rfl (.cons (.shut (n:=9) rfl) .nil) ?_
    refine X.cop (X.on_t rfl rfl rfl h_16) rfl rfl rfl ?_
    refine X.cop rfl (X.zm (y:=decide (y≤low2)) rfl h_16 rfl) rfl rfl ?_
    refine X.cnil ?_
    exact X.norm _ hg rfl (sr rfl)
   refine X.drawc (by kernel_rfl) rfl ?_
   iterate 5 refine X.cop rfl rfl rfl rfl ?_
   iterate 4 refine X.coff (X.JA rfl rfl rfl h_16) rfl rfl ?_
   refine X.cop rfl (X.ZJ (y:=decide (y≤low2)) rfl h_16 rfl) rfl rfl ?_
   refine X.cnil ?_
   exact X.norm _ hg rfl (sr rfl)
  refine X.cond rfl (fun h_17=>?_) (fun h_17=>?_)
  ·replace hM:=Zb h_17 hM
   refine X.sq ?_
   refine X.op0W (H':=[.rows 1 [(zD c)],.rows 1 [(V.sl (List.map zB l))],.rows 1 [(V.i round)],.rows 1 [(V.i n)],.rows 1 [(V.b true)],.rows 1 [(V.i fresh1)],lr R_1 .busy none,.map (List.map (fun p:Int×Bool=>V.i p.1) (putM posI m3 x.From true)) (List.map (fun p:Int×Bool=>V.b p.2) (putM posI m3 x.From true)),.dead,.rows 8 [(zB x)],.rows 1 [(V.i low2)],.dead,.map (List.map (fun p:Int×Bool=>V.i p.1) m2) (List.map (fun p:Int×Bool=>V.b p.2) m2)]) rfl rfl rfl (GS.zC ?_)
   refine GS.ret ⟨_,rfl,?_⟩
   refine X.norm (H':=[.rows 1 [(zD c)],.rows 1 [(V.sl (List.map zB l))],.rows 1 [(V.i round)],.rows 1 [(V.i n)],.rows 1 [(V.b true)],.rows 1 [(V.i fresh1)],lr R_1 .done (some .ret),.map (List.map (fun p:Int×Bool=>V.i p.1) (putM posI m3 x.From true)) (List.map (fun p:Int×Bool=>V.b p.2) (putM posI m3 x.From true)),.dead,.rows 8 [(zB x)],.rows 1 [(V.i low2)],.dead,.map (List.map (fun p:Int×Bool=>V.i p.1) m2) (List.map (fun p:Int×Bool=>V.b p.2) m2)]) [(0,(V.yld 6)),(2,(V.fptr [(V.i ((zH l round).2))] 0 0)),(4,(V.map 7)),(8,(V.sl (List.map zB ((zH l round).1)))),(9,(V.i (((zH l round).1).length:Int))),(10,(V.i x3)),(34,(V.b false))] ?_ rfl (sr rfl)
   refine X.q rfl (GS.zC ?_)
   refine GS.zCJ rfl ?_
   refine GS.ret ⟨_,_,rfl,rfl,?_⟩
   refine X.norm (H':=[.rows 1 [(zD c)],.rows 1 [(V.sl (List.map zB l))],.rows 1 [(V.i round)],.rows 1 [(V.i n)],.rows 1 [(V.b true)],.rows 1 [(V.i fresh1)],.dead,.map (List.map (fun p:Int×Bool=>V.i p.1) (putM posI m3 x.From true)) (List.map (fun p:Int×Bool=>V.b p.2) (putM posI m3 x.From true)),.dead,.rows 8 [(zB x)],.rows 1 [(V.i low2)],.dead,.map (List.map (fun p:Int×Bool=>V.i p.1) m2) (List.map (fun p:Int×Bool=>V.b p.2) m2)]) [(4,(V.ptr 0 0 0)),(5,(V.ptr 1 0 0)),(6,(V.ptr 2 0 0)),(7,(V.ptr 3 0 0)),(8,(V.ptr 4 0 0)),(9,(V.ptr 5 0 0)),(15,(V.fn 113 [(V.fptr [(V.sl (List.map zB ((zH l round).1)))] 0 0),(V.fptr [(V.i ((zH l round).2))] 0 0)]))] ?_ rfl (sr rfl)
   have hE:=Option.some.inj hM
   replace hE:=hr_2 _ hE.symm
   replace hE:=hr_1 _ hE.symm
   subst hE
   exact GS.ret ⟨_,rfl,⟨30,rfl⟩⟩
  replace hM:=Zc h_17 hM
  refine GS.skip ?_
  refine GS.endB ?_
  refine GS.nil ⟨_,rfl,?_⟩
  refine X.norm (H':=[.rows 1 [(zD c)],.rows 1 [(V.sl (List.map zB l))],.rows 1 [(V.i round)],.rows 1 [(V.i n)],.rows 1 [(V.b false)],.rows 1 [(V.i fresh1)],lr R_1 .ready none,.map (List.map (fun p:Int×Bool=>V.i p.1) (putM posI m3 x.From true)) (List.map (fun p:Int×Bool=>V.b p.2) (putM posI m3 x.From true)),.dead,.rows 8 [(zB x)],.rows 1 [(V.i low2)],.dead,.map (List.map (fun p:Int×Bool=>V.i p.1) m2) (List.map (fun p:Int×Bool=>V.b p.2) m2)]) [(0,(V.yld 6)),(2,(V.fptr [(V.i ((zH l round).2))] 0 0)),(4,(V.map 7)),(8,(V.sl (List.map zB ((zH l round).1)))),(9,(V.i (((zH l round).1).length:Int))),(10,(V.i x3)),(34,(V.b true))] ?_ rfl (sr rfl)
  refine X.q rfl (GS.zC ?_)
  refine GS.zAs rfl (GS.skip ?_)
  refine GS.endB ?_
  obtain ⟨y_2,hM,hy⟩:=yR hM
  rw [hr_2 _ hy.symm] at hM
  exact X.gc [some 7] (hj_2 ((putM posI m3 x.From true),fresh1) hM) rfl rfl rfl (ga rfl rfl) (gb9 rfl rfl rfl (gb9 rfl rfl rfl (gb9 rfl rfl rfl (gb9 rfl rfl rfl (gb9 rfl rfl rfl (gb9 rfl rfl rfl (J4 hlow_1 rfl rfl rfl (X.jy 9 rfl rfl (fun _=>rfl) (fun _=>rfl) zU))))))))
 replace hM:=Zc h_2 hM
 refine GS.exit rfl ?_
 refine GS.nil ⟨_,_,rfl,rfl,?_⟩
 refine X.norm (H':=[.rows 1 [(zD c)],.rows 1 [(V.sl (List.map zB l))],.rows 1 [(V.i round)],.rows 1 [(V.i n)],.rows 1 [(V.b false)],.rows 1 [(V.i fresh1)],.dead,.map (List.map (fun p:Int×Bool=>V.i p.1) m3) (List.map (fun p:Int×Bool=>V.b p.2) m3)]) [(4,(V.ptr 0 0 0)),(5,(V.ptr 1 0 0)),(6,(V.ptr 2 0 0)),(7,(V.ptr 3 0 0)),(8,(V.ptr 4 0 0)),(9,(V.ptr 5 0 0)),(15,(V.fn 113 [(V.fptr [(V.sl (List.map zB ((zH l round).1)))] 0 0),(V.fptr [(V.i ((zH l round).2))] 0 0)]))] ?_ rfl (sr rfl)
 refine GS.endB (GS.seq ?_)
 obtain ⟨y1,h_18,hM⟩:=zM hM
 refine X.draw (by kernel_rfl) ?_
 iterate 2 refine X.dop rfl rfl rfl rfl (by kernel_rfl) rfl rfl ?_
 refine X.dcall (Jg h_18) rfl rfl rfl (by kernel_rfl) rfl (.cons (.shut (n:=9) rfl) .nil) ?_
 refine X.dop rfl rfl rfl rfl (by kernel_rfl) rfl rfl ?_
 refine X.dop0 rfl rfl rfl rfl (by kernel_rfl) rfl ?_
 refine X.dnil ?_
 refine X.norm [(8,(V.ptr 4 0 0))] ?_ rfl (sr rfl)
 have hE:=Option.some.inj hM
 replace hE:=hr_1 _ hE.symm
 subst hE
 exact GS.ret ⟨_,rfl,⟨30,rfl⟩⟩
theorem zDR (y:zA) (c:zA):Ct Tryz.prog 85 [(zB y),(V.fptr [(zB c)] 0 0)] (V.b (jM y c)):=by
 refine zX Zh rfl ?_
 generalize hM:jM y c=r
 unfold jM at hM
 refine X.sq ?_
 refine X.opW rfl rfl rfl rfl (X.q rfl (X.nq ?_))
 refine X.mid [(3,(V.b ((decide (y.Kind=3))&&(decide (y.Round=c.Round)))))] ?_ ?_
 ·intro hg
  refine X.split (decide (y.Kind=3)) (fun h_1=>?_) (fun h_1=>?_)
  ·iterate 4 refine X.q rfl ?_
   iterate 5 refine X.opR (X.on_t rfl rfl rfl h_1) rfl rfl ?_
   refine X.opR rfl (X.zm (y:=decide (y.Round=c.Round)) rfl h_1 rfl) rfl (X.q rfl (GS.zC ?_))
   exact X.norm _ hg rfl (sr rfl)
  iterate 4 refine X.q rfl ?_
  iterate 5 refine X.off (X.JA rfl rfl rfl h_1) rfl ?_
  refine X.opR rfl (X.ZJ (y:=decide (y.Round=c.Round)) rfl h_1 rfl) rfl (X.q rfl (GS.zC ?_))
  exact X.norm _ hg rfl (sr rfl)
 subst hM
 exact GS.ret ⟨_,rfl,⟨30,rfl⟩⟩
theorem J8 {s:(List zA)} {c:zA} {r:Int} (hM:Zk s c=some r):Ct Tryz.prog 91 [(V.sl (List.map zB s)),(V.fn 85 [(V.fptr [(zB c)] 0 0)])] (V.i r):=by
 refine zX Zh rfl ?_
 unfold Zk at hM
 refine X.sq (X.q rfl (GS.zC (GS.seq (X.sq (X.q rfl ?_)))))
 refine X.opR rfl (X.lenF rfl rfl rfl) rfl (X.q rfl (GS.zC ?_))
 refine X.join (τ:=Unit) (fun v=>zq=some r) (fun v=>⟨[],[],0,none,19⟩) ?_ ?_
 ·intro _ hM
  replace hM:zq=some r:=hM
  unfold zq at hM
  refine X.sq (X.q rfl (GS.zC ?_))
  cases hM
  exact GS.ret ⟨_,rfl,⟨30,rfl⟩⟩
 intro hj_1
 refine GS.block ?_
 refine X.gc [] (X.loop (σ:=Int) (fun v=>⟨[(0,(V.sl (List.map zB s))),(1,(V.fn 85 [(V.fptr [(zB c)] 0 0)])),(7,(V.i (s.length:Int))),(8,(V.i v))],[],0,none,19⟩) hM ?_ rfl) rfl rfl rfl (ga rfl rfl) (zU)
 intro x1 b_1 hM hc_2 hr_1
 rw [ZP] at hM
 refine X.sq (X.q rfl (GS.zC (GS.seq ?_)))
 refine X.cond rfl (fun h_1=>?_) (fun h_1=>?_)
 ·replace hM:=Zb h_1 hM
  refine GS.skip (GS.seq (GS.block (X.sq (X.q rfl (X.q rfl ?_)))))
  refine GS.zC (GS.seq ?_)
  obtain ⟨x,h_2,hM⟩:=zM hM
  refine GS.region (X.q rfl (X.q rfl (X.q rfl ?_)))
  refine X.opR rfl (X.yT (f:=zB) h_2 (fun _=>rfl) rfl rfl rfl rfl) rfl ?_
  refine X.opR rfl (X.Yx h_2 rfl rfl rfl) rfl ?_
  refine X.call (zDR x c) rfl rfl rfl (.cons (.shut (n:=9) rfl) (.cons (.shut (n:=9) rfl) .nil)) (GS.zC ?_)
  refine X.cond rfl (fun h_3=>?_) (fun h_3=>?_)
  ·replace hM:=Zb h_3 hM
   refine X.sq (X.q rfl (X.q rfl ?_))
   refine GS.zC ?_
   have hE:=Option.some.inj hM
   replace hE:=hr_1 _ hE.symm
   subst hE
   exact GS.ret ⟨_,rfl,⟨30,rfl⟩⟩
  replace hM:=Zc h_3 hM
  refine GS.skip ?_
  refine GS.endB (GS.region ?_)
  refine X.opR rfl (X.addE rfl rfl) rfl (X.q rfl (GS.zC ?_))
  have hE:=Option.some.inj hM
  exact X.gc [] (hc_2 (w64 (x1+1)) hE.symm) rfl rfl rfl (ga rfl rfl) (zU)
 replace hM:=Zc h_1 hM
 refine GS.exit rfl ?_
 obtain ⟨y_1,hM,hy⟩:=yR hM
 rw [hr_1 _ hy.symm] at hM
 exact X.gc [] (hj_1 () hM) rfl rfl rfl (Jd) (zU)
theorem Jq {s:(List zA)} {c:zA} {r:Bool} (hM:ZV s c=some r):Ct Tryz.prog 77 [(V.sl (List.map zB s)),(V.fn 85 [(V.fptr [(zB c)] 0 0)])] (V.b r):=by
 refine zX Zh rfl ?_
 unfold ZV at hM
 refine X.sq (X.q rfl (GS.zC (GS.seq ?_)))
 obtain ⟨y,h_1,hM⟩:=zM hM
 refine GS.region (X.q rfl (X.q rfl ?_))
 refine X.call (J8 h_1) rfl rfl rfl (.cons (.shut (n:=9) rfl) (.cons (.shut (n:=9) rfl) .nil)) (X.q rfl (X.q rfl ?_))
 refine GS.zC ?_
 cases hM
 exact GS.ret ⟨_,rfl,⟨30,rfl⟩⟩
theorem Yi {c:zA} {c1:(List zA)} {r:Bool} (hM:Zx c c1=some r):Ct Tryz.prog 80 [(V.fn 85 [(V.fptr [(zB c)] 0 0)]),(V.fptr [(V.sl (List.map zB c1))] 0 0)] (V.b r):=by
 refine zX Zh rfl ?_
 unfold Zx at hM
 refine X.sq (X.q rfl (GS.zC (GS.seq ?_)))
 obtain ⟨y,h_1,hM⟩:=zM hM
 refine GS.region (X.q rfl (X.q rfl ?_))
 refine X.call (Jq h_1) rfl rfl rfl (.cons (.shut (n:=9) rfl) (.cons (.shut (n:=9) rfl) .nil)) (X.q rfl (GS.zC ?_))
 cases hM
 exact GS.ret ⟨_,rfl,⟨30,rfl⟩⟩
theorem zDQ (y:zA) (c:zA):Ct Tryz.prog 86 [(zB y),(V.fptr [(zB c)] 0 0)] (V.b (Z9 y c)):=by
 refine zX Zh rfl ?_
 generalize hM:Z9 y c=r
 unfold Z9 at hM
 refine X.sq ?_
 refine X.opW rfl rfl rfl rfl (X.q rfl (X.nq ?_))
 refine X.mid [(3,(V.b (((decide (y.Kind=3))&&(decide (y.Round=c.Round)))&&(decide (y.Finding=c.Finding)))))] ?_ ?_
 ·intro hg
  refine X.split (decide (y.Kind=3)) (fun h_1=>?_) (fun h_1=>?_)
  ·refine X.split (((decide (y.Kind=3))&&(decide (y.Round=c.Round)))) (fun h_2=>?_) (fun h_2=>?_)
   ·iterate 4 refine X.q rfl ?_
    iterate 5 refine X.opR (X.on_t rfl rfl rfl h_1) rfl rfl ?_
    refine X.opR rfl (X.zm (y:=decide (y.Round=c.Round)) rfl h_1 rfl) rfl (X.q rfl ?_)
    iterate 5 refine X.opR (X.on_t rfl rfl rfl h_2) rfl rfl ?_
    refine X.opR rfl (X.zm (y:=decide (y.Finding=c.Finding)) rfl h_2 rfl) rfl (X.q rfl (GS.zC ?_))
    exact X.norm _ hg rfl (sr rfl)
   iterate 4 refine X.q rfl ?_
   iterate 5 refine X.opR (X.on_t rfl rfl rfl h_1) rfl rfl ?_
   refine X.opR rfl (X.zm (y:=decide (y.Round=c.Round)) rfl h_1 rfl) rfl (X.q rfl ?_)
   iterate 5 refine X.off (X.JA rfl rfl rfl h_2) rfl ?_
   refine X.opR rfl (X.ZJ (y:=decide (y.Finding=c.Finding)) rfl h_2 rfl) rfl (X.q rfl (GS.zC ?_))
   exact X.norm _ hg rfl (sr rfl)
  iterate 4 refine X.q rfl ?_
  iterate 5 refine X.off (X.JA rfl rfl rfl h_1) rfl ?_
  refine X.opR rfl (X.ZJ (y:=decide (y.Round=c.Round)) rfl h_1 rfl) rfl (X.q rfl ?_)
  iterate 5 refine X.off (X.JA rfl rfl rfl (X.yB h_1)) rfl ?_
  refine X.opR rfl (X.ZJ (y:=decide (y.Finding=c.Finding)) rfl (X.yB h_1) rfl) rfl (X.q rfl (GS.zC ?_))
  exact X.norm _ hg rfl (sr rfl)
 subst hM
 exact GS.ret ⟨_,rfl,⟨30,rfl⟩⟩
theorem J7 {s:(List zA)} {c:zA} {r:Int} (hM:Zj s c=some r):Ct Tryz.prog 91 [(V.sl (List.map zB s)),(V.fn 86 [(V.fptr [(zB c)] 0 0)])] (V.i r):=by
 refine zX Zh rfl ?_
 unfold Zj at hM
 refine X.sq (X.q rfl (GS.zC (GS.seq (X.sq (X.q rfl ?_)))))
 refine X.opR rfl (X.lenF rfl rfl rfl) rfl (X.q rfl (GS.zC ?_))
 refine X.join (τ:=Unit) (fun v=>zo=some r) (fun v=>⟨[],[],0,none,19⟩) ?_ ?_
 ·intro _ hM
  replace hM:zo=some r:=hM
  unfold zo at hM
  refine X.sq (X.q rfl (GS.zC ?_))
  cases hM
  exact GS.ret ⟨_,rfl,⟨30,rfl⟩⟩
 intro hj_1
 refine GS.block ?_
 refine X.gc [] (X.loop (σ:=Int) (fun v=>⟨[(0,(V.sl (List.map zB s))),(1,(V.fn 86 [(V.fptr [(zB c)] 0 0)])),(7,(V.i (s.length:Int))),(8,(V.i v))],[],0,none,19⟩) hM ?_ rfl) rfl rfl rfl (ga rfl rfl) (zU)
 intro x1 b_1 hM hc_2 hr_1
 rw [ZO] at hM
 refine X.sq (X.q rfl (GS.zC (GS.seq ?_)))
 refine X.cond rfl (fun h_1=>?_) (fun h_1=>?_)
 ·replace hM:=Zb h_1 hM
  refine GS.skip (GS.seq (GS.block (X.sq (X.q rfl (X.q rfl ?_)))))
  refine GS.zC (GS.seq ?_)
  obtain ⟨x,h_2,hM⟩:=zM hM
  refine GS.region (X.q rfl (X.q rfl (X.q rfl ?_)))
  refine X.opR rfl (X.yT (f:=zB) h_2 (fun _=>rfl) rfl rfl rfl rfl) rfl ?_
  refine X.opR rfl (X.Yx h_2 rfl rfl rfl) rfl ?_
  refine X.call (zDQ x c) rfl rfl rfl (.cons (.shut (n:=9) rfl) (.cons (.shut (n:=9) rfl) .nil)) (GS.zC ?_)
  refine X.cond rfl (fun h_3=>?_) (fun h_3=>?_)
  ·replace hM:=Zb h_3 hM
   refine X.sq (X.q rfl (X.q rfl ?_))
   refine GS.zC ?_
   have hE:=Option.some.inj hM
   replace hE:=hr_1 _ hE.symm
   subst hE
   exact GS.ret ⟨_,rfl,⟨30,rfl⟩⟩
  replace hM:=Zc h_3 hM
  refine GS.skip ?_
  refine GS.endB (GS.region ?_)
  refine X.opR rfl (X.addE rfl rfl) rfl (X.q rfl (GS.zC ?_))
  have hE:=Option.some.inj hM
  exact X.gc [] (hc_2 (w64 (x1+1)) hE.symm) rfl rfl rfl (ga rfl rfl) (zU)
 replace hM:=Zc h_1 hM
 refine GS.exit rfl ?_
 obtain ⟨y_1,hM,hy⟩:=yR hM
 rw [hr_1 _ hy.symm] at hM
 exact X.gc [] (hj_1 () hM) rfl rfl rfl (Jd) (zU)
theorem Jp {s:(List zA)} {c:zA} {r:Bool} (hM:ZU s c=some r):Ct Tryz.prog 77 [(V.sl (List.map zB s)),(V.fn 86 [(V.fptr [(zB c)] 0 0)])] (V.b r):=by
 refine zX Zh rfl ?_
 unfold ZU at hM
 refine X.sq (X.q rfl (GS.zC (GS.seq ?_)))
 obtain ⟨y,h_1,hM⟩:=zM hM
 refine GS.region (X.q rfl (X.q rfl ?_))
 refine X.call (J7 h_1) rfl rfl rfl (.cons (.shut (n:=9) rfl) (.cons (.shut (n:=9) rfl) .nil)) (X.q rfl (X.q rfl ?_))
 refine GS.zC ?_
 cases hM
 exact GS.ret ⟨_,rfl,⟨30,rfl⟩⟩
theorem JY {c:zA} {c1:(List zA)} {r:Bool} (hM:Zw c c1=some r):Ct Tryz.prog 80 [(V.fn 86 [(V.fptr [(zB c)] 0 0)]),(V.fptr [(V.sl (List.map zB c1))] 0 0)] (V.b r):=by
 refine zX Zh rfl ?_
 unfold Zw at hM
 refine X.sq (X.q rfl (GS.zC (GS.seq ?_)))
 obtain ⟨y,h_1,hM⟩:=zM hM
 refine GS.region (X.q rfl (X.q rfl ?_))
 refine X.call (Jp h_1) rfl rfl rfl (.cons (.shut (n:=9) rfl) (.cons (.shut (n:=9) rfl) .nil)) (X.q rfl (GS.zC ?_))
 cases hM
 exact GS.ret ⟨_,rfl,⟨30,rfl⟩⟩
theorem zDP (y:zA) (c:zA):Ct Tryz.prog 87 [(zB y),(V.fptr [(zB c)] 0 0)] (V.b (Z8 y c)):=by
 refine zX Zh rfl ?_
 generalize hM:Z8 y c=r
 unfold Z8 at hM
 refine X.sq ?_
 refine X.opW rfl rfl rfl rfl (X.q rfl (X.nq ?_))
 refine X.mid [(3,(V.b (((jB y)&&(decide (y.From=c.From)))&&((decide (c.Round<y.Round))||((decide (y.Kind=4))&&(decide (y.Round=c.Round)))))))] ?_ ?_
 ·intro hg
  refine X.split ((jB y)) (fun h_1=>?_) (fun h_1=>?_)
  ·refine X.split (((jB y)&&(decide (y.From=c.From)))) (fun h_2=>?_) (fun h_2=>?_)
   ·refine X.split (decide (c.Round<y.Round)) (fun h_3=>?_) (fun h_3=>?_)
    ·refine X.q rfl ?_
     refine X.call (JD y) rfl rfl rfl (.cons (.shut (n:=9) rfl) .nil) (X.q rfl ?_)
     iterate 5 refine X.opR (X.on_t rfl rfl rfl h_1) rfl rfl ?_
     refine X.opR rfl (X.zm (y:=decide (y.From=c.From)) rfl h_1 rfl) rfl (X.q rfl ?_)
     iterate 6 refine X.opR (X.on_t rfl rfl rfl h_2) rfl rfl ?_
     iterate 4 refine X.off (X.JN rfl rfl rfl h_3) rfl ?_
     iterate 5 refine X.off rfl rfl ?_
     refine X.off (X.JN rfl rfl rfl h_3) rfl ?_
     refine X.opR (X.on_t rfl rfl rfl h_2) (X.Zq (y:=((decide (y.Kind=4))&&(decide (y.Round=c.Round)))) rfl h_3 rfl) rfl ?_
     refine X.opR rfl (X.zm (y:=((decide (c.Round<y.Round))||((decide (y.Kind=4))&&(decide (y.Round=c.Round))))) rfl h_2 rfl) rfl (X.q rfl (GS.zC ?_))
     exact X.norm _ hg rfl (sr rfl)
    refine X.split (decide (y.Kind=4)) (fun h_4=>?_) (fun h_4=>?_)
    ·refine X.q rfl ?_
     refine X.call (JD y) rfl rfl rfl (.cons (.shut (n:=9) rfl) .nil) (X.q rfl ?_)
     iterate 5 refine X.opR (X.on_t rfl rfl rfl h_1) rfl rfl ?_
     refine X.opR rfl (X.zm (y:=decide (y.From=c.From)) rfl h_1 rfl) rfl (X.q rfl ?_)
     iterate 6 refine X.opR (X.on_t rfl rfl rfl h_2) rfl rfl ?_
     iterate 4 refine X.opR (X.on_f rfl rfl rfl h_3) rfl rfl ?_
     iterate 5 refine X.opR (X.on_t rfl rfl rfl h_4) rfl rfl ?_
     refine X.opR (X.on_f rfl rfl rfl h_3) (X.zm (y:=decide (y.Round=c.Round)) rfl h_4 rfl) rfl ?_
     refine X.opR (X.on_t rfl rfl rfl h_2) (X.Zo (y:=((decide (y.Kind=4))&&(decide (y.Round=c.Round)))) rfl h_3 rfl) rfl ?_
     refine X.opR rfl (X.zm (y:=((decide (c.Round<y.Round))||((decide (y.Kind=4))&&(decide (y.Round=c.Round))))) rfl h_2 rfl) rfl (X.q rfl (GS.zC ?_))
     exact X.norm _ hg rfl (sr rfl)
    refine X.q rfl ?_
    refine X.call (JD y) rfl rfl rfl (.cons (.shut (n:=9) rfl) .nil) (X.q rfl ?_)
    iterate 5 refine X.opR (X.on_t rfl rfl rfl h_1) rfl rfl ?_
    refine X.opR rfl (X.zm (y:=decide (y.From=c.From)) rfl h_1 rfl) rfl (X.q rfl ?_)
    iterate 6 refine X.opR (X.on_t rfl rfl rfl h_2) rfl rfl ?_
    iterate 4 refine X.opR (X.on_f rfl rfl rfl h_3) rfl rfl ?_
    iterate 5 refine X.off (X.JA rfl rfl rfl h_4) rfl ?_
    refine X.opR (X.on_f rfl rfl rfl h_3) (X.ZJ (y:=decide (y.Round=c.Round)) rfl h_4 rfl) rfl ?_
    refine X.opR (X.on_t rfl rfl rfl h_2) (X.Zo (y:=((decide (y.Kind=4))&&(decide (y.Round=c.Round)))) rfl h_3 rfl) rfl ?_
    refine X.opR rfl (X.zm (y:=((decide (c.Round<y.Round))||((decide (y.Kind=4))&&(decide (y.Round=c.Round))))) rfl h_2 rfl) rfl (X.q rfl (GS.zC ?_))
    exact X.norm _ hg rfl (sr rfl)
   refine X.q rfl ?_
   refine X.call (JD y) rfl rfl rfl (.cons (.shut (n:=9) rfl) .nil) (X.q rfl ?_)
   iterate 5 refine X.opR (X.on_t rfl rfl rfl h_1) rfl rfl ?_
   refine X.opR rfl (X.zm (y:=decide (y.From=c.From)) rfl h_1 rfl) rfl (X.q rfl ?_)
   iterate 6 refine X.off (X.JA rfl rfl rfl h_2) rfl ?_
   iterate 10 refine X.off rfl rfl ?_
   refine X.off (X.JA rfl rfl rfl h_2) rfl ?_
   refine X.opR rfl (X.ZJ (y:=((decide (c.Round<y.Round))||((decide (y.Kind=4))&&(decide (y.Round=c.Round))))) rfl h_2 rfl) rfl (X.q rfl (GS.zC ?_))
   exact X.norm _ hg rfl (sr rfl)
  refine X.q rfl ?_
  refine X.call (JD y) rfl rfl rfl (.cons (.shut (n:=9) rfl) .nil) (X.q rfl ?_)
  iterate 5 refine X.off (X.JA rfl rfl rfl h_1) rfl ?_
  refine X.opR rfl (X.ZJ (y:=decide (y.From=c.From)) rfl h_1 rfl) rfl (X.q rfl ?_)
  iterate 6 refine X.off (X.JA rfl rfl rfl (X.yB h_1)) rfl ?_
  iterate 10 refine X.off rfl rfl ?_
  refine X.off (X.JA rfl rfl rfl (X.yB h_1)) rfl ?_
  refine X.opR rfl (X.ZJ (y:=((decide (c.Round<y.Round))||((decide (y.Kind=4))&&(decide (y.Round=c.Round))))) rfl (X.yB h_1) rfl) rfl (X.q rfl (GS.zC ?_))
  exact X.norm _ hg rfl (sr rfl)
 subst hM
 exact GS.ret ⟨_,rfl,⟨30,rfl⟩⟩
theorem J6 {s:(List zA)} {c:zA} {r:Int} (hM:Zi s c=some r):Ct Tryz.prog 91 [(V.sl (List.map zB s)),(V.fn 87 [(V.fptr [(zB c)] 0 0)])] (V.i r):=by
 refine zX Zh rfl ?_
 unfold Zi at hM
 refine X.sq (X.q rfl (GS.zC (GS.seq (X.sq (X.q rfl ?_)))))
 refine X.opR rfl (X.lenF rfl rfl rfl) rfl (X.q rfl (GS.zC ?_))
 refine X.join (τ:=Unit) (fun v=>zn=some r) (fun v=>⟨[],[],0,none,19⟩) ?_ ?_
 ·intro _ hM
  replace hM:zn=some r:=hM
  unfold zn at hM
  refine X.sq (X.q rfl (GS.zC ?_))
  cases hM
  exact GS.ret ⟨_,rfl,⟨30,rfl⟩⟩
 intro hj_1
 refine GS.block ?_
 refine X.gc [] (X.loop (σ:=Int) (fun v=>⟨[(0,(V.sl (List.map zB s))),(1,(V.fn 87 [(V.fptr [(zB c)] 0 0)])),(7,(V.i (s.length:Int))),(8,(V.i v))],[],0,none,19⟩) hM ?_ rfl) rfl rfl rfl (ga rfl rfl) (zU)
 intro x1 b_1 hM hc_2 hr_1
 rw [ZN] at hM
 refine X.sq (X.q rfl (GS.zC (GS.seq ?_)))
 refine X.cond rfl (fun h_1=>?_) (fun h_1=>?_)
 ·replace hM:=Zb h_1 hM
  refine GS.skip (GS.seq (GS.block (X.sq (X.q rfl (X.q rfl ?_)))))
  refine GS.zC (GS.seq ?_)
  obtain ⟨x,h_2,hM⟩:=zM hM
  refine GS.region (X.q rfl (X.q rfl (X.q rfl ?_)))
  refine X.opR rfl (X.yT (f:=zB) h_2 (fun _=>rfl) rfl rfl rfl rfl) rfl ?_
  refine X.opR rfl (X.Yx h_2 rfl rfl rfl) rfl ?_
  refine X.call (zDP x c) rfl rfl rfl (.cons (.shut (n:=9) rfl) (.cons (.shut (n:=9) rfl) .nil)) (GS.zC ?_)
  refine X.cond rfl (fun h_3=>?_) (fun h_3=>?_)
  ·replace hM:=Zb h_3 hM
   refine X.sq (X.q rfl (X.q rfl ?_))
   refine GS.zC ?_
   have hE:=Option.some.inj hM
   replace hE:=hr_1 _ hE.symm
   subst hE
   exact GS.ret ⟨_,rfl,⟨30,rfl⟩⟩
  replace hM:=Zc h_3 hM
  refine GS.skip ?_
  refine GS.endB (GS.region ?_)
  refine X.opR rfl (X.addE rfl rfl) rfl (X.q rfl (GS.zC ?_))
  have hE:=Option.some.inj hM
  exact X.gc [] (hc_2 (w64 (x1+1)) hE.symm) rfl rfl rfl (ga rfl rfl) (zU)
 replace hM:=Zc h_1 hM
 refine GS.exit rfl ?_
 obtain ⟨y_1,hM,hy⟩:=yR hM
 rw [hr_1 _ hy.symm] at hM
 exact X.gc [] (hj_1 () hM) rfl rfl rfl (Jd) (zU)
theorem Jo {s:(List zA)} {c:zA} {r:Bool} (hM:ZT s c=some r):Ct Tryz.prog 77 [(V.sl (List.map zB s)),(V.fn 87 [(V.fptr [(zB c)] 0 0)])] (V.b r):=by
 refine zX Zh rfl ?_
 unfold ZT at hM
 refine X.sq (X.q rfl (GS.zC (GS.seq ?_)))
 obtain ⟨y,h_1,hM⟩:=zM hM
 refine GS.region (X.q rfl (X.q rfl ?_))
 refine X.call (J6 h_1) rfl rfl rfl (.cons (.shut (n:=9) rfl) (.cons (.shut (n:=9) rfl) .nil)) (X.q rfl (X.q rfl ?_))
 refine GS.zC ?_
 cases hM
 exact GS.ret ⟨_,rfl,⟨30,rfl⟩⟩
theorem Yh {c:zA} {c1:(List zA)} {r:Bool} (hM:Zv c c1=some r):Ct Tryz.prog 80 [(V.fn 87 [(V.fptr [(zB c)] 0 0)]),(V.fptr [(V.sl (List.map zB c1))] 0 0)] (V.b r):=by
 refine zX Zh rfl ?_
 unfold Zv at hM
 refine X.sq (X.q rfl (GS.zC (GS.seq ?_)))
 obtain ⟨y,h_1,hM⟩:=zM hM
 refine GS.region (X.q rfl (X.q rfl ?_))
 refine X.call (Jo h_1) rfl rfl rfl (.cons (.shut (n:=9) rfl) (.cons (.shut (n:=9) rfl) .nil)) (X.q rfl (GS.zC ?_))
 cases hM
 exact GS.ret ⟨_,rfl,⟨30,rfl⟩⟩
theorem zEX {c:zG} {l:(List zA)} {x:zA} {r:Bool} (hM:Yc c l x=some r):Ct Tryz.prog 41 [(zD c),(V.sl (List.map zB l)),(zB x)] (V.b r):=by
 refine zX Zh rfl ?_
 unfold Yc at hM
 refine X.sq ?_
 iterate 3 refine X.opW rfl rfl rfl rfl ?_
 refine X.q rfl (X.nq (X.q rfl (X.q rfl ?_)))
 refine GS.zC (GS.seq (X.sq (X.q rfl (X.q rfl ?_))))
 refine GS.zC (GS.block (X.sq (X.q rfl (X.q rfl ?_))))
 refine GS.zC ?_
 refine X.cond rfl (fun h_1=>?_) (fun h_1=>?_)
 ·replace hM:=Zb h_1 hM
  refine GS.seq ?_
  obtain ⟨y,h_2,hM⟩:=zM hM
  refine GS.region (X.q rfl (X.q rfl (X.q rfl ?_)))
  refine X.call (zCG h_2) rfl rfl rfl (.cons (.shut (n:=9) rfl) (.cons (.shut (n:=9) rfl) .nil)) ?_
  refine X.opW (H':=[.rows 1 [(zD c)],.rows 1 [(V.sl (List.map zB l))],.rows 8 [(zB x)],.rows 8 [(V.agg [(V.i 0),(V.i 0),(V.i 0),(V.i 0),(V.i 0),(V.i 0),(V.i 0),(V.i 0)])]]) rfl rfl rfl rfl ?_
  refine X.op0W (H':=[.rows 1 [(zD c)],.rows 1 [(V.sl (List.map zB l))],.rows 8 [(zB x)],.rows 8 [(zB y)]]) rfl rfl rfl (GS.zC (GS.seq ?_))
  obtain ⟨y1,h_3,hM⟩:=zJ8 hM
  obtain ⟨y2,h_4,hM⟩:=zJ8 hM
  refine GS.region ?_
  refine X.mid [(6,(V.b ((((decide (x.Voted=y.Round))&&(decide (x.Finding=y.Finding)))&&y1)&&(!y2))))] ?_ ?_
  ·intro hg
   refine X.split (decide (x.Voted=y.Round)) (fun h_5=>?_) (fun h_5=>?_)
   ·refine X.split (((decide (x.Voted=y.Round))&&(decide (x.Finding=y.Finding)))) (fun h_6=>?_) (fun h_6=>?_)
    ·refine X.split ((((decide (x.Voted=y.Round))&&(decide (x.Finding=y.Finding)))&&y1)) (fun h_7=>?_) (fun h_7=>?_)
     ·iterate 6 refine X.q rfl ?_
      iterate 5 refine X.opR (X.on_t rfl rfl rfl h_5) rfl rfl ?_
      refine X.opR rfl (X.zm (y:=decide (x.Finding=y.Finding)) rfl h_5 rfl) rfl (X.q rfl ?_)
      iterate 2 refine X.opR (X.on_t rfl rfl rfl h_6) rfl rfl ?_
      refine X.Y3 (JZ (h_3 h_6)) (X.on_t rfl rfl rfl h_6) rfl rfl (m:=9) rfl (.cons (FR.arg ⟨30,rfl⟩) (.cons (FR.arg ⟨30,rfl⟩) .nil)) ?_
      refine X.opR rfl (X.zm (y:=y1) rfl h_6 rfl) rfl (X.q rfl ?_)
      iterate 2 refine X.opR (X.on_t rfl rfl rfl h_7) rfl rfl ?_
      refine X.Y3 (Yj (h_4 h_7)) (X.on_t rfl rfl rfl h_7) rfl rfl (m:=9) rfl (.cons (FR.arg ⟨30,rfl⟩) (.cons (FR.arg ⟨30,rfl⟩) .nil)) ?_
      refine X.opR (X.on_t rfl rfl rfl h_7) rfl rfl ?_
      refine X.opR rfl (X.zm (y := !y2) rfl h_7 rfl) rfl (X.q rfl (GS.zC ?_))
      exact X.norm _ hg rfl (sr rfl)
     iterate 6 refine X.q rfl ?_
     iterate 5 refine X.opR (X.on_t rfl rfl rfl h_5) rfl rfl ?_
     refine X.opR rfl (X.zm (y:=decide (x.Finding=y.Finding)) rfl h_5 rfl) rfl (X.q rfl ?_)
     iterate 2 refine X.opR (X.on_t rfl rfl rfl h_6) rfl rfl ?_
     refine X.Y3 (JZ (h_3 h_6)) (X.on_t rfl rfl rfl h_6) rfl rfl (m:=9) rfl (.cons (FR.arg ⟨30,rfl⟩) (.cons (FR.arg ⟨30,rfl⟩) .nil)) ?_
     refine X.opR rfl (X.zm (y:=y1) rfl h_6 rfl) rfl (X.q rfl ?_)
     iterate 4 refine X.off (X.JA rfl rfl rfl h_7) rfl ?_
     refine X.opR rfl (X.ZJ (y := !y2) rfl h_7 rfl) rfl (X.q rfl (GS.zC ?_))
     exact X.norm _ hg rfl (sr rfl)
    iterate 6 refine X.q rfl ?_
    iterate 5 refine X.opR (X.on_t rfl rfl rfl h_5) rfl rfl ?_
    refine X.opR rfl (X.zm (y:=decide (x.Finding=y.Finding)) rfl h_5 rfl) rfl (X.q rfl ?_)
    iterate 3 refine X.off (X.JA rfl rfl rfl h_6) rfl ?_
    refine X.opR rfl (X.ZJ (y:=y1) rfl h_6 rfl) rfl (X.q rfl ?_)
    iterate 4 refine X.off (X.JA rfl rfl rfl (X.yB h_6)) rfl ?_
    refine X.opR rfl (X.ZJ (y := !y2) rfl (X.yB h_6) rfl) rfl (X.q rfl (GS.zC ?_))
    exact X.norm _ hg rfl (sr rfl)
   iterate 6 refine X.q rfl ?_
   iterate 5 refine X.off (X.JA rfl rfl rfl h_5) rfl ?_
   refine X.opR rfl (X.ZJ (y:=decide (x.Finding=y.Finding)) rfl h_5 rfl) rfl (X.q rfl ?_)
   iterate 3 refine X.off (X.JA rfl rfl rfl (X.yB h_5)) rfl ?_
   refine X.opR rfl (X.ZJ (y:=y1) rfl (X.yB h_5) rfl) rfl (X.q rfl ?_)
   iterate 4 refine X.off (X.JA rfl rfl rfl (X.yB (X.yB h_5))) rfl ?_
   refine X.opR rfl (X.ZJ (y := !y2) rfl (X.yB (X.yB h_5)) rfl) rfl (X.q rfl (GS.zC ?_))
   exact X.norm _ hg rfl (sr rfl)
  cases hM
  exact GS.ret ⟨_,rfl,⟨30,rfl⟩⟩
 replace hM:=Zc h_1 hM
 refine X.sq (X.q rfl (X.q rfl ?_))
 refine GS.zC ?_
 refine X.cond rfl (fun h_8=>?_) (fun h_8=>?_)
 ·replace hM:=Zb h_8 hM
  refine GS.seq ?_
  obtain ⟨y3,h_9,hM⟩:=zM hM
  obtain ⟨y4,h_10,hM⟩:=zJ8 hM
  refine GS.region ?_
  refine X.mid [(6,(V.b (y3&&(!y4))))] ?_ ?_
  ·intro hg
   refine X.split (y3) (fun h_11=>?_) (fun h_11=>?_)
   ·iterate 6 refine X.q rfl ?_
    refine X.call (Ql h_9) rfl rfl rfl (.cons (.shut (n:=9) rfl) (.cons (.shut (n:=9) rfl) (.cons (.shut (n:=9) rfl) (.cons (.shut (n:=9) rfl) .nil)))) (X.q rfl ?_)
    iterate 2 refine X.opR (X.on_t rfl rfl rfl h_11) rfl rfl ?_
    refine X.Y3 (Yi (h_10 h_11)) (X.on_t rfl rfl rfl h_11) rfl rfl (m:=9) rfl (.cons (FR.arg ⟨30,rfl⟩) (.cons (FR.arg ⟨30,rfl⟩) .nil)) ?_
    refine X.opR (X.on_t rfl rfl rfl h_11) rfl rfl ?_
    refine X.opR rfl (X.zm (y := !y4) rfl h_11 rfl) rfl (X.q rfl (GS.zC ?_))
    exact X.norm _ hg rfl (sr rfl)
   iterate 6 refine X.q rfl ?_
   refine X.call (Ql h_9) rfl rfl rfl (.cons (.shut (n:=9) rfl) (.cons (.shut (n:=9) rfl) (.cons (.shut (n:=9) rfl) (.cons (.shut (n:=9) rfl) .nil)))) (X.q rfl ?_)
   iterate 4 refine X.off (X.JA rfl rfl rfl h_11) rfl ?_
   refine X.opR rfl (X.ZJ (y := !y4) rfl h_11 rfl) rfl (X.q rfl (GS.zC ?_))
   exact X.norm _ hg rfl (sr rfl)
  cases hM
  exact GS.ret ⟨_,rfl,⟨30,rfl⟩⟩
 replace hM:=Zc h_8 hM
 refine X.sq (X.q rfl (X.q rfl ?_))
 refine GS.zC ?_
 refine X.cond rfl (fun h_12=>?_) (fun h_12=>?_)
 ·replace hM:=Zb h_12 hM
  refine GS.seq ?_
  obtain ⟨y5,h_13,hM⟩:=zM hM
  obtain ⟨y6,h_14,hM⟩:=zJ8 hM
  refine GS.region ?_
  refine X.mid [(6,(V.b (y5&&(!y6))))] ?_ ?_
  ·intro hg
   refine X.split (y5) (fun h_15=>?_) (fun h_15=>?_)
   ·iterate 2 refine X.q rfl ?_
    refine X.Y3 (JY h_13) rfl rfl rfl (m:=9) rfl (.cons (FR.arg ⟨30,rfl⟩) (.cons (FR.arg ⟨30,rfl⟩) .nil)) (X.q rfl ?_)
    iterate 2 refine X.opR (X.on_t rfl rfl rfl h_15) rfl rfl ?_
    refine X.Y3 (Yh (h_14 h_15)) (X.on_t rfl rfl rfl h_15) rfl rfl (m:=9) rfl (.cons (FR.arg ⟨30,rfl⟩) (.cons (FR.arg ⟨30,rfl⟩) .nil)) ?_
    refine X.opR (X.on_t rfl rfl rfl h_15) rfl rfl ?_
    refine X.opR rfl (X.zm (y := !y6) rfl h_15 rfl) rfl (X.q rfl (GS.zC ?_))
    exact X.norm _ hg rfl (sr rfl)
   refine X.q rfl (X.q rfl ?_)
   refine X.Y3 (JY h_13) rfl rfl rfl (m:=9) rfl (.cons (FR.arg ⟨30,rfl⟩) (.cons (FR.arg ⟨30,rfl⟩) .nil)) (X.q rfl ?_)
   iterate 4 refine X.off (X.JA rfl rfl rfl h_15) rfl ?_
   refine X.opR rfl (X.ZJ (y := !y6) rfl h_15 rfl) rfl (X.q rfl (GS.zC ?_))
   exact X.norm _ hg rfl (sr rfl)
  cases hM
  exact GS.ret ⟨_,rfl,⟨30,rfl⟩⟩
 replace hM:=Zc h_12 hM
 refine GS.skip ?_
 refine GS.endB (X.sq (X.q rfl (GS.zC ?_)))
 cases hM
 exact GS.ret ⟨_,rfl,⟨30,rfl⟩⟩
set_option maxHeartbeats 4000000 in
theorem zEY {c:zG} {l:(List zA)} {r:Int×Bool×Int} (hM:Yd c l=some r):Ct Tryz.prog 16 [(zD c),(V.sl (List.map zB l))] (V.tup [(V.i r.1),(V.b r.2.1),(V.i r.2.2)]):=by
 refine zX Zh rfl ?_
 unfold Yd at hM
 refine X.sq ?_
 refine X.opW rfl rfl rfl rfl (X.q rfl (X.q rfl (X.q rfl ?_)))
 refine GS.zC ?_
 refine GS.scope ?_
 iterate 2 refine GS.seq ?_
 obtain ⟨y,h_1,hM⟩:=zM hM
 refine GS.region (X.q rfl (X.q rfl ?_))
 refine X.call (qL h_1) rfl rfl rfl (.cons (.shut (n:=9) rfl) (.cons (.shut (n:=9) rfl) .nil)) (X.q rfl (X.nq (X.q rfl (X.q rfl ?_))))
 refine GS.zC ?_
 refine X.cond rfl (fun h_2=>?_) (fun h_2=>?_)
 ·replace hM:=Zb h_2 hM
  refine X.sq ?_
  iterate 4 refine X.q rfl ?_
  refine GS.zC ?_
  cases hM
  exact GS.ret ⟨_,rfl,⟨30,rfl⟩⟩
 replace hM:=Zc h_2 hM
 refine GS.skip (X.sq ?_)
 refine X.opW rfl rfl rfl rfl (X.q rfl (X.nq ?_))
 refine X.opW (H':=([.rows 1 [(zD c)],.map (List.map (fun p:zA×Bool=>zB p.1) []) (List.map (fun p:zA×Bool=>V.b p.2) []),famM Qo 3 []]++famB Qo [])) rfl rfl rfl rfl (X.q rfl (X.nq (X.q rfl (GS.zC (GS.seq ?_)))))
 refine GS.label (GS.seq (X.sq (X.q rfl ?_)))
 refine X.opR rfl (X.lenF rfl rfl rfl) rfl (X.q rfl (GS.zC ?_))
 refine X.join (τ:=Int) (fun v=>JC v=some r) (fun v=>⟨[(10,(V.i v))],[],0,none,60⟩) ?_ ?_
 ·intro at_ hM
  replace hM:JC at_=some r:=hM
  unfold JC at hM
  refine X.sq ?_
  iterate 6 refine X.q rfl ?_
  refine GS.zC ?_
  cases hM
  exact GS.ret ⟨_,rfl,⟨30,rfl⟩⟩
 intro hj_1
 refine GS.block ?_
 refine X.Qm 3 3 2 2 [some 0,some 1,some 2] (P0:=[.rows 1 [(zD c)],.map (List.map (fun p:zA×Bool=>zB p.1) []) (List.map (fun p:zA×Bool=>V.b p.2) []),.dead]) rfl (X.loop (σ:=(Int×(List (zA×Bool))×(List (Int×(List zA))))) (fun v=>⟨[(2,(V.ptr 0 0 0)),(8,(V.map 1)),(9,(V.map 2)),(10,(V.i (-1))),(21,(V.sl (List.map zB l))),(22,(V.i (l.length:Int))),(23,(V.i v.1))],([.rows 1 [(zD c)],.map (List.map (fun p:zA×Bool=>zB p.1) v.2.1) (List.map (fun p:zA×Bool=>V.b p.2) v.2.1),famM Qo 3 v.2.2]++famB Qo v.2.2),0,none,60⟩) hM ?_ rfl) rfl rfl rfl rfl (ga rfl rfl) (gb9 rfl rfl rfl (X.jy 9 rfl rfl (fun _=>rfl) (fun _=>rfl) (Zp zU))) rfl rfl rfl rfl rfl
 rintro ⟨x1,m2,m3⟩ b_1 hM hc_2 hr_1
 rw [yL] at hM
 refine X.sq (X.q rfl (GS.zC (GS.seq ?_)))
 refine X.cond rfl (fun h_3=>?_) (fun h_3=>?_)
 ·replace hM:=Zb h_3 hM
  refine GS.skip (GS.seq ?_)
  refine X.join (τ:=(List (zA×Bool))×(List (Int×(List zA)))) (fun v=>Jc x1 v.1 v.2=some b_1) (fun v=>⟨[(2,(V.ptr 0 0 0)),(8,(V.map 1)),(9,(V.map 2)),(10,(V.i (-1))),(21,(V.sl (List.map zB l))),(22,(V.i (l.length:Int))),(23,(V.i x1))],([.rows 1 [(zD c)],.map (List.map (fun p:zA×Bool=>zB p.1) v.1) (List.map (fun p:zA×Bool=>V.b p.2) v.1),famM Qo 3 v.2]++famB Qo v.2),0,none,60⟩) ?_ ?_
  ·rintro ⟨m,m1⟩ hM
   replace hM:Jc x1 m m1=some b_1:=hM
   unfold Jc at hM
   refine GS.region ?_
   refine X.opR rfl (X.addE rfl rfl) rfl (X.q rfl (GS.zC ?_))
   have hE:=Option.some.inj hM
   exact X.Qm 3 3 2 2 [some 0,some 1,some 2] (P0:=[.rows 1 [(zD c)],.map (List.map (fun p:zA×Bool=>zB p.1) m) (List.map (fun p:zA×Bool=>V.b p.2) m),.dead]) rfl (hc_2 (w64 (x1+1),m,m1) hE.symm) rfl rfl rfl rfl (ga rfl rfl) (gb9 rfl rfl rfl (X.jy 9 rfl rfl (fun _=>rfl) (fun _=>rfl) (Zp zU))) rfl rfl rfl rfl rfl
  intro hj_3
  refine GS.block (GS.seq ?_)
  obtain ⟨x,h_4,hM⟩:=zM hM
  refine GS.region (X.q rfl ?_)
  refine X.opR rfl (X.yT (f:=zB) h_4 (fun _=>rfl) rfl rfl rfl rfl) rfl ?_
  refine X.opR rfl (X.Yx h_4 rfl rfl rfl) rfl ?_
  refine X.zCx (F:=Qo) (A:=m3) (P0:=[.rows 1 [(zD c)],.map (List.map (fun p:zA×Bool=>zB p.1) m2) (List.map (fun p:zA×Bool=>V.b p.2) m2),.dead]) (P2:=[.rows 1 [(zD c)],.map (List.map (fun p:zA×Bool=>zB p.1) m2) (List.map (fun p:zA×Bool=>V.b p.2) m2),famM Qo 4 m3,.rows 8 [(V.agg [(V.i 0),(V.i 0),(V.i 0),(V.i 0),(V.i 0),(V.i 0),(V.i 0),(V.i 0)])]]) 3 2 [some 0,some 1,some 2] [(2,(V.ptr 0 0 0)),(8,(V.map 1)),(9,(V.map 2)),(10,(V.i (-1))),(21,(V.sl (List.map zB l))),(22,(V.i (l.length:Int))),(23,(V.i x1)),(25,(V.i x1)),(27,(zB x))] rfl (fun _ _=>rfl) (by intro h; cases h) rfl rfl rfl rfl rfl rfl rfl rfl rfl rfl rfl (zW rfl ⟨9,rfl⟩ (zW rfl ⟨9,rfl⟩ (zW rfl ⟨9,rfl⟩ (zW rfl ⟨9,rfl⟩ (zW rfl ⟨9,rfl⟩ (zW rfl ⟨9,rfl⟩ (zW rfl ⟨9,rfl⟩ (zW rfl ⟨9,rfl⟩ (zW rfl ⟨9,rfl⟩ Jd))))))))) (Yu rfl rfl ⟨9,rfl⟩ (X.jy 9 rfl rfl (fun _=>rfl) (fun _=>rfl) (Zp zU))) rfl ?_
  refine X.q rfl ?_
  refine X.op0W (H':=([.rows 1 [(zD c)],.map (List.map (fun p:zA×Bool=>zB p.1) m2) (List.map (fun p:zA×Bool=>V.b p.2) m2),famM Qo 4 m3,.rows 8 [(zB x)]]++famB Qo m3)) rfl rfl rfl (GS.zC (GS.seq (GS.block (X.sq (X.q rfl (X.q rfl ?_))))))
  refine X.call (zCF x) rfl rfl rfl (.cons (.shut (n:=9) rfl) .nil) ?_
  refine X.opR rfl (X.lookW (f:=zB) (g:=V.b) (k:=(zK x)) (l:=m2) (z:=false) (ok:=false) zCo rfl rfl rfl rfl rfl rfl) rfl (X.q rfl (GS.zC ?_))
  refine X.cond rfl (fun h_5=>?_) (fun h_5=>?_)
  ·replace hM:=Zb h_5 hM
   refine GS.exit rfl ?_
   exact X.Qm 4 3 2 2 [some 0,some 1,some 2] (P0:=[.rows 1 [(zD c)],.map (List.map (fun p:zA×Bool=>zB p.1) m2) (List.map (fun p:zA×Bool=>V.b p.2) m2),.dead]) rfl (hj_3 (m2,m3) hM) rfl rfl rfl rfl (ga rfl rfl) (gb9 rfl rfl rfl (X.jy 9 rfl rfl (fun _=>rfl) (fun _=>rfl) (Zp zU))) rfl rfl rfl rfl rfl
  replace hM:=Zc h_5 hM
  refine GS.seq ?_
  obtain ⟨y1,h_6,hM⟩:=zM hM
  refine GS.region ?_
  iterate 4 refine X.q rfl ?_
  refine X.opR rfl (X.zBe (F:=Qo) (A:=m3) (b:=4) (k0:=x.Case) X.yH rfl rfl rfl rfl rfl rfl) rfl (X.q rfl ?_)
  refine X.Y3 (zEX h_6) rfl rfl rfl (m:=9) rfl (.cons (.shut (n:=9) rfl) (.cons (FR.arg (X.frS rfl (fun _ _=>rfl))) (.cons (.shut (n:=9) rfl) .nil))) (X.q rfl (X.q rfl ?_))
  refine GS.zC ?_
  refine X.cond rfl (fun h_7=>?_) (fun h_7=>?_)
  ·replace hM:=Zb h_7 hM
   refine X.sq (X.q rfl (X.q rfl ?_))
   refine GS.zC ?_
   refine GS.exit rfl ?_
   obtain ⟨y_1,hM,hy⟩:=yR hM
   rw [hr_1 _ hy.symm] at hM
   exact X.gc [] (hj_1 x1 hM) rfl rfl rfl (ga rfl rfl) (zU)
  replace hM:=Zc h_7 hM
  refine GS.skip ?_
  refine GS.endB (X.sq (X.q rfl (X.q rfl ?_)))
  refine X.call (zCF x) rfl rfl rfl (.cons (.shut (n:=9) rfl) .nil) ?_
  refine X.op0W (H':=([.rows 1 [(zD c)],.map (List.map (fun p:zA×Bool=>zB p.1) (putM posE m2 (zK x) true)) (List.map (fun p:zA×Bool=>V.b p.2) (putM posE m2 (zK x) true)),famM Qo 4 m3,.rows 8 [(zB x)]]++famB Qo m3)) rfl (X.putW (f:=zB) (g:=V.b) (pos:=posE) (k:=(zK x)) (v:=true) (l:=m2) zCo (fun l=>(X.zDF _ _).trans (List.length_map ..)) rfl rfl rfl rfl rfl rfl rfl) rfl (GS.zC ?_)
  obtain ⟨l1,h_8,hM⟩:=zM hM
  refine X.zDJ 10 rfl (by kernel_rfl) (by kernel_rfl) ?_
  iterate 6 refine X.dop rfl rfl rfl rfl (by kernel_rfl) rfl rfl ?_
  refine X.dop rfl (X.zBe (F:=Qo) (A:=m3) (b:=4) (k0:=x.Case) X.yH rfl rfl rfl rfl rfl rfl) rfl rfl (by kernel_rfl) rfl rfl ?_
  refine X.dop rfl rfl rfl rfl (by kernel_rfl) rfl rfl ?_
  refine X.dbld rfl rfl rfl X.zK9 rfl (by kernel_rfl) rfl ?_
  refine X.dappFam (P:=[.rows 1 [(zD c)],.map (List.map (fun p:zA×Bool=>zB p.1) (putM posE m2 (zK x) true)) (List.map (fun p:zA×Bool=>V.b p.2) (putM posE m2 (zK x) true)),famM Qo 4 m3,.rows 8 [(zB x)]]) (A:=m3) (k0:=x.Case) (f:=zB) h_8 (fun _=>rfl) rfl rfl rfl rfl rfl rfl rfl rfl rfl rfl rfl rfl rfl rfl (X.hl_bld (X.zAo rfl rfl (X.zAo rfl rfl (X.zAo rfl rfl (X.zAo rfl rfl (X.zAo rfl rfl (X.zAo rfl rfl (X.zAo rfl rfl (X.zAo rfl rfl X.hl_nil))))))))) rfl (fun H_9 hp_9 ho_9 hn_9 hl_9=>?_)
  refine X.zOO (F:=Qo) (A:=m3) (P:=[.rows 1 [(zD c)],.map (List.map (fun p:zA×Bool=>zB p.1) (putM posE m2 (zK x) true)) (List.map (fun p:zA×Bool=>V.b p.2) (putM posE m2 (zK x) true)),famM Qo 4 m3,.rows 8 [(zB x)]]) (pos0:=posI) (P0:=[.rows 1 [(zD c)],.map (List.map (fun p:zA×Bool=>zB p.1) (putM posE m2 (zK x) true)) (List.map (fun p:zA×Bool=>V.b p.2) (putM posE m2 (zK x) true)),.dead,.rows 8 [(zB x)]]) (P2:=[.rows 1 [(zD c)],.map (List.map (fun p:zA×Bool=>zB p.1) (putM posE m2 (zK x) true)) (List.map (fun p:zA×Bool=>V.b p.2) (putM posE m2 (zK x) true)),famM Qo 4 (putM posI m3 x.Case l1),.rows 8 [(zB x)]]) (x0:=l1) 4 2 _ [some 0,some 1,some 2,some 3] [(2,(V.ptr 0 0 0)),(8,(V.map 1)),(9,(V.map 2)),(10,(V.i (-1))),(21,(V.sl (List.map zB l))),(22,(V.i (l.length:Int))),(23,(V.i x1))] rfl X.yH (X.Y8 _) rfl rfl rfl rfl rfl rfl ((hp_9 2 (by decide)).trans rfl) hp_9 ho_9 (by omega) hn_9 hl_9 rfl rfl rfl rfl rfl rfl rfl rfl (zW rfl ⟨9,rfl⟩ (zW rfl ⟨9,rfl⟩ (zW rfl ⟨9,rfl⟩ (zW rfl ⟨9,rfl⟩ (zW rfl ⟨9,rfl⟩ (zW rfl ⟨9,rfl⟩ (zW rfl ⟨9,rfl⟩ Jd))))))) (Yu rfl rfl ⟨9,rfl⟩ (X.jy 9 rfl rfl (fun _=>rfl) (fun _=>rfl) (Zp (Yu rfl rfl ⟨9,rfl⟩ zU)))) rfl (GS.zC ?_)
  refine GS.endB ?_
  exact X.Qm 4 3 2 2 [some 0,some 1,some 2] (P0:=[.rows 1 [(zD c)],.map (List.map (fun p:zA×Bool=>zB p.1) (putM posE m2 (zK x) true)) (List.map (fun p:zA×Bool=>V.b p.2) (putM posE m2 (zK x) true)),.dead]) rfl (hj_3 ((putM posE m2 (zK x) true),(putM posI m3 x.Case l1)) hM) rfl rfl rfl rfl (ga rfl rfl) (gb9 rfl rfl rfl (X.jy 9 rfl rfl (fun _=>rfl) (fun _=>rfl) (Zp zU))) rfl rfl rfl rfl rfl
 replace hM:=Zc h_3 hM
 refine GS.exit rfl ?_
 obtain ⟨y_1,hM,hy⟩:=yR hM
 rw [hr_1 _ hy.symm] at hM
 exact X.gc [] (hj_1 (-1) hM) rfl rfl rfl (ga rfl rfl) (zU)
theorem zDz {c:zG} {l:(List zA)} {r:(List zF)×Int} (hM:YH c l=some r):Ct Tryz.prog 17 [(zD c),(V.sl (List.map zB l))] (V.tup [(V.sl (List.map zJ r.1)),(V.i r.2)]):=by
 refine zX Zh rfl ?_
 unfold YH at hM
 refine X.sq ?_
 refine X.opW rfl rfl rfl rfl (X.q rfl (X.q rfl ?_))
 refine GS.zC ?_
 iterate 2 refine GS.seq ?_
 obtain ⟨y,h_1,hM⟩:=zM hM
 refine GS.region (X.q rfl (X.q rfl ?_))
 refine X.call (qL h_1) rfl rfl rfl (.cons (.shut (n:=9) rfl) (.cons (.shut (n:=9) rfl) .nil)) (X.q rfl (X.nq (X.q rfl (X.q rfl ?_))))
 refine GS.zC ?_
 refine X.cond rfl (fun h_2=>?_) (fun h_2=>?_)
 ·replace hM:=Zb h_2 hM
  refine X.sq (X.q rfl (X.q rfl (X.q rfl ?_)))
  refine GS.zC ?_
  cases hM
  exact GS.ret ⟨_,rfl,⟨30,rfl⟩⟩
 replace hM:=Zc h_2 hM
 refine GS.skip (GS.seq ?_)
 obtain ⟨y1,h_3,hM⟩:=zM hM
 refine GS.region (X.q rfl (X.q rfl ?_))
 refine X.call (zDy h_3) rfl rfl rfl (.cons (.shut (n:=9) rfl) (.cons (.shut (n:=9) rfl) .nil)) (X.q rfl (X.q rfl ?_))
 refine GS.zC ?_
 cases hM
 exact GS.ret ⟨_,rfl,⟨30,rfl⟩⟩
theorem zAL (x:zA) (c:Int):Ct Tryz.prog 47 [(zB x),(V.fptr [(V.i c)] 0 0)] (V.b (Jf x c)):=by
 refine zX Zh rfl ?_
 generalize hM:Jf x c=r
 unfold Jf at hM
 refine X.sq ?_
 refine X.opW rfl rfl rfl rfl (X.q rfl (X.nq ?_))
 iterate 5 refine X.q rfl ?_
 refine GS.zC ?_
 subst hM
 exact GS.ret ⟨_,rfl,⟨30,rfl⟩⟩
theorem yF {s:(List zA)} {c:Int} {r:Int} (hM:ZA s c=some r):Ct Tryz.prog 91 [(V.sl (List.map zB s)),(V.fn 47 [(V.fptr [(V.i c)] 0 0)])] (V.i r):=by
 refine zX Zh rfl ?_
 unfold ZA at hM
 refine X.sq (X.q rfl (GS.zC (GS.seq (X.sq (X.q rfl ?_)))))
 refine X.opR rfl (X.lenF rfl rfl rfl) rfl (X.q rfl (GS.zC ?_))
 refine X.join (τ:=Unit) (fun v=>zw=some r) (fun v=>⟨[],[],0,none,19⟩) ?_ ?_
 ·intro _ hM
  replace hM:zw=some r:=hM
  unfold zw at hM
  refine X.sq (X.q rfl (GS.zC ?_))
  cases hM
  exact GS.ret ⟨_,rfl,⟨30,rfl⟩⟩
 intro hj_1
 refine GS.block ?_
 refine X.gc [] (X.loop (σ:=Int) (fun v=>⟨[(0,(V.sl (List.map zB s))),(1,(V.fn 47 [(V.fptr [(V.i c)] 0 0)])),(7,(V.i (s.length:Int))),(8,(V.i v))],[],0,none,19⟩) hM ?_ rfl) rfl rfl rfl (ga rfl rfl) (zU)
 intro x1 b_1 hM hc_2 hr_1
 rw [ZZ] at hM
 refine X.sq (X.q rfl (GS.zC (GS.seq ?_)))
 refine X.cond rfl (fun h_1=>?_) (fun h_1=>?_)
 ·replace hM:=Zb h_1 hM
  refine GS.skip (GS.seq (GS.block (X.sq (X.q rfl (X.q rfl ?_)))))
  refine GS.zC (GS.seq ?_)
  obtain ⟨x,h_2,hM⟩:=zM hM
  refine GS.region (X.q rfl (X.q rfl (X.q rfl ?_)))
  refine X.opR rfl (X.yT (f:=zB) h_2 (fun _=>rfl) rfl rfl rfl rfl) rfl ?_
  refine X.opR rfl (X.Yx h_2 rfl rfl rfl) rfl ?_
  refine X.call (zAL x c) rfl rfl rfl (.cons (.shut (n:=9) rfl) (.cons (.shut (n:=9) rfl) .nil)) (GS.zC ?_)
  refine X.cond rfl (fun h_3=>?_) (fun h_3=>?_)
  ·replace hM:=Zb h_3 hM
   refine X.sq (X.q rfl (X.q rfl ?_))
   refine GS.zC ?_
   have hE:=Option.some.inj hM
   replace hE:=hr_1 _ hE.symm
   subst hE
   exact GS.ret ⟨_,rfl,⟨30,rfl⟩⟩
  replace hM:=Zc h_3 hM
  refine GS.skip ?_
  refine GS.endB (GS.region ?_)
  refine X.opR rfl (X.addE rfl rfl) rfl (X.q rfl (GS.zC ?_))
  have hE:=Option.some.inj hM
  exact X.gc [] (hc_2 (w64 (x1+1)) hE.symm) rfl rfl rfl (ga rfl rfl) (zU)
 replace hM:=Zc h_1 hM
 refine GS.exit rfl ?_
 obtain ⟨y_1,hM,hy⟩:=yR hM
 rw [hr_1 _ hy.symm] at hM
 exact X.gc [] (hj_1 () hM) rfl rfl rfl (Jd) (zU)
set_option maxHeartbeats 4000000 in
theorem zFP {c:zG} {l:(List zA)} {arbiter:Int} {id:Int} {r:Int×Int×Int} (hM:Y4 c l arbiter id=some r):Ct Tryz.prog 19 [(zD c),(V.sl (List.map zB l)),(V.i arbiter),(V.i id)] (V.tup [(V.i r.1),(V.i r.2.1),(V.i r.2.2)]):=by
 refine zX Zh rfl ?_
 unfold Y4 at hM
 refine X.sq ?_
 iterate 2 refine X.opW rfl rfl rfl rfl ?_
 iterate 3 refine X.q rfl ?_
 refine GS.zC ?_
 iterate 2 refine GS.seq ?_
 obtain ⟨y,h_1,hM⟩:=zM hM
 refine GS.region (X.q rfl (X.q rfl ?_))
 refine X.call (qL h_1) rfl rfl rfl (.cons (.shut (n:=9) rfl) (.cons (.shut (n:=9) rfl) .nil)) (X.q rfl (X.nq (X.q rfl (X.q rfl ?_))))
 refine GS.zC ?_
 refine X.cond rfl (fun h_2=>?_) (fun h_2=>?_)
 ·replace hM:=Zb h_2 hM
  refine X.sq ?_
  iterate 4 refine X.q rfl ?_
  refine GS.zC ?_
  cases hM
  exact GS.ret ⟨_,rfl,⟨30,rfl⟩⟩
 replace hM:=Zc h_2 hM
 refine GS.skip (GS.seq (X.sq ?_))
 refine X.mid [(1,(V.sl (List.map zB l))),(2,(V.i arbiter)),(7,(V.ptr 1 0 0)),(27,(V.b ((!(zN c arbiter))||(!(zZ id)))))] ?_ ?_
 ·intro hg
  refine X.split (!(zN c arbiter)) (fun h_3=>?_) (fun h_3=>?_)
  ·iterate 2 refine X.q rfl ?_
   refine X.call (Z6 c arbiter) rfl rfl rfl (.cons (.shut (n:=9) rfl) (.cons (.shut (n:=9) rfl) .nil)) (X.q rfl (X.q rfl ?_))
   iterate 3 refine X.off (X.JN rfl rfl rfl h_3) rfl ?_
   refine X.opR rfl (X.Zq (y := !(zZ id)) rfl h_3 rfl) rfl (GS.zC ?_)
   exact X.norm _ hg rfl (sr rfl)
  refine X.q rfl (X.q rfl ?_)
  refine X.call (Z6 c arbiter) rfl rfl rfl (.cons (.shut (n:=9) rfl) (.cons (.shut (n:=9) rfl) .nil)) (X.q rfl (X.q rfl ?_))
  refine X.opR (X.on_f rfl rfl rfl h_3) rfl rfl ?_
  refine X.call (jZ id) (X.on_f rfl rfl rfl h_3) rfl rfl (.cons (.shut (n:=9) rfl) .nil) ?_
  refine X.opR (X.on_f rfl rfl rfl h_3) rfl rfl ?_
  refine X.opR rfl (X.Zo (y := !(zZ id)) rfl h_3 rfl) rfl (GS.zC ?_)
  exact X.norm _ hg rfl (sr rfl)
 refine X.cond rfl (fun h_4=>?_) (fun h_4=>?_)
 ·replace hM:=Zb h_4 hM
  refine X.sq (X.q rfl (X.q rfl (X.q rfl ?_)))
  refine GS.zC ?_
  cases hM
  exact GS.ret ⟨_,rfl,⟨30,rfl⟩⟩
 replace hM:=Zc h_4 hM
 refine GS.skip (GS.seq ?_)
 obtain ⟨l1,h_5,hM⟩:=zM hM
 refine GS.region (X.q rfl ?_)
 refine zJD (r:=l1) (i:=3) h_5 rfl rfl rfl rfl rfl (fun z_1=>(X.q rfl ?_))
 refine X.joinO (τ:=(List zA)) (fun v=>jw arbiter v=some r) (fun v=>⟨[(2,(V.i arbiter)),(31,(V.sl (List.map zB v)))],[],0,none,38⟩) ?_ ?_
 ·intro x hM
  replace hM:jw arbiter x=some r:=hM
  unfold jw at hM
  obtain ⟨y1,h_6,hM⟩:=zM hM
  refine X.q rfl ?_
  refine X.call (zCG h_6) rfl rfl rfl (.cons (.shut (n:=9) rfl) (.cons (.shut (n:=9) rfl) .nil)) ?_
  refine X.opW rfl rfl rfl rfl ?_
  refine X.op0W rfl rfl rfl (GS.zC (GS.seq ?_))
  refine X.drawc (by kernel_rfl) rfl ?_
  iterate 7 refine X.cop rfl rfl rfl rfl ?_
  refine X.cnil ?_
  refine X.norm [(8,(V.i y1.Round)),(9,(V.i y1.Finding)),(10,(V.i 0))] ?_ rfl (sr rfl)
  cases hM
  exact GS.ret ⟨_,rfl,⟨30,rfl⟩⟩
 intro hj_1
 refine X.inl rfl rfl rfl rfl (X.sq (X.q rfl (GS.zC (GS.seq ?_))))
 obtain ⟨y2,h_7,hM⟩:=zM hM
 refine GS.region (X.q rfl (X.q rfl ?_))
 refine X.Y3 (yF h_7) rfl rfl rfl (m:=9) rfl (.cons (FR.arg (FR.ovl (f:=zB) (l:=l1) 9 rfl rfl (fun _=>rfl))) (.cons (FR.arg ⟨30,rfl⟩) .nil)) (X.q rfl (GS.zC (GS.seq (X.sq (X.q rfl (X.q rfl ?_))))))
 refine GS.zC ?_
 refine X.cond rfl (fun h_8=>?_) (fun h_8=>?_)
 ·replace hM:=Zb h_8 hM
  refine X.sq (X.q rfl (X.q rfl ?_))
  refine GS.zC ?_
  refine GS.ret ⟨_,rfl,?_⟩
  refine X.norm (H':=[.rows 1 [(zD c)],.rows 1 [(V.i id)],.dead,oblz z_1 8 zB l1]) [(2,(V.i arbiter)),(31,(ovlz z_1 3 l1))] ?_ rfl (sr rfl)
  refine X.zKB (z:=z_1) (f:=zB) (l:=l1) (es:=8) 31 rfl rfl rfl rfl (fun _=>rfl) ?_
  exact X.gc [] (hj_1 l1 hM) rfl rfl rfl (ga rfl rfl) (zU)
 replace hM:=Zc h_8 hM
 refine GS.skip (GS.seq (X.sq (X.q rfl ?_)))
 refine X.opR rfl (X.addE rfl rfl) rfl (X.q rfl (GS.zC ?_))
 refine X.join (τ:=Int×(List zA)) (fun v=>yu arbiter v.1 v.2=some r) (fun v=>⟨[(0,(ovlz z_1 3 v.2)),(5,(V.i v.1))],[.dead,.dead,.dead,oblz z_1 8 zB v.2],0,none,42⟩) ?_ ?_
 ·rintro ⟨i,l2⟩ hM
  replace hM:yu arbiter i l2=some r:=hM
  unfold yu at hM
  refine GS.seq ?_
  obtain ⟨l3,h_9,hM⟩:=zM hM
  obtain ⟨l4,h_10,hM⟩:=zM hM
  refine GS.region (X.q rfl (X.q rfl ?_))
  refine X.opR rfl (X.zNE (z:=z_1) (f:=zB) (l:=l2) h_9 rfl rfl rfl rfl rfl rfl (X.zHL rfl) rfl) rfl ?_
  refine X.clearU (f:=zB) (l:=l2) (l':=l4) (H':=[.dead,.dead,.dead,oblz z_1 8 zB l4]) 0 h_10 h_9 rfl rfl rfl rfl rfl rfl rfl rfl rfl rfl rfl (GS.zC (GS.seq ?_))
  obtain ⟨l5,h_11,hM⟩:=zM hM
  refine GS.region (X.q rfl (X.q rfl ?_))
  refine X.opR rfl (X.zNE (z:=z_1) (f:=zB) (l:=l4) h_11 rfl rfl rfl rfl rfl rfl rfl (X.zHL rfl)) rfl (X.q rfl (GS.zC ?_))
  refine GS.ret ⟨_,rfl,?_⟩
  refine X.norm (H':=[.dead,.dead,.dead,oblz z_1 8 zB l4]) [(2,(V.i arbiter)),(31,(ovs z_1 3 l4 l5 0))] ?_ rfl (sr rfl)
  refine X.zMy (z:=z_1) (f:=zB) (l:=l4) (r:=l5) 31 h_11 rfl rfl rfl rfl (fun _=>rfl) ?_
  exact X.gc [] (hj_1 l5 hM) rfl rfl rfl (ga rfl rfl) (zU)
 intro hj_2
 refine GS.block ?_
 refine X.gc [] (X.loop (σ:=(Int×Int×(List zA))) (fun v=>⟨[(0,(ovlz z_1 3 v.2.2)),(1,(V.fn 47 [(V.ptr 1 0 0)])),(5,(V.i v.1)),(6,(V.i v.2.1))],[.dead,.rows 1 [(V.i id)],.dead,oblz z_1 8 zB v.2.2],0,none,42⟩) hM ?_ rfl) rfl rfl rfl (zW rfl (Qr rfl) (ga rfl rfl)) (Zp (gb9 rfl rfl rfl (Zp (Qx 9 rfl rfl (fun _=>rfl) zU))))
 rintro ⟨i2,j,l7⟩ b_1 hM hc_3 hr_1
 rw [Yp] at hM
 refine GS.seq (X.sq (X.q rfl (X.q rfl ?_)))
 refine X.opR rfl (X.lenN (l:=l7) rfl rfl rfl) rfl (X.q rfl (GS.zC ?_))
 refine X.cond rfl (fun h_12=>?_) (fun h_12=>?_)
 ·replace hM:=Zb h_12 hM
  refine GS.skip (GS.seq ?_)
  refine X.join (τ:=Int×(List zA)) (fun v=>Jv j v.1 v.2=some b_1) (fun v=>⟨[(0,(ovlz z_1 3 v.2)),(1,(V.fn 47 [(V.ptr 1 0 0)])),(5,(V.i v.1)),(6,(V.i j))],[.dead,.rows 1 [(V.i id)],.dead,oblz z_1 8 zB v.2],0,none,42⟩) ?_ ?_
  ·rintro ⟨i1,l6⟩ hM
   replace hM:Jv j i1 l6=some b_1:=hM
   unfold Jv at hM
   refine GS.region (X.q rfl ?_)
   refine X.opR rfl (X.addE rfl rfl) rfl (X.q rfl (GS.zC ?_))
   have hE:=Option.some.inj hM
   exact X.gc [] (hc_3 (i1,w64 (j+1),l6) hE.symm) rfl rfl rfl (zW rfl (Qr rfl) (ga rfl rfl)) (Zp (gb9 rfl rfl rfl (Zp (Qx 9 rfl rfl (fun _=>rfl) zU))))
  intro hj_4
  refine GS.block (GS.seq ?_)
  obtain ⟨x1,h_13,hM⟩:=zM hM
  refine GS.region (X.q rfl (X.q rfl ?_))
  refine X.opR rfl (X.zN4 h_13 rfl rfl rfl rfl rfl) rfl ?_
  refine X.opR rfl (X.loadN h_13 rfl rfl rfl rfl) rfl ?_
  refine X.opW (H':=[.dead,.rows 1 [(V.i id)],.dead,oblz z_1 8 zB l7,.rows 8 [(V.agg [(V.i 0),(V.i 0),(V.i 0),(V.i 0),(V.i 0),(V.i 0),(V.i 0),(V.i 0)])]]) rfl rfl rfl rfl ?_
  refine X.op0W (H':=[.dead,.rows 1 [(V.i id)],.dead,oblz z_1 8 zB l7,.rows 8 [(zB x1)]]) rfl rfl rfl (X.nq (X.q rfl (X.q rfl ?_)))
  refine X.Y3 (zAL x1 id) rfl rfl rfl (m:=9) rfl (.cons (.shut (n:=9) rfl) (.cons (FR.arg ⟨30,rfl⟩) .nil)) (X.q rfl (GS.zC ?_))
  refine X.cond rfl (fun h_14=>?_) (fun h_14=>?_)
  ·replace hM:=Zb h_14 hM
   refine GS.seq ?_
   obtain ⟨x2,h_15,hM⟩:=zM hM
   refine GS.region (X.q rfl (X.q rfl (X.q rfl ?_)))
   refine X.opR rfl (X.zN4 h_15 rfl rfl rfl rfl rfl) rfl ?_
   refine X.op0W (H':=[.dead,.rows 1 [(V.i id)],.dead,oblz z_1 8 zB (put l7 i2 x1),.rows 8 [(zB x1)]]) rfl (X.zFI (b:=x1) h_15 rfl rfl rfl rfl rfl rfl rfl) rfl (X.mq (X.q rfl ?_))
   refine X.opR rfl (X.addE rfl rfl) rfl (X.q rfl (GS.zC ?_))
   refine GS.endB ?_
   exact X.gc [] (hj_4 (w64 (i2+1),(put l7 i2 x1)) hM) rfl rfl rfl (zW rfl (rv_eq X.ovl_put (Qr rfl)) (ga rfl rfl)) (Zp (gb9 rfl rfl rfl (Zp (Qx 9 rfl rfl (fun _=>rfl) zU))))
  replace hM:=Zc h_14 hM
  refine GS.skip ?_
  refine GS.endB ?_
  exact X.gc [] (hj_4 (i2,l7) hM) rfl rfl rfl (zW rfl (Qr rfl) (ga rfl rfl)) (Zp (gb9 rfl rfl rfl (Zp (Qx 9 rfl rfl (fun _=>rfl) zU))))
 replace hM:=Zc h_12 hM
 refine GS.exit rfl ?_
 obtain ⟨y_1,hM,hy⟩:=yR hM
 rw [hr_1 _ hy.symm] at hM
 exact X.gc [] (hj_2 (i2,l7) hM) rfl rfl rfl (zW rfl (Qr rfl) (ga rfl rfl)) (Zp (Zp (Zp (Qx 9 rfl rfl (fun _=>rfl) zU))))
end Go.Proofs.YtfoafeaplgmhmaaGreat
