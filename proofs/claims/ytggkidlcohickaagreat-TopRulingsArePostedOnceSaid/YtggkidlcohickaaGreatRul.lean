/- The judgement over the abstract machine holds of the model: its rules. Conditions: none. -/
import Derived.Test.YtggkidlcohickaaGreatGm
import Derived.RangeFuncIn
import Derived.Laws.IdiomRangeMap
set_option linter.unusedVariables false
set_option linter.unusedSimpArgs false
namespace Go.Am
open Go Go.Wk Go.RowKit
section
variable {C:Cfg} {E:Env} {s:St} {I I':Ij} {m m':Mem} {a:Act} {w w':World} {H':List Blk} {P:Program} {ρ:Option Nat} {Q:Exit→Act→World→Prop} {all os:List Oper} {o:Oper}
theorem zJV (hw:Region.wanted o (yielded all.toArray a.tmps)=false) (h:wpListIn (Wd ρ) 0 P all.toArray Q os (a.put o.dst undef) w):wpListIn (Wd ρ) 0 P all.toArray Q (o :: os) a w:=by
 unfold wpListIn
 rw [hw]
 exact ⟨fun _ _=>trivial,h⟩
theorem zBO (hw:Region.wanted o (yielded all.toArray a.tmps)=true) (hn:Opnd o.op=true) {r:Next} {u:Value} (hr:(execOp a.eval o).run P w = .ok r w') (hu:r = .value u∨(r = .skip∧u=undef)) (h:wpListIn (Wd ρ) 0 P all.toArray Q os (a.put o.dst u) w'):wpListIn (Wd ρ) 0 P all.toArray Q (o :: os) a w:=by
 unfold wpListIn
 rw [hw]
 simp only [if_true]
 refine Qu hn ?_
 rw [hr]
 rcases hu with rfl | ⟨rfl,rfl⟩
 ·exact h
 ·exact h
theorem Jl (hw:Region.wanted o (yielded all.toArray a.tmps)=true) (hn:Opnd o.op=true) {f:FuncId} {args:Array Value} (hr:(execOp a.eval o).run P w = .ok (.enter f args) w) (h:Calls P f args w (fun e w' => ∃ u,e = .returned u∧wpListIn (Wd ρ) 0 P all.toArray Q os (a.put o.dst u) w')):wpListIn (Wd ρ) 0 P all.toArray Q (o :: os) a w:=by
 unfold wpListIn
 rw [hw]
 simp only [if_true]
 refine Qu hn ?_
 rw [hr]
 refine ⟨(fun h=>by cases h),zBd.2 (h.mono ?_)⟩
 rintro e w' ⟨u,rfl,h⟩
 exact h
theorem zHm (hw:Region.wanted o (yielded all.toArray a.tmps)=true) (hn:Opnd o.op=true) {l f:Nat} {tmps:Array Value} {x y:Code} (hr:(execOp a.eval o).run P w = .ok (.round l f tmps x y) w) (h:RoundIn (Wd ρ) 0 P l f tmps x y w (fun e w' => ∃ u,e = .returned u∧wpListIn (Wd ρ) 0 P all.toArray Q os (a.put o.dst u) w')):wpListIn (Wd ρ) 0 P all.toArray Q (o :: os) a w:=by
 unfold wpListIn
 rw [hw]
 simp only [if_true]
 refine Qu hn ?_
 rw [hr]
 refine ⟨(fun h=>by cases h),h.mono ?_⟩
 rintro e w' ⟨u,rfl,h⟩
 exact h
theorem Z9 (hk:Slots m I s.K a.tmps) {f:Nat} {args:List V} (h:callee s.K o.op=some (.fn f args)):Opnd o.op=true∧∃ us,RepL m args I us∧∀ w,(execOp a.eval o).run P w=(callFunc f us.toArray).run P w:=by
 obtain ⟨dst,op,ty,pos,after,g⟩:=o
 simp only at h
 unfold callee at h
 split at h
 ·rename_i g xs ats
  refine ⟨rfl,?_⟩
  split at h
  ·rename_i f' caps vs hf hvs
   have h1:=ZA hk hf
   have h2:=zA2 hk hvs
   unfold Rep at h1
   obtain ⟨us,h3,h4⟩:=h1
   have hargs:xs.map a.eval=(xs.toList.map a.eval).toArray:=by rw [← Array.toList_map,Array.toArray_toList]
   cases hb:Nat.blt f' 1000000 with
   | true =>
    rw [hb] at h
    simp only [_root_.cond_true,Option.some.injEq,Cl.fn.injEq] at h
    obtain ⟨rfl,rfl⟩:=h
    rw [zFO hb] at h3
    refine ⟨_,h2.append h4,fun w=>?_⟩
    simp [execOp,resolve,Deferred.ofValue,h3,invoke,hargs]
   | false =>
    rw [hb] at h
    simp only [_root_.cond_false,Option.some.injEq,Cl.fn.injEq] at h
    obtain ⟨rfl,rfl⟩:=h
    rw [zLI hb] at h3
    refine ⟨_,h4.append h2,fun w=>?_⟩
    simp [execOp,resolve,Deferred.ofValue,h3,invoke,hargs]
  ·cases h
  ·cases h
 ·cases h
theorem zHB (hk:Slots m I s.K a.tmps) {id:Nat} {args:List V} (h:callee s.K o.op=some (.yld id args)):Opnd o.op=true∧∃ f us,I id=some f∧RepL m args I us∧∀ w,(execOp a.eval o).run P w=(Instr.yield f.b us.toArray).run P w:=by
 obtain ⟨dst,op,ty,pos,after,g⟩:=o
 simp only at h
 unfold callee at h
 split at h
 ·rename_i g xs ats
  refine ⟨rfl,?_⟩
  split at h
  ·rename_i f' caps vs hf hvs
   cases hb:Nat.blt f' 1000000 <;> rw [hb] at h <;> cases h
  ·rename_i id' vs hf hvs
   simp only [Option.some.injEq,Cl.yld.injEq] at h
   obtain ⟨rfl,rfl⟩:=h
   have h1:=ZA hk hf
   have h2:=zA2 hk hvs
   unfold Rep at h1
   obtain ⟨f,h3,h4⟩:=h1
   refine ⟨f,_,h3,h2,fun w=>?_⟩
   have hargs:xs.map a.eval=(xs.toList.map a.eval).toArray:=by rw [← Array.toList_map,Array.toArray_toList]
   simp [execOp,resolve,Deferred.ofValue,h4,invoke,hargs]
  ·cases h
 ·cases h
theorem SS.ro (h:SS E s I m a w) (hst:jg w w') (hsame:∀ k,k<w.heap.size→w'.heap[k]? = w.heap[k]?) (hm:m.Le m') (hm':m'.Le (wmem w')) (hfr:∀ k o,m' k=some o→m k=some o∨w.heap.size≤k):SS E s I m' a w':=by
 have hsim:Sim I m' s.H w':=h.sim.world hm hm' fun id f hl hf=>by
  have hlt:=h.sim.lt hl hf
  refine ⟨hsame _ hlt,?_⟩
  cases hq:m' f.b with
  | none=>rfl
  | some o =>
   rcases hfr _ _ hq with h1 | h1
   ·rw [h.sim.off id f hl hf] at h1; cases h1
   ·omega
 exact h.step hsim ⟨hst,fun k hk _=>hsame k hk,Ij.Le.rfl' _,fun id f h1 h2 h3=>.inr ⟨id,f,h1,h2,h3,rfl⟩,fun _ _=>rfl,Nat.le_refl _⟩ hm hfr
theorem Sim.sub' (h:Sim I m s.H w) (hsub:SubH H' s.H):Sim I m H' w where
 sub:=h.sub
 blk:=fun id B hB hl=>h.blk id B (hsub.2.1 id B hB hl) hl
 free:=fun id hid=>by
  rcases hid with h1 | h1
  ·exact h.free id (.inl (ja.2 (by rw [← hsub.1]; exact ja.1 h1)))
  ·exact h.free id (.inr (hsub.2.2 id h1))
 off:=fun id f ⟨B,hB,hl⟩ hf=>h.off id f ⟨B,hsub.2.1 id B hB hl,hl⟩ hf
 inj:=fun i j f g ⟨B,hB,hl⟩ ⟨B',hB',hl'⟩=>h.inj i j f g ⟨B,hsub.2.1 i B hB hl,hl⟩ ⟨B',hsub.2.1 j B' hB' hl',hl'⟩
theorem zFp {H:List Blk} {fl:Bool}:∀ {l l':List V},ZB H fl l l'→l'.length=l.length
 | _,_,.nil=>rfl
 | _,_,.cons _ h=>by simp [zFp h]
theorem zG9 (hs:Sim I m s.H w) {fl:Bool}:m.Le (if fl then yE I m s.H 0 w else m)∧(if fl then yE I m s.H 0 w else m).Le (wmem w):=by
 cases fl with
 | true=>exact ⟨yf,zDi hs⟩
 | false=>exact ⟨fun _ _ h=>h,hs.sub⟩
theorem zLF {H0:List Blk} {lo':Nat} {m0:Mem} {I0 I1:Ij} {m1:Mem} {s1:St} {v v':V} {u:Value} (hlo:s1.lo=lo') (hnl:∀ id,lo'≤id→¬ Live H0 id) (hfx:Fx I0 H0 lo' w I1 s1.H w') (hsim:Sim I1 m1 s1.H w') (hfr:∀ k o,m1 k=some o→m0 k=some o∨w.heap.size≤k) (hz:Q5 s1 v v') (hv:Rep m1 v I1 u) :
  ∃ m',m1.Le m'∧m'.Le (wmem w')∧(∀ k o,m' k=some o→m0 k=some o∨w.heap.size≤k)∧Rep m' v' Ij.none u:=by
 obtain ⟨n,hz⟩:=hz
 rw [hlo] at hz
 refine ⟨yE I1 m1 s1.H lo' w',yf,zDi hsim,fun k o hk=>?_,YQ hsim n _ _ _ hz hv⟩
 rcases zDj hk with h | ⟨id,f,h1,h2,h3,rfl⟩
 ·exact hfr k o h
 ·rcases hfx.own id f h1 h2 h3 with h4 | ⟨i0,f0,h4,h5,_⟩
  ·exact .inr h4
  ·exact absurd h5 (hnl i0 h4)
theorem zG8 (hC:C.OK) (hss:SS E s I m a w) {f N:Nat} {args args':List V} {fl:Bool} {c:Code} {fn:Func} {us:List Value} (hb:jM C f N=some (c,fn)) (hN:args.length=N) (hca:ZB s.H fl args args') (hr:RepL m args I us) {T:V→Prop}
  (IH:∀ (E:Env) (I:Ij) (m:Mem) (a:Act) (w:World),SS E (St.call fn args' [] 0) I m a w→SA C.P E.ρ (QA E (fun e s1 => ∃ v v',finA C fn e s1=some v∧Q5 s1 v v'∧(fl=true→∃ n,flat n v'=true)∧T v')) [.code c] .normal a w) :
  Calls C.P f us.toArray w (fun e w' => ∃ u,e = .returned u∧∃ v' m',T v'∧Rep m' v' I u∧SS E s I m' a w'):=by
 have hm:=zG9 (fl:=fl) hss.sim
 have h1:=J2 hss.sim hca hr
 have h2:=YG (H':=[]) (lo':=0) hC hb (by rw [zFp hca]; exact hN) IH (fun e s1 ⟨v,v',h,_⟩=>⟨v,h⟩) (Sim.nil _ w hm.2) (Nat.zero_le _) h1
 refine h2.mono ?_
 rintro e w' ⟨u,rfl,ex,s1,v,I1,m1,⟨v2,v',q1,q2,q3,q4⟩,h3,h4,h5,h6,h7,h8,h9⟩
 rw [h3] at q1
 cases q1
 have hnl:∀ id,0≤id→¬ Live ([]:List Blk) id:=fun id _ ⟨B,hB,_⟩=>by simp [Am.get] at hB
 obtain ⟨m',z1,z2,z3,z4⟩:=zLF (H0:=[]) h9 hnl h6 h5 h8 q2 h4
 have hsame:∀ k,k<w.heap.size→w'.heap[k]? = w.heap[k]?:=fun k hk=>h6.same k hk fun id f h hl=>absurd hl (hnl id h)
 cases fl with
 | true =>
  obtain ⟨n,hn⟩:=q3 rfl
  refine ⟨u,rfl,v',m,q4,Yk n v' u hn z4,hss.ro h6.st hsame (fun _ _ h=>h) (fun k o hk=>?_) (fun _ _ h=>.inl h)⟩
  have:=hss.sim.sub k o hk
  show w'.heap[k]? = some o
  rw [hsame k (Array.getElem?_eq_some_iff.1 this).1]; exact this
 | false =>
  exact ⟨u,rfl,v',m',q4,Rep.mono (fun _ _ h=>h) _ (Ij.Qg I) z4,hss.ro h6.st hsame (fun k o hk=>z1 k o (h7 k o hk)) z2 z3⟩
theorem zGB (hC:C.OK) (hss:SS E s I m a w) {f N:Nat} {args:List V} {c:Code} {fn:Func} {us:List Value} (hb:jM C f N=some (c,fn)) (hN:args.length=N) (hsub:SubH H' s.H) (hr:RepL m args I us) {T:V→Prop}
  (IH:∀ (E:Env) (I:Ij) (m:Mem) (a:Act) (w:World),SS E (St.call fn args H' H'.length) I m a w→SA C.P E.ρ (QA E (fun e s1 => ∃ v v',finA C fn e s1=some v∧Q5 s1 v v'∧T v')) [.code c] .normal a w) :
  Calls C.P f us.toArray w (fun e w' => ∃ u,e = .returned u∧∃ v' m',T v'∧Rep m' v' I u∧SS E s I m' a w'):=by
 have h2:=YG (H':=H') (lo':=H'.length) hC hb hN IH (fun e s1 ⟨v,v',h,_⟩=>⟨v,h⟩) (hss.sim.sub' hsub) (Nat.le_refl _) hr
 refine h2.mono ?_
 rintro e w' ⟨u,rfl,ex,s1,v,I1,m1,⟨v2,v',q1,q2,q4⟩,h3,h4,h5,h6,h7,h8,h9⟩
 rw [h3] at q1
 cases q1
 have hnl:∀ id,H'.length≤id→¬ Live H' id:=fun id hid ⟨B,hB,_⟩=>by have:=jm hB; omega
 obtain ⟨m',z1,z2,z3,z4⟩:=zLF (H0:=H') h9 hnl h6 h5 h8 q2 h4
 have hsame:∀ k,k<w.heap.size→w'.heap[k]? = w.heap[k]?:=fun k hk=>h6.same k hk fun id f h hl=>absurd hl (hnl id h)
 exact ⟨u,rfl,v',m',q4,Rep.mono (fun _ _ h=>h) _ (Ij.Qg I) z4,hss.ro h6.st hsame (fun k o hk=>z1 k o (h7 k o hk)) z2 z3⟩
theorem zEX (hC:C.OK) (hss:SS E s I m a w) {f:Nat} {args args':List V} {fl:Bool} {us:List Value} {v:V} (hca:ZB s.H fl args args') (hr:RepL m args I us) (hX:C.X f args' v) (hfl:fl=true→∃ n,flat n v=true) :
  Calls C.P f us.toArray w (fun e w' => ∃ u,e = .returned u∧∃ m',Rep m' v I u∧SS E s I m' a w'):=by
 have hm:=zG9 (fl:=fl) hss.sim
 have h1:=J2 hss.sim hca hr
 refine ((hC.X f args' v hX).1 _ w us hm.2 h1).mono ?_
 rintro e w' ⟨u,m',rfl,hx,h2,h3,h4,h5⟩
 have hsame:∀ k,k<w.heap.size→w'.heap[k]? = w.heap[k]?:=fun k hk=>hx.block k hk
 cases fl with
 | true =>
  obtain ⟨n,hn⟩:=hfl rfl
  refine ⟨u,rfl,m,Yk n v u hn h5,hss.ro hx.stays hsame (fun _ _ h=>h) (fun k o hk=>?_) (fun _ _ h=>.inl h)⟩
  have:=hss.sim.sub k o hk
  show w'.heap[k]? = some o
  rw [hsame k (Array.getElem?_eq_some_iff.1 this).1]; exact this
 | false=>exact ⟨u,rfl,m',Rep.mono (fun _ _ h=>h) _ (Ij.Qg I) h5,hss.ro hx.stays hsame h2 h3 h4⟩
theorem zL2 (hss:SS E s I m a w) {f:Nat} {args args':List V} {us:List Value} {v:V} (hca:ZB s.H true args args') (hr:RepL m args I us) (hX:FrC C.P f args' v) :
  Calls C.P f us.toArray w (fun e w' => ∃ u,e = .returned u∧∃ m',Rep m' v I u∧SS E s I m' a w'):=by
 have hm:=zG9 (fl:=true) hss.sim
 refine (hX.1 _ w us hm.2 (J2 hss.sim hca hr)).mono ?_
 rintro e w' ⟨u,m0,rfl,hx,h2,h3,h4⟩
 have hsame:∀ k,k<w.heap.size→w'.heap[k]? = w.heap[k]?:=fun k hk=>hx.block k hk
 have hlt:∀ k o,m k=some o→k<w.heap.size:=fun k o hk=>(Array.getElem?_eq_some_iff.1 (hss.sim.sub k o hk)).1
 obtain ⟨m',q1,q2⟩:∃ m':Mem,(∀ k o,m k=some o→m' k=some o)∧∀ k,m k=none→m' k=m0 k:=⟨fun k=>match m k with
  | some o=>some o
  | none=>m0 k,fun k o h=>by simp only [h],fun k h=>by simp only [h]⟩
 have hle0:m0.Le m':=fun k o hk=>by
  rw [q2 k (by
   cases e:m k with
   | none=>rfl
   | some o' => have:=hlt k o' e; have:=h3 k o hk; omega)]
  exact hk
 refine ⟨u,rfl,m',Rep.mono hle0 _ (Ij.Qg I) h4,hss.ro hx.stays hsame (fun k o h=>q1 k o h) (fun k o hk=>?_) fun k o hk=>?_⟩
 ·cases e:m k with
  | some o' =>
   rw [q1 k o' e] at hk
   cases hk
   have:=hss.sim.sub k o e
   show w'.heap[k]? = some o
   rw [hsame k (hlt k o e)]; exact this
  | none=>rw [q2 k e] at hk; exact h2 k o hk
 ·cases e:m k with
  | some o' => rw [q1 k o' e] at hk; exact .inl hk
  | none=>rw [q2 k e] at hk; exact .inr (h3 k o hk)
theorem zLu (hC:C.OK) (hss:SS E s I m a w) {f N:Nat} {args:List V} {c:Code} {fn:Func} {us:List Value} (hb:jM C f N=some (c,fn)) (hN:args.length=N) (hr:RepL m args I us) {T:V→List Blk→Prop}
  (IH:∀ (E:Env) (I:Ij) (m:Mem) (a:Act) (w:World),SS E (St.call fn args s.H s.lo) I m a w→SA C.P E.ρ (QA E (fun e s1 => ∃ v,finA C fn e s1=some v∧T v s1.H)) [.code c] .normal a w) :
  Calls C.P f us.toArray w (fun e w' => ∃ u,e = .returned u∧∃ v H' I' m',T v H'∧Rep m' v I' u∧SS E { s with H:=H' } I' m' a w'):=by
 have hlo:s.lo≤s.H.length:=by rw [hss.lo]; exact Nat.le_trans hss.lole hss.fx.len
 have h2:=YG (H':=s.H) (lo':=s.lo) hC hb hN IH (fun e s1 ⟨v,h,_⟩=>⟨v,h⟩) hss.sim hlo hr
 refine h2.mono ?_
 rintro e w' ⟨u,rfl,ex,s1,v,I1,m1,⟨v2,q1,q2⟩,h3,h4,h5,h6,h7,h8,h9⟩
 rw [h3] at q1
 cases q1
 exact ⟨u,rfl,v,s1.H,I1,m1,q2,h4,hss.step h5 h6 h7 h8⟩
end
end Go.Am
namespace Go.Am
open Go Go.Wk Go.RowKit
theorem zHJ {P:Program} {fn:FuncId} {tmps:Array Value} {ps:Array Tmp} {assign body:Code} {w:World}:(Instr.enterLoop fn tmps ps assign body none).run P w =
  .ok (w.heap.size+1,[{ target:=.collected w.heap.size,args := #[] }]) ((w.alloc (.deferred (some []))).alloc (.loop { state:=.ready,pending:=none,fn,tmps,params:=ps,assign,body,defers:=w.heap.size })):=by
 simp [Instr.enterLoop]
theorem run_getLoop {P:Program} {l:Nat} {r:Loop} {w:World} (h:w.heap[l]? = some (.loop r)):(Instr.getLoop l).run P w = .ok r w:=by
 simp [Instr.getLoop,getObj,Sem.run,h]
theorem run_enterLoop' {P:Program} {fn:FuncId} {tmps:Array Value} {ps:Array Tmp} {assign body:Code} {w:World} {l:Nat} {r:Loop} (h:w.heap[l]? = some (.loop r)):(Instr.enterLoop fn tmps ps assign body (some l)).run P w =
  .ok (w.heap.size,[]) (w.alloc (.loop { state:=.ready,pending:=none,fn,tmps,params:=ps,assign,body,defers:=r.defers })):=by
 simp [Instr.enterLoop,run_getLoop h]
theorem zBx {P:Program} {l:Nat} {r:Loop} {w:World} (h:w.heap[l]? = some (.loop r)) (r':Loop):(setObj l (.loop r')).run P w = .ok () { w with heap:=w.heap.setIfInBounds l (.loop r') }:=by
 simp [setObj,Sem.run,h]
theorem run_beginRound {P:Program} {l:Nat} {r:Loop} {w:World} (h:w.heap[l]? = some (.loop r)) (hr:r.state = .ready):(Instr.beginRound l).run P w = .ok () { w with heap:=w.heap.setIfInBounds l (.loop { r with state:=.busy }) }:=by
 simp only [Instr.beginRound,Sem.run_bind,run_getLoop h,Result.andThen_ok,zBx h,hr,Sem.run_pure]
theorem run_endRound {P:Program} {l:Nat} {r:Loop} {w:World} (h:w.heap[l]? = some (.loop r)) (j:Option Code):(Instr.endRound l j).run P w = .ok (.bool j.isNone) { w with heap:=w.heap.setIfInBounds l (.loop { r with state:=if j.isNone then .ready else .done,pending:=j }) }:=by
 simp only [Instr.endRound,Sem.run_bind,run_getLoop h,Result.andThen_ok,zBx h,Sem.run_pure]
theorem run_endLoop {P:Program} {l:Nat} {r:Loop} {w:World} (h:w.heap[l]? = some (.loop r)) (hr:r.state≠.busy):(Instr.endLoop l).run P w = .ok r.pending { w with heap:=w.heap.setIfInBounds l (.loop { r with state:=.exhausted }) }:=by
 simp [Instr.endLoop,run_getLoop h,zBx h]
 exact fun h=>absurd h hr
section
variable {C:Cfg} {E:Env} {s:St} {I I':Ij} {m m':Mem} {a:Act} {w w':World} {H H':List Blk} {P:Program} {ρ:Option Nat} {Q:Exit→Act→World→Prop} {all os:List Oper} {o:Oper}
theorem zFM {id:Nat} {r:zCe} (h:hget H id = .loop r):Am.get H id=some (.loop r):=JN h rfl
theorem Sim.zEH (hs:Sim I m H w) {id:Nat} {r:zCe} (h:hget H id = .loop r):∃ f L,I id=some f∧w.heap[f.b]? = some (.loop L)∧L.state=r.st∧L.pending=r.pend∧Slots m I r.K L.tmps∧L.tmps.size=r.n∧L.params.toList=r.ps∧L.assign=r.assign∧L.body=r.body:=by
 obtain ⟨f,hf,L,h1⟩:=hs.blk id _ (zFM h) rfl
 exact ⟨f,L,hf,h1⟩
theorem Sim.zNV (hs:Sim I m H w) {lo id:Nat} {r:zCe} {f:Inf} {L:Loop} (h:hget H id = .loop r) (hlo:lo≤id) (hf:I id=some f) (hw:w.heap[f.b]? = some (.loop L)) (h4:Slots m I r.K L.tmps) (h5:L.tmps.size=r.n) (h6:L.params.toList=r.ps) (h7:L.assign=r.assign) (h8:L.body=r.body) (st:LoopState) (pend:Option Code) :
  Sim I m (hput H id (.loop { r with st:=st,pend:=pend })) { w with heap:=w.heap.setIfInBounds f.b (.loop { L with state:=st,pending:=pend }) }∧Fx I H lo w I (hput H id (.loop { r with st:=st,pend:=pend })) { w with heap:=w.heap.setIfInBounds f.b (.loop { L with state:=st,pending:=pend }) }:=by
 have hlt:f.b<w.heap.size:=(Array.getElem?_eq_some_iff.1 hw).1
 refine hs.upd (w':={ w with heap:=w.heap.setIfInBounds f.b (.loop { L with state:=st,pending:=pend }) }) (B:=.loop { r with st:=st,pend:=pend }) ⟨_,zFM h,rfl⟩ hlo hf ⟨⟨rfl,rfl,rfl,by simp⟩,Nat.le_refl _⟩ (fun k hk=>?_) ⟨{ L with state:=st,pending:=pend },by simp [hlt],rfl,rfl,h4,h5,h6,h7,h8⟩ (by intro h; cases h)
 show (w.heap.setIfInBounds f.b _)[k]? = _
 rw [Array.getElem?_setIfInBounds_ne (fun e=>hk e.symm)]
theorem zFh : ∀ {ps:List Nat} {args:List V} {K K':List (Nat×V)} {tmps:Array Value} {us:List Value},kputs K ps args=some K'→Slots m I K tmps→RepL m args I us→(∀ p∈ps,p<tmps.size) →
  ps.length=us.length∧Slots m I K' ((ps.zip us).foldl (fun tmps p=>tmps.setIfInBounds p.1 p.2) tmps)∧((ps.zip us).foldl (fun tmps p=>tmps.setIfInBounds p.1 p.2) tmps).size=tmps.size
 | [],[],K,K',tmps,us,h,hs,hr,_=>by
  simp only [kputs,Option.some.injEq] at h
  subst h
  unfold RepL at hr
  subst hr
  exact ⟨rfl,hs,rfl⟩
 | d :: ds,v :: vs,K,K',tmps,us,h,hs,hr,hp=>by
  simp only [kputs] at h
  unfold RepL at hr
  obtain ⟨u,us',rfl,h1,h2⟩:=hr
  have hd:=hp d List.mem_cons_self
  have hs':Slots m I (kput K d v) (tmps.setIfInBounds d u):=fun t x hx=>by
   rw [zCO] at hx
   split at hx
   ·rename_i he
    subst he
    simp only [Option.some.injEq] at hx
    subst hx
    exact ⟨u,by simp [hd],h1⟩
   ·rename_i he
    obtain ⟨u',q1,q2⟩:=hs t x hx
    exact ⟨u',by rw [Array.getElem?_setIfInBounds_ne he]; exact q1,q2⟩
  obtain ⟨q1,q2,q3⟩:=zFh h hs' h2 (fun p hp' => by simpa using hp p (List.mem_cons_of_mem _ hp'))
  exact ⟨by simp [q1],by simpa using q2,by simpa using q3⟩
 | [],_ :: _,K,K',tmps,us,h,_,_,_=>by cases h
 | _ :: _,[],K,K',tmps,us,h,_,_,_=>by cases h
theorem zI8 (hC:C.OK) (hss:SS E s I m a w) {id:Nat} {args:List V} {r:zCe} {K':List (Nat×V)} {us:List Value} {f:Inf} {T1 T2:St→Prop} {d:Option Nat} (hf:I id=some f) (hr:RepL m args I us) (hg:hget s.H id = .loop r) (hK:kputs r.K r.ps args=some K') (hps:r.ps.all (fun p=>Nat.blt p r.n)=true) (hlo:s.lo≤id)
  (IH1:∀ (E:Env) (I:Ij) (m:Mem) (a:Act) (w:World),SS E ⟨K',s.H,s.lo,some id,r.n⟩ I m a w→SA C.P E.ρ (QA E (fun e s1 => ∃ s1',zDn id e s1=some s1'∧T1 s1')) [.code r.assign] .normal a w)
  (IH2:∀ s1',T1 s1'→∀ (E:Env) (I:Ij) (m:Mem) (a:Act) (w:World),SS E s1' I m a w→SA C.P E.ρ (QA E (fun e s2 => ∃ s3,endRound id e s2 s d=some s3∧T2 s3)) [.code r.body] .normal a w) :
  ∃ fn tmps,(Instr.yield f.b us.toArray).run C.P w = .ok (.round f.b fn tmps r.assign r.body) w ∧
   RoundIn (Wd ρ) 0 C.P f.b fn tmps r.assign r.body w (fun e w' => ∃ u,e = .returned u∧∃ s3 I' m',T2 s3∧SS E s3 I' m' (a.put d u) w'):=by
 obtain ⟨f',L,hf',hw,l1,l2,l3,l4,l5,l6,l7⟩:=hss.sim.zEH hg
 rw [hf] at hf'
 cases hf'
 have hpl:∀ p∈r.ps,p<L.tmps.size:=fun p hp=>by
  have:=List.all_eq_true.1 hps p hp
  rw [l4]; simpa using this
 obtain ⟨q1,q2,q3⟩:=zFh hK l3 hr hpl
 let tm:Array Value:=(r.ps.zip us).foldl (fun tmps p=>tmps.setIfInBounds p.1 p.2) L.tmps
 refine ⟨L.fn,tm,?_,?_⟩
 ·have hsz:us.toArray.size=L.params.size:=by rw [← Array.length_toList (xs:=L.params),l5]; simp [q1]
  have hfold:(L.params.zip us.toArray).foldl (fun tmps x=>tmps.setIfInBounds x.1 x.2) L.tmps=tm:=by
   rw [← Array.foldl_toList]
   simp [tm,← l5]
  simp only [Instr.yield,Sem.run_bind,run_getLoop hw,Result.andThen_ok]
  simp only [hsz,ne_eq,not_true_eq_false,if_false,Sem.run_pure]
  rw [← l6,← l7]
  congr 2
 ·let E':Env:=⟨I,m,s.H,w,s.lo,some id,r.n⟩
  have hρ:E'.ρ=some f.b:=by show (I id).map (·.b)=_; rw [hf]; rfl
  have hlol:s.lo≤s.H.length:=by rw [hss.lo]; exact Nat.le_trans hss.lole hss.fx.len
  have h0:SS E' ⟨K',s.H,s.lo,some id,r.n⟩ I m { tmps:=tm,defers:=[] } w:={
   sim:=hss.sim,slots:=q2,size:=q3.trans l4,n:=rfl,lo:=rfl,rnd:=rfl,fx:=Fx.rfl' _ _ _ _,mem:=fun _ _ h=>h,fresh:=fun _ _ h=>.inl h,lole:=hlol
   dfr:=⟨[],rfl,List.nodup_nil,(fun D hD=>by cases hD),fun _=>rfl⟩
   rok:=fun i hi=>by cases hi; exact ⟨f,hf⟩ }
  refine roundIn_of_wpIn (F:=Wd ρ) (n:=0) trivial ?_
  have g1:=IH1 E' I m _ w h0
  rw [hρ] at g1
  refine Code.wpIn_mono (F:=Wd (some f.b)) ?_ g1
  intro e a1 w1 he
  have nojump:∀ {e:Ex} {s1:St},(∃ s1',zDn id e s1=some s1'∧T1 s1')→e = .normal:=by
   rintro e s1 ⟨s1',h,_⟩
   cases e <;> first | rfl | cases h
  cases e with
  | normal =>
   obtain ⟨s1,I1,m1,⟨s1',hb,hT1⟩,hs1⟩:=he
   unfold zDn at hb
   simp only at hb
   split at hb
   ·rename_i r1 hr1
    split at hb
    ·rename_i hst
     simp only [Option.some.injEq] at hb
     obtain ⟨f1,L1,z1,z2,z3,z4,z5,z6,z7,z8,z9⟩:=hs1.sim.zEH hr1
     have hf1:I1 id=some f:=hs1.fx.ij _ _ hf
     rw [hf1] at z1
     cases z1
     rw [hst] at z3
     have hlo1:s1.lo≤id:=by rw [hs1.lo]; exact hlo
     obtain ⟨y1,y2⟩:=hs1.sim.zNV (lo:=s1.lo) hr1 hlo1 hf1 z2 z5 z6 z7 z8 z9 .busy r1.pend
     have e2:({ L1 with state:=.busy,pending:=r1.pend }:Loop) = { L1 with state:=.busy }:=by rw [← z4]
     rw [e2] at y1 y2
     have hs2:=hs1.step y1 y2 (fun _ _ h=>h) (fun _ _ h=>.inl h)
     refine ⟨_,run_beginRound (P:=C.P) z2 z3,?_⟩
     have e1:{ s1 with H:=hput s1.H id (.loop { r1 with st:=.busy,pend:=r1.pend }) }=s1':=hb
     rw [e1] at hs2
     have g2:=IH2 s1' hT1 E' I1 m1 a1 _ hs2
     rw [hρ] at g2
     refine Code.wpIn_mono (F:=Wd (some f.b)) ?_ g2
     have fin:∀ {e:Ex} {s2:St} {I2:Ij} {m2:Mem} {a2:Act} {w2:World},(∃ s3,endRound id e s2 s d=some s3∧T2 s3)→SS E' s2 I2 m2 a2 w2 →
       ∃ v w3,(Instr.endRound f.b (zAi e)).run C.P w2 = .ok v w3∧∃ u,Ending.returned v = .returned u∧∃ s3 I' m',T2 s3∧SS E s3 I' m' (a.put d u) w3:=by
      rintro e s2 I2 m2 a2 w2 ⟨s3,h3,hT2⟩ hs2
      unfold endRound at h3
      split at h3
      ·rename_i r2 hr2
       simp only [Option.some.injEq] at h3
       obtain ⟨f2,L2,x1,x2,x3,x4,x5,x6,x7,x8,x9⟩:=hs2.sim.zEH hr2
       have hf2:I2 id=some f:=hs2.fx.ij _ _ hf
       rw [hf2] at x1
       cases x1
       obtain ⟨y3,y4⟩:=hs2.sim.zNV (lo:=s.lo) hr2 hlo hf2 x2 x5 x6 x7 x8 x9 (cond (zAi e).isNone .ready .done) (zAi e)
       have hfx:Fx I s.H s.lo w I2 s2.H w2:=hs2.fx
       have hs3:=hss.step y3 (hfx.tr y4) hs2.mem hs2.fresh
       refine ⟨_,_,run_endRound x2 (zAi e),_,rfl,s3,I2,m2,hT2,?_⟩
       rw [← h3]
       have hcond:(if (zAi e).isNone=true then LoopState.ready else LoopState.done)=cond (zAi e).isNone .ready .done:=by cases (zAi e).isNone <;> rfl
       rw [hcond]
       exact hs3.put Rep.bool
      ·cases h3
     intro e a2 w2 he
     cases e with
     | normal=>obtain ⟨s2,I2,m2,h1,h2⟩:=he; exact fin h1 h2
     | ret=>obtain ⟨s2,I2,m2,h1,h2⟩:=he; exact fin h1 h2
     | exit i=>obtain ⟨s2,I2,m2,h1,h2⟩:=he; exact fin h1 h2
     | goto l=>exact he.elim
     | panic ch=>exact he.elim
     | outgrown=>exact he.elim
    ·cases hb
   ·cases hb
  | ret=>obtain ⟨s1,I1,m1,h1,h2⟩:=he; cases nojump h1
  | exit i=>obtain ⟨s1,I1,m1,h1,h2⟩:=he; cases nojump h1
  | goto l=>exact he.elim
  | panic ch=>exact he.elim
  | outgrown=>exact he.elim
end
end Go.Am
namespace Go.Am
open Go Go.Wk Go.RowKit
theorem run_next_at {P:Program} (w:World) (ty:TypeId) (r bm since c0:Nat) (seen:Array Nat) (es:Array MapEntry) (clock:Nat) (hr:w.heap[r]? = some (.mapIter (some bm) since seen c0)) (hb:w.heap[bm]? = some (.map es clock)) (hold:∀ x∈es.toList,x.born<since) (hsc:since≤c0) :
  ((leftOf es seen).size=0∧(Instr.next (.pointer (some ⟨r,0,none⟩)) false ty).run P w = .ok (.tuple #[.bool false]) w) ∨
  ∃ e∈(leftOf es seen).toList,∃ w1:World,Xt w w1∧w1.heap=w.heap∧(Instr.next (.pointer (some ⟨r,0,none⟩)) false ty).run P w = .ok (.tuple #[.bool true,e.key,e.val]) { w1 with heap:=w1.heap.setIfInBounds r (.mapIter (some bm) since (seen.push e.born) clock) }:=by
 have hrl:r<w.heap.size:=(Array.getElem?_eq_some_iff.1 hr).1
 simp only [Instr.next,getObj,Sem.run_bind,Sem.run,hr,hb,Result.andThen,next_test_false seen es since c0 hold hsc,Bool.false_eq_true,if_false]
 unfold leftOf
 have hmem:∀ x∈(Array.filter (fun e => !seen.contains e.born) es).toList,x.born<since:=fun x hx=>hold x (by simp at hx ⊢; exact hx.1)
 generalize Array.filter (fun e => !seen.contains e.born) es=L at hmem ⊢
 have e1:L.filter (fun x=>decide (x.born<since))=L:=Array.filter_eq_self.2 (fun x hx=>by simpa using hmem x (by simpa using hx))
 have e2:L.filter (fun x=>decide (x.born≥since)) = #[]:=by
  rw [Array.filter_eq_empty_iff]
  intro x hx
  have:=hmem x (by simpa using hx)
  simp
  omega
 simp only [e1,e2,Array.append_empty]
 by_cases h0:L.size=0
 ·left
  have:L = #[]:=Array.eq_empty_of_size_eq_zero h0
  subst this
  refine ⟨rfl,?_⟩
  simp [choose,Sem.run,Question.forced]
 ·right
  have hne:L.isEmpty=false:=by simp [Array.isEmpty,h0]
  simp only [hne,Bool.false_eq_true,if_false,Array.empty_append,Array.size_map]
  have hch:∃ (j:Nat) (w1:World),j<L.size∧Xt w w1∧w1.heap=w.heap∧(choose (Question.mapNext L.size)).run P w = .ok j w1:=by
   by_cases hf:L.size≤1
   ·exact ⟨0,w,by omega,Xt.rfl' w,rfl,by simp [choose,Sem.run,Question.forced,hf]⟩
   ·exact ⟨_,w.drew,Nat.mod_lt _ (by omega),⟨Below.drew (Below.refl _ _),Nat.le_succ _⟩,rfl,by
     simp only [choose,Sem.run,Question.forced,decide_eq_true_eq,hf,if_false,Question.cut]
     rfl⟩
  obtain ⟨j,w1,hj,hal,hh,hrun⟩:=hch
  refine ⟨L[j],by simp,w1,hal,hh,?_⟩
  have hset:∀ (o':Obj),(setObj r o').run P w1 = .ok () { w1 with heap:=w1.heap.setIfInBounds r o' }:=fun o' => by
   have:w1.heap[r]? = some (.mapIter (some bm) since seen c0):=by rw [hh]; exact hr
   simp only [setObj,Sem.run,this]
  simp only [hrun,Array.getElem?_map,Array.getElem?_eq_getElem hj,Option.map_some,Sem.run_bind,hset,Result.andThen]
  rfl
section
variable {C:Cfg} {E:Env} {s:St} {I I':Ij} {m m':Mem} {a:Act} {w w':World} {Q:Exit→Act→World→Prop} {all os:List Oper} {o:Oper}
def itB (own:Bool) (ks vs:List V) (left:List Nat) (last:Option Nat):Blk:=match own with
 | false=>.iter ks vs left last
 | true=>.oiter ks vs left last
def itJ (own:Bool) (I:Ij):Ij:=match own with
 | false=>Ij.none
 | true=>I
theorem zIm (own:Bool) (I:Ij):(itJ own I).Le I:=by cases own; exact Ij.Qg I; exact Ij.Le.rfl' I
theorem zOH {w:World} {f:Inf} (own:Bool) {ks vs:List V} {left:List Nat} {last:Option Nat}:jb I m w f (itB own ks vs left last)↔f.o=0∧f.es=0∧∃ (bm:Nat) (es es':List MapEntry) (cl:Nat) (seen:Array Nat),w.heap[f.b]? = some (.mapIter (some bm) cl seen cl)∧m bm=some (.map es.toArray cl)∧es.Perm es'∧RepL m ks (itJ own I) (es'.map (·.key))∧RepL m vs (itJ own I) (es'.map (·.val))∧Born es cl∧(∀ (i:Nat) e,es'[i]? = some e→(i∈left↔e.born∉seen))∧(∀ i,i∈left→i<es'.length)∧∀ j,last=some j→∃ e,es'[j]? = some e∧seen.back? = some e.born:=by cases own <;> exact Iff.rfl
theorem zCz {own:Bool} {ks vs:List V} {left:List Nat} {last:Option Nat}:(itB own ks vs left last).live=true:=by cases own <;> rfl
theorem zOI {own:Bool} {H:List Blk} {id:Nat} {ks vs:List V} {left:List Nat} {last:Option Nat} (hg:hget H id=itB own ks vs left last):Live H id:=⟨_,JN hg zCz,zCz⟩
theorem zLs {w:World} {own:Bool} {H:List Blk} {id:Nat} {ks vs:List V} {left:List Nat} {last:Option Nat} (hs:Sim I m H w) (hg:hget H id=itB own ks vs left last):∃ f,I id=some f∧f.o=0∧f.es=0∧∃ (bm:Nat) (es es':List MapEntry) (cl:Nat) (seen:Array Nat),w.heap[f.b]? = some (.mapIter (some bm) cl seen cl)∧m bm=some (.map es.toArray cl)∧es.Perm es'∧RepL m ks (itJ own I) (es'.map (·.key))∧RepL m vs (itJ own I) (es'.map (·.val))∧Born es cl∧(∀ (i:Nat) e,es'[i]? = some e→(i∈left↔e.born∉seen))∧(∀ i,i∈left→i<es'.length)∧∀ j,last=some j→∃ e,es'[j]? = some e∧seen.back? = some e.born:=by
 obtain ⟨f,h1,h2⟩:=hs.blk id _ (JN hg zCz) zCz
 exact ⟨f,h1,(zOH own).1 h2⟩
theorem zGV (own:Bool) (hC:C.OK) (hss:SS E s I m a w) {x:Operand} {id:Nat} {ks vs:List V} {left:List Nat} {last:Option Nat} (hop:o.op = .next x false) (hw:wants all s.K o.guard=some true) (hx:kev s.K x=some (.ptr id 0 0)) (hg:hget s.H id=itB own ks vs left last) (hlo:s.lo≤id)
  (h0:left=[]→∀ I' m' a' w',SS E (s.put o.dst (.tup [.b false])) I' m' a' w'→wpListIn (Wd E.ρ) 0 C.P all.toArray Q os a' w')
  (h1:∀ j kv vv,j∈left→get ks j=some kv→get vs j=some vv→∀ I' m' a' w',SS E (St.put { s with H:=hput s.H id (itB own ks vs (left.filter (·≠j)) (some j)) } o.dst (.tup [.b true,kv,vv])) I' m' a' w'→wpListIn (Wd E.ρ) 0 C.P all.toArray Q os a' w') :
  wpListIn (Wd E.ρ) 0 C.P all.toArray Q (o :: os) a w:=by
 obtain ⟨dst,op,ty,pos,after,g⟩:=o
 simp only at hop
 subst hop
 obtain ⟨f,hf,g1,g2,bm,es,es',cl,seen,q1,q2,q3,q4,q5,q6,q7,q8,q9⟩:=(zLs hss.sim hg)
 have hr:=ZA hss.slots hx
 unfold Rep at hr
 obtain ⟨f',hf',hu⟩:=hr
 rw [hf] at hf'
 cases hf'
 have hu':a.eval x = .pointer (some ⟨f.b,0,none⟩):=by rw [hu,g1,g2]
 have hb:=hss.sim.sub _ _ q2
 have hmem:∀ e:MapEntry,e∈(leftOf es.toArray seen).toList↔e∈es∧e.born∉seen:=fun e=>by simp [leftOf]
 have hnd':(es'.map (·.born)).Nodup:=(q3.map _).nodup_iff.1 q6.2
 rcases run_next_at (P:=C.P) w ty f.b bm cl cl seen es.toArray cl q1 hb (by simpa using q6.1) (Nat.le_refl _) with ⟨hz,hrun⟩ | ⟨e,he,w1,hext,hheap,hrun⟩
 ·have hl:left=[]:=by
   cases hleft:left with
   | nil=>rfl
   | cons i r =>
    have hi:i∈left:=by rw [hleft]; exact List.mem_cons_self
    have hlt:=q8 i hi
    have hei:es'[i]? = some es'[i]:=List.getElem?_eq_getElem hlt
    have hns:=(q7 i _ hei).1 hi
    have:es'[i]∈(leftOf es.toArray seen).toList:=(hmem _).2 ⟨q3.mem_iff.2 (List.getElem_mem hlt),hns⟩
    rw [Array.eq_empty_of_size_eq_zero hz] at this
    simp at this
  refine zBO (zb hss.slots hw) rfl (r:=.value (.tuple #[.bool false])) (w':=w) (by simp [execOp,hu',hrun]) (.inl rfl) (h0 hl I m _ w (hss.put ?_))
  unfold Rep
  refine ⟨[.bool false],rfl,?_⟩
  unfold RepL
  exact ⟨_,[],rfl,Rep.bool,by unfold RepL; rfl⟩
 ·obtain ⟨he1,he2⟩:=(hmem e).1 he
  obtain ⟨j,hj,hej⟩:=List.getElem_of_mem (q3.mem_iff.1 he1)
  have hej':es'[j]? = some e:=by rw [List.getElem?_eq_getElem hj,hej]
  have hjl:j∈left:=(q7 j e hej').2 he2
  have hkl:ks.length=es'.length:=by have:=q4.len; simpa using this.symm
  have hvl:vs.length=es'.length:=by have:=q5.len; simpa using this.symm
  have hk:ks[j]? = some ks[j]:=List.getElem?_eq_getElem (by omega)
  have hv:vs[j]? = some vs[j]:=List.getElem?_eq_getElem (by omega)
  obtain ⟨uk,k1,k2⟩:=q4.get hk
  obtain ⟨uv,v1,v2⟩:=q5.get hv
  rw [List.getElem?_map,hej'] at k1 v1
  simp only [Option.map_some,Option.some.injEq] at k1 v1
  subst k1
  subst v1
  have hlt:f.b<w.heap.size:=(Array.getElem?_eq_some_iff.1 q1).1
  have hst:jg w { w1 with heap:=w1.heap.setIfInBounds f.b (.mapIter (some bm) cl (seen.push e.born) cl) }:=⟨⟨hext.stays.os,hext.stays.tape,hext.stays.output,by rw [hheap]; simp⟩,hext.drawn⟩
  obtain ⟨s1,s2⟩:=hss.sim.upd (lo:=s.lo) (w':={ w1 with heap:=w1.heap.setIfInBounds f.b (.mapIter (some bm) cl (seen.push e.born) cl) }) (B:=itB own ks vs (left.filter (·≠j)) (some j)) (zOI hg) hlo hf hst (fun k hk=>by
   show (w1.heap.setIfInBounds f.b _)[k]? = _
   rw [Array.getElem?_setIfInBounds_ne (fun e=>hk e.symm),hheap]) ((zOH own).2 ⟨g1,g2,bm,es,es',cl,seen.push e.born,by
    show (w1.heap.setIfInBounds f.b _)[f.b]? = _
    rw [hheap]; simp [hlt],q2,q3,q4,q5,q6,fun i e' hi=>by
     rw [List.mem_filter,q7 i e' hi]
     simp only [decide_eq_true_eq,Array.mem_push,not_or]
     constructor
     ·rintro ⟨h1,h2⟩
      refine ⟨h1,fun hb=>h2 ?_⟩
      have h3:(es'.map (·.born))[i]? = some e'.born:=by simp [hi]
      have h4:(es'.map (·.born))[j]? = some e.born:=by simp [hej']
      rw [← hb] at h4
      exact (List.getElem?_inj (List.getElem?_eq_some_iff.1 h3).1 hnd').1 (h3.trans h4.symm)
     ·rintro ⟨h1,h2⟩
      refine ⟨h1,fun hij=>h2 ?_⟩
      subst hij
      rw [hi] at hej'
      cases hej'
      rfl,fun i hi=>q8 i (List.mem_filter.1 hi).1,fun i hi=>by
      cases hi
      exact ⟨e,hej',by simp⟩⟩) (by cases own <;> (intro h; cases h))
  have hs1:=hss.step s1 s2 (fun _ _ h=>h) (fun _ _ h=>.inl h)
  refine zBO (zb hss.slots hw) rfl (r:=.value (.tuple #[.bool true,e.key,e.val])) (w':={ w1 with heap:=w1.heap.setIfInBounds f.b (.mapIter (some bm) cl (seen.push e.born) cl) }) (by simp [execOp,hu',hrun]) (.inl rfl) (h1 j ks[j] vs[j] hjl (by rw [zP]; exact hk) (by rw [zP]; exact hv) I m _ _ (hs1.put ?_))
  unfold Rep
  refine ⟨[.bool true,e.key,e.val],rfl,?_⟩
  unfold RepL
  refine ⟨_,_,rfl,Rep.bool,?_⟩
  unfold RepL
  refine ⟨_,_,rfl,Rep.mono (fun _ _ h=>h) _ (zIm _ _) k2,?_⟩
  unfold RepL
  exact ⟨_,[],rfl,Rep.mono (fun _ _ h=>h) _ (zIm _ _) v2,by unfold RepL; rfl⟩
theorem zHr (hC:C.OK) (hss:SS E s I m a w) {x:Operand} {id:Nat} {ks vs:List V} {left:List Nat} {last:Option Nat} (hop:o.op = .next x false) (hw:wants all s.K o.guard=some true) (hx:kev s.K x=some (.ptr id 0 0)) (hg:hget s.H id = .iter ks vs left last) (hlo:s.lo≤id)
  (h0:left=[]→∀ I' m' a' w',SS E (s.put o.dst (.tup [.b false])) I' m' a' w'→wpListIn (Wd E.ρ) 0 C.P all.toArray Q os a' w')
  (h1:∀ j kv vv,j∈left→get ks j=some kv→get vs j=some vv→∀ I' m' a' w',SS E (St.put { s with H:=hput s.H id (.iter ks vs (left.filter (·≠j)) (some j)) } o.dst (.tup [.b true,kv,vv])) I' m' a' w'→wpListIn (Wd E.ρ) 0 C.P all.toArray Q os a' w') :
  wpListIn (Wd E.ρ) 0 C.P all.toArray Q (o :: os) a w :=
 zGV false hC hss hop hw hx hg hlo h0 h1
theorem run_entry_at {P:Program} (w:World) (r bm since:Nat) (seen:Array Nat) (es:Array MapEntry) (clock:Nat) (e:MapEntry) (hr:w.heap[r]? = some (.mapIter (some bm) since seen clock)) (hs:seen.back? = some e.born) (hb:w.heap[bm]? = some (.map es clock)) (he:e∈es.toList) (hn:(es.toList.map (·.born)).Nodup) :
  (Instr.entry (.pointer (some ⟨r,0,none⟩))).run P w = .ok (.tuple #[e.key,e.val]) w:=by
 have hf:es.find? (·.born==e.born)=some e:=by rw [← Array.find?_toList]; exact find_born e es.toList hn he
 simp only [Instr.entry,getObj,Sem.run_bind,Sem.run,hr,hb,Result.andThen,hs,bne_self_eq_false,Bool.false_eq_true,if_false,hf]
 rfl
theorem zFn (own:Bool) (hC:C.OK) (hss:SS E s I m a w) {x:Operand} {id:Nat} {ks vs:List V} {left:List Nat} {j:Nat} {kv vv:V} (hop:o.op = .entry x) (hw:wants all s.K o.guard=some true) (hx:kev s.K x=some (.ptr id 0 0)) (hg:hget s.H id=itB own ks vs left (some j)) (hk:get ks j=some kv) (hv:get vs j=some vv)
  (h1:∀ I' m' a' w',SS E (s.put o.dst (.tup [kv,vv])) I' m' a' w'→wpListIn (Wd E.ρ) 0 C.P all.toArray Q os a' w') :
  wpListIn (Wd E.ρ) 0 C.P all.toArray Q (o :: os) a w:=by
 obtain ⟨dst,op,ty,pos,after,g⟩:=o
 simp only at hop
 subst hop
 obtain ⟨f,hf,g1,g2,bm,es,es',cl,seen,q1,q2,q3,q4,q5,q6,q7,q8,q9⟩:=(zLs hss.sim hg)
 have hr:=ZA hss.slots hx
 unfold Rep at hr
 obtain ⟨f',hf',hu⟩:=hr
 rw [hf] at hf'
 cases hf'
 have hu':a.eval x = .pointer (some ⟨f.b,0,none⟩):=by rw [hu,g1,g2]
 have hb:=hss.sim.sub _ _ q2
 obtain ⟨e,e1,e2⟩:=q9 j rfl
 have hem:e∈es:=q3.mem_iff.2 (List.mem_of_getElem? e1)
 have hrun:=run_entry_at (P:=C.P) w f.b bm cl seen es.toArray cl e q1 e2 hb (by simpa using hem) (by simpa using q6.2)
 rw [zP] at hk hv
 obtain ⟨uk,k1,k2⟩:=q4.get hk
 obtain ⟨uv,v1,v2⟩:=q5.get hv
 rw [List.getElem?_map,e1] at k1 v1
 simp only [Option.map_some,Option.some.injEq] at k1 v1
 subst k1
 subst v1
 refine zBO (zb hss.slots hw) rfl (r:=.value (.tuple #[e.key,e.val])) (w':=w) (by simp [execOp,hu',hrun]) (.inl rfl) (h1 I m _ w (hss.put ?_))
 unfold Rep
 refine ⟨[e.key,e.val],rfl,?_⟩
 unfold RepL
 refine ⟨_,_,rfl,Rep.mono (fun _ _ h=>h) _ (zIm _ _) k2,?_⟩
 unfold RepL
 exact ⟨_,[],rfl,Rep.mono (fun _ _ h=>h) _ (zIm _ _) v2,by unfold RepL; rfl⟩
theorem zLL (hC:C.OK) (hss:SS E s I m a w) {x:Operand} {id:Nat} {ks vs:List V} {left:List Nat} {j:Nat} {kv vv:V} (hop:o.op = .entry x) (hw:wants all s.K o.guard=some true) (hx:kev s.K x=some (.ptr id 0 0)) (hg:hget s.H id = .iter ks vs left (some j)) (hk:get ks j=some kv) (hv:get vs j=some vv)
  (h1:∀ I' m' a' w',SS E (s.put o.dst (.tup [kv,vv])) I' m' a' w'→wpListIn (Wd E.ρ) 0 C.P all.toArray Q os a' w') :
  wpListIn (Wd E.ρ) 0 C.P all.toArray Q (o :: os) a w :=
 zFn false hC hss hop hw hx hg hk hv h1
end
end Go.Am
namespace Go.Am
open Go Go.Wk Go.RowKit
section
variable {m:Mem} {I I2:Ij} {N:Nat} {keep:List Nat}
theorem RepL.back {f:V→Option V} (hf:∀ v v1 u,f v=some v1→Rep m v1 I u→Rep m v I2 u):∀ {l l1:List V} {us:List Value},mapO f l=some l1→RepL m l1 I us→RepL m l I2 us
 | [],l1,us,h,hr=>by
  simp only [mapO,Option.some.injEq] at h
  subst h
  unfold RepL at hr ⊢
  exact hr
 | v :: r,l1,us,h,hr=>by
  simp only [mapO] at h
  cases h1:f v with
  | none=>rw [h1] at h; cases h
  | some v1 =>
   cases h2:mapO f r with
   | none=>rw [h1,h2] at h; cases h
   | some r1 =>
    rw [h1,h2] at h
    simp only [Option.some.injEq] at h
    subst h
    unfold RepL at hr ⊢
    obtain ⟨u,us',rfl,h3,h4⟩:=hr
    exact ⟨u,us',rfl,hf v v1 u h1 h3,RepL.back hf h2 h4⟩
theorem zCn (hI:∀ id j,rid N keep id=some j→I2 id=I j):∀ (n:Nat) (v v1:V) (u:Value),ren N keep n v=some v1→Rep m v1 I u→Rep m v I2 u:=by
 intro n
 induction n with
 | zero=>intro v v1 u h _; cases h
 | succ n ih =>
  intro v v1 u h hr
  cases v with
  | lit w=>simp only [ren,Option.some.injEq] at h; subst h; unfold Rep at hr ⊢; exact hr
  | agg l =>
   simp only [ren,Option.map_eq_some_iff] at h
   obtain ⟨l1,h1,rfl⟩:=h
   unfold Rep at hr ⊢
   obtain ⟨us,h2,h3,h4⟩:=hr
   exact ⟨us,h2,h3,RepL.back ih h1 h4⟩
  | tup l =>
   simp only [ren,Option.map_eq_some_iff] at h
   obtain ⟨l1,h1,rfl⟩:=h
   unfold Rep at hr ⊢
   obtain ⟨us,h2,h4⟩:=hr
   exact ⟨us,h2,RepL.back ih h1 h4⟩
  | fn f l =>
   simp only [ren,Option.map_eq_some_iff] at h
   obtain ⟨l1,h1,rfl⟩:=h
   unfold Rep at hr ⊢
   obtain ⟨us,h2,h4⟩:=hr
   exact ⟨us,h2,RepL.back ih h1 h4⟩
  | ptr id i off =>
   simp only [ren,Option.map_eq_some_iff] at h
   obtain ⟨j,h1,rfl⟩:=h
   unfold Rep at hr ⊢
   rw [hI id j h1]; exact hr
  | osl id off len =>
   simp only [ren,Option.map_eq_some_iff] at h
   obtain ⟨j,h1,rfl⟩:=h
   unfold Rep at hr ⊢
   rw [hI id j h1]; exact hr
  | map id =>
   simp only [ren,Option.map_eq_some_iff] at h
   obtain ⟨j,h1,rfl⟩:=h
   unfold Rep at hr ⊢
   rw [hI id j h1]; exact hr
  | yld id =>
   simp only [ren,Option.map_eq_some_iff] at h
   obtain ⟨j,h1,rfl⟩:=h
   unfold Rep at hr ⊢
   rw [hI id j h1]; exact hr
  | fptr a b c=>simp only [ren,Option.some.injEq] at h; subst h; unfold Rep at hr ⊢; exact hr
  | sl a=>simp only [ren,Option.some.injEq] at h; subst h; unfold Rep at hr ⊢; exact hr
  | uns=>simp only [ren,Option.some.injEq] at h; subst h; unfold Rep at hr ⊢; exact hr
  | fmap a b=>simp only [ren,Option.some.injEq] at h; subst h; unfold Rep at hr ⊢; exact hr
  | omap a b c=>simp [ren] at h
def cutI (I:Ij) (N:Nat) (keep:List Nat):Ij:=fun id=>match rid N keep id with
 | some j=>I j
 | none=>none
theorem zOq {id j:Nat} (h:rid N keep id=some j):cutI I N keep id=I j:=by unfold cutI; rw [h]
theorem zD2 {id:Nat} (h:id<N):rid N keep id=some id:=by unfold rid; rw [if_pos h]
theorem zD1 {id j:Nat} (h:rid N keep id=some j) (hn : ¬ id<N):keep[id - N]? = some j:=by unfold rid at h; rw [if_neg hn,zP] at h; exact h
theorem zGe {f:V→Option V}:∀ {l l1:List V},mapO f l=some l1→l1.length=l.length∧∀ (i:Nat) v,l[i]? = some v→∃ v1,f v=some v1∧l1[i]? = some v1
 | [],l1,h=>by
  simp only [mapO,Option.some.injEq] at h
  subst h
  exact ⟨rfl,fun i v h=>by simp at h⟩
 | x :: r,l1,h=>by
  simp only [mapO] at h
  cases h1:f x with
  | none=>rw [h1] at h; cases h
  | some v1 =>
   cases h2:mapO f r with
   | none=>rw [h1,h2] at h; cases h
   | some r1 =>
    rw [h1,h2] at h
    simp only [Option.some.injEq] at h
    subst h
    obtain ⟨h3,h4⟩:=zGe h2
    refine ⟨by simp [h3],fun i v hv=>?_⟩
    cases i with
    | zero=>simp only [List.getElem?_cons_zero,Option.some.injEq] at hv; subst hv; exact ⟨v1,h1,by simp⟩
    | succ i=>simpa using h4 i v (by simpa using hv)
theorem blk_ren {w:World} {f:Inf} {n:Nat} {B B1:Blk} (hI:∀ id j,rid N keep id=some j→I2 id=I j) (h:renB N keep n B=some B1) (hb:jb I m w f B1):jb I2 m w f B∧B1.live=B.live:=by
 cases B with
 | dead=>exact ⟨trivial,by simp only [renB,Option.some.injEq] at h; subst h; rfl⟩
 | free=>cases h
 | loop r=>cases h
 | iter ks vs left last=>simp only [renB,Option.some.injEq] at h; subst h; exact ⟨hb,rfl⟩
 | oiter ks vs left last=>cases h
 | rows es l =>
  simp only [renB,Option.map_eq_some_iff] at h
  obtain ⟨l1,h1,rfl⟩:=h
  obtain ⟨h0,c,ty,q1,q2,q3,q4,q5,q6⟩:=hb
  obtain ⟨g1,g2⟩:=zGe h1
  refine ⟨⟨h0,c,ty,q1,q2,by omega,q4,q5,fun i v hv=>?_⟩,rfl⟩
  obtain ⟨v1,g3,g4⟩:=g2 i v hv
  obtain ⟨u,g5,g6⟩:=q6 i v1 g4
  exact ⟨u,zCn hI _ _ _ _ g3 g5,g6⟩
 | map ks vs =>
  simp only [renB] at h
  split at h
  ·rename_i a b ha hb'
   simp only [Option.some.injEq] at h
   subst h
   obtain ⟨es,cl,q1,es',q2,q3,q4,q5,q6⟩:=hb
   exact ⟨⟨es,cl,q1,es',q2,q3,RepL.back (zCn hI _) ha q4,RepL.back (zCn hI _) hb' q5,q6⟩,rfl⟩
  ·cases h
theorem zOp {E:Env} {s s1:St} {I0 I1:Ij} {m0 m1:Mem} {a0 a1:Act} {w0 w1:World} {K:List (Nat×V)} {H:List Blk} (h0:SS E s I0 m0 a0 w0) (h1:SS E s1 I1 m1 a1 w1) (hc:zO9 s.H.length s1 keep K H):SS E ⟨K,H,s.lo,s.rnd,s.n⟩ (cutI I1 s.H.length keep) m1 a1 w1:=by
 have hI:∀ id j,rid s.H.length keep id=some j→cutI I1 s.H.length keep id=I1 j:=fun id j h=>zOq h
 have hN:E.H0.length≤s.H.length:=h0.fx.len
 have hlo:s.lo≤s.H.length:=by rw [h0.lo]; exact Nat.le_trans h0.lole hN
 -- a block that is there was there
 have hold:∀ id B,Am.get H id=some B→B.live=true→∃ j f,rid s.H.length keep id=some j∧Live s1.H j∧I1 j=some f∧jb (cutI I1 s.H.length keep) m1 w1 f B:=by
  intro id B hB hl
  obtain ⟨n,j,g1,g2⟩:=hc.blocks id B hB hl
  have hlive:(hget s1.H j).live=true:=by
   cases hq:hget s1.H j <;> rw [hq] at g2 <;> first | rfl | (cases B <;> simp [renB] at g2 <;> first | (cases hl; done) | skip)
   all_goals (first | (split at g2 <;> cases g2) | skip)
  have hg:=JN (B:=hget s1.H j) rfl hlive
  obtain ⟨f,q1,q2⟩:=h1.sim.blk j _ hg hlive
  exact ⟨j,f,g1,⟨_,hg,hlive⟩,q1,(blk_ren hI g2 q2).1⟩
 have hlow:∀ id,id<s.H.length→cutI I1 s.H.length keep id=I1 id:=fun id h=>hI id id (zD2 h)
 have hlt:∀ id B,Am.get H id=some B→id<s.H.length+keep.length:=fun id B h=>by have:=jm h; have:=hc.len; omega
 have hsim:Sim (cutI I1 s.H.length keep) m1 H w1:=⟨h1.sim.sub,fun id B hB hl=>by
   obtain ⟨j,f,g1,_,g3,g4⟩:=hold id B hB hl
   exact ⟨f,(hI id j g1).trans g3,g4⟩,fun id hid=>by
   rcases hid with hid | hid
   ·have:=ja.1 hid
    rw [hc.len] at this
    unfold cutI rid
    rw [if_neg (by omega),zP,List.getElem?_eq_none (by omega)]
   ·exact absurd hid (hc.nofree id),fun id f ⟨B,hB,hl⟩ hf=>by
   obtain ⟨j,f',g1,g2,g3,_⟩:=hold id B hB hl
   rw [hI id j g1] at hf
   exact h1.sim.off j f g2 hf,fun i j f g ⟨B,hB,hl⟩ ⟨B',hB',hl'⟩ hf hg he=>by
   obtain ⟨i',_,g1,g2,_,_⟩:=hold i B hB hl
   obtain ⟨j',_,k1,k2,_,_⟩:=hold j B' hB' hl'
   rw [hI i i' g1] at hf
   rw [hI j j' k1] at hg
   have hij:=h1.sim.inj i' j' f g g2 k2 hf hg he
   subst hij
   by_cases c1:i<s.H.length
   ·rw [zD2 c1] at g1
    cases g1
    by_cases c2:j<s.H.length
    ·rw [zD2 c2] at k1; cases k1; rfl
    ·have:=(hc.new _ (List.mem_of_getElem? (zD1 k1 c2))).1; omega
   ·by_cases c2:j<s.H.length
    ·rw [zD2 c2] at k1
     cases k1
     have:=(hc.new _ (List.mem_of_getElem? (zD1 g1 c1))).1; omega
    ·have e1:=zD1 g1 c1
     have e2:=zD1 k1 c2
     have:=(List.getElem?_inj (List.getElem?_eq_some_iff.1 e1).1 hc.nodup).1 (e1.trans e2.symm)
     omega⟩
 have hI0:∀ id f,E.I0 id=some f→id<s.H.length:=fun id f h=>by
  have h2:=h0.fx.ij id f h
  rcases Nat.lt_or_ge id s.H.length with h3 | h3
  ·exact h3
  ·rw [h0.sim.free id (.inl (ja.2 h3))] at h2; cases h2
 refine { sim:=hsim,slots:=fun t v hv=>?_,size:=h1.size,n:=h0.n,lo:=h0.lo,rnd:=h0.rnd,fx := ?_,mem:=h1.mem,fresh:=h1.fresh,lole:=h0.lole,dfr := ?_,rok:=h0.rok }
 ·obtain ⟨n,v1,g1,g2⟩:=hc.slots t v hv
  obtain ⟨u,g3,g4⟩:=h1.slots t v1 g2
  exact ⟨u,g3,zCn hI n v v1 u g1 g4⟩
 ·refine ⟨h1.fx.st,h1.fx.same,fun id f h=>?_,fun id f h2 ⟨B,hB,hl⟩ h4=>?_,fun id hid=>?_,by rw [hc.len]; omega⟩
  ·rw [hlow id (hI0 id f h)]; exact h1.fx.ij id f h
  ·obtain ⟨j,f',g1,g2,g3,_⟩:=hold id B hB hl
   rw [hI id j g1] at h4
   refine h1.fx.own j f ?_ g2 h4
   by_cases c1:id<s.H.length
   ·rw [zD2 c1] at g1; cases g1; exact h2
   ·have:=(hc.new _ (List.mem_of_getElem? (zD1 g1 c1))).1
    rw [← h0.lo]; omega
  ·rw [hc.low id (by rw [h1.lo]; exact hid) (Nat.lt_of_lt_of_le hid (by rw [← h0.lo]; exact hlo))]; exact h1.fx.low id hid
 ·obtain ⟨ds,g1,g2,g3,g4⟩:=h1.dfr
  refine ⟨ds,g1,g2,fun D hD=>?_,g4⟩
  obtain ⟨k1,k2,k3,k4⟩:=g3 D hD
  refine ⟨k1,k2,k3,fun id f ⟨B,hB,hl⟩ hf=>?_⟩
  obtain ⟨j,f',q1,q2,q3,_⟩:=hold id B hB hl
  rw [hI id j q1] at hf
  exact k4 j f q2 hf
theorem zOo {C:Cfg} {E:Env} {s:St} {I:Ij} {m:Mem} {a:Act} {w:World} {c:Code} {k:List It} {Q:Ex→St→Prop} (hss:SS E s I m a w) {Q1:Ex→St→Prop} {kp:Ex→St→List Nat} {K:Ex→St→List (Nat×V)} {H:Ex→St→List Blk}
  (IH1:SA C.P E.ρ (QA E Q1) [.code c] .normal a w) (hc:∀ e s1,Q1 e s1→e≠.ret→zO9 s.H.length s1 (kp e s1) (K e s1) (H e s1)) (hr:∀ s1,Q1 .ret s1→Q .ret s1)
  (IH2:∀ s1,Q1 .normal s1→∀ (I:Ij) (m:Mem) (a:Act) (w:World),SS E ⟨K .normal s1,H .normal s1,s.lo,s.rnd,s.n⟩ I m a w→SA C.P E.ρ (QA E Q) k .normal a w)
  (IH3:∀ id k' s1,YU id k=some k'→Q1 (.exit id) s1→∀ (I:Ij) (m:Mem) (a:Act) (w:World),SS E ⟨K (.exit id) s1,H (.exit id) s1,s.lo,s.rnd,s.n⟩ I m a w→SA C.P E.ρ (QA E Q) k' .normal a w)
  (hx:∀ id s1,YU id k=none→Q1 (.exit id) s1→Q (.exit id) ⟨K (.exit id) s1,H (.exit id) s1,s.lo,s.rnd,s.n⟩):SA C.P E.ρ (QA E Q) (.code c :: k) .normal a w:=by
 refine Code.wpIn_mono ?_ (show c.wpIn (Wd E.ρ) 0 C.P (QA E Q1) a w from IH1)
 intro e a1 w1 he
 cases e with
 | normal =>
  obtain ⟨s1,I1,m1,hq,hs1⟩:=he
  exact IH2 s1 hq _ m1 a1 w1 (zOp hss hs1 (hc _ _ hq (by intro h; cases h)))
 | ret =>
  obtain ⟨s1,I1,m1,hq,hs1⟩:=he
  rw [zCc]
  exact ⟨s1,I1,m1,hr s1 hq,hs1⟩
 | exit id =>
  obtain ⟨s1,I1,m1,hq,hs1⟩:=he
  have h2:=zOp hss hs1 (hc _ _ hq (by intro h; cases h))
  rw [Qj]
  cases hp:YU id k with
  | some k' => exact IH3 id k' s1 hp hq _ m1 a1 w1 h2
  | none=>exact ⟨_,_,m1,hx id s1 hp hq,h2⟩
 | goto l=>exact he.elim
 | panic ch=>exact he.elim
 | outgrown=>exact he.elim
end
end Go.Am
namespace Go.Am
open Go Go.Wk Go.RowKit
section
variable {C:Cfg} {E:Env} {s:St} {I I':Ij} {m m':Mem} {a:Act} {w w':World} {H H':List Blk}
theorem ql : ∀ (H:List Blk) (B:Blk),hput H H.length B=H++[B]
 | [],B=>rfl
 | x :: r,B=>by simp only [List.length_cons,hput,List.cons_append,ql r B]
theorem zHu : ∀ {x y:List Nat},marks x=marks y→x=y
 | [],[],_=>rfl
 | [],_ :: _,h=>by cases h
 | _ :: _,[],h=>by cases h
 | a :: x,b :: y,h=>by
  simp only [marks,List.map_cons,List.cons.injEq,Deferred.mk.injEq,Target.collected.injEq] at h
  rw [h.1.1,zHu h.2]
theorem zHP {id:Nat} {e:Ex} {s' s:St} {k:List It} {p:List It×St} (h:Qq id e s' s k=some p):∃ r,hget s'.H id = .loop r∧r.st≠.busy∧p.2 = { s with H:=hput s'.H id .dead }∧p.1=(match r.pend with | none=>k | some j=>.code j :: k):=by
 unfold Qq at h
 cases ho:zJd e with
 | false=>rw [ho] at h; cases h
 | true =>
  rw [ho] at h
  simp only [cond_true] at h
  split at h
  ·rename_i r hr
   split at h
   ·cases h
   ·rename_i hp hst
    simp only [Option.some.injEq] at h
    subst h
    exact ⟨r,hr,fun e=>hst e,rfl,by rw [hp]⟩
   ·rename_i j hp hst
    simp only [Option.some.injEq] at h
    subst h
    exact ⟨r,hr,fun e=>hst e,rfl,by rw [hp]⟩
  ·cases h
theorem zGM (hC:C.OK) (hss:SS E s I m a w) {g:Operand} {ps:Array Tmp} {assign body:Code} {k:List It} {f:Nat} {caps:List V} {c:Code} {fn:Func} {T:List It×St→Prop} {Q:Ex→St→Prop} (hg:kev s.K g=some (.fn f caps)) (hb:jM C f (caps.length+1)=some (c,fn)) (hro:zHc s=true)
  (IH:∀ (E:Env) (I:Ij) (m:Mem) (a:Act) (w:World),SS E (St.call fn (.yld s.H.length :: caps) (s.H++[.loop ⟨s.n,s.K,ps.toList,assign,body,.ready,none⟩]) s.lo) I m a w→SA C.P E.ρ (QA E (fun e s' => ∃ v p,finA C fn e s'=some v∧Qq s.H.length e s' s k=some p∧T p)) [.code c] .normal a w)
  (IHk:∀ p,T p→∀ (I:Ij) (m:Mem) (a:Act) (w:World),SS E p.2 I m a w→SA C.P E.ρ (QA E Q) p.1 .normal a w):SA C.P E.ρ (QA E Q) (.code (.rangeFunc g ps assign body) :: k) .normal a w:=by
 obtain ⟨_,_,_,hcall⟩:=jE hC hb
 have hgv:=ZA hss.slots hg
 unfold Rep at hgv
 obtain ⟨cus,hgv,hcaps⟩:=hgv
 rw [zFO (zIA hb)] at hgv
 refine wpIn_rangeFunc fun fn0 _=>?_
 have hlol:s.lo≤s.H.length:=by rw [hss.lo]; exact Nat.le_trans hss.lole hss.fx.len
 have fresh0:Fresh s.H s.H.length:=.inl rfl
 have hI0:=fresh0.none hss.sim
 -- from the world with the record on
 have main:∀ (l:Nat) (mk:List Nat) (w1:World) (df:Nat),w.heap.size≤l→(Instr.enterLoop fn0 a.tmps ps assign body (Wd E.ρ).round).run C.P w = .ok (l,marks mk) w1→Xt w w1→w1.heap[l]? = some (.loop { state:=.ready,pending:=none,fn:=fn0,tmps:=a.tmps,params:=ps,assign,body,defers:=df }) →
   (∀ D∈mk,D≠l∧w.heap.size≤D∧w1.heap[D]? = some (.deferred (some [])))→mk.Nodup→(E.rnd≠none→mk=[]) →
   ∃ (l:Nat) (mark:List Deferred) (w₁:World) (d:Deferred) (w₁':World) (f:FuncId) (args:Array Value) (w₂:World),
   (Instr.enterLoop fn0 a.tmps ps assign body (Wd E.ρ).round).run C.P w = .ok (l,mark) w₁∧(resolve a.eval (rangeCall g l) 0).run C.P w₁ = .ok d w₁'∧(∀ f',Target.leads C.P w₁' d.target d.args=some f'→(Wd E.ρ).fn f')∧(invoke d.target d.args).run C.P w₁' = .ok (.enter f args) w₂ ∧
   ((Wd E.ρ).depth.isSome=true→1≤0)∧CallsIn (Wd E.ρ) (0 - 1) C.P f args w₂ (rangePost (Wd E.ρ) 0 C.P l (SA C.P E.ρ (QA E Q) k) { a with defers:=mark++a.defers }):=by
  intro l mk w1 df hl hent hext hrow hmk hmkn hmkr
  let fl:Inf:=⟨l,0,0,0⟩
  obtain ⟨y1,y2⟩:=hss.sim.new (lo:=s.lo) (nid:=s.H.length) fresh0 hlol hext (f:=fl) hl (B:=.loop ⟨s.n,s.K,ps.toList,assign,body,.ready,none⟩) ⟨_,hrow,rfl,rfl,hss.slots.mono (fun _ _ h=>h) (Ij.Qz hI0),hss.size.trans hss.n.symm,rfl,rfl,rfl⟩ (by intro h; cases h)
  have hs1:=hss.step y1 y2 (fun _ _ h=>h) (fun _ _ h=>.inl h)
  let a1:Act:={ a with defers:=marks mk++a.defers }
  have hs1':SS E { s with H:=hput s.H s.H.length (.loop ⟨s.n,s.K,ps.toList,assign,body,.ready,none⟩) } (I.put s.H.length fl) m a1 w1:={ hs1 with
   slots:=hs1.slots
   size:=hs1.size
   dfr:=by
    obtain ⟨ds,h1,h2⟩:=hs1.dfr
    refine ⟨mk++ds,by show marks mk++a.defers=_; rw [h1]; simp [marks],?_,fun D hD=>?_,fun hr=>by rw [hmkr hr,h2.2.2 hr]; rfl⟩
    ·refine List.nodup_append.2 ⟨hmkn,h2.1,fun x hx y hy he=>?_⟩
     subst he
     obtain ⟨ds0,g1,g2⟩:=hss.dfr
     have:ds0=ds:=zHu (g1.symm.trans h1)
     subst this
     have h3:=(g2.2.1 x hy).1
     have h4:=(Array.getElem?_eq_some_iff.1 h3).1
     have:=(hmk x hx).2.1
     omega
    ·rcases List.mem_append.1 hD with hD | hD
     ·obtain ⟨h3,h4,h5⟩:=hmk D hD
      refine ⟨h5,Nat.le_trans hss.fx.st.size h4,?_,fun id f hl hf he=>?_⟩
      ·cases hm:m D with
       | none=>rfl
       | some o=>have:=hss.sim.mlt hm; omega
      ·rcases Zu (Nat.le_refl _) hl with ⟨rfl,_⟩ | ⟨hne,h6⟩
       ·rw [Ij.Jb] at hf
        cases hf
        exact h3 he.symm
       ·unfold Ij.put at hf
        rw [if_neg hne] at hf
        have:=hss.sim.lt h6 hf
        omega
     ·exact h2.2.1 D hD }
  have hargs:RepL m (.yld s.H.length :: caps) (I.put s.H.length fl) (Value.func (.yield l) #[] #[] :: cus):=by
   unfold RepL
   refine ⟨_,_,rfl,?_,RepL.mono (fun _ _ h=>h) _ (Ij.Qz hI0) hcaps⟩
   unfold Rep
   exact ⟨fl,Ij.Jb,rfl⟩
  have hcv:a.eval (.const (Value.func (.yield l) #[] #[]))=Value.func (.yield l) #[] #[]:=rfl
  refine ⟨l,marks mk,w1,{ target:=.fn (.func f) cus.toArray,args := #[.func (.yield l) #[] #[]] },w1,f,(Value.func (.yield l) #[] #[] :: cus).toArray,w1,hent,?_,fun _ _=>trivial,?_,(fun h=>by cases h),?_⟩
  ·simp [resolve,Deferred.ofValue,hgv,hcv]
  ·have:=hcall (Value.func (.yield l) #[] #[] :: cus).toArray w1
   simp [invoke,this]
  ·have hc:=YG (Q:=fun e s' => ∃ v p,finA C fn e s'=some v∧Qq s.H.length e s' s k=some p∧T p) (H':=hput s.H s.H.length (.loop ⟨s.n,s.K,ps.toList,assign,body,.ready,none⟩)) (lo':=s.lo) hC hb (args:=.yld s.H.length :: caps) (by simp) (by rw [ql]; exact IH) (by rintro e s1 ⟨v,_,h,_⟩; exact ⟨v,h⟩) y1 (by rw [zq _ _ _ (Nat.le_refl _)]; omega) hargs
   refine zBd.2 (hc.mono ?_)
   rintro e w3 ⟨u,rfl,ex,s3,v,I3,m3,⟨_,p,_,hp,hT⟩,h3,h4,h5,h6,h7,h8,h9⟩
   obtain ⟨r3,z1,z2,z3,z4⟩:=zHP hp
   obtain ⟨f3,L3,x1,x2,x3,x4,x5⟩:=h5.zEH z1
   have hf3:I3 s.H.length=some fl:=h6.ij _ _ Ij.Jb
   rw [hf3] at x1
   cases x1
   have hs3:=hs1'.step h5 h6 h7 h8
   have hlt:fl.b<w3.heap.size:=(Array.getElem?_eq_some_iff.1 x2).1
   obtain ⟨y3,y4⟩:=h5.upd (lo:=s.lo) (w':={ w3 with heap:=w3.heap.setIfInBounds fl.b (.loop { L3 with state:=.exhausted }) }) (B:=.dead) ⟨_,zFM z1,rfl⟩ hlol hf3 ⟨⟨rfl,rfl,rfl,by simp⟩,Nat.le_refl _⟩ (fun k hk=>by
    show (w3.heap.setIfInBounds fl.b _)[k]? = _
    rw [Array.getElem?_setIfInBounds_ne (fun e=>hk e.symm)]) trivial (by intro h; cases h)
   have hs4:=hs3.step y3 y4 (fun _ _ h=>h) (fun _ _ h=>.inl h)
   refine ⟨L3.pending,_,run_endLoop x2 (by rw [x3]; exact z2),?_⟩
   have hk:=IHk p hT I3 m3 a1 _ (by rw [z3]; exact hs4)
   rw [z4] at hk
   show (match L3.pending with
   | none=>SA C.P E.ρ (QA E Q) k .normal a1 _
   | some c=>c.wpIn (Wd E.ρ) 0 C.P (SA C.P E.ρ (QA E Q) k) a1 _)
   generalize ({ w3 with heap:=w3.heap.setIfInBounds fl.b (.loop { L3 with state:=.exhausted }) }:World)=w4 at hk ⊢
   rw [x4]
   cases hpend:r3.pend with
   | none=>rw [hpend] at hk; exact hk
   | some j=>rw [hpend] at hk; exact hk
 cases hr:E.rnd with
 | none =>
  have hρ:E.ρ=none:=by unfold Env.ρ; rw [hr]
  refine main (w.heap.size+1) [w.heap.size] ((w.alloc (.deferred (some []))).alloc (.loop { state:=.ready,pending:=none,fn:=fn0,tmps:=a.tmps,params:=ps,assign,body,defers:=w.heap.size })) w.heap.size (by omega) ?_ ?_ ?_ ?_ (by simp) (fun h=>absurd hr h)
  ·rw [hρ]
   exact zHJ
  ·exact (Xt.Y9 w _).tr (Xt.Y9 _ _)
  ·have:(w.alloc (.deferred (some []))).heap.size=w.heap.size+1:=by show (w.heap.push _).size=_; simp
   rw [← this]; exact heap_alloc_new _ _
  ·intro D hD
   simp only [List.mem_singleton] at hD
   subst hD
   refine ⟨by omega,Nat.le_refl _,?_⟩
   rw [Below.heap_alloc _ _ _ (by show _<(w.heap.push _).size; simp)]
   exact heap_alloc_new w _
 | some idr =>
  obtain ⟨fr,hfr⟩:=hss.rok idr hr
  have hρ:E.ρ=some fr.b:=by unfold Env.ρ; rw [hr]; simp [hfr]
  have hrl:∃ rr,hget s.H idr = .loop rr:=by
   unfold zHc at hro
   rw [hss.rnd,hr] at hro
   simp only at hro
   split at hro
   ·rename_i rr h; exact ⟨rr,h⟩
   ·cases hro
  obtain ⟨rr,hrr⟩:=hrl
  obtain ⟨f',Lr,x1,x2,_⟩:=hss.sim.zEH hrr
  have:=hss.fx.ij _ _ hfr
  rw [x1] at this
  cases this
  refine main w.heap.size [] (w.alloc (.loop { state:=.ready,pending:=none,fn:=fn0,tmps:=a.tmps,params:=ps,assign,body,defers:=Lr.defers })) Lr.defers (Nat.le_refl _) ?_ (Xt.Y9 w _) (heap_alloc_new _ _) (fun D hD=>by cases hD) List.nodup_nil (fun _=>rfl)
  rw [hρ]
  exact run_enterLoop' x2
end
end Go.Am
