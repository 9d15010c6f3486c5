/- Operations of the abstract machine are those of the model: what types are, values of operands, pure operations. Conditions: none. -/
import Derived.Test.YtggkidlcohickaaGreatSim
import Derived.ChangeKeysEq
import Derived.Laws.StructEq
import Derived.KernelRfl
set_option linter.unusedVariables false
set_option linter.unusedSimpArgs false
namespace Go.Am
open Go Go.Wk
def TI.Qk (T:TI):Value:=if T.agg then .agg T.zs.toArray else T.zs.headD undef
def zAF (P:Program):List Fld→List Field→Prop
 | [],[]=>True
 | p :: ps, f :: fs => f.offset = p.off ∧ p.size ≠ 0 ∧ (∀ w, (Go.sizeOf f.type).run P w = .ok p.size w) ∧ f.type = p.ty ∧ f.name ≠ "_" ∧ zAF P ps fs
 | _,_=>False
structure TIOK (P:Program) (t:Nat) (T:TI):Prop where
 agg:∀ w,(isAgg t).run P w = .ok T.agg w
 size:∀ w,(Go.sizeOf t).run P w = .ok T.size w
 zero:∀ w,(zeroValue t).run P w = .ok T.Qk w
 kd:match T.kd with
  | .plain=>True
  | .int k=>P.underlying t=some (.int k)
  | .bool=>P.underlying t=some .bool
  | .ptr => ∃ e,P.underlying t=some (.pointer e)
  | .func => ∃ a b c,P.underlying t=some (.func a b c)
  | .struct ps => ∃ fs:Array Field,P.underlying t=some (.struct fs)∧zAF P ps fs.toList∧P.stoodInHeld t=false∧P.eqGuardType P.depth t=false
  | .slice e es=>P.underlying t=some (.slice e)∧∀ w,(Go.sizeOf e).run P w = .ok es w
  | .arr len e es=>P.underlying t=some (.array len e)∧(∀ w,(Go.sizeOf e).run P w = .ok es w)∧P.eqGuardType P.depth t=false
  | .map k e=>P.underlying t=some (.map k e)
 zlen:T.zs.length=T.size:=by kernel_rfl
 zone:T.zs.all (·.oneCell')=true:=by kernel_rfl
 sagg:T.agg=false→T.size=1:=by intro h; first | rfl | cases h
 pos:0<T.size:=by decide
 info:(P.info? t).map (fun i=>(i.zero,i.size,i.bytes))=some (some T.Qk,T.size,T.bytes):=by kernel_rfl
theorem TIOK.get {P:Program} {t:Nat} {T:TI} (h:TIOK P t T):∃ i,P.info? t=some i∧i.zero=some T.Qk∧i.size=T.size∧i.bytes=T.bytes:=by
 have:=h.info
 cases hi:P.info? t with
 | none=>rw [hi] at this; cases this
 | some i =>
  rw [hi] at this
  simp only [Option.map_some,Option.some.injEq,Prod.mk.injEq] at this
  exact ⟨i,rfl,this⟩
theorem TI.yw {P:Program} {t:Nat} {T:TI} (h:TIOK P t T):T.Qk.cells=T.zs.toArray:=by
 unfold TI.Qk
 split
 ·rfl
 ·rename_i hb
  have h1:=h.sagg (by simpa using hb)
  have h2:=h.zlen
  rw [h1] at h2
  obtain ⟨z,hz⟩:=List.length_eq_one_iff.1 h2
  have h3:=h.zone
  rw [hz] at h3 ⊢
  simp only [List.all_cons,List.all_nil,Bool.and_true] at h3
  cases z <;> first | rfl | (simp [Value.oneCell'] at h3; done)
theorem zAF.get {P : Program} : ∀ {ps : List Fld} {fs : List Field}, zAF P ps fs → ∀ {i : Nat} {p : Fld}, get ps i = some p → ∃ f, fs[i]? = some f ∧ f.offset = p.off ∧ p.size ≠ 0 ∧ (∀ w, (Go.sizeOf f.type).run P w = .ok p.size w) ∧ f.type = p.ty ∧ f.name ≠ "_"
 | [],[],_,_,_,h=>by cases h
 | q :: ps,f :: fs,hf,i,p,h=>by
  cases i with
  | zero =>
   simp only [Am.get,Option.some.injEq] at h
   subst h
   exact ⟨f,by simp,hf.1,hf.2.1,hf.2.2.1,hf.2.2.2.1,hf.2.2.2.2.1⟩
  | succ i =>
   obtain ⟨g,h1,h2⟩:=zAF.get hf.2.2.2.2.2 (i:=i) (p:=p) h
   exact ⟨g,by simpa using h1,h2⟩
 | [],_ :: _,hf,_,_,_=>hf.elim
 | _ :: _,[],hf,_,_,_=>hf.elim
def zO8 (P:Program) (f:Nat) (args:List V) (v:V):Prop :=
 ∀ (m:Mem) (w:World) (us:List Value),m.Le (wmem w)→RepL m args Ij.none us→Calls P f us.toArray w (fun e w' => ∃ u m',e = .returned u∧Xt w w'∧m.Le m'∧m'.Le (wmem w')∧(∀ k o,m' k=some o→m k=some o∨w.heap.size≤k)∧Rep m' v Ij.none u)
def FrC (P:Program) (f:Nat) (args:List V) (v:V):Prop :=
 (∀ (m:Mem) (w:World) (us:List Value),m.Le (wmem w)→RepL m args Ij.none us→Calls P f us.toArray w (fun e w' => ∃ u m0,e = .returned u∧Xt w w'∧m0.Le (wmem w')∧(∀ k o,m0 k=some o→w.heap.size≤k)∧Rep m0 v Ij.none u))∧∀ (args:Array Value) (w:World),(callFunc f args).run P w = .ok (.enter f args) w
structure Cfg.OK (C:Cfg):Prop where
 mixed:C.P.follows .mixedOrders=true
 ty:∀ t T,C.ty t=some T→TIOK C.P t T
 fn:∀ f fn,C.fn f=some fn→C.P.funcs[f]? = some fn∧∀ (args:Array Value) (w:World),(callFunc f args).run C.P w = .ok (.enter f args) w
 X:∀ f args v,C.X f args v→zO8 C.P f args v∧∀ (args:Array Value) (w:World),(callFunc f args).run C.P w = .ok (.enter f args) w
section
variable {C:Cfg} {I:Ij} {m:Mem} {H:List Blk} {w:World} {K:List (Nat×V)} {a:Act} {lo nid:Nat}
theorem RepL.lits {m:Mem} {I:Ij}:∀ (l:List Value),l.all (·.oneCell')=true→RepL m (l.map .lit) I l
 | [],_=>by simp only [List.map_nil]; unfold RepL; rfl
 | x :: r,h=>by
  simp only [List.all_cons,Bool.and_eq_true] at h
  simp only [List.map_cons]
  unfold RepL
  refine ⟨x,r,rfl,?_,RepL.lits r h.2⟩
  unfold Rep
  refine ⟨rfl,fun c hc=>?_⟩
  rw [hc] at h
  cases h.1
theorem ZA (hs:Slots m I K a.tmps):∀ {x:Operand} {v:V},kev K x=some v→Rep m v I (a.eval x)
 | .tmp t,v,h=>by
  obtain ⟨u,h1,h2⟩:=hs t v h
  have:a.eval (.tmp t)=u:=by simp [Act.eval,Array.getD_eq_getD_getElem?,h1]
  rw [this]; exact h2
 | .const c,v,h=>by
  show Rep m v I c
  cases c with
  | agg cs =>
   simp only [kev] at h
   split at h
   ·rename_i hall
    simp only [Option.some.injEq] at h
    subst h
    unfold Rep
    exact ⟨cs.toList,by simp,fun x hx=>List.all_eq_true.1 hall x hx,RepL.lits _ hall⟩
   ·cases h
  | _=>simp only [kev,Option.some.injEq] at h; subst h; unfold Rep; exact ⟨rfl,fun c hc=>by cases hc⟩
 | .func f,v,h=>by
  simp only [kev] at h
  cases hb:Nat.blt f 1000000 with
  | false=>rw [hb] at h; cases h
  | true =>
   rw [hb] at h
   simp only [_root_.cond_true,Option.some.injEq] at h
   subst h
   unfold Rep
   exact ⟨[],by rw [zFO hb]; rfl,by unfold RepL; rfl⟩
 | .global g,v,h=>by cases h
theorem zA2 (hs:Slots m I K a.tmps):∀ {xs:List Operand} {vs:List V},kevs K xs=some vs→RepL m vs I (xs.map a.eval)
 | [],vs,h=>by simp only [kevs,Option.some.injEq] at h; subst h; unfold RepL; rfl
 | x :: r,vs,h=>by
  simp only [kevs] at h
  cases hx:kev K x with
  | none=>rw [hx] at h; cases h
  | some v =>
   cases hr:kevs K r with
   | none=>rw [hx,hr] at h; cases h
   | some vs' =>
    rw [hx,hr] at h
    simp only [Option.some.injEq] at h
    subst h
    simp only [List.map_cons]
    unfold RepL
    exact ⟨_,_,rfl,ZA hs hx,zA2 hs hr⟩
theorem Rep.lit {m:Mem} {v:Value} {I:Ij} {u:Value} (h:Rep m (.lit v) I u):u=v:=by unfold Rep at h; exact h.1
theorem Rep.zBR {m:Mem} {v:Value} {I:Ij} (h:∀ c,v≠.agg c):Rep m (.lit v) I v:=by unfold Rep; exact ⟨rfl,h⟩
theorem Rep.int {m:Mem} {k:IntKind} {n:Int} {I:Ij}:Rep m (.lit (.int k n)) I (.int k n):=Rep.zBR fun c h=>by cases h
theorem Rep.bool {m:Mem} {b:Bool} {I:Ij}:Rep m (.lit (.bool b)) I (.bool b):=Rep.zBR fun c h=>by cases h
theorem Rep.undef {m:Mem} {I:Ij}:Rep m jA I undef:=Rep.zBR fun c h=>by cases h
theorem Rep.size {m:Mem}:∀ {v:V} {I:Ij} {u:Value},Rep m v I u→u.cells.size=v.cells.length
 | .lit v,I,u,h=>by
  unfold Rep at h
  obtain ⟨rfl,h2⟩:=h
  cases u <;> first | rfl | exact absurd rfl (h2 _)
 | .agg l,I,u,h=>by unfold Rep at h; obtain ⟨us,rfl,_,h2⟩:=h; simpa [Value.cells,V.cells] using h2.len
 | .tup l,I,u,h=>by unfold Rep at h; obtain ⟨us,rfl,h2⟩:=h; rfl
 | .ptr _ _ _,I,u,h=>by unfold Rep at h; obtain ⟨f,_,rfl⟩:=h; rfl
 | .fptr _ _ _,I,u,h=>by unfold Rep at h; obtain ⟨b,o,es,rfl,_⟩:=h; rfl
 | .sl _,I,u,h=>by unfold Rep at h; obtain ⟨ad,cap,es,rfl,_⟩:=h; rfl
 | .osl _ _ _,I,u,h=>by unfold Rep at h; obtain ⟨f,ad,_,rfl,_⟩:=h; rfl
 | .fn f _,I,u,h=>by unfold Rep at h; obtain ⟨us,rfl,_⟩:=h; obtain ⟨g,l,c,e⟩:=zFP f us; rw [e]; rfl
 | .yld _,I,u,h=>by unfold Rep at h; obtain ⟨f,_,rfl⟩:=h; rfl
 | .map _,I,u,h=>by unfold Rep at h; obtain ⟨f,_,rfl⟩:=h; rfl
 | .uns,I,u,h=>by unfold Rep at h; obtain ⟨ad,n,cap,rfl⟩:=h; rfl
 | .omap _ _ _,I,u,h=>by unfold Rep at h; obtain ⟨f,es,es',c,_,rfl,_⟩:=h; rfl
 | .fmap _ _,I,u,h=>by unfold Rep at h; obtain ⟨b,es,es',c,rfl,_⟩:=h; rfl
theorem Rep.one {m:Mem}:∀ {v:V} {I:Ij} {u:Value},Rep m v I u→v.one=true→u.oneCell'=true∧u.cells = #[u]
 | .lit v,I,u,h,ho=>by
  unfold Rep at h
  obtain ⟨rfl,h2⟩:=h
  cases u <;> first | exact ⟨rfl,rfl⟩ | cases ho
 | .agg l,I,u,h,ho=>by cases ho
 | .tup l,I,u,h,ho=>by cases ho
 | .ptr _ _ _,I,u,h,ho=>by unfold Rep at h; obtain ⟨f,_,rfl⟩:=h; exact ⟨rfl,rfl⟩
 | .fptr _ _ _,I,u,h,ho=>by unfold Rep at h; obtain ⟨b,o,es,rfl,_⟩:=h; exact ⟨rfl,rfl⟩
 | .sl _,I,u,h,ho=>by unfold Rep at h; obtain ⟨ad,cap,es,rfl,_⟩:=h; exact ⟨rfl,rfl⟩
 | .osl _ _ _,I,u,h,ho=>by unfold Rep at h; obtain ⟨f,ad,_,rfl,_⟩:=h; exact ⟨rfl,rfl⟩
 | .fn f _,I,u,h,ho=>by unfold Rep at h; obtain ⟨us,rfl,_⟩:=h; obtain ⟨g,l,c,e⟩:=zFP f us; rw [e]; exact ⟨rfl,rfl⟩
 | .yld _,I,u,h,ho=>by unfold Rep at h; obtain ⟨f,_,rfl⟩:=h; exact ⟨rfl,rfl⟩
 | .map _,I,u,h,ho=>by unfold Rep at h; obtain ⟨f,_,rfl⟩:=h; exact ⟨rfl,rfl⟩
 | .uns,I,u,h,ho=>by unfold Rep at h; obtain ⟨ad,n,cap,rfl⟩:=h; exact ⟨rfl,rfl⟩
 | .omap _ _ _,I,u,h,ho=>by unfold Rep at h; obtain ⟨f,es,es',c,_,rfl,_⟩:=h; exact ⟨rfl,rfl⟩
 | .fmap _ _,I,u,h,ho=>by unfold Rep at h; obtain ⟨b,es,es',c,rfl,_⟩:=h; exact ⟨rfl,rfl⟩
def jv (m:Mem) (I:Ij) (l:List V) (us:List Value):Prop:=RepL m l I us∧∀ x∈us,x.oneCell'=true
theorem V.zEk {v:V} (h:v.one=true):v.cells=[v]:=by cases v <;> first | rfl | cases h
theorem Rep.zBC {m:Mem} {v:V} {I:Ij} {u:Value} (h:Rep m v I u) (ho:v.ok=true):jv m I v.cells u.cells.toList:=by
 cases hv:v.one with
 | true =>
  obtain ⟨h1,h2⟩:=h.one hv
  rw [h2,V.zEk hv]
  refine ⟨?_,fun x hx=>by simp at hx; rw [hx]; exact h1⟩
  unfold RepL
  exact ⟨u,[],rfl,h,by unfold RepL; rfl⟩
 | false =>
  cases v with
  | agg l =>
   unfold Rep at h
   obtain ⟨us,rfl,h1,h2⟩:=h
   exact ⟨by simpa [V.cells,Value.cells] using h2,by simpa [Value.cells] using h1⟩
  | _=>simp only [V.ok,hv] at ho; cases ho
theorem zEr.of {c:Array Value} {p es:Nat} {u:Value} (h1:u.cells.size=es) (h2:∀ x∈u.cells,x.oneCell'=true) (h3:∀ j x,u.cells[j]? = some x→c[p+j]? = some x):zEr c p es u :=
 ⟨h1,fun j x hx=>⟨h2 x (Array.mem_of_getElem? hx),h3 j x hx⟩⟩
theorem RepL.sub {m:Mem} {I:Ij} {l:List V} {us:List Value} (h:RepL m l I us) {off n:Nat} (hn:off+n≤l.length):RepL m ((l.drop off).take n) I ((us.drop off).take n):=by
 have hl:=h.len
 refine RepL.mk (by simp only [List.length_take,List.length_drop]; omega) fun i v u h1 h2=>?_
 rw [List.getElem?_take] at h1 h2
 split at h1
 ·rename_i hi
  rw [if_pos hi] at h2
  rw [List.getElem?_drop] at h1 h2
  obtain ⟨u',h3,h4⟩:=h.get h1
  rw [h2] at h3
  cases h3
  exact h4
 ·cases h1
theorem QX {P:Program} {t:Nat} {T:TI} (hT:TIOK P t T) {l:List V} {us:List Value} (h:jv m I l us) {off:Nat} {v:V} (hp:Jd T off l=some v) :
  ∃ u,Rep m v I u∧(if T.agg then u = .agg ((us.drop off).take T.size).toArray∧off+T.size≤us.length else us[off]? = some u):=by
 unfold Jd at hp
 split at hp
 ·rename_i ha
  simp only [Option.map_eq_some_iff] at hp
  obtain ⟨r,h1,rfl⟩:=hp
  obtain ⟨h2,h3,h4⟩:=zAn _ _ _ _ h1
  have hpos:=hT.pos
  have h5:off+T.size≤l.length:=by omega
  refine ⟨.agg ((us.drop off).take T.size).toArray,?_,by rw [if_pos ha]; exact ⟨rfl,by rw [h.1.len]; exact h5⟩⟩
  unfold Rep
  refine ⟨_,rfl,fun x hx=>h.2 x (List.mem_of_mem_drop (List.mem_of_mem_take hx)),?_⟩
  rw [h4]; exact h.1.sub h5
 ·rename_i ha
  rw [zP] at hp
  obtain ⟨u,h1,h2⟩:=h.1.get hp
  exact ⟨u,h2,by rw [if_neg ha]; exact h1⟩
def ZZ (P:Program) (o:Oper) (a:Act) (I:Ij) (m:Mem) (H:List Blk) (lo:Nat) (w:World) (v:V) (H':List Blk):Prop :=
 ∃ r w' I' u,(execOp a.eval o).run P w = .ok r w'∧(r = .value u∨(r = .skip∧u=Go.undef))∧Sim I' m H' w'∧Rep m v I' u∧Fx I H lo w I' H' w'
theorem ZZ.pure {P:Program} {o:Oper} {v:V} {u:Value} (hs:Sim I m H w) (hr:(execOp a.eval o).run P w = .ok (.value u) w) (hv:Rep m v I u):ZZ P o a I m H lo w v H :=
 ⟨_,w,I,u,hr,.inl rfl,hs,hv,Fx.rfl' _ _ _ _⟩
end
end Go.Am
namespace Go.Am
open Go Go.Wk
section
variable {C:Cfg} {I:Ij} {m:Mem} {H:List Blk} {w:World} {K:List (Nat×V)} {a:Act} {lo nid:Nat} {dst:Option Tmp} {ty:TypeId} {pos:String} {after:Array Edge} {g:Option (Nat×Bool)} {e:Eff}
theorem YX {o:Option V} (h:Jc o=some e):o=some e.v∧e.wr=[]:=by
 cases o with
 | none=>cases h
 | some v=>simp only [Jc,Option.some.injEq] at h; subst h; exact ⟨rfl,rfl⟩
theorem op_move (hs:Sim I m H w) (hk:Slots m I K a.tmps) {x:Operand} (h:Jc (kev K x)=some e):ZZ C.P ⟨dst,.move x,ty,pos,after,g⟩ a I m H lo w e.v (puts H e.wr):=by
 obtain ⟨h1,h2⟩:=YX h
 rw [h2]
 exact ZZ.pure (u:=a.eval x) hs (by simp [execOp]) (ZA hk h1)
theorem zMv (hs:Sim I m H w) (hk:Slots m I K a.tmps) {x:Operand} (h:Jc (kev K x)=some e):ZZ C.P ⟨dst,.assign x,ty,pos,after,g⟩ a I m H lo w e.v (puts H e.wr):=by
 obtain ⟨h1,h2⟩:=YX h
 rw [h2]
 exact ZZ.pure (u:=a.eval x) hs (by simp [execOp]) (ZA hk h1)
theorem op_pick (hs:Sim I m H w) (hk:Slots m I K a.tmps) {c x y:Operand} (h:zC6 K c x y=some e):ZZ C.P ⟨dst,.pick c x y,ty,pos,after,g⟩ a I m H lo w e.v (puts H e.wr):=by
 unfold zC6 at h
 split at h
 ·rename_i hc
  have h0:=(ZA hk hc).lit
  obtain ⟨h1,h2⟩:=YX h
  rw [h2]
  exact ZZ.pure (u:=a.eval x) hs (by simp [execOp,h0,asBool]) (ZA hk h1)
 ·rename_i hc
  have h0:=(ZA hk hc).lit
  obtain ⟨h1,h2⟩:=YX h
  rw [h2]
  exact ZZ.pure (u:=a.eval y) hs (by simp [execOp,h0,asBool]) (ZA hk h1)
 ·cases h
theorem zKu (hs:Sim I m H w) (hk:Slots m I K a.tmps) {x:Operand} {i:Nat} (h:zBa K x i=some e):ZZ C.P ⟨dst,.extract x i,ty,pos,after,g⟩ a I m H lo w e.v (puts H e.wr):=by
 unfold zBa at h
 split at h
 ·rename_i l hx
  have h0:=ZA hk hx
  unfold Rep at h0
  obtain ⟨us,h3,h4⟩:=h0
  obtain ⟨h1,h2⟩:=YX h
  rw [h2]
  rw [zP] at h1
  obtain ⟨u,h5,h6⟩:=h4.get h1
  exact ZZ.pure (u:=u) hs (by simp [execOp,h3,Instr.extract,h5]) h6
 ·cases h
theorem zIa (hC:C.OK) (hs:Sim I m H w) (hk:Slots m I K a.tmps) {t:Nat} {x:Operand} {f:Nat} (h:qC C K t x f=some e):ZZ C.P ⟨dst,.fieldAddr t x f,ty,pos,after,g⟩ a I m H lo w e.v (puts H e.wr):=by
 unfold qC at h
 split at h
 ·rename_i T v hT hx
  split at h
  ·rename_i ps hkd
   have hTI:=hC.ty t T hT
   have h1:=hTI.kd
   rw [hkd] at h1
   obtain ⟨fs,hu,hf,_,_⟩:=h1
   have hr:=ZA hk hx
   have key:∀ (p:Fld) (b off:Nat),get ps f=some p→a.eval x = .pointer (some ⟨b,off,none⟩)→(execOp a.eval ⟨dst,.fieldAddr t x f,ty,pos,after,g⟩).run C.P w = .ok (.value (.pointer (some ⟨b,off+p.off,none⟩))) w:=by
    intro p b off hp hv
    obtain ⟨fd,h2,h3,h4,h5,_⟩:=hf.get hp
    have h2':fs[f]? = some fd:=by simpa using h2
    simp [execOp,hv,Instr.fieldAt,run_underlying hu,h2',Instr.sureAddr,fieldPlace,h5,h4,Addr.Qr,h3]
   unfold zJ9 at h
   split at h
   ·rename_i id i off
    split at h
    ·rename_i p hp
     simp only [Option.some.injEq] at h
     subst h
     unfold Rep at hr
     obtain ⟨ff,h6,h7⟩:=hr
     refine ZZ.pure hs (key p _ _ hp h7) ?_
     unfold Rep
     exact ⟨ff,h6,by rw [Nat.add_assoc]⟩
    ·cases h
   ·rename_i l i off
    split at h
    ·rename_i p hp
     simp only [Option.some.injEq] at h
     subst h
     unfold Rep at hr
     obtain ⟨b,o,es,h6,h7⟩:=hr
     refine ZZ.pure hs (key p _ _ hp h6) ?_
     unfold Rep
     exact ⟨b,o,es,by rw [Nat.add_assoc],h7⟩
    ·cases h
   ·cases h
  ·cases h
 ·cases h
theorem qU {P:Program} {t:Nat} {T:TI} (hT:TIOK P t T) {us:List Value} {off:Nat} {u:Value} (h:if T.agg then u = .agg ((us.drop off).take T.size).toArray∧off+T.size≤us.length else us[off]? = some u) (w:World) :
  (part t us.toArray off).run P w = .ok u w:=by
 unfold part
 split at h
 ·rename_i ha
  obtain ⟨rfl,h2⟩:=h
  simp [hT.agg,ha,hT.size,List.extract_eq_take_drop]
 ·rename_i ha
  simp [hT.agg,ha,h]
theorem zNs (hC:C.OK) (hs:Sim I m H w) (hk:Slots m I K a.tmps) {t:Nat} {x i:Operand} (h:zEc C K t x i=some e):ZZ C.P ⟨dst,.index t x i,ty,pos,after,g⟩ a I m H lo w e.v (puts H e.wr):=by
 unfold zEc at h
 split at h
 ·rename_i T cs ik n hT hx hi
  split at h
  ·rename_i k el es hkd
   have h1:=(hC.ty t T hT).kd
   rw [hkd] at h1
   have hr:=ZA hk hx
   have hi':=(ZA hk hi).lit
   split at h
   ·rename_i Te hTe
    split at h
    ·rename_i hn
     obtain ⟨h3,h2⟩:=YX h
     rw [h2]
     unfold Rep at hr
     obtain ⟨us,h7,h8,h9⟩:=hr
     obtain ⟨u,h10,h11⟩:=QX (hC.ty _ _ hTe) ⟨h9,h8⟩ h3
     have hp:=qU (hC.ty _ _ hTe) h11 w
     exact ZZ.pure hs (u:=u) (by simp [execOp,h7,hi',Instr.index,asIntOf,run_underlying h1.1,hn.1,hn.2,h1.2.1,hp]) h10
    ·cases h
   ·cases h
  ·cases h
 ·cases h
theorem zJZ (hs:Sim I m H w) (hk:Slots m I K a.tmps) {f:Fn} {first caps:Array Operand} (h:zF4 K f first.toList caps.toList=some e):ZZ C.P ⟨dst,.makeFunc f first caps,ty,pos,after,g⟩ a I m H lo w e.v (puts H e.wr):=by
 unfold zF4 at h
 have hm:∀ x:Array Operand,Array.map a.eval x=(List.map a.eval x.toList).toArray:=fun x=>by rw [← Array.toList_map,Array.toArray_toList]
 split at h
 ·rename_i f
  cases hb:Nat.blt f 1000000 with
  | false=>rw [hb] at h; cases h
  | true =>
   rw [hb] at h
   simp only [_root_.cond_true] at h
   split at h
   ·rename_i hfirst
    split at h
    ·rename_i vs hvs
     simp only [Option.some.injEq] at h
     subst h
     have h1:=zA2 hk hvs
     have h2:first = #[]:=by simpa using hfirst
     subst h2
     refine ZZ.pure hs (u:=.func (.func f) #[] (caps.toList.map a.eval).toArray) ?_ ?_
     ·simp [execOp,Instr.makeFunc,hm]
     ·unfold Rep; exact ⟨_,(zFO hb _).symm,h1⟩
    ·cases h
   ·rename_i x r hfirst
    split at h
    ·rename_i vs hcaps hvs
     simp only [Option.some.injEq] at h
     subst h
     rw [← hfirst] at hvs
     have h1:=zA2 hk hvs
     have h2:caps = #[]:=by simpa using hcaps
     subst h2
     have hb2:Nat.blt (f+1000000) 1000000=false:=by
      cases q:Nat.blt (f+1000000) 1000000 with
      | false=>rfl
      | true=>have:=Nat.le_of_ble_eq_true q; omega
     refine ZZ.pure hs (u:=.func (.func f) (first.toList.map a.eval).toArray #[]) ?_ ?_
     ·simp [execOp,Instr.makeFunc,hm]
     ·unfold Rep; exact ⟨_,(by rw [zLI hb2,Nat.add_sub_cancel]),h1⟩
    ·cases h
 ·cases h
theorem zKv (hC:C.OK) (hs:Sim I m H w) (hk:Slots m I K a.tmps) {s d:Nat} {x:Operand} (h:zBb C K s d x=some e):ZZ C.P ⟨dst,.convert s d x,ty,pos,after,g⟩ a I m H lo w e.v (puts H e.wr):=by
 unfold zBb at h
 split at h
 ·rename_i S D k n hS hD hx
  split at h
  ·rename_i k' hkd
   simp only [Option.some.injEq] at h
   subst h
   have h1:=(hC.ty d D hD).kd
   rw [hkd] at h1
   have h0:=(ZA hk hx).lit
   obtain ⟨i,hi,_⟩:=(hC.ty s S hS).get
   have hu:∃ u,C.P.underlying s=some u:=by
    have:=(hC.ty s S hS).agg w
    unfold isAgg underlying at this
    cases hq:C.P.underlying s with
    | some u=>exact ⟨u,rfl⟩
    | none=>simp [hq,Sem.run,program,stuck] at this
   obtain ⟨u,hu⟩:=hu
   refine ZZ.pure hs (u:=.int k' (k'.wrap n)) ?_ Rep.int
   simp [execOp,convert,run_underlying hu,run_underlying h1,h0,Conv.intToInt]
  ·cases h
 ·cases h
theorem zJY (hs:Sim I m H w) (hk:Slots m I K a.tmps) {x:Operand} (h:zIv K x=some e):ZZ C.P ⟨dst,.nilCheck x,ty,pos,after,g⟩ a I m H lo w e.v (puts H e.wr):=by
 unfold zIv at h
 split at h
 ·rename_i v hx
  cases hn:nilOK v with
  | false=>rw [hn] at h; cases h
  | true =>
   rw [hn] at h
   simp only [cond_true,Option.some.injEq] at h
   subst h
   have hr:=ZA hk hx
   refine ZZ.pure hs (u:=a.eval x) ?_ hr
   cases v with
   | lit v =>
    have:=hr.lit
    cases v <;> first | (simp [execOp,this]; done) | cases hn
   | ptr id i off=>unfold Rep at hr; obtain ⟨f,_,h2⟩:=hr; simp [execOp,h2]
   | fptr l i off=>unfold Rep at hr; obtain ⟨b,o,es,h2,_⟩:=hr; simp [execOp,h2]
   | fn f l=>unfold Rep at hr; obtain ⟨us,h2,_⟩:=hr; obtain ⟨g,l,c,e⟩:=zFP f us; rw [e] at h2; simp [execOp,h2,e]
   | yld id=>unfold Rep at hr; obtain ⟨f,_,h2⟩:=hr; simp [execOp,h2]
   | osl id i off=>unfold Rep at hr; obtain ⟨f,ad,_,h2,_⟩:=hr; simp [execOp,h2]
   | sl l=>unfold Rep at hr; obtain ⟨ad,cap,es,h2,_⟩:=hr; simp [execOp,h2]
   | _=>cases hn
 ·cases h
theorem yQ {k k':IntKind}:Jy k k'=true↔k=k':=by cases k <;> cases k' <;> simp [Jy]
theorem zHK {P:Program} {t:Nat} {op:BinOp} {k:IntKind} {p q:Int} {v:V} (h:intA op k p q=some v) (hns:op≠.shl∧op≠.shr) (w:World):∃ u,v = .lit u∧(∀ c,u≠.agg c)∧(binOp op t (.int k p) (.int k q)).run P w = .ok u w:=by
 have key:∀ u:Value,v = .lit u→(∀ c,u≠.agg c)→(binOp op t (.int k p) (.int k q)).run P w = .ok u w→∃ u,v = .lit u∧(∀ c,u≠.agg c)∧(binOp op t (.int k p) (.int k q)).run P w = .ok u w:=fun u h1 h2 h3=>⟨u,h1,h2,h3⟩
 cases op
 case shl=>exact absurd rfl hns.1
 case shr=>exact absurd rfl hns.2
 case quo =>
  simp only [intA] at h
  by_cases h0:q=0
  ·rw [if_pos h0] at h; cases h
  ·rw [if_neg h0] at h
   simp only [Option.some.injEq] at h
   exact key _ h.symm (fun c hc=>by cases hc) (by simp [binOp,Op.intDiv,h0])
 case rem =>
  simp only [intA] at h
  by_cases h0:q=0
  ·rw [if_pos h0] at h; cases h
  ·rw [if_neg h0] at h
   simp only [Option.some.injEq] at h
   exact key _ h.symm (fun c hc=>by cases hc) (by simp [binOp,Op.intDiv,h0])
 all_goals
  simp only [intA,Option.some.injEq] at h
  refine key _ h.symm (fun c hc=>by cases hc) ?_
  simp [binOp,Op.intArith,Op.intBits,Op.intCmp,BEq.beq,bne]
end
end Go.Am
namespace Go.Am
open Go Go.Wk
section
variable {C:Cfg} {I:Ij} {m:Mem} {H:List Blk} {w:World} {K:List (Nat×V)} {a:Act} {lo nid:Nat} {dst:Option Tmp} {ty:TypeId} {pos:String} {after:Array Edge} {g:Option (Nat×Bool)} {e:Eff}
theorem zDJ (hC:C.OK) {f:Nat→V→V→Option Bool} {D:Nat} {xs ys:List V} {us us':List Value} (hx:jv m I xs us) (hy:jv m I ys us')
  (IH:∀ t x y b u u',f t x y=some b→Rep m x I u→Rep m y I u'→(Op.equalIn D t u u').run C.P w = .ok b w) :
  ∀ {ps:List Fld} {fs:List Field} {b:Bool},zAF C.P ps fs→YR f (fun t off cs=>match C.ty t with | some T=>Jd T off cs | none=>none) xs ys ps=some b→(Op.eqFields D us.toArray us'.toArray fs).run C.P w = .ok b w
 | [],[],b,_,h=>by simp only [YR,Option.some.injEq] at h; subst h; simp [Op.eqFields]
 | p :: ps,fd :: fs,b,hf,h=>by
  simp only [YR] at h
  obtain ⟨h1,h2,h3,h4,h5,h6⟩:=hf
  cases hT:C.ty p.ty with
  | none=>rw [hT] at h; cases h
  | some T =>
   rw [hT] at h
   simp only at h
   cases hpx:Jd T p.off xs with
   | none=>rw [hpx] at h; cases h
   | some x =>
    cases hpy:Jd T p.off ys with
    | none=>rw [hpx,hpy] at h; cases h
    | some y =>
     rw [hpx,hpy] at h
     simp only at h
     have hTI:=hC.ty _ _ hT
     obtain ⟨u,h7,h8⟩:=QX hTI hx hpx
     obtain ⟨u',h9,h10⟩:=QX hTI hy hpy
     have r1:=qU hTI h8 w
     have r2:=qU hTI h10 w
     rw [← h4,← h1] at r1 r2
     cases hfe:f p.ty x y with
     | none=>rw [hfe] at h; cases h
     | some r =>
      rw [hfe] at h
      have r3:=IH _ _ _ _ _ _ hfe h7 h9
      rw [← h4] at r3
      simp only [Op.eqFields,h5,ne_eq,not_false_eq_true,if_true,Sem.run_bind,r1,r2,r3,Result.andThen_ok]
      cases r with
      | true=>simpa using zDJ hC hx hy IH h6 h
      | false=>simp only [Option.some.injEq] at h; subst h; simp
 | [],_ :: _,_,hf,_=>hf.elim
 | _ :: _,[],_,hf,_=>hf.elim
theorem zDK {f:V→V→Option Bool} {P:Program} {t es:Nat} {T:TI} (hT:TIOK P t T) {D:Nat} {xs ys:List V} {us us':List Value} (hx:jv m I xs us) (hy:jv m I ys us')
  (IH:∀ x y b u u',f x y=some b→Rep m x I u→Rep m y I u'→(Op.equalIn D t u u').run P w = .ok b w) :
  ∀ {n i:Nat} {b:Bool},qA f (fun off cs=>Jd T off cs) es xs ys n i=some b→(Op.eqItems D t es us.toArray us'.toArray (List.range' i n)).run P w = .ok b w
 | 0,i,b,h=>by simp only [qA,Option.some.injEq] at h; subst h; simp [Op.eqItems]
 | n+1,i,b,h=>by
  simp only [qA] at h
  cases hpx:Jd T (i*es) xs with
  | none=>rw [hpx] at h; cases h
  | some x =>
   cases hpy:Jd T (i*es) ys with
   | none=>rw [hpx,hpy] at h; cases h
   | some y =>
    rw [hpx,hpy] at h
    simp only at h
    obtain ⟨u,h7,h8⟩:=QX hT hx hpx
    obtain ⟨u',h9,h10⟩:=QX hT hy hpy
    have r1:=qU hT h8 w
    have r2:=qU hT h10 w
    cases hfe:f x y with
    | none=>rw [hfe] at h; cases h
    | some r =>
     rw [hfe] at h
     have r3:=IH _ _ _ _ _ hfe h7 h9
     simp only [List.range'_succ,Op.eqItems,Sem.run_bind,r1,r2,r3,Result.andThen_ok]
     cases r with
     | true=>simpa using zDK hT hx hy IH h
     | false=>simp only [Option.some.injEq] at h; subst h; simp
theorem zFS (hC:C.OK):∀ (d:Nat) (t:Nat) (x y:V) (b:Bool) (u u':Value),eqT C.ty d t x y=some b→Rep m x I u→Rep m y I u'→∀ D,(Op.equalIn (D+d) t u u').run C.P w = .ok b w
 | 0,t,x,y,b,u,u',h,_,_,_=>by cases h
 | d+1,t,x,y,b,u,u',h,hx,hy,D=>by
  simp only [eqT] at h
  cases hT:C.ty t with
  | none=>rw [hT] at h; cases h
  | some T =>
   rw [hT] at h
   simp only at h
   have hTI:=hC.ty _ _ hT
   have hkd:=hTI.kd
   split at h
   ·rename_i hk
    rw [hk] at hkd
    split at h
    ·rename_i he
     rw [yQ] at he
     subst he
     simp only [Option.some.injEq] at h
     subst h
     rw [hx.lit,hy.lit,show D+(d+1)=(D+d)+1 from rfl,run_equalIn_int _ _ _ _ _ _ _ hkd]; rfl
    ·cases h
   ·rename_i hk
    rw [hk] at hkd
    simp only [Option.some.injEq] at h
    subst h
    rw [hx.lit,hy.lit,show D+(d+1)=(D+d)+1 from rfl,run_equalIn_bool' _ _ _ _ _ hkd]
   ·rename_i ps xs ys hk
    rw [hk] at hkd
    obtain ⟨fs,hu,hf,hst,_⟩:=hkd
    unfold Rep at hx hy
    obtain ⟨us,rfl,h1,h2⟩:=hx
    obtain ⟨us',rfl,h3,h4⟩:=hy
    have hfs:C.P.fieldsOf t=fs:=by simp [Program.fieldsOf,hu]
    rw [show D+(d+1)=(D+d)+1 from rfl,run_equalIn_struct _ _ _ _ _ (by rw [hfs]; exact hu) hst,hfs]
    exact zDJ hC (f:=eqT C.ty d) ⟨h2,h1⟩ ⟨h4,h3⟩ (fun t x y b u u' hq hx hy=>zFS hC d t x y b u u' hq hx hy D) hf h
   ·rename_i n el es xs ys hk
    rw [hk] at hkd
    obtain ⟨hu,hes,_⟩:=hkd
    unfold Rep at hx hy
    obtain ⟨us,rfl,h1,h2⟩:=hx
    obtain ⟨us',rfl,h3,h4⟩:=hy
    cases hTe:C.ty el with
    | none =>
     rw [hTe] at h
     cases n with
     | zero =>
      simp only [qA,Option.some.injEq] at h
      subst h
      have:∃ i,C.P.info? el=some i:=by
       have:=hes w
       unfold Go.sizeOf typeInfo at this
       cases hq:C.P.info? el with
       | some i=>exact ⟨i,rfl⟩
       | none=>simp [hq,Sem.run,program,stuck] at this
      obtain ⟨i,hi⟩:=this
      rw [show D+(d+1)=(D+d)+1 from rfl,run_equalIn_array _ _ _ _ hu hi]
      simp [Op.eqItems]
     | succ n=>simp only [qA] at h; cases h
    | some Te =>
     rw [hTe] at h
     have hTe':=hC.ty _ _ hTe
     obtain ⟨i,hi,_,hsz,_⟩:=hTe'.get
     have hce:C.P.cellsOf el=es:=by
      have h5:=hes w
      have h6:=hTe'.size w
      rw [h5] at h6
      simp only [Result.ok.injEq,and_true] at h6
      unfold Program.cellsOf
      rw [hi]
      simp [hsz,h6]
     rw [show D+(d+1)=(D+d)+1 from rfl,run_equalIn_array _ _ _ _ hu hi,hce,List.range_eq_range']
     exact zDK (f:=eqT C.ty d el) hTe' ⟨h2,h1⟩ ⟨h4,h3⟩ (fun x y b u u' hq hx hy=>zFS hC d el x y b u u' hq hx hy D) h
   ·cases h
theorem Rep.zCD {v:V} {u:Value} (h:Rep m v I u) (hv:(∃ a b c,v = .ptr a b c)∨(∃ a b c,v = .fptr a b c)):∃ ad,u = .pointer (some ad):=by
 rcases hv with ⟨x,y,z,rfl⟩ | ⟨x,y,z,rfl⟩
 ·unfold Rep at h; obtain ⟨f,_,rfl⟩:=h; exact ⟨_,rfl⟩
 ·unfold Rep at h; obtain ⟨b,o,es,rfl,_⟩:=h; exact ⟨_,rfl⟩
theorem Rep.map_some {v:V} {u:Value} (h:Rep m v I u) (hv:(∃ a,v = .map a)∨(∃ a b,v = .fmap a b)):∃ b,u = .map (some b):=by
 rcases hv with ⟨x,rfl⟩ | ⟨x,y,rfl⟩
 ·unfold Rep at h; obtain ⟨f,_,rfl⟩:=h; exact ⟨_,rfl⟩
 ·unfold Rep at h; obtain ⟨b,es,es',c,rfl,_⟩:=h; exact ⟨_,rfl⟩
theorem zOf {P:Program} (d:Nat) {t el:Nat} (hu:P.underlying t=some (.pointer el)) (p:Option Addr):(Op.equalIn (d+1) t (.pointer none) (.pointer p)).run P w = .ok p.isNone w:=by
 simp [Op.equalIn,run_underlying hu]
theorem zIr {P:Program} {t el:Nat} (hu:P.underlying t=some (.pointer el)) (p:Option Addr):(Op.equal t (.pointer none) (.pointer p)).run P w = .ok p.isNone w:=zOf 9999 hu p
theorem zOe {P:Program} (d:Nat) {t el:Nat} (hu:P.underlying t=some (.pointer el)) (p:Addr):(Op.equalIn (d+1) t (.pointer (some p)) (.pointer none)).run P w = .ok false w:=by
 simp [Op.equalIn,run_underlying hu]
theorem zL9 {P:Program} {t el:Nat} (hu:P.underlying t=some (.pointer el)) (p:Addr):(Op.equal t (.pointer (some p)) (.pointer none)).run P w = .ok false w:=zOe 9999 hu p
theorem zOh {P:Program} (d:Nat) {t k el:Nat} (hu:P.underlying t=some (.map k el)) (p:Option Nat):(Op.equalIn (d+1) t (.map none) (.map p)).run P w = .ok p.isNone w:=by
 simp [Op.equalIn,run_underlying hu]
theorem zIs {P:Program} {t k el:Nat} (hu:P.underlying t=some (.map k el)) (p:Option Nat):(Op.equal t (.map none) (.map p)).run P w = .ok p.isNone w:=zOh 9999 hu p
theorem zOg {P:Program} (d:Nat) {t k el:Nat} (hu:P.underlying t=some (.map k el)) (p:Nat):(Op.equalIn (d+1) t (.map (some p)) (.map none)).run P w = .ok false w:=by
 simp [Op.equalIn,run_underlying hu]
theorem zMA {P:Program} {t k el:Nat} (hu:P.underlying t=some (.map k el)) (p:Nat):(Op.equal t (.map (some p)) (.map none)).run P w = .ok false w:=zOg 9999 hu p
theorem eq_fn0D {P:Program} (d:Nat) {t:Nat} {x y z} (hu:P.underlying t=some (.func x y z)):(Op.equalIn (d+1) t .nilFunc .nilFunc).run P w = .ok true w:=by
 simp [Op.equalIn,run_underlying hu]
theorem eq_fn0 {P:Program} {t:Nat} {x y z} (hu:P.underlying t=some (.func x y z)):(Op.equal t .nilFunc .nilFunc).run P w = .ok true w:=eq_fn0D 9999 hu
theorem eq_fn1D {P:Program} (d:Nat) {t:Nat} {x y z} (hu:P.underlying t=some (.func x y z)) {f:Fn} {l c:Array Value}:(Op.equalIn (d+1) t .nilFunc (.func f l c)).run P w = .ok false w:=by
 simp [Op.equalIn,run_underlying hu]
theorem eq_fn1 {P:Program} {t:Nat} {x y z} (hu:P.underlying t=some (.func x y z)) {f:Fn} {l c:Array Value}:(Op.equal t .nilFunc (.func f l c)).run P w = .ok false w:=eq_fn1D 9999 hu
theorem eq_fn2D {P:Program} (d:Nat) {t:Nat} {x y z} (hu:P.underlying t=some (.func x y z)) {f:Fn} {l c:Array Value}:(Op.equalIn (d+1) t (.func f l c) .nilFunc).run P w = .ok false w:=by
 simp [Op.equalIn,run_underlying hu]
theorem eq_fn2 {P:Program} {t:Nat} {x y z} (hu:P.underlying t=some (.func x y z)) {f:Fn} {l c:Array Value}:(Op.equal t (.func f l c) .nilFunc).run P w = .ok false w:=eq_fn2D 9999 hu
theorem zC5 (hC:C.OK) {t:Nat} {x y:V} {b:Bool} {u u':Value} (h:eqA C.ty t x y=some b) (hx:Rep m x I u) (hy:Rep m y I u'):(Op.equal t u u').run C.P w = .ok b w:=by
 unfold eqA at h
 cases hT:C.ty t with
 | none=>rw [hT] at h; cases h
 | some T =>
  rw [hT] at h
  simp only at h
  have hkd:=(hC.ty _ _ hT).kd
  split at h
  ·rename_i hk
   rw [hk] at hkd
   obtain ⟨el,hu⟩:=hkd
   unfold zKA at h
   split at h
   ·simp only [Option.some.injEq] at h; subst h
    rw [hx.lit,hy.lit]; exact zIr hu none
   ·simp only [Option.some.injEq] at h; subst h
    obtain ⟨ad,rfl⟩:=hy.zCD (.inl ⟨_,_,_,rfl⟩)
    rw [hx.lit]; exact zIr hu _
   ·simp only [Option.some.injEq] at h; subst h
    obtain ⟨ad,rfl⟩:=hy.zCD (.inr ⟨_,_,_,rfl⟩)
    rw [hx.lit]; exact zIr hu _
   ·simp only [Option.some.injEq] at h; subst h
    obtain ⟨ad,rfl⟩:=hx.zCD (.inl ⟨_,_,_,rfl⟩)
    rw [hy.lit]; exact zL9 hu _
   ·simp only [Option.some.injEq] at h; subst h
    obtain ⟨ad,rfl⟩:=hx.zCD (.inr ⟨_,_,_,rfl⟩)
    rw [hy.lit]; exact zL9 hu _
   ·cases h
  ·rename_i k' e' hk
   rw [hk] at hkd
   unfold zKB at h
   split at h
   ·simp only [Option.some.injEq] at h; subst h
    rw [hx.lit,hy.lit]; exact zIs hkd none
   ·simp only [Option.some.injEq] at h; subst h
    obtain ⟨ad,rfl⟩:=hy.map_some (.inl ⟨_,rfl⟩)
    rw [hx.lit]; exact zIs hkd _
   ·simp only [Option.some.injEq] at h; subst h
    obtain ⟨ad,rfl⟩:=hy.map_some (.inr ⟨_,_,rfl⟩)
    rw [hx.lit]; exact zIs hkd _
   ·simp only [Option.some.injEq] at h; subst h
    obtain ⟨ad,rfl⟩:=hx.map_some (.inl ⟨_,rfl⟩)
    rw [hy.lit]; exact zMA hkd _
   ·simp only [Option.some.injEq] at h; subst h
    obtain ⟨ad,rfl⟩:=hx.map_some (.inr ⟨_,_,rfl⟩)
    rw [hy.lit]; exact zMA hkd _
   ·cases h
  ·rename_i hk
   rw [hk] at hkd
   obtain ⟨q1,q2,q3,hu⟩:=hkd
   unfold eqFn at h
   split at h
   ·simp only [Option.some.injEq] at h; subst h
    rw [hx.lit,hy.lit]; exact eq_fn0 hu
   ·simp only [Option.some.injEq] at h; subst h
    unfold Rep at hy
    obtain ⟨us,rfl,_⟩:=hy
    obtain ⟨g,l,c,e⟩:=zFP _ us; rw [hx.lit,e]; exact eq_fn1 hu
   ·simp only [Option.some.injEq] at h; subst h
    unfold Rep at hx
    obtain ⟨us,rfl,_⟩:=hx
    obtain ⟨g,l,c,e⟩:=zFP _ us; rw [hy.lit,e]; exact eq_fn2 hu
   ·cases h
  ·exact zFS hC 6 t x y b u u' h hx hy 9994
theorem zHV {P:Program} {op:BinOp} {t:Nat} {k k':IntKind} {p q:Int} {v:V} (hop:op = .shl∨op = .shr) (h:zIN op k p q=some v):∃ u,v = .lit u∧(∀ c,u≠.agg c)∧(binOp op t (.int k p) (.int k' q)).run P w = .ok u w:=by
 unfold zIN at h
 split at h
 ·cases h
 ·rename_i hq
  rcases hop with rfl | rfl
  ·simp only [Option.some.injEq] at h
   refine ⟨_,h.symm,?_,?_⟩
   ·intro c hc; cases hc
   ·simp [binOp,Op.shift,hq]
  ·simp only [Option.some.injEq] at h
   refine ⟨_,h.symm,?_,?_⟩
   ·intro c hc; cases hc
   ·simp [binOp,Op.shift,hq]
theorem zG4 (hC:C.OK) {op:BinOp} {t:Nat} {x y:Operand} {u u':Value} {p q:V} (hx:Rep m p I u) (hy:Rep m q I u') (h:∀ b,eqA C.ty t p q=some b→True) (hq:op = .eql∨op = .neq→∃ b,eqA C.ty t p q=some b∨∃ k n,u = .int k n) :
  (eqGuard op t x y u u').run C.P w = .ok () w:=by
 by_cases hop:op = .eql∨op = .neq
 ·obtain ⟨b,hb⟩:=hq hop
  have hagg:∀ cs cs',u = .agg cs→u' = .agg cs'→C.P.eqGuardType C.P.depth t=false:=by
   rintro cs cs' rfl rfl
   rcases hb with hb | ⟨k,n,hb⟩
   ·unfold eqA at hb
    cases hT:C.ty t with
    | none=>rw [hT] at hb; cases hb
    | some T =>
     rw [hT] at hb
     have hkd:=(hC.ty _ _ hT).kd
     simp only [eqT,hT] at hb
     split at hb
     ·unfold zKA at hb; split at hb <;> first | (have:=hx.lit; cases this; done) | (have:=hy.lit; cases this; done) | cases hb
     ·unfold zKB at hb; split at hb <;> first | (have:=hx.lit; cases this; done) | (have:=hy.lit; cases this; done) | cases hb
     ·unfold eqFn at hb; split at hb <;> first | (have:=hx.lit; cases this; done) | (have:=hy.lit; cases this; done) | cases hb
     ·split at hb
      ·have:=hx.lit; cases this
      ·have:=hx.lit; cases this
      ·rename_i hk; rw [hk] at hkd; obtain ⟨_,_,_,_,h5⟩:=hkd; exact h5
      ·rename_i hk; rw [hk] at hkd; exact hkd.2.2
      ·cases hb
   ·cases hb
  have hni:∀ b',u = .nilIface→u' = .nilIface→b'=b→False:=by
   rintro b' rfl rfl _
   rcases hb with hb | ⟨k,n,hb⟩
   ·unfold eqA at hb
    cases hT:C.ty t with
    | none=>rw [hT] at hb; cases hb
    | some T =>
     rw [hT] at hb
     simp only [eqT,hT] at hb
     split at hb
     ·unfold zKA at hb; split at hb <;> first | (have:=hx.lit; cases this; done) | (have:=hy.lit; cases this; done) | cases hb
     ·unfold zKB at hb; split at hb <;> first | (have:=hx.lit; cases this; done) | (have:=hy.lit; cases this; done) | cases hb
     ·unfold eqFn at hb; split at hb <;> first | (have:=hx.lit; cases this; done) | (have:=hy.lit; cases this; done) | cases hb
     ·split at hb
      ·have:=hx.lit; cases this
      ·have:=hx.lit; cases this
      ·unfold Rep at hx; obtain ⟨us,h1,_⟩:=hx; cases h1
      ·unfold Rep at hx; obtain ⟨us,h1,_⟩:=hx; cases h1
      ·cases hb
   ·cases hb
  have hop':(!(match op with | .eql=>true | .neq=>true | _=>false))=false:=by rcases hop with rfl | rfl <;> rfl
  unfold eqGuard
  rcases hop with rfl | rfl
  all_goals
   simp only [Bool.not_true,Bool.false_eq_true,if_false]
   split
   ·exact (hni b rfl rfl rfl).elim
   ·simp [run_program,hagg _ _ rfl rfl]
   ·simp
 ·cases op <;> first | (exact absurd (.inl rfl) hop) | (exact absurd (.inr rfl) hop) | simp [eqGuard]
end
end Go.Am
namespace Go.Am
open Go Go.Wk
section
variable {C:Cfg} {I:Ij} {m:Mem} {H:List Blk} {w:World} {K:List (Nat×V)} {a:Act} {lo nid:Nat} {dst:Option Tmp} {ty:TypeId} {pos:String} {after:Array Edge} {g:Option (Nat×Bool)} {e:Eff}
theorem zKC {P:Program} {op:BinOp} {t:Nat} {x y:Operand} {k k':IntKind} {p q:Int}:(eqGuard op t x y (.int k p) (.int k' q)).run P w = .ok () w:=by
 cases op <;> simp [eqGuard]
def zG5 : Value→Bool
 | .agg _=>true
 | .pointer _=>true
 | .map _=>true
 | .func .. => true
 | .nilFunc=>true
 | .bool _=>true
 | _=>false
theorem binOp_eql {t:Nat} {u u':Value} (h:zG5 u=true):binOp .eql t u u'=(do pure (.bool (← Op.equal t u u'))):=by
 cases u <;> first | (cases u' <;> rfl) | cases h
theorem binOp_neq {t:Nat} {u u':Value} (h:zG5 u=true):binOp .neq t u u'=(do pure (.bool (!(← Op.equal t u u')))):=by
 cases u <;> first | (cases u' <;> rfl) | cases h
theorem zKD {t:Nat} {p q:V} {b:Bool} {u:Value} (h:eqA C.ty t p q=some b) (hx:Rep m p I u) (hn:∀ k i k' j,p = .lit (.int k i)→q = .lit (.int k' j)→False):zG5 u=true:=by
 unfold eqA at h
 cases hT:C.ty t with
 | none=>rw [hT] at h; cases h
 | some T =>
  rw [hT] at h
  simp only [eqT,hT] at h
  have hp:(∃ a b c,p = .ptr a b c)∨(∃ a b c,p = .fptr a b c)→zG5 u=true:=fun hv=>by obtain ⟨ad,rfl⟩:=hx.zCD hv; rfl
  have hm:(∃ a,p = .map a)∨(∃ a b,p = .fmap a b)→zG5 u=true:=fun hv=>by obtain ⟨ad,rfl⟩:=hx.map_some hv; rfl
  split at h
  ·unfold zKA at h
   split at h <;> first | (rw [hx.lit]; rfl) | exact hp (.inl ⟨_,_,_,rfl⟩) | exact hp (.inr ⟨_,_,_,rfl⟩) | cases h
  ·unfold zKB at h
   split at h <;> first | (rw [hx.lit]; rfl) | exact hm (.inl ⟨_,rfl⟩) | exact hm (.inr ⟨_,_,rfl⟩) | cases h
  ·unfold eqFn at h
   split at h <;> first | (rw [hx.lit]; rfl) | (unfold Rep at hx; obtain ⟨us,rfl,_⟩:=hx; obtain ⟨g,l,c,e⟩:=zFP _ us; rw [e]; rfl) | cases h
  ·split at h
   ·exact (hn _ _ _ _ rfl rfl).elim
   ·rw [hx.lit]; rfl
   ·unfold Rep at hx; obtain ⟨us,rfl,_⟩:=hx; rfl
   ·unfold Rep at hx; obtain ⟨us,rfl,_⟩:=hx; rfl
   ·cases h
theorem op_bin (hC:C.OK) (hs:Sim I m H w) (hk:Slots m I K a.tmps) {op:BinOp} {t t2:Nat} {x y:Operand} (h:YF C K op t x y=some e):ZZ C.P ⟨dst,.binOp op t x y t2,ty,pos,after,g⟩ a I m H lo w e.v (puts H e.wr):=by
 unfold YF at h
 split at h
 ·rename_i p q hp hq
  obtain ⟨h1,h2⟩:=YX h
  rw [h2]
  have hx:=ZA hk hp
  have hy:=ZA hk hq
  have key:∀ {k k':IntKind} {i j:Int},a.eval x = .int k i→a.eval y = .int k' j→(∃ u,e.v = .lit u∧(∀ c,u≠.agg c)∧(binOp op t (.int k i) (.int k' j)).run C.P w = .ok u w)→ZZ C.P ⟨dst,.binOp op t x y t2,ty,pos,after,g⟩ a I m H lo w e.v (puts H []):=by
   rintro k k' i j e1 e2 ⟨u,e3,e4,e5⟩
   refine ZZ.pure hs (u:=u) ?_ (by rw [e3]; exact Rep.zBR e4)
   simp [execOp,e1,e2,zKC,e5]
  unfold binA at h1
  split at h1
  ·exact key hx.lit hy.lit (zHV (.inl rfl) h1)
  ·exact key hx.lit hy.lit (zHV (.inr rfl) h1)
  ·rename_i hns1 hns2
   split at h1
   ·rename_i he
    rw [yQ] at he
    subst he
    refine key hx.lit hy.lit (zHK h1 ⟨?_,?_⟩ w)
    ·rintro rfl; exact hns1 rfl
    ·rintro rfl; exact hns2 rfl
   ·cases h1
  ·rename_i hni
   simp only [Option.map_eq_some_iff] at h1
   obtain ⟨b,h3,h4⟩:=h1
   have r:=zC5 (w:=w) hC h3 hx hy
   refine ZZ.pure hs (u:=.bool b) ?_ (by rw [← h4]; exact Rep.bool)
   have gg:=zG4 (w:=w) (x:=x) (y:=y) hC hx hy (fun _ _=>trivial) (fun _=>⟨b,.inl h3⟩) (op:=.eql)
   have hf:=zKD h3 hx (fun k i k' j h1 h2=>hni k i k' j h1 h2)
   simp [execOp,gg,binOp_eql hf,r]
  ·rename_i hni
   simp only [Option.map_eq_some_iff] at h1
   obtain ⟨b,h3,h4⟩:=h1
   have r:=zC5 (w:=w) hC h3 hx hy
   refine ZZ.pure hs (u:=.bool (!b)) ?_ (by rw [← h4]; exact Rep.bool)
   have gg:=zG4 (w:=w) (x:=x) (y:=y) hC hx hy (fun _ _=>trivial) (fun _=>⟨b,.inl h3⟩) (op:=.neq)
   have hf:=zKD h3 hx (fun k i k' j h1 h2=>hni k i k' j h1 h2)
   simp [execOp,gg,binOp_neq hf,r]
  ·cases h1
 ·cases h
theorem op_un (hs:Sim I m H w) (hk:Slots m I K a.tmps) {op:UnOp} {t:Nat} {x:Operand} (h:zKE K op x=some e):ZZ C.P ⟨dst,.unOp op t x,ty,pos,after,g⟩ a I m H lo w e.v (puts H e.wr):=by
 unfold zKE at h
 split at h
 ·rename_i p hp
  obtain ⟨h1,h2⟩:=YX h
  rw [h2]
  have hx:=ZA hk hp
  unfold unA at h1
  split at h1
  ·simp only [Option.some.injEq] at h1
   rw [← h1]
   exact ZZ.pure hs (by simp [execOp,hx.lit,Op.unary,Op.intArith]) Rep.int
  ·simp only [Option.some.injEq] at h1
   rw [← h1]
   exact ZZ.pure hs (by simp [execOp,hx.lit,Op.unary,Op.intBits]) Rep.int
  ·simp only [Option.some.injEq] at h1
   rw [← h1]
   exact ZZ.pure hs (by simp [execOp,hx.lit,Op.unary]) Rep.bool
  ·cases h1
 ·cases h
theorem YO {id:Nat} {es:Nat} {l:List V} (h:hget H id = .rows es l):Am.get H id=some (.rows es l):=by
 unfold hget at h
 cases hq:Am.get H id with
 | none=>rw [hq] at h; cases h
 | some B=>rw [hq] at h; simp only at h; rw [h]
theorem JN {id:Nat} {B:Blk} (h:hget H id=B) (hl:B.live=true):Am.get H id=some B:=by
 unfold hget at h
 cases hq:Am.get H id with
 | none=>rw [hq] at h; subst h; cases hl
 | some B' => rw [hq] at h; simp only at h; rw [h]
theorem Sim.row (hs:Sim I m H w) {id es i:Nat} {l:List V} {v:V} (h:Am.get H id=some (.rows es l)) (hv:l[i]? = some v) :
  ∃ f c ty u,I id=some f∧f.es=es∧w.heap[f.b]? = some (.cells c ty (0,0))∧Rep m v I u∧zEr c (f.o+i*es) es u:=by
 obtain ⟨f,h1,h0,c,ty,h2,h3,h4,h5,h6,h7⟩:=hs.blk id _ h rfl
 obtain ⟨u,h8,h9⟩:=h7 i v hv
 exact ⟨f,c,ty,u,h1,h0,h2,h8,h9⟩
theorem zI1 {c:Array Value} {ty':TypeId} {fz:Nat×Nat} {p es b:Nat} {u:Value} (hw:w.heap[b]? = some (.cells c ty' fz)) (h:zEr c p es u):∀ j x,u.cells[j]? = some x→w.cell? ⟨b,p+j,none⟩=some x:=by
 intro j x hx
 rw [YT]
 unfold Mem.cell wmem
 rw [hw]
 exact (h.2 j x hx).2
theorem at_cell (hm:m.Le (wmem w)) {p es b:Nat} {u:Value} (h:At m b p es u):∀ j x,u.cells[j]? = some x→w.cell? ⟨b,p+j,none⟩=some x:=by
 intro j x hx
 rw [YT]
 exact hm.cell (h.2 j x hx).2
theorem Rep.cellsRep' {v:V} {u:Value} (h:Rep m v I u) (hone:∀ x∈u.cells,x.oneCell'=true):jv m I v.cells u.cells.toList:=by
 refine ⟨?_,fun x hx=>hone x (by simpa using hx)⟩
 cases v with
 | agg l=>unfold Rep at h; obtain ⟨us,rfl,_,h2⟩:=h; simpa [V.cells,Value.cells] using h2
 | tup l =>
  unfold Rep at h
  obtain ⟨us,rfl,h2⟩:=h
  have:=hone (.tuple us.toArray) (by simp [Value.cells])
  cases this
 | lit v =>
  cases hv:(V.lit v).one with
  | true=>exact (h.zBC (by simp [V.ok,hv])).1
  | false =>
   have h1:=h
   unfold Rep at h1
   obtain ⟨rfl,h2⟩:=h1
   cases u <;> first | (cases hv; done) | skip
   ·exact absurd rfl (h2 _)
   ·rename_i vs
    have:=hone (.tuple vs) (by simp [Value.cells])
    cases this
 | _=>exact (h.zBC (by rfl)).1
theorem zDz {P:Program} {t:Nat} {T:TI} (hT:TIOK P t T) {b p off:Nat} {u u':Value} (hcell:∀ j x,u.cells[j]? = some x→w.cell? ⟨b,p+j,none⟩=some x)
  (h:if T.agg then u' = .agg ((u.cells.toList.drop off).take T.size).toArray∧off+T.size≤u.cells.toList.length else u.cells.toList[off]? = some u') :
  (loadVar t ⟨b,p+off,none⟩).run P w = .ok u' w:=by
 split at h
 ·rename_i ha
  obtain ⟨rfl,h2⟩:=h
  have:=run_loadCells_list (P:=P) w ⟨b,p+off,none⟩ ((u.cells.toList.drop off).take T.size) (fun j v hj=>by
   rw [List.getElem?_take] at hj
   split at hj
   ·rw [List.getElem?_drop] at hj
    rw [Addr.Qr,Nat.add_assoc]
    exact hcell _ _ (by simpa using hj)
   ·cases hj)
  have hl:((u.cells.toList.drop off).take T.size).length=T.size:=by simp at h2 ⊢; omega
  rw [hl] at this
  simp [loadVar,hT.agg,ha,hT.size,this]
 ·rename_i ha
  have:=hcell off u' (by simpa using h)
  simp [loadVar,hT.agg,ha,run_load,this]
theorem zFf {P:Program} {t:Nat} {T:TI} (hT:TIOK P t T) (hs:Sim I m H w) {x:V} {u:Value} {p:V×List Nat} (hx:Rep m x I u) (h:zAO H T x=some p) :
  ∃ ad u',u = .pointer (some ad)∧(loadVar t ad).run P w = .ok u' w∧Rep m p.1 I u':=by
 unfold zAO at h
 split at h
 ·rename_i id i off
  split at h
  ·rename_i es l hb
   split at h
   ·rename_i r hr
    simp only [Option.map_eq_some_iff] at h
    obtain ⟨v,h1,rfl⟩:=h
    rw [zP] at hr
    obtain ⟨f,c,ty',ur,e1,e2,e3,e4,e5⟩:=hs.row (YO hb) hr
    have hone:∀ x∈ur.cells,x.oneCell'=true:=fun x hx=>by
     obtain ⟨j,hj⟩:=Array.mem_iff_getElem?.1 hx
     exact (e5.2 j x hj).1
    obtain ⟨u',h2,h3⟩:=QX hT (e4.cellsRep' hone) h1
    unfold Rep at hx
    obtain ⟨f',h4,rfl⟩:=hx
    rw [e1] at h4
    cases h4
    exact ⟨_,u',rfl,by rw [e2]; exact zDz hT (zI1 e3 e5) h3,h2⟩
   ·cases h
  ·cases h
 ·rename_i l i off
  split at h
  ·rename_i r hr
   simp only [Option.map_eq_some_iff] at h
   obtain ⟨v,h1,rfl⟩:=h
   rw [zP] at hr
   unfold Rep at hx
   obtain ⟨b,o,es,rfl,h4⟩:=hx
   obtain ⟨ur,e4,e5⟩:=h4.get hr
   have hone:∀ x∈ur.cells,x.oneCell'=true:=fun x hx=>by
    obtain ⟨j,hj⟩:=Array.mem_iff_getElem?.1 hx
    exact (e5.2 j x hj).1
   obtain ⟨u',h2,h3⟩:=QX hT (e4.cellsRep' hone) h1
   exact ⟨_,u',rfl,zDz hT (at_cell hs.sub e5) h3,Rep.mono (fun _ _ h=>h) _ (Ij.Qg I) h2⟩
  ·cases h
 ·cases h
theorem op_load (hC:C.OK) (hs:Sim I m H w) (hk:Slots m I K a.tmps) {t:Nat} {x:Operand} (h:QH C K H t x=some e):ZZ C.P ⟨dst,.load t x,ty,pos,after,g⟩ a I m H lo w e.v (puts H e.wr):=by
 unfold QH at h
 split at h
 ·rename_i T v hT hx
  split at h
  ·rename_i p hp
   simp only [Option.some.injEq] at h
   subst h
   obtain ⟨ad,u',h1,h2,h3⟩:=zFf (hC.ty _ _ hT) hs (ZA hk hx) hp
   exact ZZ.pure hs (u:=u') (by simp [execOp,h1,Instr.loadAt,Instr.sureAddr,h2]) h3
  ·cases h
 ·cases h
end
end Go.Am
