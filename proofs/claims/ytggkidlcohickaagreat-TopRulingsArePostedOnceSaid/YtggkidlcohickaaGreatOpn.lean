/- Arguments as they are read: plain things that the abstract machine knows. Conditions: none. -/
import Derived.Test.YtggkidlcohickaaGreatX
import Derived.WalkKit
import Derived.ProofKit
import Derived.OpenShut
import Derived.ChangeOld
import Derived.Below
set_option linter.unusedVariables false
set_option linter.unusedSimpArgs false
namespace Go.Am
open Go Go.Wk Go.RowKit Go.Mx Go.ChangeShapes Go.WideShapes
def OpnC (P:Program) (t:Nat) (α:Type) (c:α→List V) (ok:α→Prop):Prop :=
 ∀ (H:Type) (enc:TypeId×Value→H) (W:World) (fuel:Nat) (cs:List Value) (x:DataW H×List MemPlace),DataW.trod enc P W 0 (fun _=>true) true fuel t cs=some x →
  ∃ a:α,ok a∧RepL (wmem W) (c a) Ij.none cs∧∀ u∈cs,u.oneCell'=true
section
variable {P:Program}
theorem zMw {u:Value} (h:u.oneCell'=true):u.cells = #[u]:=by cases u <;> first | rfl | (cases h)
theorem zCq {t:Nat} {k:IntKind} (ht:P.underlying t=some (.int k)):OpnC P t Int (fun n=>[.lit (.int k n)]) (fun n=>k.min≤n∧n≤k.max):=by
 intro H enc W fuel cs x h
 obtain ⟨n,rfl,_,hw⟩:=DataW.trod_int ht h
 refine ⟨n,by simpa [Lit.wf] using hw,?_,?_⟩
 ·unfold RepL; refine ⟨_,[],rfl,?_,by unfold RepL; rfl⟩
  unfold Rep; exact ⟨rfl,fun c h=>by cases h⟩
 ·intro u hu; simp only [List.mem_singleton] at hu; subst hu; rfl
theorem OpnC.map {t:Nat} {α β:Type} {c:α→List V} {ok:α→Prop} {c':β→List V} {ok':β→Prop} (g:α→β) (h:OpnC P t α c ok) (hc:∀ a,c' (g a)=c a) (hok:∀ a,ok a→ok' (g a)):OpnC P t β c' ok':=by
 intro H enc W fuel cs x hx
 obtain ⟨a,h1,h2,h3⟩:=h H enc W fuel cs x hx
 exact ⟨g a,hok a h1,by rw [hc]; exact h2,h3⟩
def RowV {α:Type} (f:α→V) (c:α→List V):Prop:=(∀ a,f a = .agg (c a))∨(∀ a,c a=[f a])
theorem zNZ {α:Type} {f:α→V} {c:α→List V} (hf:RowV f c) {m:Mem} {a:α} {cs:List Value} (hr:RepL m (c a) Ij.none cs) (h1:∀ u∈cs,u.oneCell'=true):∃ u,Rep m (f a) Ij.none u∧u.cells=cs.toArray:=by
 rcases hf with hf | hf
 ·refine ⟨.agg cs.toArray,?_,rfl⟩
  rw [hf]
  unfold Rep
  exact ⟨cs,rfl,h1,hr⟩
 ·rw [hf] at hr
  unfold RepL at hr
  obtain ⟨u,us,rfl,h2,h3⟩:=hr
  unfold RepL at h3
  subst h3
  exact ⟨u,h2,zMw (h1 u (by simp))⟩
theorem zGK {α:Type} {f:α→V} {m:Mem} {b es:Nat}:∀ (l:List α) (o:Nat),(∀ i a,l[i]? = some a→∃ u,Rep m (f a) Ij.none u∧At m b (o+i*es) es u)→Zq m (l.map f) Ij.none b o es
 | [],o,_=>by simp only [List.map_nil]; unfold Zq; trivial
 | x :: r,o,h=>by
  simp only [List.map_cons]
  unfold Zq
  refine ⟨by simpa using h 0 x (by simp),zGK r (o+es) fun i a hi=>?_⟩
  have:=h (i+1) a (by simpa using hi)
  rwa [show o+(i+1)*es=o+es+i*es by rw [Nat.add_mul,Nat.one_mul]; omega] at this
theorem zFq {α β:Type} {R:β→α→Prop}:∀ (l:List β),(∀ b∈l,∃ a,R b a)→∃ r:List α,r.length=l.length∧∀ (i:Nat) (b:β),l[i]? = some b→∃ a,r[i]? = some a∧R b a
 | [],_=>⟨[],rfl,fun i b h=>by simp at h⟩
 | x :: l,h=>by
  obtain ⟨a,ha⟩:=h x List.mem_cons_self
  obtain ⟨r,h1,h2⟩:=zFq l fun b hb=>h b (List.mem_cons_of_mem _ hb)
  refine ⟨a :: r,by simp [h1],fun i b hb=>?_⟩
  cases i with
  | zero=>simp only [List.getElem?_cons_zero,Option.some.injEq] at hb; subst hb; exact ⟨a,by simp,ha⟩
  | succ i=>simpa using h2 i b (by simpa using hb)
theorem zMs {t e es:Nat} {α:Type} {c:α→List V} {ok:α→Prop} {f:α→V} (ht:P.underlying t=some (.slice e)) (hes:P.cellsOf e=es) (hpos:0<es) (he:OpnC P e α c ok) (hf:RowV f c):OpnC P t (List α) (fun l=>[.sl (l.map f)]) (fun l=>l.length≤maxLen∧∀ a∈l,ok a):=by
 intro H enc W fuel cs x h
 cases fuel with
 | zero=>simp [DataW.trod] at h
 | succ fuel =>
  unfold DataW.trod at h
  rw [ht] at h
  split at h <;> try (simp at *; done)
  ·rename_i e' hu
   refine ⟨[],⟨by simp,by simp⟩,?_,?_⟩
   ·unfold RepL; refine ⟨_,[],rfl,?_,by unfold RepL; rfl⟩
    simp only [List.map_nil]
    unfold Rep; exact ⟨none,0,0,by simp,by simp,fun h=>absurd rfl h⟩
   ·intro u hu; simp only [List.mem_singleton] at hu; subst hu; rfl
  ·rename_i e' a len cap hu
   simp only [Option.some.injEq,TypeDesc.slice.injEq] at hu
   subst hu
   simp only [hes] at h
   split at h
   ·rename_i hc
    obtain ⟨_,hlc,hcm⟩:=hc
    rw [Option.bind_eq_some_iff] at h
    obtain ⟨elems,h1,h2⟩:=h
    -- each element
    have key:∀ i,i<len→∃ (row:List Value) (y:DataW H×List MemPlace),W.cells? 0 (a.add (i*es)) es=some row∧DataW.trod enc P W 0 (fun _=>true) true fuel e row=some y:=by
     intro i hi
     have hl:=mapM_some_length h1
     have:=mapM_some_get h1 i i (by simp [hi])
     have hlt:i<elems.length:=by rw [hl]; simpa using hi
     rw [List.getElem?_eq_getElem hlt,Option.bind_eq_some_iff] at this
     obtain ⟨row,q1,q2⟩:=this
     exact ⟨row,_,q1,q2⟩
    obtain ⟨xs,hx1,hx2⟩:=zFq (R:=fun i b => ∃ row:List Value,W.cells? 0 (a.add (i*es)) es=some row∧ok b∧RepL (wmem W) (c b) Ij.none row∧∀ u∈row,u.oneCell'=true) (List.range len) (fun i hi=>by
     obtain ⟨row,y,q1,q2⟩:=key i (by simpa using hi)
     obtain ⟨b,g1,g2,g3⟩:=he H enc W fuel row y q2
     exact ⟨b,row,q1,g1,g2,g3⟩)
    have hlen:xs.length=len:=by simpa using hx1
    refine ⟨xs,⟨by omega,fun b hb=>?_⟩,?_,?_⟩
    ·obtain ⟨i,hi,hb⟩:=List.getElem_of_mem hb
     obtain ⟨b',q1,row,_,q2,_⟩:=hx2 i i (by rw [List.getElem?_range (by omega)])
     rw [List.getElem?_eq_getElem hi] at q1
     simp only [Option.some.injEq] at q1
     rw [hb] at q1
     subst q1
     exact q2
    ·unfold RepL; refine ⟨_,[],rfl,?_,by unfold RepL; rfl⟩
     unfold Rep
     refine ⟨some a,cap,es,by simp [hlen],by simp [hlen,hlc],fun hne=>?_⟩
     have hlen0:0<len:=by
      rcases Nat.eq_zero_or_pos len with h0 | h0
      ·rw [h0] at hlen
       exact absurd (by rw [List.eq_nil_of_length_eq_zero hlen]; rfl) hne
      ·exact h0
     have hspot:a.spot=none:=by
      obtain ⟨row,y,q1,_⟩:=key 0 hlen0
      obtain ⟨_,q2,q3⟩:=World.cells?_some q1
      have q4:=q3 0 hpos
      rw [List.getElem?_eq_getElem (by omega)] at q4
      simp [Addr.add] at q4
      exact World.cell?_spot q4
     obtain ⟨b,o,sp⟩:=a
     simp only at hspot
     subst hspot
     refine ⟨b,o,rfl,zGK xs o fun i x hi=>?_⟩
     have hil:i<len:=by have:=(List.getElem?_eq_some_iff.1 hi).1; omega
     obtain ⟨b',q1,row,q2,_,q3,q4⟩:=hx2 i i (by rw [List.getElem?_range (by omega)])
     rw [hi] at q1
     simp only [Option.some.injEq] at q1
     subst q1
     obtain ⟨u,g1,g2⟩:=zNZ hf q3 q4
     obtain ⟨_,q5,q6⟩:=World.cells?_some q2
     refine ⟨u,g1,by rw [g2]; simpa using q5,fun j y hj=>?_⟩
     rw [g2] at hj
     simp only [List.getElem?_toArray] at hj
     have hjl:=(List.getElem?_eq_some_iff.1 hj).1
     refine ⟨q4 y (List.mem_of_getElem? hj),?_⟩
     have q7:=q6 j (by omega)
     rw [hj] at q7
     have e1:(Addr.add (Addr.add ⟨b,o,none⟩ (i*es)) j)=⟨b,o+i*es+j,none⟩:=by
      unfold Addr.add
      by_cases h1:i*es=0 <;> by_cases h2:j=0 <;> simp [h1,h2]
     rw [e1] at q7
     unfold World.cell? at q7
     unfold Mem.cell wmem
     simp only at q7 ⊢
     split at q7
     ·rename_i hq; rw [hq]; simpa using q7
     ·cases q7
    ·intro u hu; simp only [List.mem_singleton] at hu; subst hu; rfl
   ·simp at h
def OpnF (P:Program) (off:Nat) (fs:List Field) (n:Nat) (α:Type) (c:α→List V) (ok:α→Prop):Prop :=
 ∀ (H:Type) (enc:TypeId×Value→H) (W:World) (fuel:Nat) (cs:List Value) (xs:List (DataW H×List MemPlace)),cs.length=n→fs.mapM (fun f=>DataW.trod enc P W 0 (fun _=>true) true fuel f.type ((cs.drop f.offset).take (P.cellsOf f.type)))=some xs →
  ∃ a:α,ok a∧RepL (wmem W) (c a) Ij.none (cs.drop off)∧∀ u∈cs.drop off,u.oneCell'=true
theorem zJW {n:Nat}:OpnF P n [] n Unit (fun _=>[]) (fun _=>True):=by
 intro H enc W fuel cs xs hl h
 rw [List.drop_eq_nil_of_le (by omega)]
 exact ⟨(),trivial,by unfold RepL; rfl,fun u hu=>by cases hu⟩
theorem qI {off sz n:Nat} {f:Field} {fs:List Field} {α β:Type} {c:α→List V} {ok:α→Prop} {c':β→List V} {ok':β→Prop} (ho:f.offset=off) (hs:P.cellsOf f.type=sz) (h1:OpnC P f.type α c ok) (h2:OpnF P (off+sz) fs n β c' ok'):OpnF P off (f :: fs) n (α×β) (fun x=>c x.1++c' x.2) (fun x=>ok x.1∧ok' x.2):=by
 intro H enc W fuel cs xs hl h
 rw [List.mapM_cons] at h
 simp only [Option.bind_eq_bind,Option.bind_eq_some_iff] at h
 obtain ⟨x,q1,ys,q2,_⟩:=h
 rw [ho,hs] at q1
 obtain ⟨a,g1,g2,g3⟩:=h1 H enc W fuel _ x q1
 obtain ⟨b,k1,k2,k3⟩:=h2 H enc W fuel cs ys hl q2
 have e:cs.drop off=(cs.drop off).take sz++cs.drop (off+sz):=by
  rw [← List.drop_drop]; exact (List.take_append_drop _ _).symm
 refine ⟨(a,b),⟨g1,k1⟩,?_,fun u hu=>?_⟩
 ·rw [e]; exact RepL.append g2 k2
 ·rw [e,List.mem_append] at hu
  rcases hu with hu | hu
  ·exact g3 u hu
  ·exact k3 u hu
theorem zGS {t n:Nat} {fs:Array Field} {α:Type} {c:α→List V} {ok:α→Prop} (ht:P.underlying t=some (.struct fs)) (hn:P.cellsOf t=n) (h:OpnF P 0 fs.toList n α c ok):OpnC P t α c ok:=by
 intro H enc W fuel cs x hx
 cases fuel with
 | zero=>simp [DataW.trod] at hx
 | succ fuel =>
  unfold DataW.trod at hx
  rw [ht] at hx
  simp only [hn] at hx
  split at hx
  ·rename_i hl
   rw [Option.map_eq_some_iff] at hx
   obtain ⟨xs,h1,_⟩:=hx
   simpa using h H enc W fuel cs xs hl h1
  ·cases hx
theorem zMJ {W:World} {k:IntKind} {n:Int}:Rep (wmem W) (.lit (.int k n)) Ij.none (.int k n):=by unfold Rep; exact ⟨rfl,fun c h=>by cases h⟩
theorem zLT {H:Type} {enc:TypeId×Value→H} {W:World} {t:Nat} {fs:Array Field} {α:Type} {c:α→List V} {ok:α→Prop} (ht:P.underlying t=some (.struct fs)) (ho:OpnC P t α c ok) {v:Value} {d:DataW H} {p:List MemPlace} (hv:Value.okWide P W .any 0 t v∨∃ b,Value.okWide P W .any b t v) (h:DataW.Trod enc P W 0 (fun _=>true) true t v d p):∃ a:α,ok a∧Rep (wmem W) (.agg (c a)) Ij.none v:=by
 have hv':∃ b,Value.okWide P W .any b t v:=by rcases hv with h | h; exact ⟨0,h⟩; exact h
 obtain ⟨b,hv⟩:=hv'
 unfold Value.okWide at hv
 rw [ht] at hv
 obtain ⟨cs,rfl,_⟩:=hv
 obtain ⟨fuel,h⟩:=h
 obtain ⟨a,h1,h2,h3⟩:=ho H enc W fuel _ _ h
 refine ⟨a,h1,?_⟩
 unfold Rep
 exact ⟨cs.toList,by simp,fun x hx=>h3 x hx,h2⟩
theorem zNK {H:Type} {enc:TypeId×Value→H} {W:World} {t e b:Nat} {α:Type} {f:α→V} {ok:List α→Prop} (ht:P.underlying t=some (.slice e)) (ho:OpnC P t (List α) (fun l=>[.sl (l.map f)]) ok) {v:Value} {d:DataW H} {p:List MemPlace} (hv:Value.okWide P W .any b t v) (h:DataW.Trod enc P W 0 (fun _=>true) true t v d p):∃ a:List α,ok a∧Rep (wmem W) (.sl (a.map f)) Ij.none v:=by
 obtain ⟨x,len,cap,rfl⟩:=okWide_slice ht hv
 obtain ⟨fuel,h⟩:=h
 obtain ⟨a,h1,h2,h3⟩:=ho H enc W fuel _ _ h
 refine ⟨a,h1,?_⟩
 unfold RepL at h2
 obtain ⟨u,us,e,h4,_⟩:=h2
 simp only [Value.cells,List.cons.injEq] at e
 rw [← e.1] at h4
 exact h4
theorem zNa {m:Mem}:RepL m [] Ij.none []:=by unfold RepL; rfl
theorem zCm {m:Mem} {v:V} {l:List V} {u:Value} {us:List Value} (h:Rep m v Ij.none u) (h2:RepL m l Ij.none us):RepL m (v :: l) Ij.none (u :: us):=by unfold RepL; exact ⟨u,us,rfl,h,h2⟩
theorem zM3 {f:Nat} {args:List V} (h:Ct P f args (.b true)) {us:List Value} {W:World} (hr:RepL (wmem W) args Ij.none us):Calls P f us.toArray W (fun e W' => e = .returned (.bool true)∧Below W.heap.size W W'):=by
 refine (h.1 (wmem W) W us (Mem.Le.rfl' _) hr).mono ?_
 rintro e w' ⟨u,m',rfl,hx,_,_,_,hv⟩
 unfold Rep at hv
 obtain ⟨rfl,_⟩:=hv
 exact ⟨rfl,hx.toBelow⟩
end
end Go.Am
