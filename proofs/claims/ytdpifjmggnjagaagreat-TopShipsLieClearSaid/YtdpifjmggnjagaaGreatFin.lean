/- TopShipsLieClear. The given statement TopShipsLieClearSaid is proved: Ships that are planned as deep as they can lie touch no ground in their stays, those left over are as many as the crowd shows, and ships that unload lie no deeper than what is left of their load allows. Conditions: none. Printed by a program (wip/tools/lawgen.py). -/
import Derived.Test.YtdpifjmggnjagaaGreatRows
import Derived.Test.YtdpifjmggnjagaaGreatFct
import Derived.Test.YtdpifjmggnjagaaGreatP
import Derived.Test.YtdpifjmggnjagaaGreatOpn
import Derived.Test.YtdpifjmggnjagaaGreatOkp
import Derived.Test.YtdpifjmggnjagaaGreatLawTopShipsLieClear
import Derived.WalkKit
import Derived.ProofKit
import Derived.OpenShut
import Derived.ChangeOld
import Derived.Below
set_option linter.unusedVariables false
namespace Go.Proofs.YtdpifjmggnjagaaGreat.TopShipsLieClear
open Go Go.ChangeShapes Go.WideShapes Go.ChangeAt Go.RowKit Go.Am Go.Mx

theorem own : ownKnob Tryz.prog.godebug=none:=by kernel_rfl
theorem laidOut : laidOutB Tryz.prog=true:=by kernel_rfl
theorem okI {k:IntKind} {n:Int} (h:(Lit.int k n).wf=true):OkI k n:=(by simpa [Lit.wf] using h:k.min≤n∧n≤k.max)

theorem o_57 : OpnC Tryz.prog 57 (List Int) (fun l=>[.sl (l.map V.i)]) (fun l=>ok_57 l):=qZ (f:=V.i) Tryz.underlying57 (by kernel_rfl) (by decide:0<1) (jV Tryz.underlying3) (.inr fun _=>rfl)
theorem o_121 : OpnC Tryz.prog 121 zz (fun x=>[.lit (.int .i64 x.ID),.lit (.int .i64 x.Begin),.lit (.int .i64 x.Every),.sl (x.Heights.map V.i)]) (fun x=>zHD x):=by
 have h:=yN Tryz.underlying121 (by kernel_rfl:_=4) (ZK rfl (by kernel_rfl:_=1) (jV Tryz.underlying3) (ZK rfl (by kernel_rfl:_=1) (jV Tryz.underlying3) (ZK rfl (by kernel_rfl:_=1) (jV Tryz.underlying3) (ZK rfl (by kernel_rfl:_=1) o_57 QS))))
 exact OpnC.map (α:=Int×Int×Int×(List Int)×Unit) (fun a=>⟨a.1,a.2.1,a.2.2.1,a.2.2.2.1⟩) h (fun _=>rfl) (fun _ h=>h)
theorem o_22 : OpnC Tryz.prog 22 (List zz) (fun l=>[.sl (l.map ZN)]) (fun l=>ok_22 l):=qZ (f:=ZN) Tryz.underlying22 (by kernel_rfl) (by decide:0<4) o_121 (.inl fun _=>rfl)
theorem o_185 : OpnC Tryz.prog 185 Y4 (fun x=>[.lit (.int .i64 x.From),.lit (.int .i64 x.To),.lit (.int .i64 x.Add)]) (fun x=>zHC x):=by
 have h:=yN Tryz.underlying185 (by kernel_rfl:_=3) (ZK rfl (by kernel_rfl:_=1) (jV Tryz.underlying3) (ZK rfl (by kernel_rfl:_=1) (jV Tryz.underlying3) (ZK rfl (by kernel_rfl:_=1) (jV Tryz.underlying3) QS)))
 exact OpnC.map (α:=Int×Int×Int×Unit) (fun a=>⟨a.1,a.2.1,a.2.2.1⟩) h (fun _=>rfl) (fun _ h=>h)
theorem o_23 : OpnC Tryz.prog 23 (List Y4) (fun l=>[.sl (l.map YV)]) (fun l=>ok_23 l):=qZ (f:=YV) Tryz.underlying23 (by kernel_rfl) (by decide:0<3) o_185 (.inl fun _=>rfl)
theorem o_25 : OpnC Tryz.prog 25 zW (fun x=>[.lit (.int .i64 x.Level),.sl (x.Cycles.map ZN),.sl (x.Shifts.map YV)]) (fun x=>zET x):=by
 have h:=yN Tryz.underlying25 (by kernel_rfl:_=3) (ZK rfl (by kernel_rfl:_=1) (jV Tryz.underlying3) (ZK rfl (by kernel_rfl:_=1) o_22 (ZK rfl (by kernel_rfl:_=1) o_23 QS)))
 exact OpnC.map (α:=Int×(List zz)×(List Y4)×Unit) (fun a=>⟨a.1,a.2.1,a.2.2.1⟩) h (fun _=>rfl) (fun _ h=>h)
theorem o_86 : OpnC Tryz.prog 86 zy (fun x=>[.lit (.int .i64 x.ID),.lit (.int .i64 x.Depth)]) (fun x=>zHE x):=by
 have h:=yN Tryz.underlying86 (by kernel_rfl:_=2) (ZK rfl (by kernel_rfl:_=1) (jV Tryz.underlying3) (ZK rfl (by kernel_rfl:_=1) (jV Tryz.underlying3) QS))
 exact OpnC.map (α:=Int×Int×Unit) (fun a=>⟨a.1,a.2.1⟩) h (fun _=>rfl) (fun _ h=>h)
theorem o_26 : OpnC Tryz.prog 26 (List zy) (fun l=>[.sl (l.map zX)]) (fun l=>ok_26 l):=qZ (f:=zX) Tryz.underlying26 (by kernel_rfl) (by decide:0<2) o_86 (.inl fun _=>rfl)
theorem o_34 : OpnC Tryz.prog 34 zB (fun x=>[.lit (.int .i64 x.Lo),.lit (.int .i64 x.Hi)]) (fun x=>zFL x):=by
 have h:=yN Tryz.underlying34 (by kernel_rfl:_=2) (ZK rfl (by kernel_rfl:_=1) (jV Tryz.underlying3) (ZK rfl (by kernel_rfl:_=1) (jV Tryz.underlying3) QS))
 exact OpnC.map (α:=Int×Int×Unit) (fun a=>⟨a.1,a.2.1⟩) h (fun _=>rfl) (fun _ h=>h)
theorem o_27 : OpnC Tryz.prog 27 (List zB) (fun l=>[.sl (l.map zD)]) (fun l=>zQr l):=qZ (f:=zD) Tryz.underlying27 (by kernel_rfl) (by decide:0<2) o_34 (.inl fun _=>rfl)
theorem o_29 : OpnC Tryz.prog 29 zN (fun x=>[.lit (.int .i64 x.Water.Level),.sl (x.Water.Cycles.map ZN),.sl (x.Water.Shifts.map YV),.sl (x.Berths.map zX),.sl (x.Tides.map zD),.lit (.int .i64 x.Keel)]) (fun x=>zC8 x):=by
 have h:=yN Tryz.underlying29 (by kernel_rfl:_=6) (ZK rfl (by kernel_rfl:_=3) o_25 (ZK rfl (by kernel_rfl:_=1) o_26 (ZK rfl (by kernel_rfl:_=1) o_27 (ZK rfl (by kernel_rfl:_=1) (jV Tryz.underlying3) QS))))
 exact OpnC.map (α:=zW×(List zy)×(List zB)×Int×Unit) (fun a=>⟨a.1,a.2.1,a.2.2.1,a.2.2.2.1⟩) h (fun _=>rfl) (fun _ h=>h)
theorem o_117 : OpnC Tryz.prog 117 zq (fun x=>[.lit (.int .i64 x.ID),.lit (.int .i64 x.Room),.lit (.int .i64 x.Lever),.lit (.int .i64 x.Height)]) (fun x=>zIL x):=by
 have h:=yN Tryz.underlying117 (by kernel_rfl:_=4) (ZK rfl (by kernel_rfl:_=1) (jV Tryz.underlying3) (ZK rfl (by kernel_rfl:_=1) (jV Tryz.underlying3) (ZK rfl (by kernel_rfl:_=1) (jV Tryz.underlying3) (ZK rfl (by kernel_rfl:_=1) (jV Tryz.underlying3) QS))))
 exact OpnC.map (α:=Int×Int×Int×Int×Unit) (fun a=>⟨a.1,a.2.1,a.2.2.1,a.2.2.2.1⟩) h (fun _=>rfl) (fun _ h=>h)
theorem o_47 : OpnC Tryz.prog 47 (List zq) (fun l=>[.sl (l.map ZW)]) (fun l=>ok_47 l):=qZ (f:=ZW) Tryz.underlying47 (by kernel_rfl) (by decide:0<4) o_117 (.inl fun _=>rfl)
theorem o_119 : OpnC Tryz.prog 119 zf (fun x=>[.lit (.int .i64 x.X),.lit (.int .i64 x.Y)]) (fun x=>zIK x):=by
 have h:=yN Tryz.underlying119 (by kernel_rfl:_=2) (ZK rfl (by kernel_rfl:_=1) (jV Tryz.underlying3) (ZK rfl (by kernel_rfl:_=1) (jV Tryz.underlying3) QS))
 exact OpnC.map (α:=Int×Int×Unit) (fun a=>⟨a.1,a.2.1⟩) h (fun _=>rfl) (fun _ h=>h)
theorem o_48 : OpnC Tryz.prog 48 (List zf) (fun l=>[.sl (l.map zx)]) (fun l=>ok_48 l):=qZ (f:=zx) Tryz.underlying48 (by kernel_rfl) (by decide:0<2) o_119 (.inl fun _=>rfl)
theorem o_50 : OpnC Tryz.prog 50 ZX (fun x=>[.sl (x.Knots.map zx),.lit (.int .i64 x.Err)]) (fun x=>zEU x):=by
 have h:=yN Tryz.underlying50 (by kernel_rfl:_=2) (ZK rfl (by kernel_rfl:_=1) o_48 (ZK rfl (by kernel_rfl:_=1) (jV Tryz.underlying3) QS))
 exact OpnC.map (α:=(List zf)×Int×Unit) (fun a=>⟨a.1,a.2.1⟩) h (fun _=>rfl) (fun _ h=>h)
theorem o_52 : OpnC Tryz.prog 52 zH (fun x=>[.lit (.int .i64 x.ID),.lit (.int .i64 x.Light),.lit (.int .i64 x.Lever),.lit (.int .i64 x.Height),.sl (x.Holds.map ZW),.sl (x.Mean.Knots.map zx),.lit (.int .i64 x.Mean.Err),.sl (x.Mtac.Knots.map zx),.lit (.int .i64 x.Mtac.Err),.lit (.int .i64 x.Turn),.lit (.int .i64 x.Least)]) (fun x=>zIJ x):=by
 have h:=yN Tryz.underlying52 (by kernel_rfl:_=11) (ZK rfl (by kernel_rfl:_=1) (jV Tryz.underlying3) (ZK rfl (by kernel_rfl:_=1) (jV Tryz.underlying3) (ZK rfl (by kernel_rfl:_=1) (jV Tryz.underlying3) (ZK rfl (by kernel_rfl:_=1) (jV Tryz.underlying3) (ZK rfl (by kernel_rfl:_=1) o_47 (ZK rfl (by kernel_rfl:_=2) o_50 (ZK rfl (by kernel_rfl:_=2) o_50 (ZK rfl (by kernel_rfl:_=1) (jV Tryz.underlying3) (ZK rfl (by kernel_rfl:_=1) (jV Tryz.underlying3) QS)))))))))
 exact OpnC.map (α:=Int×Int×Int×Int×(List zq)×ZX×ZX×Int×Int×Unit) (fun a=>⟨a.1,a.2.1,a.2.2.1,a.2.2.2.1,a.2.2.2.2.1,a.2.2.2.2.2.1,a.2.2.2.2.2.2.1,a.2.2.2.2.2.2.2.1,a.2.2.2.2.2.2.2.2.1⟩) h (fun _=>rfl) (fun _ h=>h)
theorem o_54 : OpnC Tryz.prog 54 zQ (fun x=>[.sl (x.Holds.map zD),.lit (.int .i64 x.All.Lo),.lit (.int .i64 x.All.Hi)]) (fun x=>zFM x):=by
 have h:=yN Tryz.underlying54 (by kernel_rfl:_=3) (ZK rfl (by kernel_rfl:_=1) o_27 (ZK rfl (by kernel_rfl:_=2) o_34 QS))
 exact OpnC.map (α:=(List zB)×zB×Unit) (fun a=>⟨a.1,a.2.1⟩) h (fun _=>rfl) (fun _ h=>h)
theorem o_56 : OpnC Tryz.prog 56 ZO (fun x=>[.lit (.int .i64 x.Ship.ID),.lit (.int .i64 x.Ship.Light),.lit (.int .i64 x.Ship.Lever),.lit (.int .i64 x.Ship.Height),.sl (x.Ship.Holds.map ZW),.sl (x.Ship.Mean.Knots.map zx),.lit (.int .i64 x.Ship.Mean.Err),.sl (x.Ship.Mtac.Knots.map zx),.lit (.int .i64 x.Ship.Mtac.Err),.lit (.int .i64 x.Ship.Turn),.lit (.int .i64 x.Ship.Least),.sl (x.Load.Holds.map zD),.lit (.int .i64 x.Load.All.Lo),.lit (.int .i64 x.Load.All.Hi),.lit (.int .i64 x.From),.lit (.int .i64 x.To),.lit (.int .i64 x.Long)]) (fun x=>zER x):=by
 have h:=yN Tryz.underlying56 (by kernel_rfl:_=17) (ZK rfl (by kernel_rfl:_=11) o_52 (ZK rfl (by kernel_rfl:_=3) o_54 (ZK rfl (by kernel_rfl:_=1) (jV Tryz.underlying3) (ZK rfl (by kernel_rfl:_=1) (jV Tryz.underlying3) (ZK rfl (by kernel_rfl:_=1) (jV Tryz.underlying3) QS)))))
 exact OpnC.map (α:=zH×zQ×Int×Int×Int×Unit) (fun a=>⟨a.1,a.2.1,a.2.2.1,a.2.2.2.1,a.2.2.2.2.1⟩) h (fun _=>rfl) (fun _ h=>h)
theorem o_30 : OpnC Tryz.prog 30 (List ZO) (fun l=>[.sl (l.map zi)]) (fun l=>ok_30 l):=qZ (f:=zi) Tryz.underlying30 (by kernel_rfl) (by decide:0<17) o_56 (.inl fun _=>rfl)
theorem o_31 : OpnC Tryz.prog 31 (List Int) (fun l=>[.sl (l.map (fun x:Int=>V.lit (.int .u16 x)))]) (fun l=>zHF l):=qZ (f:=(fun x:Int=>V.lit (.int .u16 x))) Tryz.underlying31 (by kernel_rfl) (by decide:0<1) (jV Tryz.underlying105) (.inr fun _=>rfl)

set_option maxRecDepth 100000 in
theorem lifted (os:Os) (started:os.Started) (H:Type) (enc:TypeId×Value→H) :
  ReturnsInHanded {} Tryz.checked os 3 .any (Rows.topShipsLieClearSpec.pre6 enc Tryz.prog Tryz.f3 Rows.topShipsLieClearRow.domain false) (Rows.topShipsLieClearSpec.post enc Tryz.prog Tryz.f3 false true false false):=by
 refine returnsInHanded_of_change (C:=Tryz.checked) own started (by kernel_rfl) Tryz.func3
  (ChangeSpec.witness6 (enc:=enc) (C:=Tryz.checked) false ⟨#[],#[.agg #[.int .i64 0,.slice none 0 0,.slice none 0 0,.slice none 0 0,.slice none 0 0,.int .i64 0],.slice none 0 0,.slice none 0 0,.slice none 0 0],[]⟩ 8 (by kernel_rfl) (by kernel_rfl) (by kernel_rfl) (by kernel_rfl)) ?_
 intro W base args ds gs before hval0 hW hcnd _
 have hval:∀ (j:Nat) t v,Tryz.f3.params[j]? = some t→args[j]? = some v→Value.okWide Tryz.prog W .any base t v:=hval0
 have hW':=hW
 obtain ⟨p,q,hA0,hV,rfl,hfz,hnd⟩:=hW
 have hA:DataW.TrodAll enc Tryz.prog W 0 (fun _=>true) true Tryz.f3.params.toList args.toList ds p:=hA0
 rw [Tryz.params3] at hA hval
 obtain ⟨v0,vs0,d0,ds0,p0,q0,hargs,rfl,rfl,h0,r0⟩:=trodAll_cons hA
 obtain ⟨v1,vs1,d1,ds1,p1,q1,rfl,rfl,rfl,h1,r1⟩:=trodAll_cons r0
 obtain ⟨v2,vs2,d2,ds2,p2,q2,rfl,rfl,rfl,h2,r2⟩:=trodAll_cons r1
 obtain ⟨v3,vs3,d3,ds3,p3,q3,rfl,rfl,rfl,h3,r3⟩:=trodAll_cons r2
 obtain ⟨rfl,rfl,rfl⟩:=trodAll_nil r3
 obtain rfl:args = #[v0,v1,v2,v3]:=by cases args; simp_all
 obtain ⟨rfl,rfl⟩:=trodVars_none hV
 have k0:=h0
 have lt0:∀ x∈p0,x.block<W.heap.size:=by obtain ⟨m,hm⟩:=k0; exact DataW.trod_lt m _ _ _ hm
 obtain ⟨a0,ok0,e0⟩:=zOt Tryz.underlying29 o_29 (.inr ⟨_,hval 0 29 v0 rfl rfl⟩) h0
 have k1:=h1
 have lt1:∀ x∈p1,x.block<W.heap.size:=by obtain ⟨m,hm⟩:=k1; exact DataW.trod_lt m _ _ _ hm
 obtain ⟨a1,ok1,e1⟩:=zIB Tryz.underlying30 o_30 (hval 1 30 v1 rfl rfl) h1
 have k2:=h2
 have lt2:∀ x∈p2,x.block<W.heap.size:=by obtain ⟨m,hm⟩:=k2; exact DataW.trod_lt m _ _ _ hm
 obtain ⟨a2,ok2,e2⟩:=zIB Tryz.underlying31 o_31 (hval 2 31 v2 rfl rfl) h2
 have k3:=h3
 have lt3:∀ x∈p3,x.block<W.heap.size:=by obtain ⟨m,hm⟩:=k3; exact DataW.trod_lt m _ _ _ hm
 obtain ⟨a3,ok3,e3⟩:=zIB Tryz.underlying31 o_31 (hval 3 31 v3 rfl rfl) h3
 clear hA0 hval0
 have hlaw:J5 a0 a1 a2 a3=some true:=holds_TopShipsLieClear ok0 ok1 ok2 ok3
 refine (zP1 (zD3 hlaw) (us:=[v0,v1,v2,v3]) (zFm e0 (zFm e1 (zFm e2 (zFm e3 zQc))))).mono fun e W' ⟨he,bel⟩=>?_
 subst he
 exact ⟨_,rfl,_,_,_,[],_,[],hW',trodAll_mk1 (shut_bool Tryz.underlying4 _),(trodAll_cons_mk (Below.trod laidOut (by kernel_rfl) (of_decide_eq_true (by kernel_rfl)) k0 bel lt0) (trodAll_cons_mk (Below.trod laidOut (by kernel_rfl) (of_decide_eq_true (by kernel_rfl)) k1 bel lt1) (trodAll_cons_mk (Below.trod laidOut (by kernel_rfl) (of_decide_eq_true (by kernel_rfl)) k2 bel lt2) (trodAll_cons_mk (Below.trod laidOut (by kernel_rfl) (of_decide_eq_true (by kernel_rfl)) k3 bel lt3) trodAll_mk0)))),rfl,bel.frame _,fun h=>by cases h⟩

theorem holds : Rows.TopShipsLieClearSaid :=
 OpenClaim.holds_of_wide 3 Tryz.f3 rfl rfl rfl rfl rfl rfl rfl ⟨rfl,rfl,rfl,rfl,rfl⟩ rfl rfl rfl rfl rfl named Tryz.func3 closed inst wrap (fun os started H enc _=>lifted os started H enc)
end Go.Proofs.YtdpifjmggnjagaaGreat.TopShipsLieClear
