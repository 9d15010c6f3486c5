/- The library's sort by a comparison that is under a contract of this layer. Conditions: none. -/
import Derived.Shelf.SlSortCmp.WholeK
import Derived.Shelf.SlSortCmp.NoneTotal
import Derived.Lib.QuietBelow
import Derived.Test.YtggkidlcohickaaGreatOwn
set_option linter.unusedVariables false
set_option linter.unusedSimpArgs false
namespace Go.Am
open Go Go.Proofs Go.Wk Go.RowKit Go.Sort Go.Mx Go.Shelf
theorem zOx {P:Program} {g:Nat} {args:List V} {r:Int} {us:List Value} {m:Mem} {W:World} (h:Ct P g args (.i r)) (hm:m.Le (wmem W)) (hr:RepL m args Ij.none us) :
  Calls P g us.toArray W fun e w' => e = .returned (.int .i64 r)∧∃ q os,w'=grow (W.drewN q) os:=by
 refine (h.1 m W us hm hr).mono ?_
 rintro e w' ⟨u,m',rfl,hx,_,_,_,hu⟩
 have hu':=hu.lit
 subst hu'
 refine ⟨rfl,?_⟩
 obtain ⟨p,hp⟩:=regrown_of_below hx.toBelow
 have hd:W.drawn≤p.d:=by
  have:=hx.drawn
  rw [hp] at this
  exact this
 refine ⟨p.d - W.drawn,p.os,?_⟩
 rw [hp]
 have:redrawn W p.d=W.drewN (p.d - W.drawn):=by
  show { W with drawn:=p.d } = { W with drawn:=W.drawn+(p.d - W.drawn) }
  congr 1; omega
 rw [this]
namespace X
structure Flat1 {α:Type} (enc:α→List Value) (k:Nat) (fe:α→V):Prop where
 len:∀ x,(enc x).length=k
 one:∀ x,∀ v∈enc x,v.oneCell'=true
 fe:∀ x,fe x = .agg ((enc x).map .lit)
 flat:∀ x,∀ v∈enc x,∀ c,v≠.agg c
theorem Flat1.rep {α:Type} {enc:α→List Value} {k:Nat} {fe:α→V} (h:Flat1 enc k fe) (x:α) {m:Mem} {I:Ij}:Rep m (fe x) I (.agg (enc x).toArray):=by
 rw [h.fe]
 unfold Rep
 refine ⟨enc x,rfl,h.one x,?_⟩
 have hf:=h.flat x
 generalize enc x=l at hf
 induction l with
 | nil=>unfold RepL; rfl
 | cons a r ih =>
  simp only [List.map_cons]
  unfold RepL
  exact ⟨a,r,rfl,Rep.zBR (hf a List.mem_cons_self),ih fun v hv=>hf v (List.mem_cons_of_mem _ hv)⟩
theorem zMd {α:Type} [Inhabited α] {P:Program} {ρ:Ren} (L:Go.Proofs.SlLaysF0.n6 P ρ) {F g k:Nat} {fe:α→V} {enc:α→List Value} {cf:α→α→Int} {lt:α→α→Bool} (hF:ρ.f 6=F) (hk:0<k) (aE:∀ w,(isAgg (ρ.t 24)).run P w = .ok true w) (zE:∀ w,(Go.sizeOf (ρ.t 24)).run P w = .ok k w) (hE:Flat1 enc k fe) (hlt:∀ x y,decide (cf x y<0)=lt x y) (hO:SWO lt)
  (enF:∀ (args:Array Value) (w:World),(callFunc F args).run P w = .ok (.enter F args) w) (eg:∀ (args:Array Value) (w:World),(callFunc g args).run P w = .ok (.enter g args) w)
  (hc:∀ x y W,Calls P g #[.agg (enc x).toArray,.agg (enc y).toArray] W fun e w' => e = .returned (.int .i64 (cf x y))∧∃ q os,w'=grow (W.drewN q) os) (hg:Nat.blt g 1000000=true:=by rfl):zHE P F g k fe lt:=by
 subst hF
 have el:ltOf cf=lt:=funext fun x=>funext fun y=>hlt x y
 refine ⟨⟨enc,?_,hE.len,hE.one,hE.fe,hE.flat⟩,hk,hO,?_⟩
 ·intro blk off cap d w hH hblk hlen
  have hcmp:CmpLays P g #[] enc k cf blk off d.toArray.size w:=fun m os dk _ x y=>hc x y _
  have hcon:=Go.Proofs.AnyQ.slices_SortFunc_eq L k aE zE enc hE.len hE.one cf (by rw [el]; exact hO) g #[] blk off cap d.toArray w eg hcmp hH hblk (by simpa using hlen)
  rw [el] at hcon
  have e:d.toArray.size=d.length:=List.size_toArray
  rw [e] at hcon
  rw [zFO hg]
  refine hcon.mono ?_
  rintro e w' ⟨rfl,n,os,rfl⟩
  exact ⟨rfl,n,os,by unfold srtF; rw [Array.toArray_toList]⟩
 ·refine zGC (fun p cap us m w hr=>?_) enF
  unfold RepL at hr
  obtain ⟨u,us',rfl,hu,hus⟩:=hr
  unfold RepL at hus
  subst hus
  exact Go.Proofs.AnyF.slices_SortFunc_none L p cap u w
theorem zHT {α:Type} [Inhabited α] {P:Program} {ρ:Ren} (L:Go.Proofs.SlLaysF0.n6 P ρ) {F g k:Nat} {fe:α→V} {enc:α→List Value} {cf:α→α→Int} {lt:α→α→Bool} (hF:ρ.f 6=F) (hk:0<k) (aE:∀ w,(isAgg (ρ.t 24)).run P w = .ok true w) (zE:∀ w,(Go.sizeOf (ρ.t 24)).run P w = .ok k w) (hE:Flat1 enc k fe) (hlt:∀ x y,decide (cf x y<0)=lt x y) (hO:SWO lt)
  (enF:∀ (args:Array Value) (w:World),(callFunc F args).run P w = .ok (.enter F args) w) (hc:∀ x y,Ct P g [fe x,fe y] (.i (cf x y))) (hg:Nat.blt g 1000000=true:=by rfl):zHE P F g k fe lt:=by
 refine zMd L hF hk aE zE hE hlt hO enF (fun args w=>(hc default default).2 args w) (hg:=hg) fun x y W=>?_
 refine zOx (us:=[.agg (enc x).toArray,.agg (enc y).toArray]) (m:=fun _=>none) (hc x y) (fun k o h=>by cases h) ?_
 simp only [RepL]
 exact ⟨_,_,rfl,hE.rep x,_,_,rfl,hE.rep y,rfl⟩
end X
end Go.Am
