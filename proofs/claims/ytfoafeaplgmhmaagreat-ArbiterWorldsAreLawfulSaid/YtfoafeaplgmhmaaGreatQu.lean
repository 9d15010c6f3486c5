/- What is left of an own slice from a place on (a queue). Conditions: none. -/
import Derived.Test.YtfoafeaplgmhmaaGreatOwn
set_option linter.unusedVariables false
set_option linter.unusedSimpArgs false
namespace Go.Am
open Go Go.Wk Go.RowKit Go.Mx
namespace X
section
variable {C:Cfg} {K:List (Nat×V)} {H:List Blk} {lo nid:Nat}
end
end X
end Go.Am
namespace Go.Am
open Go Go.Wk Go.RowKit Go.Mx
namespace X
end X
end Go.Am
namespace Go.Am
open Go Go.Wk Go.RowKit Go.Mx
namespace X
end X
end Go.Am
namespace Go.Am
open Go Go.Wk Go.RowKit Go.Mx
namespace X
theorem zMz {C:Cfg} {k:List It} {K:List (Nat×V)} {H:List Blk} {lo n id es:Nat} {rnd:Option Nat} {Q:Ex→St→Prop} {α:Type} {f:α→V} {r s:List α} (d:Nat) (hd:kget K d=some (.osl id 0 (List.length r))) (hg:hget H id = .rows es ((r++s).map f)) (hlo:Nat.ble lo id=true) (hsh:∀ x,shut 9 (f x)=true)
    (h:GS C 0 k ⟨(d,.sl (r.map f)) :: K,hput H id .dead,lo,rnd,n⟩ Q):GS C 0 k ⟨K,H,lo,rnd,n⟩ Q:=by
  have ht:((r++s).map f).take r.length=r.map f:=by rw [List.map_append,List.take_left' (by simp)]
  have h2:=GS.freeze (C:=C) (k:=k) (K:=K) (d:=d) (len:=r.length) (rnd:=rnd) (n:=n) (Q:=Q) hg (Nat.le_of_ble_eq_true hlo) (by simp) (by rw [ht]; intro v hv; obtain ⟨x,_,rfl⟩:=List.mem_map.1 hv; exact hsh x) (by rw [ht]; exact h)
  refine GS.drop ((d,.osl id 0 r.length) :: K) (fun t v hv=>?_) h2
  simp only [kget] at hv
  by_cases ed:d=t
  · subst ed
    simp only [Nat.beq_refl,cond_true,Option.some.injEq] at hv
    subst hv
    exact hd
  · rw [zBA ed] at hv
    exact hv
end X
end Go.Am
namespace Go.Am
open Go Go.Wk Go.RowKit Go.Mx
namespace X
theorem zBc : ∀ (H:List Blk) (B:Blk),hput H H.length B=H++[B]
  | [],B=>rfl
  | x :: r,B=>by simp only [List.length_cons,hput,zBc r B,List.cons_append]
end X
end Go.Am
