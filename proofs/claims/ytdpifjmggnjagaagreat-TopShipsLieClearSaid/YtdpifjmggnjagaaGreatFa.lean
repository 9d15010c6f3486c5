/- Maps whose values are blocks of the call's own; all that a call owns, frozen; loops over maps. Conditions: none. -/
import Derived.Test.YtdpifjmggnjagaaGreatMp
set_option linter.unusedVariables false
set_option linter.unusedSimpArgs false
namespace Go.Am
open Go Go.Wk Go.RowKit Go.Mx
structure FK (α β:Type) where
  g:α→V
  mv:Nat→β→V
  bk:β→Blk
  nilv:V
  hg:∀ N keep a,rn N keep 9 (g a)=some (g a)
  hmk:∀ N keep i j x,rx N keep i=some j→rn N keep 9 (mv i x)=some (mv j x)
  hbk:∀ N keep x,rnB N keep 9 (bk x)=some (bk x)
  live:∀ x,(bk x).live=true
  nofree:∀ x,bk x≠.free
section
variable {α β:Type}
variable {F:FK α β}
end
namespace X
section
variable {α β:Type} {F:FK α β} {C:Cfg} {N:Nat} {k:List It} {K K':List (Nat×V)} {H1 P P0 P2:List Blk} {lo n d:Nat} {rnd:Option Nat} {Q:Ex→St→Prop} {A:List (α×β)} {all os:List Oper} {p:Op} {ty:TypeId} {pos:String} {after:Array Edge} {g:Option (Nat×Bool)}
variable {H:List Blk} {nid b m t:Nat} [DecidableEq α] {k0:α} {x0:β} {kd:Kd} {Te T:TI} {mo ko vo xo yo:Operand} {pos0:α→List α→Nat}
end
end X
section
variable {α β γ δ:Type}
end
namespace X
end X
namespace X
section
variable {α β γ δ:Type} {C:Cfg} {N:Nat} {k:List It} {K K':List (Nat×V)} {H H1 P P0 P2:List Blk} {lo n d nid b m t:Nat} {rnd:Option Nat} {Q:Ex→St→Prop} {all os:List Oper} {p:Op} {ty:TypeId} {pos:String} {after:Array Edge} {gu:Option (Nat×Bool)} [DecidableEq α] {k0:α} {kd:Kd} {Te T:TI} {mo ko vo xo yo:Operand}
variable {g:α→V} {hg:∀ N keep a,rn N keep 9 (g a)=some (g a)} {es:Nat} {f:β→V} {hf:∀ N keep a,rn N keep 9 (f a)=some (f a)} {f1:γ→V} {f2:δ→V} {h1:∀ N keep a,rn N keep 9 (f1 a)=some (f1 a)} {h2:∀ N keep a,rn N keep 9 (f2 a)=some (f2 a)}
end
section
variable {γ:Type} {C:Cfg} {N:Nat} {k:List It} {K K':List (Nat×V)} {H:List Blk} {lo n d nid t:Nat} {rnd:Option Nat} {Q:Ex→St→Prop} {T:TI} {xo:Operand}
end
end X
end Go.Am
