/- The states that words of one length reach; the shortest word that is taken. No condition. -/
import Derived.Test.YtnnbodoijkbceaaGreatDoorJTh6
import Derived.Test.YtnnbodoijkbceaaGreatDoorJTh14
set_option linter.all false
set_option maxHeartbeats 0
set_option maxRecDepth 100000
open Option renaming not_isSome→zAa
open List renaming map_map→zAb
section
namespace Go.Aut
end Go.Aut
end
section
namespace Go.Abs
open Go.Proofs Go.Aut
attribute [-simp] getElem?_pos zAa zAb
end Go.Abs
end
section
namespace Go.Abs
open Go.Proofs Go.Aut
attribute [-simp] getElem?_pos zAa zAb
end Go.Abs
end
section
namespace Go.Abs
open Go.Proofs Go.Aut
attribute [-simp] getElem?_pos zAa zAb
theorem SP{x y:Bool}(h:x=true↔y=true):x=y:=by
 cases x<;>cases y<;>simp_all
theorem MB{c:F.Constraint}(hk:c.kind≠4)(v:Str):F.allowsL c v=F.allows12 c v:=by
 simp[F.allowsL,F.allows12,hk]
def NE:Prop:=∀(s:Str)(x:Rx)(v:Str),(s,x)∈iW->s∈F.pool12->v.length<=1000->Fn Tryz.prog bv [(F.Constraint.mk 4 [] s).v,.str v] (.bool (F.allows12 ⟨4,[],s⟩ v))
theorem vR(hA:NE){c:F.Constraint}{x:Rx}(h:GoodC c x)(v:Str)(hv:v.length<=1000):Fn Tryz.prog bv [c.v,.str v] (.bool (F.allows12 c v)):=by
 by_cases hk:c.kind=4
 ·cases h with
  |any=>simp at hk
  |enum _ _ _=>simp at hk
  |scheme _ _=>simp at hk
  |mat h1 h2=>exact hA _ _ v h1 h2 hv
 ·rw[<-MB hk]
  exact AH c v hk
end Go.Abs
end
