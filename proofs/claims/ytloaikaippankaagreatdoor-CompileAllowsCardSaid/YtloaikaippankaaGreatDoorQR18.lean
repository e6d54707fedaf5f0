/- ref11. No condition. -/
import Derived.Test.YtloaikaippankaaGreatDoorQTh7
set_option linter.all false open Option renaming not_isSome→zAa
open List renaming map_map→zAb
section
set_option maxHeartbeats 1000000
set_option maxRecDepth 100000
namespace Go.Abs
open Go.Proofs Go.Aut
attribute [-simp] getElem?_pos zAa zAb
end Go.Abs
end
section
set_option maxHeartbeats 1000000
set_option maxRecDepth 100000
namespace Go.Abs
open Go.Proofs Go.Aut
attribute [-simp] getElem?_pos zAa zAb
theorem aad{c:F.Constraint}(hk:c.kind≠4)(v:Str):F.allowsL c v=F.allows12 c v:=by
 simp[F.allowsL,F.allows12,hk]
def abq:Prop:=∀(s:Str)(x:Rx)(v:Str),(s,x)∈er->s∈F.pool12->v.length<=1000->Fn Tryz.prog dr [(F.Constraint.mk 4 [] s).v,.str v] (.bool (F.allows12 ⟨4,[],s⟩ v))
theorem Fh(hA:abq){c:F.Constraint}{x:Rx}(h:GoodC c x)(v:Str)(hv:v.length<=1000):Fn Tryz.prog dr [c.v,.str v] (.bool (F.allows12 c v)):=by
 by_cases hk:c.kind=4
 ·cases h with
  |any=>simp at hk
  |enum _ _ _=>simp at hk
  |scheme _ _=>simp at hk
  |mat h1 h2=>exact hA _ _ v h1 h2 hv
 ·rw[<-aad hk]
  exact Lf c v hk
end Go.Abs
end
