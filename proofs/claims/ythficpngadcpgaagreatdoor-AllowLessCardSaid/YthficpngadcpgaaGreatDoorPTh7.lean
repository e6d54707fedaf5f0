/-
  The states that words of one length reach; the shortest word that is taken. No condition.
  Values that a constraint allows, and its automaton's words; LangExamples' function answers true. No condition.
  ref11.From, ref11.May of an automaton that may be. No condition.
  LangAllows' function answers true, if lang.Allows tells of expressions what the reference does. No condition but that one, said in the theorem.
-/
import Derived.Test.YthficpngadcpgaaGreatDoorPTh6
import Derived.Test.YthficpngadcpgaaGreatDoorPTh14
set_option linter.unusedVariables false
set_option linter.unusedSimpArgs false
set_option linter.unusedSectionVars false
section
namespace Go.Aut
end Go.Aut

end
section
set_option maxHeartbeats 1000000
set_option maxRecDepth 100000
namespace Go.Abs
open Go.Proofs Go.Aut
attribute [-simp] getElem?_pos Option.not_isSome List.map_map
end Go.Abs

end
section
set_option maxHeartbeats 1000000
set_option maxRecDepth 100000
namespace Go.Abs
open Go.Proofs Go.Aut
attribute [-simp] getElem?_pos Option.not_isSome List.map_map
end Go.Abs

end
section
set_option maxHeartbeats 1000000
set_option maxRecDepth 100000
namespace Go.Abs
open Go.Proofs Go.Aut
attribute [-simp] getElem?_pos Option.not_isSome List.map_map
theorem Kv {x y:Bool} (h:x=true↔y=true):x=y:=by
 cases x<;>cases y<;>simp_all
theorem E0 {c:F.Constraint} (hk:c.kind≠4) (v:Str):F.allowsL c v=F.allows12 c v:=by
 simp [F.allowsL,F.allows12,hk]
def FP:Prop:=∀ (s:Str) (x:Rx) (v:Str),(s,x)∈fN→s∈F.pool12→v.length≤1000→Fn Tryz.prog bB [(F.Constraint.mk 4 [] s).v,.str v] (.bool (F.allows12 ⟨4,[],s⟩ v))
theorem qM (hA:FP) {c:F.Constraint} {x:Rx} (h:GoodC c x) (v:Str) (hv:v.length≤1000):Fn Tryz.prog bB [c.v,.str v] (.bool (F.allows12 c v)):=by
 by_cases hk:c.kind=4
 · cases h with
   | any=>simp at hk
   | enum _ _ _=>simp at hk
   | scheme _ _=>simp at hk
   | mat h1 h2=>exact hA _ _ v h1 h2 hv
 · rw [←E0 hk]
   exact va c v hk
end Go.Abs
end
