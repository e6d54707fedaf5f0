/-
  closed of package regex: what it adds tyo the states that a word leads tyo. No condition.
  States by marks: what a closing adds. No condition.
  States by marks: what a sign leads tyo; a text, sign by sign. No condition.
  What Match tells, plainly: a text's states by marks are those that its signs lead tyo. No condition.
  lang.Allows of the expressions, if Match answers what mtP tells. No condition but that one, said in the theorem.
-/
import Derived.Test.YtnnbodoijkbceaaGreatDoorLTh7
import Derived.Test.YtnnbodoijkbceaaGreatDoorLTh10
set_option linter.all false
set_option maxHeartbeats 0
set_option maxRecDepth 100000
section
namespace Go.Abs
open Go.Proofs Go.Aut
attribute [-simp] getElem?_pos Option.not_isSome List.map_map
end Go.Abs

end
section
namespace Go.Abs
open Go.Aut
attribute [-simp] getElem?_pos Option.not_isSome List.map_map
end Go.Abs

end
section
namespace Go.Abs
open Go.Aut
attribute [-simp] getElem?_pos Option.not_isSome List.map_map
end Go.Abs

end
section
namespace Go.Abs
open Go.Aut
attribute [-simp] getElem?_pos Option.not_isSome List.map_map cl nt
end Go.Abs

end
section
namespace Go.Abs
open Go.Proofs Go.Aut
attribute [-simp] getElem?_pos Option.not_isSome List.map_map
end Go.Abs

end
