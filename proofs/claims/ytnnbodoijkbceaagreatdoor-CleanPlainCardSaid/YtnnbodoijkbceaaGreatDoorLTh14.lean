/-
  What strainerref09's tables mean: languages of words between two places. No condition.
  What the reference's Allows tells is whether an expression matches. No condition.
  The small functions of layer 12's statements; lang's Allows of schemes; the least value that is allowed. No condition.
-/
import Derived.Test.YtnnbodoijkbceaaGreatDoorLTh10
import Derived.Test.YtnnbodoijkbceaaGreatDoorLF17
import Derived.Test.YtnnbodoijkbceaaGreatDoorLTh6
set_option linter.all false
set_option maxHeartbeats 0
set_option maxRecDepth 100000
section
namespace Go.Abs
open Go.Aut
attribute [-simp] getElem?_pos Option.not_isSome List.map_map cl nt
def alt (A B:Lg):Lg:=fun w=>A w∨B w
end Go.Abs
end
section
namespace Go.Abs
open Go.Aut
attribute [-simp] getElem?_pos Option.not_isSome List.map_map cl nt
end Go.Abs

end
section
namespace Go.Abs
open Go.Proofs Go.Aut
attribute [-simp] getElem?_pos Option.not_isSome List.map_map
end Go.Abs

end
