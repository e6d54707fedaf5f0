/-
  The least word by which something good is reached, plainly. No condition.
  The least text that an automaton accepts: what is answered. No condition.
  The least text that an automaton accepts. No condition.
  What Least and Accepts answer; the document's example. No condition.
-/
import Derived.Test.YtnnbodoijkbceaaGreatDoorLTh1
import Derived.Test.YtnnbodoijkbceaaGreatDoorLTh4
set_option linter.all false
set_option maxHeartbeats 0
set_option maxRecDepth 100000
section
namespace Go.Aut
section
variable {K:Type} [DecidableEq K]
variable {step:K→Nat→K} {start:K} {D:K→Prop}
end
end Go.Aut
end
section
namespace Go.Abs
open Go.Proofs Go.Aut
attribute [-simp] getElem?_pos Option.not_isSome List.map_map
end Go.Abs

end
section
namespace Go.Abs
open Go.Proofs Go.Aut
attribute [-simp] getElem?_pos Option.not_isSome List.map_map
attribute [simp] q0 B4 KB
def sgn (c:UInt8):Bool:=decide (32≤c.toNat) && decide (c.toNat≤126)
end Go.Abs
end
