/- AllowNothing's answer. No condition. -/
import Derived.Test.YtnnbodoijkbceaaGreatDoorJP2
set_option linter.all false
set_option maxHeartbeats 0
set_option maxRecDepth 100000
namespace Go.Abs.F
open Go.Proofs
attribute [-simp] getElem?_pos Option.not_isSome List.map_map
end Go.Abs.F
