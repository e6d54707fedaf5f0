/- ref11. No condition. -/
import Derived.Test.YtbekkicfbnaaaaaGreatDoorVTh7
set_option linter.all false open Option renaming not_isSome→zAa
open List renaming map_map→zAb
section
set_option maxHeartbeats 1000000
set_option maxRecDepth 100000
namespace Go.Abs
open Go.Proofs Go.Aut
attribute [-simp] getElem?_pos zAa zAb
end Go.Abs
end
section
set_option maxHeartbeats 1000000
set_option maxRecDepth 100000
namespace Go.Abs
open Go.Proofs Go.Aut
attribute [-simp] getElem?_pos zAa zAb
end Go.Abs
end
