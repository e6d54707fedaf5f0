/- closed of package regex: what it adds to the states that a word leads to. No condition. -/
import Derived.Test.YtbekkicfbnaaaaaGreatDoorVTh7
import Derived.Test.YtbekkicfbnaaaaaGreatDoorVTh10
import Derived.Test.YtbekkicfbnaaaaaGreatDoorVR18
set_option linter.all false open List renaming reduceReplicate→zAa,mem_append→zAb,mem_of_getElem?→zAc,mem_cons→zAd,replicate→zAe,getElem?_replicate→zAf,getElem?_append_left→zAh,map_map→zAi,not_mem_nil→zAj,getElem?_eq_none→zBa,getElem?_set→zBd,length_cons→zBe,append_inj'→zBf,append_nil→zBg
open Option renaming not_isSome→zAg
open Nat renaming lt_or_ge→zBb,le_refl→zBi
open Option.some renaming injEq→zBc
open Prod.mk renaming injEq→zBh open Option renaming some→ś open Bool renaming true→ť
section
set_option maxHeartbeats 4000000
set_option maxRecDepth 100000
namespace Go.Abs
open Go.Proofs Go.Aut
attribute [-simp] getElem?_pos zAg zAi
end Go.Abs
end
section
namespace Go.Abs
open Go.Aut
attribute [-simp] getElem?_pos zAg zAi
end Go.Abs
end
section
namespace Go.Abs
open Go.Aut
attribute [-simp] getElem?_pos zAg zAi cl nt
end Go.Abs
end
section
set_option maxHeartbeats 1000000
set_option maxRecDepth 100000
namespace Go.Abs
open Go.Proofs Go.Aut
attribute [-simp] getElem?_pos zAg zAi
end Go.Abs
end
