/- The least word by which something good is reached, plainly. No condition. -/
import Derived.Test.YtnnbodoijkbceaaGreatDoorJTh1
import Derived.Test.YtnnbodoijkbceaaGreatDoorJTh4
set_option linter.all false
set_option maxHeartbeats 0
set_option maxRecDepth 100000
open Option renaming not_isSome→zAa
open List renaming map_map→zAb
section
namespace Go.Aut
section
variable{K:Type}[DecidableEq K]
variable{step:K->Nat->K}{start:K}{D:K->Prop}
end
end Go.Aut
end
section
namespace Go.Abs
open Go.Proofs Go.Aut
attribute [-simp] getElem?_pos zAa zAb
end Go.Abs
end
section
namespace Go.Abs
open Go.Proofs Go.Aut
attribute [-simp] getElem?_pos zAa zAb
attribute [simp] vE IH S3
def sgn(c:UInt8):Bool:=decide (32<=c.toNat)&&decide (c.toNat<=126)
end Go.Abs
end
