/-
  Nets, plainly: what is reached by edges that take no sign, as a list that grows. No condition.
  What a net's functions answer: whether it may be, and what is reached by no sign. No condition.
  What a net's functions answer: all that is reached by no sign. No condition.
  What a net's functions answer: the states that are reached from one by no sign; sets of states. No condition.
-/
import Derived.Test.YtnnbodoijkbceaaGreatDoorLTh1
set_option linter.all false
set_option maxHeartbeats 0
set_option maxRecDepth 100000
section
namespace Go.Aut
structure NEdge where
 fr:Nat
 tyo:Nat
 low:Nat
 high:Nat
structure Net where
 n:Nat
 start:Nat
 stop:Nat
 edges:List NEdge
end Go.Aut
end
section
namespace Go.Abs
open Go.Proofs Go.Aut
attribute [-simp] getElem?_pos Option.not_isSome List.map_map
def u8V (n:Nat):V:=.int .u8 n
attribute [simp] u8V
@[simp] def NEdge.v (e:NEdge):V:=.strct [nV e.fr,nV e.tyo,u8V e.low,u8V e.high]
def EP (es:List NEdge):V:=.seq 4 (es.map NEdge.v)
def Net.c (N:Net):List V:=[nV N.n,nV N.start,nV N.stop,EP N.edges]
attribute [simp] Net.c EP
def Qc (es:List NEdge) (g:List Nat × List Nat):List V:=[EP es,zp g.1,zp g.2]
attribute [simp] Qc
end Go.Abs
end
section
namespace Go.Abs
open Go.Proofs Go.Aut
attribute [-simp] getElem?_pos Option.not_isSome List.map_map
end Go.Abs

end
section
namespace Go.Abs
open Go.Proofs Go.Aut
attribute [-simp] getElem?_pos Option.not_isSome List.map_map
end Go.Abs

end
