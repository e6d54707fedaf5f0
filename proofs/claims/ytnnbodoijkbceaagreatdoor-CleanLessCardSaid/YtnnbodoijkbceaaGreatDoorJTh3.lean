/- Nets, plainly: what is reached by edges that take no sign, as a list that grows. No condition. -/
import Derived.Test.YtnnbodoijkbceaaGreatDoorJTh1
set_option linter.all false
set_option maxHeartbeats 0
set_option maxRecDepth 100000
open Option renaming not_isSome→zAa
open List renaming map_map→zAb
section
namespace Go.Aut
structure NEdge where
 fr:Nat
 tyo:Nat
 low:Nat
 high:Nat
structure Net where
 n:Nat
 start:Nat
 stop:Nat
 edges:List NEdge
def NEdge.free(e:NEdge):Bool:=decide (e.high<e.low)
structure Net.ok (N:Net):Prop where
 pos:0<N.n
 le:N.n<=500
 start:N.start<N.n
 stop:N.stop<N.n
 ends:∀e∈N.edges,e.fr<N.n/\e.tyo<N.n/\e.low<256/\e.high<256
inductive NReach (es:List NEdge) (q:Nat):Nat->Prop
 |refl:NReach es q q
 |step {p:Nat} {e:NEdge}:NReach es q p->e∈es->e.free=true->e.fr=p->NReach es q e.tyo
end Go.Aut
end
section
namespace Go.Abs
open Go.Proofs Go.Aut
attribute [-simp] getElem?_pos zAa zAb
theorem Dq{Φ:Ctr}{σ:St}{ks:List Nat}{a b:OT}{Q:Ex->St->Prop}(S:St)(h:∀Q:Ex->St->Prop,Q .norm S->vk Φ a b (Ox Q ks) σ)(k:Q .norm S):vk Φ a b (Ox Q ks) σ:=h Q k
def u8V(n:Nat):V:=.int .u8 n
attribute [simp] u8V
@[simp] def NEdge.v (e:NEdge):V:=.strct [nV e.fr,nV e.tyo,u8V e.low,u8V e.high]
def Mf(es:List NEdge):V:=.seq 4 (es.map NEdge.v)
def Net.c(N:Net):List V:=[nV N.n,nV N.start,nV N.stop,Mf N.edges]
attribute [simp] Net.c Mf
def YN(es:List NEdge)(g:List Nat×List Nat):List V:=[Mf es,E0 g.1,E0 g.2]
attribute [simp] YN
end Go.Abs
end
section
namespace Go.Abs
open Go.Proofs Go.Aut
attribute [-simp] getElem?_pos zAa zAb
end Go.Abs
end
section
namespace Go.Abs
open Go.Proofs Go.Aut
attribute [-simp] getElem?_pos zAa zAb
end Go.Abs
end
