/-
  The least word by which something good is reached, plainly. No condition.
  The least text that an automaton accepts: what is answered. No condition.
  The least text that an automaton accepts. No condition.
  What Least and Accepts answer; the document's example. No condition.
-/
import Derived.Test.YthficpngadcpgaaGreatDoorOTh1
import Derived.Test.YthficpngadcpgaaGreatDoorOTh4
set_option linter.unusedVariables false
set_option linter.unusedSimpArgs false
set_option linter.unusedSectionVars false
section
namespace Go.Aut
section
variable {K:Type} [DecidableEq K]
variable {step:K→Nat→K} {start:K} {D:K→Prop}
end
end Go.Aut
end
section
set_option maxHeartbeats 1000000
set_option maxRecDepth 100000
namespace Go.Abs
open Go.Proofs Go.Aut
attribute [-simp] getElem?_pos Option.not_isSome List.map_map
end Go.Abs

end
section
set_option maxHeartbeats 1000000
set_option maxRecDepth 100000
namespace Go.Abs
open Go.Proofs Go.Aut
attribute [-simp] getElem?_pos Option.not_isSome List.map_map
def wh (e sz:Nat) (d:Option Nat) (K:St→Prop) (σ:St) (vs us:List V):Prop:=bh sz us=true∧us.length≤16777216∧K (St.put ⟨(σ.kill (ah vs)).r,(σ.kill (ah vs)).h++[some (Ob.arr e sz us)]⟩ d (.ref (σ.kill (ah vs)).h.length us.length))
def Fc (e sz:Nat) (d:Option Nat) (K:St→Prop) (σ:St) (vs:List V):Prop:=oM (purs σ.h vs) (wh e sz d K σ vs)
theorem sA {e sz:Nat} {d:Option Nat} {K:St→Prop} {σ:St} {vs us:List V}:wh e sz d K σ vs us=(bh sz us=true∧us.length≤16777216∧K (St.put ⟨(σ.kill (ah vs)).r,(σ.kill (ah vs)).h++[some (Ob.arr e sz us)]⟩ d (.ref (σ.kill (ah vs)).h.length us.length))):=propext Iff.rfl
theorem wg {e sz:Nat} {d:Option Nat} {K:St→Prop} {σ:St} {vs:List V}:Fc e sz d K σ vs=oM (purs σ.h vs) (wh e sz d K σ vs):=propext Iff.rfl
theorem Oh {Φ:Ctr} {d:Option Nat} {K:St→Prop} {σ:St} {e sz:Nat} {xs:List AO}:af Φ d (.ltr e sz xs) K σ=oM (σ.evs xs) (Fc e sz d K σ):=by
 simp only [af,oM]
 cases σ.evs xs with
 | none=>rfl
 | some vs=>
   simp only [Fc,oM]
   cases purs σ.h vs<;>rfl
attribute [simp] sA wg Oh
def sgn (c:UInt8):Bool:=decide (32≤c.toNat) && decide (c.toNat≤126)
end Go.Abs
end
