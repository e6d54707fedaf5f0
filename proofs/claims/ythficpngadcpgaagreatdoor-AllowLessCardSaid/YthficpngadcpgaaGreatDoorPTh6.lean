/-
  The least word by which something good is reached, plainly. No condition.
  The least text that an automaton accepts: what is answered. No condition.
  The least text that an automaton accepts. No condition.
  What Least and Accepts answer; the document's example. No condition.
-/
import Derived.Test.YthficpngadcpgaaGreatDoorPTh1
import Derived.Test.YthficpngadcpgaaGreatDoorPTh4
set_option linter.unusedVariables false
set_option linter.unusedSimpArgs false
set_option linter.unusedSectionVars false
section
namespace Go.Aut
section
variable {K:Type} [DecidableEq K]
variable {step:K→Nat→K} {start:K} {D:K→Prop}
end
end Go.Aut
end
section
set_option maxHeartbeats 1000000
set_option maxRecDepth 100000
namespace Go.Abs
open Go.Proofs Go.Aut
attribute [-simp] getElem?_pos Option.not_isSome List.map_map
end Go.Abs

end
section
set_option maxHeartbeats 1000000
set_option maxRecDepth 100000
namespace Go.Abs
open Go.Proofs Go.Aut
attribute [-simp] getElem?_pos Option.not_isSome List.map_map
def ud (e sz:Nat) (d:Option Nat) (K:St→Prop) (σ:St) (vs us:List V):Prop:=aY sz us=true∧us.length≤16777216∧K (St.put ⟨(σ.kill (ah vs)).r,(σ.kill (ah vs)).h++[some (Ob.arr e sz us)]⟩ d (.ref (σ.kill (ah vs)).h.length us.length))
def B9 (e sz:Nat) (d:Option Nat) (K:St→Prop) (σ:St) (vs:List V):Prop:=oM (purs σ.h vs) (ud e sz d K σ vs)
theorem qC {e sz:Nat} {d:Option Nat} {K:St→Prop} {σ:St} {vs us:List V}:ud e sz d K σ vs us=(aY sz us=true∧us.length≤16777216∧K (St.put ⟨(σ.kill (ah vs)).r,(σ.kill (ah vs)).h++[some (Ob.arr e sz us)]⟩ d (.ref (σ.kill (ah vs)).h.length us.length))):=propext Iff.rfl
theorem uc {e sz:Nat} {d:Option Nat} {K:St→Prop} {σ:St} {vs:List V}:B9 e sz d K σ vs=oM (purs σ.h vs) (ud e sz d K σ vs):=propext Iff.rfl
theorem KA {Φ:Ctr} {d:Option Nat} {K:St→Prop} {σ:St} {e sz:Nat} {xs:List AO}:af Φ d (.ltr e sz xs) K σ=oM (σ.evs xs) (B9 e sz d K σ):=by
 simp only [af,oM]
 cases σ.evs xs with
 | none=>rfl
 | some vs=>
   simp only [B9,oM]
   cases purs σ.h vs<;>rfl
attribute [simp] qC uc KA
def sgn (c:UInt8):Bool:=decide (32≤c.toNat) && decide (c.toNat≤126)
end Go.Abs
end
