/-
  The images of some of the program's functions, as the kernel reckons them. Made by program. No condition.
-/
import Derived.Test.YthficpngadcpgaaGreatDoorNAbs14
import Derived.Test.YthficpngadcpgaaGreatDoorProg
import Derived.KernelRfl
set_option linter.unusedVariables false
set_option linter.unusedSimpArgs false
set_option linter.unusedSectionVars false
set_option maxRecDepth 100000
namespace Go.Abs
open Go.Proofs

abbrev zs (n:Nat) (v:V):List V:=List.replicate n v
abbrev lH:Nat:=3
abbrev lj:Nat:=4
abbrev lG:Nat:=5
abbrev aA:Nat:=9
abbrev eC:Nat:=21
abbrev cg:Nat:=22
abbrev dg:Nat:=23
abbrev bF:Nat:=25
abbrev bv:Nat:=26
abbrev eS:Nat:=32
abbrev aB:Nat:=34
abbrev eR:Nat:=36
abbrev aR:Nat:=38
abbrev bM:Nat:=40
abbrev bO:Nat:=42
abbrev bo:Nat:=76
abbrev bE:Nat:=95
abbrev dE:Nat:=101
attribute [simp] dg eS bv eR cg dE aR bo bM aB bF bO lj lH eC bE aA lG
end Go.Abs
