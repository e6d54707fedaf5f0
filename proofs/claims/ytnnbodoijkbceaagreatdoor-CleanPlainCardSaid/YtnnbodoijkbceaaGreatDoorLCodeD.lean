/-
  The images of some of the program's functions, as the kernel reckons them. Made by program. No condition.
-/
import Derived.Test.YtnnbodoijkbceaaGreatDoorLAbs15
import Derived.Test.YtnnbodoijkbceaaGreatDoorProg
import Derived.KernelRfl
set_option linter.all false
set_option maxHeartbeats 0
set_option maxRecDepth 100000
namespace Go.Abs
open Go.Proofs

abbrev zs (n:Nat) (v:V):List V:=List.replicate n v
abbrev nZ:Nat:=3
abbrev zj:Nat:=4
abbrev o9:Nat:=5
abbrev bX:Nat:=9
abbrev jg:Nat:=21
abbrev tS:Nat:=22
abbrev ko:Nat:=23
abbrev nd:Nat:=25
abbrev cU:Nat:=26
abbrev xR:Nat:=33
abbrev jH:Nat:=39
abbrev aC:Nat:=41
abbrev pf:Nat:=47
abbrev k8:Nat:=49
abbrev bK:Nat:=59
abbrev iE:Nat:=66
abbrev rJ:Nat:=68
abbrev cT:Nat:=117
abbrev tl:Nat:=127
abbrev pd:Nat:=259
abbrev pb:Nat:=261
abbrev pe:Nat:=263
abbrev pc:Nat:=268
attribute [simp] ko jH cU pf tl tS xR k8 bK iE aC nd rJ zj nZ jg pe pd pc pb bX cT o9
abbrev mT:Nat:=202
theorem m7:Tryz.prog.funcs[202]?=some Tryz.f202:=Tryz.func202
def gD:AC:=
 Q [.reg [mi 4 0] [0,1],
 .reg [m 5 0,m 6 1,ca 7 162 [5,6],m 4 7] [4],
 .ret]
theorem mZ:aq Tryz.prog Tryz.f202 [[0,1],[4]] 2=some (gD,[.t 4]):=by kernel_rfl

abbrev eH:Nat:=162
theorem eQ:Tryz.prog.funcs[162]?=some Tryz.f162:=Tryz.func162
def cj:AC:=
 Q [.reg [mi 4 0] [0,1],
 .reg [m 5 0,m 6 1,ca 7 174 [5,6],m 4 7] [4],
 .ret]
theorem eN:aq Tryz.prog Tryz.f162 [[0,1],[4]] 2=some (cj,[.t 4]):=by kernel_rfl

abbrev a6:Nat:=174
theorem bQ:Tryz.prog.funcs[174]?=some Tryz.f174:=Tryz.func174

end Go.Abs
