/- The images of some of the program's functions, as. -/
import Derived.Test.YtedmnakfknbabaaGreatDoorPAbs21
import Derived.Test.YtedmnakfknbabaaGreatDoorProg
import Derived.KernelRfl
set_option linter.all false
set_option maxHeartbeats 0
open List renaming replicate→zAa
set_option maxRecDepth 100000
namespace Go.Abs
open Go.Proofs
abbrev zs(n:Nat)(v:V):List V:=zAa n v
abbrev kz(n:Nat)(k:KK):List KK:=zAa n k
abbrev CJ:Nat:=3
abbrev sb:Nat:=4
abbrev iK:Nat:=5
abbrev gY:Nat:=9
abbrev lU:Nat:=21
abbrev xy:Nat:=22
abbrev nq:Nat:=23
abbrev qc:Nat:=25
abbrev bm:Nat:=26
abbrev sc:Nat:=30
abbrev nP:Nat:=32
abbrev kW:Nat:=34
abbrev vk:Nat:=36
abbrev jT:Nat:=40
abbrev mB:Nat:=46
abbrev aN:Nat:=48
abbrev dE:Nat:=59
abbrev sa:Nat:=272
abbrev np:Nat:=274
attribute [simp] nq mB bm sc xy jT nP dE kW aN qc vk sb sa CJ lU np gY iK
abbrev pN:Nat:=151
theorem pZ:Tryz.prog.funcs[151]?=some Tryz.f151:=Tryz.func151
def jB:AC:=
 Q [.reg [mi 4 0] [0,1],
 .reg [m 5 0,m 6 1,ca 7 128 [5,6],m 4 7] [4],
 .ret]
theorem pT:au Tryz.prog Tryz.f151 [[0,1],[4]] 2=some (jB,[.t 4]):=by kernel_rfl
abbrev gy:Nat:=128
theorem gH:Tryz.prog.funcs[128]?=some Tryz.f128:=Tryz.func128
def c8:AC:=
 Q [.reg [mi 4 0] [0,1],
 .reg [m 5 0,m 6 1,ca 7 138 [5,6],m 4 7] [4],
 .ret]
theorem gD:au Tryz.prog Tryz.f128 [[0,1],[4]] 2=some (c8,[.t 4]):=by kernel_rfl
abbrev fG:Nat:=138
theorem fJ:Tryz.prog.funcs[138]?=some Tryz.f138:=Tryz.func138
end Go.Abs
