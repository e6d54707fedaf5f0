/- The images of some of the program's functions, as the kernel reckons them. No condition. -/
import Derived.Test.YtbekkicfbnaaaaaGreatDoorVCodeA
set_option linter.all false set_option maxRecDepth 100000
namespace Go.Abs
open Go.Proofs
abbrev Vt:Nat:=173
def V5:=ymI Tryz.func173 1
abbrev yE:Nat:=128
def yL:=ymI Tryz.func128 2
abbrev jF:Nat:=172
def jS:=ymI Tryz.func172 2
abbrev jD:Nat:=118
def jQ:=ymI Tryz.func118 2
abbrev Jy:Nat:=129
def J6:=ymI Tryz.func129 1
abbrev Ey:Nat:=94
def EJ:=ymI Tryz.func94 1
abbrev ME:Nat:=58
def Nr:=ymI Tryz.func58 2
abbrev MF:Nat:=86
def Ns:=ymI Tryz.func86 2
abbrev MD:Nat:=119
def Nq:=ymI Tryz.func119 2
abbrev p8:Nat:=139
def CI:=ymI Tryz.func139 1
abbrev He:Nat:=143
def Hs:=ymI Tryz.func143 3
end Go.Abs
