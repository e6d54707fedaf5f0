/- The images of some of the program's functions, as the kernel reckons them. No condition. -/
import Derived.Test.YtloaikaippankaaGreatDoorQCodeA
set_option linter.all false set_option maxRecDepth 100000
namespace Go.Abs
open Go.Proofs
abbrev Vt:Nat:=203
def V5:=ymI Tryz.func203 1
abbrev yE:Nat:=159
def yL:=ymI Tryz.func159 2
abbrev jF:Nat:=202
def jS:=ymI Tryz.func202 2
abbrev jD:Nat:=149
def jQ:=ymI Tryz.func149 2
abbrev Jy:Nat:=160
def J6:=ymI Tryz.func160 1
abbrev Ey:Nat:=117
def EJ:=ymI Tryz.func117 1
abbrev ME:Nat:=65
def Nr:=ymI Tryz.func65 2
abbrev MF:Nat:=109
def Ns:=ymI Tryz.func109 2
abbrev MD:Nat:=150
def Nq:=ymI Tryz.func150 2
abbrev p8:Nat:=129
def CI:=ymI Tryz.func129 1
abbrev He:Nat:=133
def Hs:=ymI Tryz.func133 3
abbrev zk:Nat:=167
def NH:=ymE Tryz.func167 [] [9999999] 1
abbrev mG:Nat:=206
abbrev RY:Nat:=126
end Go.Abs
