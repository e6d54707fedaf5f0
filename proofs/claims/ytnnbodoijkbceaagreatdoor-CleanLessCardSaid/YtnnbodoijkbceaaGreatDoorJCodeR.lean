/- The images of some of the program's functions, as the kernel reckons them. No condition. -/
import Derived.Test.YtnnbodoijkbceaaGreatDoorJCodeQ
set_option linter.all false
set_option maxHeartbeats 0
set_option maxRecDepth 100000
namespace Go.Abs
open Go.Proofs
abbrev sx:Nat:=231
def sG:=ymI Tryz.func231 1
abbrev sv:Nat:=246
def sF:=ymI Tryz.func246 1
abbrev qO:Nat:=271
def qT:=ymI Tryz.func271 1
abbrev Iw:Nat:=95
def I0:=ymI Tryz.func95 1
abbrev eW:Nat:=61
def Cm:=ymI Tryz.func61 1
abbrev Bp:Nat:=124
def BY:=ymE Tryz.func124 [] [9999999] 2
abbrev Il:Nat:=123
def IN:=ymE Tryz.func123 [] [9999999] 2
abbrev E8:Nat:=91
def FH:=ymE Tryz.func91 [] [1000000,3000009,124,123] 2
abbrev y5:Nat:=92
def zz:=ymE Tryz.func92 [] [93] 2
abbrev fN:Nat:=60
def FI:=ymE Tryz.func60 [] [91,94,1000003000005] 1
end Go.Abs
