/- The images of some of the program's functions, as the kernel reckons them. No condition. -/
import Derived.Test.YtnnbodoijkbceaaGreatDoorJCodeS
set_option linter.all false
set_option maxHeartbeats 0
set_option maxRecDepth 100000
namespace Go.Abs
open Go.Proofs
abbrev IA:Nat:=111
def I4:=ymE Tryz.func111 [] [1000000,3000003,3000011,3000033,3000050,3000054] 1 [[0,0,0,2,0,0,24,56,126,254,511,1023],[0,1,2,3,4,5,6,7,8,9,10]]
abbrev Iz:Nat:=82
def I3:=ymE Tryz.func82 [] [9999999,1000006000005] 1
abbrev zj:Nat:=54
def zM:=ymE Tryz.func54 [] [82] 2
abbrev oP:Nat:=32
def zO:=ymE Tryz.func32 [] [1000000,3000003,3000011,54,3000060] 1 [[0,0,0,0,6,14,30,0,64,192,448,0,0,3072,7168,16382,32766,65535,131071],[0,1,2,3,4,5,6,7,8,9,10,11,12,13,14,15,16,17]]
def zN:=ymE Tryz.func81 [1] [9999999] 2
end Go.Abs
