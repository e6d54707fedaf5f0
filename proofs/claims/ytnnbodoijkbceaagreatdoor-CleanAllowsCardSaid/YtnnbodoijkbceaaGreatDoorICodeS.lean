/- The images of some of the program's functions, as the kernel reckons them. No condition. -/
import Derived.Test.YtnnbodoijkbceaaGreatDoorICodeR
set_option linter.all false
set_option maxHeartbeats 0
set_option maxRecDepth 100000
namespace Go.Abs
open Go.Proofs
abbrev Jn:Nat:=116
def Kb:=ymE Tryz.func116 [] [144] 2
abbrev Jj:Nat:=86
def J8:=ymI Tryz.func86 3
abbrev cY:Nat:=56
def v7:=ymE Tryz.func56 [1] [9999999] 2
abbrev Ji:Nat:=55
def J7:=ymE Tryz.func55 [3] [55] 4
abbrev jr:Nat:=33
def Ar:=ymE Tryz.func33 [] [55] 3
abbrev ej:Nat:=10
def Fo:=ymI Tryz.func10 2
abbrev EA:Nat:=36
def Fp:=ymI Tryz.func36 3 [[0,0,0,2,7,15,31,63],[0,1,2,3,4,5,6]]
abbrev Jl:Nat:=14
def J9:=ymI Tryz.func14 2
abbrev Ey:Nat:=13
def Fl:=ymI Tryz.func13 0
abbrev bQ:Nat:=3
def sC:=ymI Tryz.func3 2 [[0,0,0,3,0,0,31,63,127,255,255,1023,255,255,8191,16383,32767,65535,131071,262143,524287],[0,1,2,3,4,5,6,7,8,9,10,11,12,13,14,15,16,17,18,19]]
end Go.Abs
