/- The images of some of the program's functions, as the kernel reckons them. No condition. -/
import Derived.Test.YtnnbodoijkbceaaGreatDoorJCodeR
set_option linter.all false
set_option maxHeartbeats 0
set_option maxRecDepth 100000
namespace Go.Abs
open Go.Proofs
abbrev Fu:Nat:=116
def F8:=ymE Tryz.func116 [] [144] 2
abbrev Fq:Nat:=86
def F4:=ymI Tryz.func86 3
abbrev cD:Nat:=56
def ue:=ymE Tryz.func56 [1] [9999999] 2
abbrev Fp:Nat:=55
def F3:=ymE Tryz.func55 [3] [55] 4
abbrev iH:Nat:=33
def xP:=ymE Tryz.func33 [] [55] 3
abbrev dI:Nat:=10
def Cq:=ymI Tryz.func10 2
abbrev BP:Nat:=36
def Cr:=ymI Tryz.func36 3 [[0,0,0,2,7,15,31,63],[0,1,2,3,4,5,6]]
abbrev Fr:Nat:=14
def F5:=ymI Tryz.func14 2
abbrev Fs:Nat:=22
def F6:=ymI Tryz.func22 2 [[0,0,1,0,0,15,31,63,127],[0,1,2,3,4,5,6,7]]
abbrev Iu:Nat:=18
def IY:=ymI Tryz.func18 1
abbrev zh:Nat:=21
def zK:=ymI Tryz.func21 1 [[0,0,1,0,0,12,28,60,124,255,0,0,1536,3584,7680,15872,32767,65535],[0,1,2,3,4,5,6,7,8,9,10,11,12,13,14,15,16]]
abbrev zk:Nat:=23
def qd:AC:=
 Q [.reg [mb 4 false] [0,1],
 Q [.reg [mi 5 0] [0,1,5],
 .block 0 (.loop [0,1,5] (Q [Q [.reg [m 8 5,m 9 0,lq 10 9,bt 11 .lss 8 10] [0,1,5,11],
 C 11 (.skip) (.exit 0)],
 .block 1 (Q [.reg [mb 6 false] [0,1,5,6],
 Q [.reg [mi 7 0] [0,1,5,6,7],
 .block 2 (.loop [0,1,5,6,7] (Q [Q [.reg [m 14 7,m 15 1,lq 16 15,bt 17 .lss 14 16] [0,1,5,6,7,17],
 C 17 (.skip) (.exit 2)],
 .block 3 (.regD [m 20 6,m 21 20,gf 21 (m 22 0),gf 21 (m 23 5),gf 21 (ia 24 22 23 2),gf 21 (la 25 24 2),gf 21 (m 26 1),gf 21 (m 27 7),gf 21 (ia 28 26 27 2),gf 21 (la 29 28 2),gf 21 (o1 30 (.aeq false ⟨true,[.s,.s]⟩ (.t 25) (.t 29))),po 31 21 30,m 6 31] [0,1,5,6,7]),
 .reg [m 18 7,bi 19 .add 18 1,m 7 19] [0,1,5,6,7]]))],
 .reg [m 32 6,nt' 33 32] [0,1,5,33],
 C 33 (Q [.reg [mb 4 false] [4],
 .ret]) (.skip)]),
 .reg [m 12 5,bi 13 .add 12 1,m 5 13] [0,1,5]]))],
 .reg [mb 4 true] [4],
 .ret]
theorem zP:yiX Tryz.f23 23 (ysK qd [[0,0,1,3,3,15,31,3,3,195,451,1023,2047,4095],[0,1,2,3,4,5,6,7,8,9,10,11,12]]).1 2 qd [.t 4]:=⟨Tryz.func23,by kernel_rfl⟩
abbrev BN:Nat:=13
def Co:=ymI Tryz.func13 0
abbrev bT:Nat:=6
def ud:=ymI Tryz.func6 2 [[0,0,1,3,3,15,31,63,127,255,511,511,2047,4095,8191,511,511,49663,115199,246271,524287,1048575,2097151,4194303,4194303,16777215,33554431,67108863,4194303,4194303,406847487,943718399,2017460223,4294967295,8589934591,17179869183,34359738367],[0,1,2,3,4,5,6,7,8,9,10,11,12,13,14,15,16,17,18,19,20,21,22,23,24,25,26,27,28,29,30,31,32,33,34,35]]
end Go.Abs
