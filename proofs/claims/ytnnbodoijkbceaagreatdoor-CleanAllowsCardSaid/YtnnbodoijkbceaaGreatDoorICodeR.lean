/- The images of some of the program's functions, as the kernel reckons them. No condition. -/
import Derived.Test.YtnnbodoijkbceaaGreatDoorICodeQ
set_option linter.all false
set_option maxHeartbeats 0
set_option maxRecDepth 100000
namespace Go.Abs
open Go.Proofs
abbrev uy:Nat:=231
def uG:=ymI Tryz.func231 1
abbrev ux:Nat:=246
def uF:=ymI Tryz.func246 1
abbrev sr:Nat:=271
def sB:=ymI Tryz.func271 1
abbrev MW:Nat:=95
def NC:=ymI Tryz.func95 1
abbrev fN:Nat:=61
def Fk:=ymI Tryz.func61 1
abbrev D0:Nat:=124
def EK:=ymE Tryz.func124 [] [9999999] 2
abbrev MI:Nat:=123
def Nj:=ymE Tryz.func123 [] [9999999] 2
abbrev IQ:Nat:=91
def JA:=ymE Tryz.func91 [] [1000000,3000009,124,123] 2
abbrev BD:Nat:=92
def B7:=ymE Tryz.func92 [] [93] 2
abbrev gF:Nat:=60
def JB:=ymE Tryz.func60 [] [91,94,1000003000005] 1
abbrev gH:Nat:=12
def w9:AC:=
 Q [.reg [mb 4 false] [0,1],
 Q [.reg [m 10 0,lq 11 10,m 12 1,lq 13 12,bt 14 .neq 11 13] [0,1,14],
 C 14 (Q [.reg [mb 4 false] [4],
 .ret]) (.skip)],
 Q [.reg [mi 5 0] [0,1,5],
 .block 0 (.loop [0,1,5] (Q [Q [.reg [m 15 5,m 16 0,lq 17 16,bt 18 .lss 15 17] [0,1,5,18],
 C 18 (.skip) (.exit 0)],
 .block 1 (Q [.reg [m 21 0,m 22 5,ia 23 21 22 5,la 24 23 5,o1 6 (.alc [.int .i64 0,.str [],.nil 2,.str [],.nil 5]),st 5 6 24] [0,1,5,6],
 .reg [m 25 1,m 26 5,ia 27 25 26 5,la 28 27 5,o1 7 (.alc [.int .i64 0,.str [],.nil 2,.str [],.nil 5]),st 5 7 28] [0,1,5,6,7],
 Q [.reg [fa 29 6 0,l1 30 29,fa 31 7 0,l1 32 31,bt 33 .neq 30 32,m 34 33,gf 34 (fa 35 6 1),gf 34 (l1 36 35),gf 34 (fa 37 7 1),gf 34 (l1 38 37),gf 34 (bt 39 .neq 36 38),po 40 34 39,m 41 40,gf 41 (fa 42 6 3),gf 41 (l1 43 42),gf 41 (fa 44 7 3),gf 41 (l1 45 44),gf 41 (bt 46 .neq 43 45),po 47 41 46,m 48 47,gf 48 (fa 49 6 2),gf 48 (l1 50 49),gf 48 (lq 51 50),gf 48 (fa 52 7 2),gf 48 (l1 53 52),gf 48 (lq 54 53),gf 48 (bt 55 .neq 51 54),po 56 48 55] [0,1,5,6,7,56],
 C 56 (Q [.reg [mb 4 false] [4],
 .ret]) (.skip)],
 Q [.reg [mi 8 0] [0,1,5,6,7,8],
 .block 2 (.loop [0,1,5,6,7,8] (Q [Q [.reg [m 57 8,fa 58 6 2,l1 59 58,lq 60 59,bt 61 .lss 57 60] [0,1,5,6,7,8,61],
 C 61 (.skip) (.exit 2)],
 .block 3 (Q [.regD [fa 64 6 2,l1 65 64,m 66 8,ia 67 65 66 2,la 68 67 2,fa 69 7 2,l1 70 69,m 71 8,ia 72 70 71 2,la 73 72 2,o1 74 (.aeq true ⟨true,[.s,.s]⟩ (.t 68) (.t 73))] [0,1,5,6,7,8,74],
 C 74 (Q [.reg [mb 4 false] [4],
 .ret]) (.skip)]),
 .reg [m 62 8,bi 63 .add 62 1,m 8 63] [0,1,5,6,7,8]]))],
 .reg [fa 75 6 4,l1 76 75,fa 77 7 4,l1 78 77,ca 79 12 [76,78],m 9 79] [0,1,5,9],
 .reg [m 80 9,nt' 81 80] [0,1,5,81],
 C 81 (Q [.reg [mb 4 false] [4],
 .ret]) (.skip)]),
 .reg [m 19 5,bi 20 .add 19 1,m 5 20] [0,1,5]]))],
 .reg [mb 4 true] [4],
 .ret]
theorem J1:yiX Tryz.f12 12 (ysK w9 [[0,0,1,0,7,15,0,32,0,224,480,1023],[0,1,2,3,4,5,6,7,8,9,10]]).1 2 w9 [.t 4]:=⟨Tryz.func12,by kernel_rfl⟩
end Go.Abs
