/- The images of some of the program's functions, as the kernel reckons them. No condition. -/
import Derived.Test.YtloaikaippankaaGreatDoorQCodeC
set_option linter.all false set_option maxRecDepth 100000 open Bool renaming false→ğ
namespace Go.Abs
open Go.Proofs
abbrev MI:Nat:=13
def Nw:=ymI Tryz.func13 0
abbrev ce:Nat:=5
def ww:=ymI Tryz.func5 3
abbrev cf:Nat:=7
def wx:=ymI Tryz.func7 3
abbrev cI:Nat:=8
def A1:=ymI Tryz.func8 2
abbrev gK:Nat:=15
def EL:=ymI Tryz.func15 4 [[0,0,0,0,6,14,30,63,127,255,255,0,1535,4095],[0,1,2,3,4,5,6,7,8,9,10,11,12],[0,0,0,0,6,14,30,63,127,255,255,0,1535,4095],[0,1,2,3,4,5,6,7,8,9,10,11,12],[0,0,0,0,0,0,24,56,120,0,0,768,1792,3840,0,16128,32512,65535,131071],[0,1,2,3,4,5,6,7,8,9,10,11,12,13,14,15,16,17],[0,0,0,0,0,0,24,56,120,255,511],[0,1,2,3,4,5,6,7,8,9]]
abbrev iE:Nat:=14
def Hy:=ymI Tryz.func14 4
abbrev oK:Nat:=43
def Ke:=ymE Tryz.func43 [] [74] 4
abbrev bO:Nat:=75
def EN:=ymI Tryz.func75 2
abbrev fy:Nat:=18
def Hz:=ymI Tryz.func18 2 [[0,0,0,2,0,0,16,56,0,0,256,1016,2046,4094,8191,16383],[0,1,2,3,4,5,6,7,8,9,10,11,12,13,14]]
abbrev JF:Nat:=45
def Kf:=ymI Tryz.func45 2
abbrev wa:Nat:=46
def wB:=ymI Tryz.func46 2
abbrev Hh:Nat:=73
def Hx:=ymE Tryz.func73 [] [79] 2
abbrev p9:Nat:=123
def CL:=ymE Tryz.func123 [1] [9999999] 2
abbrev Hi:Nat:=23
def HA:=ymI Tryz.func23 2
abbrev EB:Nat:=27
def EO:=ymI Tryz.func27 2
abbrev qd:Nat:=49
def CM:=ymI Tryz.func49 1
abbrev oL:Nat:=53
def A7:=ymI Tryz.func53 1
abbrev uY:Nat:=50
def u7:=ymI Tryz.func50 1 [[0,0,1,0,0,12,28,63,127,255],[0,1,2,3,4,5,6,7,8],[0,0,0,2,6,0,16,0,64,255,511,1023],[0,1,2,3,4,5,6,7,8,9,10]]
abbrev qK:Nat:=83
def qO:=ymE Tryz.func83 [] [128,84] 2 [[0,0,0,2,6,0,16,0,64,255,511],[0,1,2,3,4,5,6,7,8,9]]
abbrev s6:Nat:=84
def kh:AC:=
 Q [.reg [bx 2 0,o1 4 (.alc [.nil 1,.nil 3,.nil 1,.nil 7,.nilfn,.int .i64 0,.nil 1,.nil 1,.nil 1,.nil 1])] [1,2,4],
 .regF (OQ [la 10 2 5,fa 11 2 3,l1 12 11,lq 13 12,fa 15 2 3,l1 16 15,lq 17 16] (.both
 (OQ [o1 14 (.mks 3 1 8 (.int .i64 0) (.t 13))] (.both
 (OQ [o1 18 (.mks 4 1 1 (.bool ğ) (.t 17)),o1 19 (.bld [.nil 1,.nil 3,.nil 1,.nil 7,.nilfn,.int .i64 0,.nil 1,.nil 1,.nil 1,.nil 1] [(0,5,(.t 10)),(7,1,(.t 14)),(8,1,(.t 18))]),o1 5 (.alc [.nil 1,.nil 3,.nil 1,.nil 7,.nilfn,.int .i64 0,.nil 1,.nil 1,.nil 1,.nil 1]),st 10 5 19] .nil)
 (OQ [o1 5 (.alc [.nil 1,.nil 3,.nil 1,.nil 7,.nilfn,.int .i64 0,.nil 1,.nil 1,.nil 1,.nil 1]),o1 18 (.mks 4 1 1 (.bool ğ) (.t 17)),o1 19 (.bld [.nil 1,.nil 3,.nil 1,.nil 7,.nilfn,.int .i64 0,.nil 1,.nil 1,.nil 1,.nil 1] [(0,5,(.t 10)),(7,1,(.t 14)),(8,1,(.t 18))]),st 10 5 19] .nil)))
 ((.both
 (OQ [o1 18 (.mks 4 1 1 (.bool ğ) (.t 17))] (.both
 (OQ [o1 14 (.mks 3 1 8 (.int .i64 0) (.t 13)),o1 19 (.bld [.nil 1,.nil 3,.nil 1,.nil 7,.nilfn,.int .i64 0,.nil 1,.nil 1,.nil 1,.nil 1] [(0,5,(.t 10)),(7,1,(.t 14)),(8,1,(.t 18))]),o1 5 (.alc [.nil 1,.nil 3,.nil 1,.nil 7,.nilfn,.int .i64 0,.nil 1,.nil 1,.nil 1,.nil 1]),st 10 5 19] .nil)
 (OQ [o1 5 (.alc [.nil 1,.nil 3,.nil 1,.nil 7,.nilfn,.int .i64 0,.nil 1,.nil 1,.nil 1,.nil 1]),o1 14 (.mks 3 1 8 (.int .i64 0) (.t 13)),o1 19 (.bld [.nil 1,.nil 3,.nil 1,.nil 7,.nilfn,.int .i64 0,.nil 1,.nil 1,.nil 1,.nil 1] [(0,5,(.t 10)),(7,1,(.t 14)),(8,1,(.t 18))]),st 10 5 19] .nil)))
 (OQ [o1 5 (.alc [.nil 1,.nil 3,.nil 1,.nil 7,.nilfn,.int .i64 0,.nil 1,.nil 1,.nil 1,.nil 1])] (.both
 (OQ [o1 14 (.mks 3 1 8 (.int .i64 0) (.t 13)),o1 18 (.mks 4 1 1 (.bool ğ) (.t 17)),o1 19 (.bld [.nil 1,.nil 3,.nil 1,.nil 7,.nilfn,.int .i64 0,.nil 1,.nil 1,.nil 1,.nil 1] [(0,5,(.t 10)),(7,1,(.t 14)),(8,1,(.t 18))]),st 10 5 19] .nil)
 (OQ [o1 18 (.mks 4 1 1 (.bool ğ) (.t 17)),o1 14 (.mks 3 1 8 (.int .i64 0) (.t 13)),o1 19 (.bld [.nil 1,.nil 3,.nil 1,.nil 7,.nilfn,.int .i64 0,.nil 1,.nil 1,.nil 1,.nil 1] [(0,5,(.t 10)),(7,1,(.t 14)),(8,1,(.t 18))]),st 10 5 19] .nil))))))) [1,2,4,5],
 Q [.reg [fa 20 2 3,l1 21 20,lq 22 21,mi 23 0] [1,2,4,5,21,22,23],
 .block 0 (.loop [1,2,4,5,21,22,23] (Q [.reg [bt 24 .lss 23 22] [1,2,4,5,21,22,23,24],
 C 24 (.skip) (.exit 0),
 .block 1 (Q [.reg [m 25 23,ia 26 21 23 7,la 27 26 7,o1 7 (.alc [.int .i64 0,.str [],.str [],.bool ğ,.str [],.bool ğ,.bool ğ]),m 6 25,st 7 7 27] [1,2,4,5,6,7,21,22,23],
 Q [.reg [fa 28 7 0,l1 29 28,bi 30 .neq 29 4] [1,2,4,5,6,7,21,22,23,30],
 C 30 (Q [Q [.reg [fa 31 2 3,l1 32 31,m 33 6,o1 34 (.bld [.int .i64 0,.nil 2] [(0,1,(.t 33))]),o1 35 (.lit 77 2 [.t 34]),ca 36 18 [32,35],lq 37 36,mi 38 0] [1,2,4,5,6,21,22,23,36,37,38],
 .block 2 (.loop [1,2,4,5,6,21,22,23,36,37,38] (Q [.reg [bt 39 .lss 38 37] [1,2,4,5,6,21,22,23,36,37,38,39],
 C 39 (.skip) (.exit 2),
 .block 3 (Q [.reg [ia 40 36 38 5,la 41 40 5,o1 9 (.alc [.int .i64 0,.str [],.nil 2,.str [],.nil 5]),st 5 9 41] [1,2,4,5,6,9,21,22,23,36,37,38],
 .regD [fa 42 5 8,l1 43 42,m 44 6,fa 45 2 0,la 46 45 3,m 47 1,la 48 9 5,ca 49 133 [46,47,48],ia 50 43 44 1,st 1 50 49] [1,2,4,5,6,21,22,23,36,37,38]]),
 .reg [bi 51 .add 38 1,m 38 51] [1,2,4,5,6,21,22,23,36,37,38]]))],
 .exit 1]) (.skip)],
 Q [.reg [m 52 1,bs 53 .eql 52 [],m 54 53,gf 54 (fa 55 7 1),gf 54 (l1 56 55),gf 54 (m 57 1),gf 54 (bt 58 .neq 56 57),po 59 54 58] [1,2,4,5,6,7,21,22,23,59],
 C 59 (.exit 1) (.skip)],
 Q [.regD [fa 60 5 6,l1 61 60,lq 62 61,bi 63 .eql 62 0,m 64 63,gf 64 (fa 65 5 6),gf 64 (l1 66 65),gf 64 (fa 67 5 6),gf 64 (l1 68 67),gf 64 (lq 69 68),gf 64 (bi 70 .sub 69 1),gf 64 (ia 71 66 70 1),gf 64 (l1 72 71),gf 64 (fa 73 7 2),gf 64 (l1 74 73),gf 64 (bt 75 .neq 72 74),po 76 64 75] [1,2,4,5,6,7,21,22,23,76],
 C 76 (.reg [fa 77 5 6,l1 78 77,fa 79 7 2,l1 80 79,o1 81 (.lit 9 1 [.t 80]),o1 82 (.app (.t 78) (.t 81) 9 1 16),fa 83 5 6,st 1 83 82] [1,2,4,5,6,21,22,23]) (.skip)],
 .reg [fa 84 5 7,l1 85 84,m 86 6,fa 87 5 6,l1 88 87,lq 89 88,ia 90 85 86 1,st 1 90 89] [1,2,4,5,21,22,23]]),
 .reg [bi 91 .add 23 1,m 23 91] [1,2,4,5,21,22,23]]))],
 .reg [la 92 5 10,st 10 4 92] [4],
 .ret]
theorem th:yiY Tryz.f84 84 [] [9999999] (ysK kh [[1,0,0,2,6,14,0,32,96,224,511,0,2047],[0,0,1,0,0,8,0,0,120,255,511],[0,1,2,3,4,5,6,7,8,9],[0,0,1,3,7,15,31,63,31,159,415,927,2047,4095,31,8223,32767,65535],[0,1,2,3,4,5,6,7,8,9,10,11,12,13,14,15,16]]).1 2 kh [.c 4 10 true]:=⟨Tryz.func84,by kernel_rfl⟩
abbrev dQ:Nat:=85
def gz:AC:=
 Q [.reg [bx 4 0,o1 8 (.alc [.nil 1,.nil 1])] [1,2,3,4,8],
 .regF (OQ [m 13 1,m 15 1] (.both
 (OQ [o1 14 (.mkm 48 24 3 1 (.t 13))] (.both
 (OQ [o1 16 (.mks 3 1 8 (.int .i64 0) (.t 15)),o1 17 (.bld [.nil 1,.nil 1] [(0,1,(.t 14)),(1,1,(.t 16))]),o1 9 (.alc [.nil 1,.nil 1]),st 2 9 17] .nil)
 (OQ [o1 9 (.alc [.nil 1,.nil 1]),o1 16 (.mks 3 1 8 (.int .i64 0) (.t 15)),o1 17 (.bld [.nil 1,.nil 1] [(0,1,(.t 14)),(1,1,(.t 16))]),st 2 9 17] .nil)))
 ((.both
 (OQ [o1 16 (.mks 3 1 8 (.int .i64 0) (.t 15))] (.both
 (OQ [o1 14 (.mkm 48 24 3 1 (.t 13)),o1 17 (.bld [.nil 1,.nil 1] [(0,1,(.t 14)),(1,1,(.t 16))]),o1 9 (.alc [.nil 1,.nil 1]),st 2 9 17] .nil)
 (OQ [o1 9 (.alc [.nil 1,.nil 1]),o1 14 (.mkm 48 24 3 1 (.t 13)),o1 17 (.bld [.nil 1,.nil 1] [(0,1,(.t 14)),(1,1,(.t 16))]),st 2 9 17] .nil)))
 (OQ [o1 9 (.alc [.nil 1,.nil 1])] (.both
 (OQ [o1 14 (.mkm 48 24 3 1 (.t 13)),o1 16 (.mks 3 1 8 (.int .i64 0) (.t 15)),o1 17 (.bld [.nil 1,.nil 1] [(0,1,(.t 14)),(1,1,(.t 16))]),st 2 9 17] .nil)
 (OQ [o1 16 (.mks 3 1 8 (.int .i64 0) (.t 15)),o1 14 (.mkm 48 24 3 1 (.t 13)),o1 17 (.bld [.nil 1,.nil 1] [(0,1,(.t 14)),(1,1,(.t 16))]),st 2 9 17] .nil))))))) [1,2,3,4,8,9],
 Q [.reg [m 18 1,mi 19 0] [2,3,4,8,9,18,19],
 .block 0 (.loop [2,3,4,8,9,18,19] (Q [.reg [bt 20 .lss 19 18] [2,3,4,8,9,18,19,20],
 C 20 (.skip) (.exit 0),
 .block 1 (Q [.reg [m 21 19,m 10 21] [2,3,4,8,9,10,18,19],
 .reg [fa 22 4 3,l1 23 22,lq 24 23,bi 25 .add 24 1,o1 26 (.mks 3 1 8 (.int .i64 0) (.t 25)),m 11 26] [2,3,4,8,9,10,11,18,19],
 Q [.reg [m 27 11,lq 28 27,mi 29 0] [2,3,4,8,9,10,11,18,19,28,29],
 .block 2 (.loop [2,3,4,8,9,10,11,18,19,28,29] (Q [.reg [bt 30 .lss 29 28] [2,3,4,8,9,10,11,18,19,28,29,30],
 C 30 (.skip) (.exit 2),
 .block 3 (Q [.reg [m 31 29,m 12 31] [2,3,4,8,9,10,11,12,18,19,28,29],
 .reg [m 32 11,m 33 12,m 34 2,m 35 10,m 36 12,cv 37 34 [35,36],ia 38 32 33 1,st 1 38 37] [2,3,4,8,9,10,11,18,19,28,29]]),
 .reg [bi 39 .add 29 1,m 29 39] [2,3,4,8,9,10,11,18,19,28,29]]))],
 .regF (OQ [fa 40 9 0,l1 41 40,m 42 10,m 45 10,m 46 11,m 47 3,m 48 10,cv 49 47 [48],ia 50 41 42 1] (.both
 (OQ [fa 43 9 1] (.both
 (OQ [l1 44 43,st 1 50 46,ia 51 44 45 1,st 1 51 49] .nil)
 (OQ [st 1 50 46,l1 44 43,ia 51 44 45 1,st 1 51 49] .nil)))
 (OQ [st 1 50 46,fa 43 9 1,l1 44 43,ia 51 44 45 1,st 1 51 49] .nil))) [2,3,4,8,9,18,19]]),
 .reg [bi 52 .add 19 1,m 19 52] [2,3,4,8,9,18,19]]))],
 .reg [la 53 9 2,st 2 8 53] [8],
 .ret]
theorem l5:yiX Tryz.f85 85 (ysK gz [[1,0,1,0,4,15,0,63],[1,0,1,0,0,8,0,0,0,0,384,967,1991,4095,8191]]).1 4 gz [.c 8 2 true]:=⟨Tryz.func85,by kernel_rfl⟩
abbrev kq:Nat:=86
def u5:=ymI Tryz.func86 1
abbrev cG:Nat:=87
def u3:=ymI Tryz.func87 3
abbrev d7:Nat:=88
def qN:=ymI Tryz.func88 2
abbrev eX:Nat:=130
def tf:=ymI Tryz.func130 2
abbrev uX:Nat:=134
def u6:=ymI Tryz.func134 1
abbrev sZ:Nat:=137
def te:=ymI Tryz.func137 1
abbrev uW:Nat:=136
def u4:=ymI Tryz.func136 2 [[0,0,0,2,7,15,31,31,95,255,511,1023,1023,1023,5119,13311,32767,65535,131071,262143,524287],[0,1,2,3,4,5,6,7,8,9,10,11,12,13,14,15,16,17,18,19]]
abbrev jJ:Nat:=135
def tg:=ymE Tryz.func135 [] [172] 3
abbrev b7:Nat:=173
def qM:=ymE Tryz.func173 [1,2] [9999999] 3
abbrev mV:Nat:=131
def yN:=ymI Tryz.func131 3
abbrev lT:Nat:=132
def wA:=ymI Tryz.func132 2
abbrev gU:Nat:=128
def pP:=ymE Tryz.func128 [0] [170] 2
abbrev gb:Nat:=16
def JX:=ymI Tryz.func16 1
abbrev iD:Nat:=22
def Hn:=ymI Tryz.func22 2 [[0,0,0,0,6,14,31,63],[0,1,2,3,4,5,6]]
abbrev qI:Nat:=48
def MZ:=ymI Tryz.func48 2 [[0,0,0,2,0,14,30,63,127],[0,1,2,3,4,5,6,7]]
abbrev Gb:Nat:=42
def VO:=ymI Tryz.func42 1 [[0,0,1,0,7,15,0,32,0,128,511,1023],[0,1,2,3,4,5,6,7,8,9,10]]
abbrev Rm:Nat:=72
def Sg:=ymI Tryz.func72 3
abbrev ge:Nat:=17
def J5:=ymI Tryz.func17 1 [[0,0,1,0,0,12,28,60,124,255,0,0,1536,3584,7680,15872,32767,65535],[0,1,2,3,4,5,6,7,8,9,10,11,12,13,14,15,16]]
abbrev jz:Nat:=19
def DJ:AC:=
 Q [.reg [mb 4 ğ] [0,1],
 Q [.reg [m 10 0,lq 11 10,m 12 1,lq 13 12,bt 14 .neq 11 13] [0,1,14],
 C 14 (Q [.reg [mb 4 ğ] [4],
 .ret]) (.skip)],
 Q [.reg [mi 5 0] [0,1,5],
 .block 0 (.loop [0,1,5] (Q [Q [.reg [m 15 5,m 16 0,lq 17 16,bt 18 .lss 15 17] [0,1,5,18],
 C 18 (.skip) (.exit 0)],
 .block 1 (Q [.reg [m 21 0,m 22 5,ia 23 21 22 5,la 24 23 5,o1 6 (.alc [.int .i64 0,.str [],.nil 2,.str [],.nil 5]),st 5 6 24] [0,1,5,6],
 .reg [m 25 1,m 26 5,ia 27 25 26 5,la 28 27 5,o1 7 (.alc [.int .i64 0,.str [],.nil 2,.str [],.nil 5]),st 5 7 28] [0,1,5,6,7],
 Q [.reg [fa 29 6 0,l1 30 29,fa 31 7 0,l1 32 31,bt 33 .neq 30 32,m 34 33,gf 34 (fa 35 6 1),gf 34 (l1 36 35),gf 34 (fa 37 7 1),gf 34 (l1 38 37),gf 34 (bt 39 .neq 36 38),po 40 34 39,m 41 40,gf 41 (fa 42 6 3),gf 41 (l1 43 42),gf 41 (fa 44 7 3),gf 41 (l1 45 44),gf 41 (bt 46 .neq 43 45),po 47 41 46,m 48 47,gf 48 (fa 49 6 2),gf 48 (l1 50 49),gf 48 (lq 51 50),gf 48 (fa 52 7 2),gf 48 (l1 53 52),gf 48 (lq 54 53),gf 48 (bt 55 .neq 51 54),po 56 48 55] [0,1,5,6,7,56],
 C 56 (Q [.reg [mb 4 ğ] [4],
 .ret]) (.skip)],
 Q [.reg [mi 8 0] [0,1,5,6,7,8],
 .block 2 (.loop [0,1,5,6,7,8] (Q [Q [.reg [m 57 8,fa 58 6 2,l1 59 58,lq 60 59,bt 61 .lss 57 60] [0,1,5,6,7,8,61],
 C 61 (.skip) (.exit 2)],
 .block 3 (Q [.regD [fa 64 6 2,l1 65 64,m 66 8,ia 67 65 66 2,la 68 67 2,fa 69 7 2,l1 70 69,m 71 8,ia 72 70 71 2,la 73 72 2,o1 74 (.aeq true ⟨true,[.s,.s]⟩ (.t 68) (.t 73))] [0,1,5,6,7,8,74],
 C 74 (Q [.reg [mb 4 ğ] [4],
 .ret]) (.skip)]),
 .reg [m 62 8,bi 63 .add 62 1,m 8 63] [0,1,5,6,7,8]]))],
 .reg [fa 75 6 4,l1 76 75,fa 77 7 4,l1 78 77,ca 79 19 [76,78],m 9 79] [0,1,5,9],
 .reg [m 80 9,nt' 81 80] [0,1,5,81],
 C 81 (Q [.reg [mb 4 ğ] [4],
 .ret]) (.skip)]),
 .reg [m 19 5,bi 20 .add 19 1,m 5 20] [0,1,5]]))],
 .reg [mb 4 true] [4],
 .ret]
theorem SD:yiX Tryz.f19 19 (ysK DJ [[0,0,1,0,7,15,0,32,0,224,480,1023],[0,1,2,3,4,5,6,7,8,9,10]]).1 2 DJ [.t 4]:=⟨Tryz.func19,by kernel_rfl⟩
abbrev iq:Nat:=20
def MY:=ymI Tryz.func20 2 [[0,0,1,0,0,0,24,56,120,252,511,0,2047],[0,1,2,3,4,5,6,7,8,9,10,11]]
abbrev np:Nat:=44
def SV:=ymE Tryz.func44 [] [79] 5
abbrev oO:Nat:=78
def Kj:=ymE Tryz.func78 [1,2] [9999999] 3 [[0,0,0,3,0,0,16,63,127],[0,1,2,3,4,5,6,7]]
abbrev jK:Nat:=80
def Ki:=ymE Tryz.func80 [1,2,3,4] [9999999] 5
abbrev Hk:Nat:=77
def HC:=ymI Tryz.func77 3
abbrev cK:Nat:=79
def cL:=ymE Tryz.func79 [1] [] 2
abbrev kO:Nat:=172
def kU:=ymE Tryz.func172 [1] [211] 2
abbrev nj:Nat:=211
def nC:=ymE Tryz.func211 [1] [] 2
abbrev eV:Nat:=74
def e9:=ymE Tryz.func74 [0] [124] 2
abbrev kj:Nat:=124
def kn:=ymE Tryz.func124 [0] [165,166] 3
abbrev ga:Nat:=165
def gm:=ymE Tryz.func165 [0] [] 4 [[0,0,0,3,7,15,15,15,111,239,15,15,1039,3599,7695,16383,32767,65535],[0,1,2,3,4,5,6,7,8,9,10,11,12,13,14,15,16],[0,0,0,0,0,8,0,0,64,224,480,0,0,3072,7168,16355,32739,65535,131071],[0,1,2,3,4,5,6,7,8,9,10,11,12,13,14,15,16,17]]
abbrev Cq:Nat:=76
def CN:=ymI Tryz.func76 2
abbrev Hj:Nat:=125
def HB:=ymI Tryz.func125 1
abbrev sV:Nat:=170
def tc:=ymE Tryz.func170 [0] [210] 1
abbrev nh:Nat:=210
def nA:=ymE Tryz.func210 [0] [238] 4 [[0,0,1,3,7,7,23,63,127,7,7,775,1799,4095,8191,16383],[0,1,2,3,4,5,6,7,8,9,10,11,12,13,14]]
abbrev ji:Nat:=238
def jl:=ymE Tryz.func238 [0] [] 3 [[0,0,0,3,7,15,15,63,127,15,15,527,1807,3855,8191,16383],[0,1,2,3,4,5,6,7,8,9,10,11,12,13,14],[0,0,0,0,0,8,0,0,64,224,480,0,0,3072,7168,16355,32739,65535,131071],[0,1,2,3,4,5,6,7,8,9,10,11,12,13,14,15,16,17]]
abbrev Hf:Nat:=60
def Ht:=ymI Tryz.func60 1
abbrev Cp:Nat:=108
def CJ:=ymI Tryz.func108 1
abbrev JG:Nat:=244
def Kg:=ymI Tryz.func244 2
def EP:=ymI Tryz.func206 2
def NI:=ymE Tryz.func126 [] [9999999] 2 [[0,0,1,0,7,15],[0,1,2,3,4]]
end Go.Abs
