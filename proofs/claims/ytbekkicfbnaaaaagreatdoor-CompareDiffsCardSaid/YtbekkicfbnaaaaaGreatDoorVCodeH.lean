/- The images of some of the program's functions, as the kernel reckons them. No condition. -/
import Derived.Test.YtbekkicfbnaaaaaGreatDoorVCodeC
set_option linter.all false set_option maxRecDepth 100000 open Bool renaming false→ğ
namespace Go.Abs
open Go.Proofs
abbrev fy:Nat:=48
def Hz:=ymI Tryz.func48 2 [[0,0,0,2,0,0,16,56,0,0,256,1016,2046,4094,8191,16383],[0,1,2,3,4,5,6,7,8,9,10,11,12,13,14]]
abbrev JF:Nat:=72
def Kf:=ymI Tryz.func72 2
abbrev wa:Nat:=73
def wB:=ymI Tryz.func73 2
abbrev Hi:Nat:=45
def HA:=ymI Tryz.func45 2
abbrev EB:Nat:=47
def EO:=ymI Tryz.func47 2
abbrev qd:Nat:=68
def CM:=ymI Tryz.func68 1
abbrev oL:Nat:=71
def A7:=ymI Tryz.func71 1
abbrev uY:Nat:=69
def u7:=ymI Tryz.func69 1 [[0,0,1,0,0,12,28,63,127,255],[0,1,2,3,4,5,6,7,8],[0,0,0,2,6,0,16,0,64,255,511,1023],[0,1,2,3,4,5,6,7,8,9,10]]
abbrev qK:Nat:=104
def qO:=ymE Tryz.func104 [] [138,105] 2 [[0,0,0,2,6,0,16,0,64,255,511],[0,1,2,3,4,5,6,7,8,9]]
abbrev s6:Nat:=105
def kh:AC:=
 Q [.reg [bx 2 0,o1 4 (.alc [.nil 1,.nil 3,.nil 1,.nil 7,.nilfn,.int .i64 0,.nil 1,.nil 1,.nil 1,.nil 1])] [1,2,4],
 .regF (OQ [la 10 2 5,fa 11 2 3,l1 12 11,lq 13 12,fa 15 2 3,l1 16 15,lq 17 16] (.both
 (OQ [o1 14 (.mks 3 1 8 (.int .i64 0) (.t 13))] (.both
 (OQ [o1 18 (.mks 4 1 1 (.bool ğ) (.t 17)),o1 19 (.bld [.nil 1,.nil 3,.nil 1,.nil 7,.nilfn,.int .i64 0,.nil 1,.nil 1,.nil 1,.nil 1] [(0,5,(.t 10)),(7,1,(.t 14)),(8,1,(.t 18))]),o1 5 (.alc [.nil 1,.nil 3,.nil 1,.nil 7,.nilfn,.int .i64 0,.nil 1,.nil 1,.nil 1,.nil 1]),st 10 5 19] .nil)
 (OQ [o1 5 (.alc [.nil 1,.nil 3,.nil 1,.nil 7,.nilfn,.int .i64 0,.nil 1,.nil 1,.nil 1,.nil 1]),o1 18 (.mks 4 1 1 (.bool ğ) (.t 17)),o1 19 (.bld [.nil 1,.nil 3,.nil 1,.nil 7,.nilfn,.int .i64 0,.nil 1,.nil 1,.nil 1,.nil 1] [(0,5,(.t 10)),(7,1,(.t 14)),(8,1,(.t 18))]),st 10 5 19] .nil)))
 ((.both
 (OQ [o1 18 (.mks 4 1 1 (.bool ğ) (.t 17))] (.both
 (OQ [o1 14 (.mks 3 1 8 (.int .i64 0) (.t 13)),o1 19 (.bld [.nil 1,.nil 3,.nil 1,.nil 7,.nilfn,.int .i64 0,.nil 1,.nil 1,.nil 1,.nil 1] [(0,5,(.t 10)),(7,1,(.t 14)),(8,1,(.t 18))]),o1 5 (.alc [.nil 1,.nil 3,.nil 1,.nil 7,.nilfn,.int .i64 0,.nil 1,.nil 1,.nil 1,.nil 1]),st 10 5 19] .nil)
 (OQ [o1 5 (.alc [.nil 1,.nil 3,.nil 1,.nil 7,.nilfn,.int .i64 0,.nil 1,.nil 1,.nil 1,.nil 1]),o1 14 (.mks 3 1 8 (.int .i64 0) (.t 13)),o1 19 (.bld [.nil 1,.nil 3,.nil 1,.nil 7,.nilfn,.int .i64 0,.nil 1,.nil 1,.nil 1,.nil 1] [(0,5,(.t 10)),(7,1,(.t 14)),(8,1,(.t 18))]),st 10 5 19] .nil)))
 (OQ [o1 5 (.alc [.nil 1,.nil 3,.nil 1,.nil 7,.nilfn,.int .i64 0,.nil 1,.nil 1,.nil 1,.nil 1])] (.both
 (OQ [o1 14 (.mks 3 1 8 (.int .i64 0) (.t 13)),o1 18 (.mks 4 1 1 (.bool ğ) (.t 17)),o1 19 (.bld [.nil 1,.nil 3,.nil 1,.nil 7,.nilfn,.int .i64 0,.nil 1,.nil 1,.nil 1,.nil 1] [(0,5,(.t 10)),(7,1,(.t 14)),(8,1,(.t 18))]),st 10 5 19] .nil)
 (OQ [o1 18 (.mks 4 1 1 (.bool ğ) (.t 17)),o1 14 (.mks 3 1 8 (.int .i64 0) (.t 13)),o1 19 (.bld [.nil 1,.nil 3,.nil 1,.nil 7,.nilfn,.int .i64 0,.nil 1,.nil 1,.nil 1,.nil 1] [(0,5,(.t 10)),(7,1,(.t 14)),(8,1,(.t 18))]),st 10 5 19] .nil))))))) [1,2,4,5],
 Q [.reg [fa 20 2 3,l1 21 20,lq 22 21,mi 23 0] [1,2,4,5,21,22,23],
 .block 0 (.loop [1,2,4,5,21,22,23] (Q [.reg [bt 24 .lss 23 22] [1,2,4,5,21,22,23,24],
 C 24 (.skip) (.exit 0),
 .block 1 (Q [.reg [m 25 23,ia 26 21 23 7,la 27 26 7,o1 7 (.alc [.int .i64 0,.str [],.str [],.bool ğ,.str [],.bool ğ,.bool ğ]),m 6 25,st 7 7 27] [1,2,4,5,6,7,21,22,23],
 Q [.reg [fa 28 7 0,l1 29 28,bi 30 .neq 29 4] [1,2,4,5,6,7,21,22,23,30],
 C 30 (Q [Q [.reg [fa 31 2 3,l1 32 31,m 33 6,o1 34 (.bld [.int .i64 0,.nil 2] [(0,1,(.t 33))]),o1 35 (.lit 123 2 [.t 34]),ca 36 48 [32,35],lq 37 36,mi 38 0] [1,2,4,5,6,21,22,23,36,37,38],
 .block 2 (.loop [1,2,4,5,6,21,22,23,36,37,38] (Q [.reg [bt 39 .lss 38 37] [1,2,4,5,6,21,22,23,36,37,38,39],
 C 39 (.skip) (.exit 2),
 .block 3 (Q [.reg [ia 40 36 38 5,la 41 40 5,o1 9 (.alc [.int .i64 0,.str [],.nil 2,.str [],.nil 5]),st 5 9 41] [1,2,4,5,6,9,21,22,23,36,37,38],
 .regD [fa 42 5 8,l1 43 42,m 44 6,fa 45 2 0,la 46 45 3,m 47 1,la 48 9 5,ca 49 143 [46,47,48],ia 50 43 44 1,st 1 50 49] [1,2,4,5,6,21,22,23,36,37,38]]),
 .reg [bi 51 .add 38 1,m 38 51] [1,2,4,5,6,21,22,23,36,37,38]]))],
 .exit 1]) (.skip)],
 Q [.reg [m 52 1,bs 53 .eql 52 [],m 54 53,gf 54 (fa 55 7 1),gf 54 (l1 56 55),gf 54 (m 57 1),gf 54 (bt 58 .neq 56 57),po 59 54 58] [1,2,4,5,6,7,21,22,23,59],
 C 59 (.exit 1) (.skip)],
 Q [.regD [fa 60 5 6,l1 61 60,lq 62 61,bi 63 .eql 62 0,m 64 63,gf 64 (fa 65 5 6),gf 64 (l1 66 65),gf 64 (fa 67 5 6),gf 64 (l1 68 67),gf 64 (lq 69 68),gf 64 (bi 70 .sub 69 1),gf 64 (ia 71 66 70 1),gf 64 (l1 72 71),gf 64 (fa 73 7 2),gf 64 (l1 74 73),gf 64 (bt 75 .neq 72 74),po 76 64 75] [1,2,4,5,6,7,21,22,23,76],
 C 76 (.reg [fa 77 5 6,l1 78 77,fa 79 7 2,l1 80 79,o1 81 (.lit 9 1 [.t 80]),o1 82 (.app (.t 78) (.t 81) 9 1 16),fa 83 5 6,st 1 83 82] [1,2,4,5,6,21,22,23]) (.skip)],
 .reg [fa 84 5 7,l1 85 84,m 86 6,fa 87 5 6,l1 88 87,lq 89 88,ia 90 85 86 1,st 1 90 89] [1,2,4,5,21,22,23]]),
 .reg [bi 91 .add 23 1,m 23 91] [1,2,4,5,21,22,23]]))],
 .reg [la 92 5 10,st 10 4 92] [4],
 .ret]
theorem th:yiY Tryz.f105 105 [] [9999999] (ysK kh [[1,0,0,2,6,14,0,32,96,224,511,0,2047],[0,0,1,0,0,8,0,0,120,255,511],[0,1,2,3,4,5,6,7,8,9],[0,0,1,3,7,15,31,63,31,159,415,927,2047,4095,31,8223,32767,65535],[0,1,2,3,4,5,6,7,8,9,10,11,12,13,14,15,16]]).1 2 kh [.c 4 10 true]:=⟨Tryz.func105,by kernel_rfl⟩
abbrev dQ:Nat:=106
def gz:AC:=
 Q [.reg [bx 4 0,o1 8 (.alc [.nil 1,.nil 1])] [1,2,3,4,8],
 .regF (OQ [m 13 1,m 15 1] (.both
 (OQ [o1 14 (.mkm 54 24 3 1 (.t 13))] (.both
 (OQ [o1 16 (.mks 3 1 8 (.int .i64 0) (.t 15)),o1 17 (.bld [.nil 1,.nil 1] [(0,1,(.t 14)),(1,1,(.t 16))]),o1 9 (.alc [.nil 1,.nil 1]),st 2 9 17] .nil)
 (OQ [o1 9 (.alc [.nil 1,.nil 1]),o1 16 (.mks 3 1 8 (.int .i64 0) (.t 15)),o1 17 (.bld [.nil 1,.nil 1] [(0,1,(.t 14)),(1,1,(.t 16))]),st 2 9 17] .nil)))
 ((.both
 (OQ [o1 16 (.mks 3 1 8 (.int .i64 0) (.t 15))] (.both
 (OQ [o1 14 (.mkm 54 24 3 1 (.t 13)),o1 17 (.bld [.nil 1,.nil 1] [(0,1,(.t 14)),(1,1,(.t 16))]),o1 9 (.alc [.nil 1,.nil 1]),st 2 9 17] .nil)
 (OQ [o1 9 (.alc [.nil 1,.nil 1]),o1 14 (.mkm 54 24 3 1 (.t 13)),o1 17 (.bld [.nil 1,.nil 1] [(0,1,(.t 14)),(1,1,(.t 16))]),st 2 9 17] .nil)))
 (OQ [o1 9 (.alc [.nil 1,.nil 1])] (.both
 (OQ [o1 14 (.mkm 54 24 3 1 (.t 13)),o1 16 (.mks 3 1 8 (.int .i64 0) (.t 15)),o1 17 (.bld [.nil 1,.nil 1] [(0,1,(.t 14)),(1,1,(.t 16))]),st 2 9 17] .nil)
 (OQ [o1 16 (.mks 3 1 8 (.int .i64 0) (.t 15)),o1 14 (.mkm 54 24 3 1 (.t 13)),o1 17 (.bld [.nil 1,.nil 1] [(0,1,(.t 14)),(1,1,(.t 16))]),st 2 9 17] .nil))))))) [1,2,3,4,8,9],
 Q [.reg [m 18 1,mi 19 0] [2,3,4,8,9,18,19],
 .block 0 (.loop [2,3,4,8,9,18,19] (Q [.reg [bt 20 .lss 19 18] [2,3,4,8,9,18,19,20],
 C 20 (.skip) (.exit 0),
 .block 1 (Q [.reg [m 21 19,m 10 21] [2,3,4,8,9,10,18,19],
 .reg [fa 22 4 3,l1 23 22,lq 24 23,bi 25 .add 24 1,o1 26 (.mks 3 1 8 (.int .i64 0) (.t 25)),m 11 26] [2,3,4,8,9,10,11,18,19],
 Q [.reg [m 27 11,lq 28 27,mi 29 0] [2,3,4,8,9,10,11,18,19,28,29],
 .block 2 (.loop [2,3,4,8,9,10,11,18,19,28,29] (Q [.reg [bt 30 .lss 29 28] [2,3,4,8,9,10,11,18,19,28,29,30],
 C 30 (.skip) (.exit 2),
 .block 3 (Q [.reg [m 31 29,m 12 31] [2,3,4,8,9,10,11,12,18,19,28,29],
 .reg [m 32 11,m 33 12,m 34 2,m 35 10,m 36 12,cv 37 34 [35,36],ia 38 32 33 1,st 1 38 37] [2,3,4,8,9,10,11,18,19,28,29]]),
 .reg [bi 39 .add 29 1,m 29 39] [2,3,4,8,9,10,11,18,19,28,29]]))],
 .regF (OQ [fa 40 9 0,l1 41 40,m 42 10,m 45 10,m 46 11,m 47 3,m 48 10,cv 49 47 [48],ia 50 41 42 1] (.both
 (OQ [fa 43 9 1] (.both
 (OQ [l1 44 43,st 1 50 46,ia 51 44 45 1,st 1 51 49] .nil)
 (OQ [st 1 50 46,l1 44 43,ia 51 44 45 1,st 1 51 49] .nil)))
 (OQ [st 1 50 46,fa 43 9 1,l1 44 43,ia 51 44 45 1,st 1 51 49] .nil))) [2,3,4,8,9,18,19]]),
 .reg [bi 52 .add 19 1,m 19 52] [2,3,4,8,9,18,19]]))],
 .reg [la 53 9 2,st 2 8 53] [8],
 .ret]
theorem l5:yiX Tryz.f106 106 (ysK gz [[1,0,1,0,4,15,0,63],[1,0,1,0,0,8,0,0,0,0,384,967,1991,4095,8191]]).1 4 gz [.c 8 2 true]:=⟨Tryz.func106,by kernel_rfl⟩
abbrev kq:Nat:=107
def u5:=ymI Tryz.func107 1
abbrev cG:Nat:=108
def u3:=ymI Tryz.func108 3
abbrev d7:Nat:=109
def qN:=ymI Tryz.func109 2
abbrev eX:Nat:=140
def tf:=ymI Tryz.func140 2
abbrev uX:Nat:=144
def u6:=ymI Tryz.func144 1
abbrev sZ:Nat:=147
def te:=ymI Tryz.func147 1
abbrev uW:Nat:=146
def u4:=ymI Tryz.func146 2 [[0,0,0,2,7,15,31,31,95,255,511,1023,1023,1023,5119,13311,32767,65535,131071,262143,524287],[0,1,2,3,4,5,6,7,8,9,10,11,12,13,14,15,16,17,18,19]]
abbrev jJ:Nat:=145
def tg:=ymE Tryz.func145 [] [179] 3
abbrev b7:Nat:=180
def qM:=ymE Tryz.func180 [1,2] [9999999] 3
abbrev mV:Nat:=141
def yN:=ymI Tryz.func141 3
abbrev lT:Nat:=142
def wA:=ymI Tryz.func142 2
abbrev gU:Nat:=138
def pP:=ymE Tryz.func138 [0] [177] 2
abbrev kO:Nat:=179
def kU:=ymE Tryz.func179 [1] [205] 2
abbrev nj:Nat:=205
def nC:=ymE Tryz.func205 [1] [] 2
abbrev Hj:Nat:=234
def HB:=ymI Tryz.func234 1
abbrev sV:Nat:=177
def tc:=ymE Tryz.func177 [0] [204] 1
abbrev nh:Nat:=204
def nA:=ymE Tryz.func204 [0] [218] 4 [[0,0,1,3,7,7,23,63,127,7,7,775,1799,4095,8191,16383],[0,1,2,3,4,5,6,7,8,9,10,11,12,13,14]]
abbrev ji:Nat:=218
def jl:=ymE Tryz.func218 [0] [] 3 [[0,0,0,3,7,15,15,63,127,15,15,527,1807,3855,8191,16383],[0,1,2,3,4,5,6,7,8,9,10,11,12,13,14],[0,0,0,0,0,8,0,0,64,224,480,0,0,3072,7168,16355,32739,65535,131071],[0,1,2,3,4,5,6,7,8,9,10,11,12,13,14,15,16,17]]
abbrev Hf:Nat:=53
def Ht:=ymI Tryz.func53 1
abbrev Cp:Nat:=85
def CJ:=ymI Tryz.func85 1
abbrev JG:Nat:=224
def Kg:=ymI Tryz.func224 2
end Go.Abs
