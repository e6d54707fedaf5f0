/- The images of some of the program's functions, as the kernel reckons them. No condition. -/
import Derived.Test.YtedmnakfknbabaaGreatDoorAAbs17
import Derived.Test.YtedmnakfknbabaaGreatDoorProg
import Derived.KernelRfl
set_option linter.all false
set_option maxHeartbeats 0
set_option maxRecDepth 100000
namespace Go.Abs
open Go.Proofs
abbrev zs(n:Nat)(v:V):List V:=List.replicate n v
abbrev bC:Nat:=3
abbrev uq:Nat:=4
abbrev iB:Nat:=5
abbrev au:Nat:=9
abbrev j5:Nat:=21
abbrev ep:Nat:=22
abbrev gF:Nat:=23
abbrev c9:Nat:=25
abbrev cK:Nat:=26
abbrev kJ:Nat:=30
abbrev ak:Nat:=32
abbrev dr:Nat:=34
abbrev ax:Nat:=36
abbrev zh:Nat:=40
abbrev kL:Nat:=46
abbrev aG:Nat:=48
abbrev cF:Nat:=59
abbrev c8:Nat:=72
abbrev iC:Nat:=120
abbrev kK:Nat:=186
abbrev bM:Nat:=192
abbrev ur:Nat:=193
abbrev b5:Nat:=209
abbrev qk:Nat:=212
abbrev qi:Nat:=214
abbrev ql:Nat:=216
abbrev qj:Nat:=221
attribute [simp] gF kL kK cK kJ ur ep zh iC ak cF dr bM aG c9 ax uq bC j5 c8 ql b5 qk qj qi au iB
abbrev vr:Nat:=145
theorem wb:Tryz.prog.funcs[145]?=some Tryz.f145:=Tryz.func145
def nf:AC:=
 Q [.reg [mv 2 (.niliface)] [0],
 Q [.reg [m 3 0,lq 4 3] [0,4],
 .block 0 (Q [.reg [bi 6 .eql 4 0,m 5 6] [0,4,5],
 C 5 (Q [.reg [o1 7 (.bld (zs 95 (.bool false)) []),o1 8 (.mki 214 (.t 7)),m 2 8] [2],
 .ret]) (Q [.reg [bi 10 .eql 4 1,m 9 10] [0,9],
 C 9 (Q [.reg [m 11 0,o1 12 (.ia (.t 11) (.v (.int .i64 0)) 1),l1 13 12,m 2 13] [2],
 .ret]) (.skip)])])],
 .reg [m 14 0,o1 15 (.bld [.nil 1] [(0,1,(.t 14))]),o1 16 (.mki 216 (.t 15)),m 2 16] [2],
 .ret]
theorem vN:am Tryz.prog Tryz.f145 [[0],[0,4],[0,4,5],[2],[0,9],[2],[2]] 1=some (nf,[.t 2]):=by kernel_rfl
abbrev DA:Nat:=150
theorem Ed:Tryz.prog.funcs[150]?=some Tryz.f150:=Tryz.func150
def tw:AC:=
 Q [.reg [mv 2 (.niliface)] [0],
 Q [.reg [m 3 0,lq 4 3,bi 5 .eql 4 1] [0,5],
 C 5 (Q [.reg [m 6 0,o1 7 (.ia (.t 6) (.v (.int .i64 0)) 1),l1 8 7,m 2 8] [2],
 .ret]) (.skip)],
 .reg [m 9 0,o1 10 (.bld [.nil 1] [(0,1,(.t 9))]),o1 11 (.mki 221 (.t 10)),m 2 11] [2],
 .ret]
theorem DZ:am Tryz.prog Tryz.f150 [[0],[0,5],[2],[2]] 1=some (tw,[.t 2]):=by kernel_rfl
abbrev xq:Nat:=153
theorem ym:Tryz.prog.funcs[153]?=some Tryz.f153:=Tryz.func153
def oV:AC:=
 Q [.reg [o1 0 (.alc (zs 95 (.bool false)))] [0],
 .reg [o1 1 (.bld (zs 95 (.bool false)) []),ca 2 157 [1],st 95 0 2] [0],
 .ret]
theorem xQ:am Tryz.prog Tryz.f153 [[0],[0]] 0=some (oV,[.c 0 95 true]):=by kernel_rfl
abbrev vp:Nat:=156
theorem v8:Tryz.prog.funcs[156]?=some Tryz.f156:=Tryz.func156
def nc:AC:=
 Q [.reg [o1 2 (.alc (zs 95 (.bool false)))] [0,2],
 .reg [o1 3 (.alc (zs 95 (.bool false)))] [0,2,3],
 .reg [m 4 0,bu 5 .sub 4 32,o1 6 (.iaa (.t 3) (.t 5) 95 1),o0 (.st 1 (.t 6) (.v (.bool true)))] [2,3],
 .reg [la 7 3 95,st 95 2 7] [2],
 .ret]
theorem vL:am Tryz.prog Tryz.f156 [[0,2],[0,2,3],[2,3],[2]] 1=some (nc,[.c 2 95 true]):=by kernel_rfl
abbrev qF:Nat:=157
theorem qT:Tryz.prog.funcs[157]?=some Tryz.f157:=Tryz.func157
def jD:AC:=
 Q [.reg [bx 1 0,o1 2 (.alc (zs 95 (.bool false)))] [1,2],
 Q [.reg [mi 4 0] [1,2,4],
 .block 0 (.loop [1,2,4] (Q [.reg [bi 5 .lss 4 95] [1,2,4,5],
 C 5 (.skip) (.exit 0),
 .block 1 (Q [.reg [m 6 4,m 3 6] [1,2,3,4],
 .reg [m 7 3,m 8 3,o1 9 (.iaa (.t 1) (.t 8) 95 1),l1 10 9,nt' 11 10,o1 12 (.iaa (.t 1) (.t 7) 95 1),st 1 12 11] [1,2,4]]),
 .reg [bi 13 .add 4 1,m 4 13] [1,2,4]]))],
 .reg [la 14 1 95,st 95 2 14] [2],
 .ret]
theorem qQ:am Tryz.prog Tryz.f157 [[1,2],[1,2,4],[1,2,4],[1,2,4,5],[1,2,3,4],[1,2,4],[1,2,4],[2]] 1=some (jD,[.c 2 95 true]):=by kernel_rfl
abbrev vq:Nat:=158
theorem wa:Tryz.prog.funcs[158]?=some Tryz.f158:=Tryz.func158
def nd:AC:=
 Q [.reg [mb 2 false] [0],
 .reg [m 3 0,o1 4 (.bin .leq (.v (.int .u8 32)) (.t 3)),m 5 4,gt 5 (m 6 0),gt 5 (bu 7 .leq 6 126),pa 8 5 7,m 2 8] [2],
 .ret]
theorem vM:am Tryz.prog Tryz.f158 [[0],[2]] 1=some (nd,[.t 2]):=by kernel_rfl
abbrev n8:Nat:=151
theorem oo:Tryz.prog.funcs[151]?=some Tryz.f151:=Tryz.func151
def gZ:AC:=
 Q [.reg [mi 4 0] [0,1],
 .reg [m 5 0,m 6 1,ca 7 128 [5,6],m 4 7] [4],
 .ret]
theorem oh:am Tryz.prog Tryz.f151 [[0,1],[4]] 2=some (gZ,[.t 4]):=by kernel_rfl
abbrev b9:Nat:=128
theorem cd:Tryz.prog.funcs[128]?=some Tryz.f128:=Tryz.func128
def bp:AC:=
 Q [.reg [mi 4 0] [0,1],
 .reg [m 5 0,m 6 1,ca 7 138 [5,6],m 4 7] [4],
 .ret]
theorem cc:am Tryz.prog Tryz.f128 [[0,1],[4]] 2=some (bp,[.t 4]):=by kernel_rfl
abbrev be:Nat:=138
theorem bT:Tryz.prog.funcs[138]?=some Tryz.f138:=Tryz.func138
abbrev aB:Nat:=123
theorem yn:Tryz.prog.funcs[123]?=some Tryz.f123:=Tryz.func123
def oW:AC:=
 Q [.reg [mv 2 (.nilptr),mi 3 0] [0],
 Q [.reg [m 7 0,ls 8 7,bi 9 .gtr 8 60] [0,9],
 C 9 (Q [.reg [mv 2 (.nilptr),mi 3 3] [2,3],
 .ret]) (.skip)],
 .reg [m 10 0,o1 11 (.bld [.str [],.int .i64 0] [(0,1,(.t 10))]),bx 12 11,m 4 12] [0,4],
 .reg [m 14 4,ch 15 135 [14],m 13 15,ex 16 13 0,ex 17 13 1,m 5 16,m 6 17] [0,4,5,6],
 Q [.reg [m 18 6,nt' 19 18,m 20 19,gf 20 (m 21 4),gf 20 (o1 22 (.nlc (.t 21))),gf 20 (fa 23 22 1),gf 20 (l1 24 23),gf 20 (m 25 0),gf 20 (ls 26 25),gf 20 (bt 27 .lss 24 26),po 28 20 27] [5,28],
 C 28 (Q [.reg [mv 2 (.nilptr),mi 3 2] [2,3],
 .ret]) (.skip)],
 .reg [m 29 5,o1 30 (.bld [.niliface] [(0,1,(.t 29))]),bx 31 30,m 2 31,mi 3 0] [2,3],
 .ret]
theorem xR:aJ Tryz.prog Tryz.f123 [] [123,136,147,135,143,144,149,155,154,146,208,210,211,209,213,214,212] [[0],[0,9],[2,3],[0,4],[0,4,5,6],[5,28],[2,3],[2,3]] 1=some (oW,[.t 2,.t 3]):=by kernel_rfl
abbrev cN:Nat:=136
theorem iU:Tryz.prog.funcs[136]?=some Tryz.f136:=Tryz.func136
def eu:AC:=
 Q [.reg [o1 2 (.alc [.int .i64 0,.int .i64 0,.int .i64 0,.nil 4])] [0,2],
 .reg [o1 6 (.bld [.int .i64 0,.nil 4,.nil 3] [(0,1,(.v (.int .i64 2)))]),bx 7 6,m 3 7] [0,2,3],
 .reg [m 8 3,m 9 0,ch 10 147 [9],o1 11 (.callH 146 [.t 8,.t 10,.v (.int .i64 0),.v (.int .i64 1)])] [2,3],
 .block 0 (.loop [2,3] (Q [Q [.reg [m 12 3,o1 13 (.nlc (.t 12)),fa 14 13 2,l1 15 14,lq 16 15,bi 17 .gtr 16 0] [2,3,17],
 C 17 (.skip) (.exit 0)],
 .block 1 (Q [.reg [m 18 3,o1 19 (.nlc (.t 18)),fa 20 19 2,l1 21 20,lq 22 21,bi 23 .sub 22 1,m 4 23] [2,3,4],
 .reg [m 24 3,o1 25 (.nlc (.t 24)),fa 26 25 2,l1 27 26,m 28 4,ia 29 27 28 3,la 30 29 3,o1 5 (.alc [.niliface,.int .i64 0,.int .i64 0]),st 3 5 30] [2,3,4,5],
 .reg [m 31 3,m 32 3,o1 33 (.nlc (.t 32)),fa 34 33 2,l1 35 34,m 36 4,o1 37 (.trc (.t 35) (.t 36) 3),o1 38 (.nlc (.t 31)),fa 39 38 2,st 1 39 37] [2,3,5],
 .reg [fa 40 5 0,l1 41 40,m 42 3,fa 43 5 1,l1 44 43,fa 45 5 2,l1 46 45,o1 47 (.ivp [(212,209,none),(214,211,none),(216,213,none),(221,214,none),(257,211,some (95,true))] (.t 41) [.t 42,.t 44,.t 46])] [2,3]])])),
 .regD [m 48 3,o1 49 (.nlc (.t 48)),fa 50 49 0,l1 51 50,m 52 3,o1 53 (.nlc (.t 52)),fa 54 53 1,l1 55 54,o1 56 (.bld [.int .i64 0,.int .i64 0,.int .i64 0,.nil 4] [(0,1,(.t 51)),(1,1,(.v (.int .i64 0))),(2,1,(.v (.int .i64 1))),(3,1,(.t 55))]),st 4 2 56] [2],
 .ret]
theorem iR:aJ Tryz.prog Tryz.f136 [] [123,136,147,135,143,144,149,155,154,146,208,210,211,209,213,214,212,1000000] [[0,2],[0,2,3],[2,3],[2,3],[2,3,17],[2,3,4],[2,3,4,5],[2,3,5],[2,3],[0,0,1,3,7,0,16,48,112,255,511],[0,1,2,3,4,5,6,7,8,9],[2]] 1=some (eu,[.c 2 4 true]):=by kernel_rfl
abbrev oD:Nat:=147
theorem oK:Tryz.prog.funcs[147]?=some Tryz.f147:=Tryz.func147
def jU:AC:=
 Q [.reg [mv 2 (.niliface)] [0],
 Q [.reg [m 3 0,o1 4 (.nlq 0 false (.t 3)),m 5 4,gf 5 (m 6 0),gf 5 (o1 7 (.nlc (.t 6))),gf 5 (fa 8 7 0),gf 5 (l1 9 8),gf 5 (o1 10 (.nlq 1 false (.t 9))),po 11 5 10] [0,11],
 C 11 (Q [.reg [o1 12 (.bld (zs 95 (.bool false)) []),o1 13 (.mki 214 (.t 12)),m 2 13] [2],
 .ret]) (.skip)],
 .reg [m 14 0,o1 15 (.nlc (.t 14)),fa 16 15 0,l1 17 16,m 2 17] [2],
 .ret]
theorem oI:am Tryz.prog Tryz.f147 [[0],[0,11],[2],[2]] 1=some (jU,[.t 2]):=by kernel_rfl
abbrev iK:Nat:=135
theorem iT:Tryz.prog.funcs[135]?=some Tryz.f135:=Tryz.func135
def dL:AC:=
 Q [.reg [mv 2 (.niliface),mb 3 false] [0],
 .reg [mv 4 (.nil 1)] [0,4],
 .block 0 (.loop [0,4] (.block 1 (Q [.reg [m 8 0,ch 9 143 [8],m 7 9,ex 10 7 0,ex 11 7 1,m 5 10,m 6 11] [0,4,5,6],
 Q [.reg [m 12 6,nt' 13 12] [0,4,5,13],
 C 13 (Q [.reg [mv 2 (.niliface),mb 3 false] [0,2,3],
 .ret]) (.skip)],
 .reg [m 14 4,m 15 5,o1 16 (.lit 181 1 [.t 15]),o1 17 (.app (.t 14) (.t 16) 181 1 16),m 4 17] [0,4],
 Q [.reg [m 18 0,o1 19 (.callH 144 [.t 18,.v (.str [124])]),nt' 20 19] [0,4,20],
 C 20 (Q [.reg [m 21 4,ca 22 145 [21],m 2 22,mb 3 true] [0,2,3],
 .ret]) (.skip)],
 .reg [m 23 0,o1 24 (.nlc (.t 23)),fa 25 24 1,l1 26 25,bi 27 .add 26 1,o1 28 (.nlc (.t 23)),fa 29 28 1,st 1 29 27] [0,4]])))]
theorem iQ:aJ Tryz.prog Tryz.f135 [0] [123,136,147,135,143,144,149,155,154,146,208,210,211,209,213,214,212] [[0],[0,4],[0,4],[0,4,5,6],[0,4,5,13],[0,2,3],[0,4],[0,4,20],[0,2,3],[0,4]] 1=some (dL,[.t 2,.t 3]):=by kernel_rfl
abbrev kU:Nat:=143
theorem k7:Tryz.prog.funcs[143]?=some Tryz.f143:=Tryz.func143
def fo:AC:=
 Q [.reg [mv 2 (.niliface),mb 3 false] [0],
 .reg [mv 4 (.nil 1)] [0,4],
 .block 0 (.loop [0,4] (Q [Q [.regD [m 7 0,o1 8 (.nlc (.t 7)),fa 9 8 1,l1 10 9,m 11 0,o1 12 (.nlc (.t 11)),fa 13 12 0,l1 14 13,ls 15 14,bt 16 .lss 10 15,m 17 16,gt 17 (m 18 0),gt 17 (o1 19 (.callH 144 [.t 18,.v (.str [124,41])])),gt 17 (nt' 20 19),pa 21 17 20] [0,4,21],
 C 21 (.skip) (.exit 0)],
 .block 1 (Q [.reg [m 23 0,ch 24 149 [23],m 22 24,ex 25 22 0,ex 26 22 1,m 5 25,m 6 26] [0,4,5,6],
 Q [.reg [m 27 6,nt' 28 27] [0,4,5,28],
 C 28 (Q [.reg [mv 2 (.niliface),mb 3 false] [0,2,3],
 .ret]) (.skip)],
 .block 2 (.loop [0,4,5] (Q [Q [.reg [m 29 0,o1 30 (.callH 144 [.t 29,.v (.str [42,43,63])])] [0,4,5,30],
 C 30 (.skip) (.exit 2)],
 .block 3 (Q [.regD [m 31 5,m 32 0,o1 33 (.nlc (.t 32)),fa 34 33 0,l1 35 34,m 36 0,o1 37 (.nlc (.t 36)),fa 38 37 1,l1 39 38,ix 40 35 39,o1 41 (.bld [.niliface,.int .u8 0] [(0,1,(.t 31)),(1,1,(.t 40))]),o1 42 (.mki 212 (.t 41)),m 5 42] [0,4,5],
 .reg [m 43 0,o1 44 (.nlc (.t 43)),fa 45 44 1,l1 46 45,bi 47 .add 46 1,o1 48 (.nlc (.t 43)),fa 49 48 1,st 1 49 47] [0,4,5]])])),
 .reg [m 50 4,m 51 5,o1 52 (.lit 181 1 [.t 51]),o1 53 (.app (.t 50) (.t 52) 181 1 16),m 4 53] [0,4]])])),
 .reg [m 54 4,ca 55 150 [54],m 2 55,mb 3 true] [0,2,3],
 .ret]
theorem kZ:aJ Tryz.prog Tryz.f143 [0] [123,136,147,135,143,144,149,155,154,146,208,210,211,209,213,214,212] [[0],[0,4],[0,4],[0,0,1,3,7,0,16,48,112,240,511,1023,2047,4095,8191,16383],[0,1,2,3,4,5,6,7,8,9,10,11,12,13,14],[0,4,21],[0,4,5,6],[0,4,5,28],[0,2,3],[0,4,5],[0,4,5,30],[0,0,0,2,6,14,0,32,96,224,510,1023,2047,4095],[0,1,2,3,4,5,6,7,8,9,10,11,12],[0,4,5],[0,4,5],[0,4],[0,2,3]] 1=some (fo,[.t 2,.t 3]):=by kernel_rfl
abbrev pM:Nat:=144
theorem pW:Tryz.prog.funcs[144]?=some Tryz.f144:=Tryz.func144
def i8:AC:=
 Q [.reg [mb 4 false] [0,1],
 .regD [m 5 0,o1 6 (.nlc (.t 5)),fa 7 6 1,l1 8 7,m 9 0,o1 10 (.nlc (.t 9)),fa 11 10 0,l1 12 11,ls 13 12,bt 14 .lss 8 13,m 15 14,gt 15 (m 16 1),gt 15 (m 17 0),gt 15 (o1 18 (.nlc (.t 17))),gt 15 (fa 19 18 0),gt 15 (l1 20 19),gt 15 (m 21 0),gt 15 (o1 22 (.nlc (.t 21))),gt 15 (fa 23 22 1),gt 15 (l1 24 23),gt 15 (ix 25 20 24),gt 15 (ca 26 151 [16,25]),gt 15 (bi 27 .geq 26 0),pa 28 15 27,m 4 28] [0,4],
 .ret]
theorem pR:aJ Tryz.prog Tryz.f144 [0] [123,136,147,135,143,144,149,155,154,146,208,210,211,209,213,214,212] [[0,1],[0,0,1,3,7,0,16,48,112,240,511,1023,2047,2047,6143,14335,30719,2047,67583,198655,460799,1046527,2097151,4194303,8388607,16777215],[0,1,2,3,4,5,6,7,8,9,10,11,12,13,14,15,16,17,18,19,20,21,22,23,24],[0,4]] 2=some (i8,[.t 4]):=by kernel_rfl
abbrev mI:Nat:=149
theorem mU:Tryz.prog.funcs[149]?=some Tryz.f149:=Tryz.func149
def gB:AC:=
 Q [.reg [mv 2 (.niliface),mb 3 false] [0],
 .block 0 (Q [.reg [m 9 0,o1 10 (.callH 144 [.t 9,.v (.str [40])]),m 8 10] [0,8],
 C 8 (Q [.reg [m 11 0,o1 12 (.nlc (.t 11)),fa 13 12 1,l1 14 13,bi 15 .add 14 1,o1 16 (.nlc (.t 11)),fa 17 16 1,st 1 17 15] [0],
 .reg [m 19 0,ch 20 135 [19],m 18 20,ex 21 18 0,ex 22 18 1,m 4 21,m 5 22] [0,4,5],
 Q [.reg [m 23 5,nt' 24 23,m 25 24,gf 25 (m 26 0),gf 25 (o1 27 (.callH 144 [.t 26,.v (.str [41])])),gf 25 (nt' 28 27),po 29 25 28] [0,4,29],
 C 29 (Q [.reg [mv 2 (.niliface),mb 3 false] [0,2,3],
 .ret]) (.skip)],
 .reg [m 30 0,o1 31 (.nlc (.t 30)),fa 32 31 1,l1 33 32,bi 34 .add 33 1,o1 35 (.nlc (.t 30)),fa 36 35 1,st 1 36 34] [0,4],
 .reg [m 37 4,m 2 37,mb 3 true] [0,2,3],
 .ret]) (Q [.reg [m 39 0,o1 40 (.callH 144 [.t 39,.v (.str [46])]),m 38 40] [0,38],
 C 38 (Q [.reg [m 41 0,o1 42 (.nlc (.t 41)),fa 43 42 1,l1 44 43,bi 45 .add 44 1,o1 46 (.nlc (.t 41)),fa 47 46 1,st 1 47 45] [0],
 .reg [ca 48 153 [],o1 49 (.mki 214 (.t 48)),m 2 49,mb 3 true] [0,2,3],
 .ret]) (Q [.reg [m 51 0,o1 52 (.callH 144 [.t 51,.v (.str [91])]),m 50 52] [0,50],
 C 50 (Q [.reg [m 53 0,o1 54 (.nlc (.t 53)),fa 55 54 1,l1 56 55,bi 57 .add 56 1,o1 58 (.nlc (.t 53)),fa 59 58 1,st 1 59 57] [0],
 .reg [m 60 0,ch 61 154 [60],ex 62 61 0,ex 63 61 1,m 2 62,m 3 63] [0,2,3],
 .ret]) (.skip)])])]),
 .reg [m 65 0,o1 66 (.callH 155 [.t 65,.v (.str [92,40,41,91,93,124,42,43,63,46])]),m 64 66,ex 67 64 0,ex 68 64 1,m 6 67,m 7 68] [0,6,7],
 Q [.reg [m 69 7,nt' 70 69] [0,6,70],
 C 70 (Q [.reg [mv 2 (.niliface),mb 3 false] [0,2,3],
 .ret]) (.skip)],
 .reg [m 71 6,ca 72 156 [71],o1 73 (.mki 214 (.t 72)),m 2 73,mb 3 true] [0,2,3],
 .ret]
theorem mR:aJ Tryz.prog Tryz.f149 [0] [123,136,147,135,143,144,149,155,154,146,208,210,211,209,213,214,212] [[0],[0,8],[0],[0,4,5],[0,4,29],[0,2,3],[0,4],[0,2,3],[0,38],[0],[0,2,3],[0,50],[0],[0,2,3],[0,6,7],[0,6,70],[0,2,3],[0,2,3]] 1=some (gB,[.t 2,.t 3]):=by kernel_rfl
abbrev mH:Nat:=155
theorem mT:Tryz.prog.funcs[155]?=some Tryz.f155:=Tryz.func155
def gA:AC:=
 Q [.reg [mv 4 (.int .u8 0),mb 5 false] [0,1],
 Q [.reg [m 6 0,o1 7 (.callH 144 [.t 6,.v (.str [92])])] [0,1,7],
 C 7 (Q [.reg [m 8 0,o1 9 (.nlc (.t 8)),fa 10 9 1,l1 11 10,bi 12 .add 11 1,o1 13 (.nlc (.t 8)),fa 14 13 1,st 1 14 12] [0],
 .reg [mv 1 (.str [])] [0,1]]) (.skip)],
 Q [.regD [m 15 0,o1 16 (.nlc (.t 15)),fa 17 16 1,l1 18 17,m 19 0,o1 20 (.nlc (.t 19)),fa 21 20 0,l1 22 21,ls 23 22,bt 24 .eql 18 23,m 25 24,gf 25 (m 26 0),gf 25 (o1 27 (.nlc (.t 26))),gf 25 (fa 28 27 0),gf 25 (l1 29 28),gf 25 (m 30 0),gf 25 (o1 31 (.nlc (.t 30))),gf 25 (fa 32 31 1),gf 25 (l1 33 32),gf 25 (ix 34 29 33),gf 25 (ca 35 158 [34]),gf 25 (nt' 36 35),po 37 25 36,m 38 37,gf 38 (m 39 0),gf 38 (m 40 1),gf 38 (ch 41 144 [39,40]),po 42 38 41] [0,42],
 C 42 (Q [.reg [mv 4 (.int .u8 0),mb 5 false] [0,4,5],
 .ret]) (.skip)],
 .reg [m 43 0,o1 44 (.nlc (.t 43)),fa 45 44 1,l1 46 45,bi 47 .add 46 1,o1 48 (.nlc (.t 43)),fa 49 48 1,st 1 49 47] [0],
 .regD [m 50 0,o1 51 (.nlc (.t 50)),fa 52 51 0,l1 53 52,m 54 0,o1 55 (.nlc (.t 54)),fa 56 55 1,l1 57 56,bi 58 .sub 57 1,ix 59 53 58,m 4 59,mb 5 true] [0,4,5],
 .ret]
theorem mQ:aJ Tryz.prog Tryz.f155 [0] [123,136,147,135,143,144,149,155,154,146,208,210,211,209,213,214,212] [[0,1],[0,1,7],[0],[0,1],[0,0,1,3,7,0,16,48,112,240,511,1023,2047,4095,8191,16383,2047,34815,100351,231423,524287,1048575,2097151,4194303,8388607,16777215,16777215,67108863,134217727],[0,1,2,3,4,5,6,7,8,9,10,11,12,13,14,15,16,17,18,19,20,21,22,23,24,25,26,27],[0,42],[0,4,5],[0],[0,0,1,3,7,0,16,48,112,240,511,1023,2047],[0,1,2,3,4,5,6,7,8,9,10,11],[0,4,5]] 2=some (gA,[.t 4,.t 5]):=by kernel_rfl
abbrev l4:Nat:=154
theorem l8:Tryz.prog.funcs[154]?=some Tryz.f154:=Tryz.func154
def fx:AC:=
 Q [.reg [mv 2 (.niliface),mb 3 false] [0],
 .reg [m 11 0,o1 12 (.callH 144 [.t 11,.v (.str [94])]),m 4 12] [0,4],
 Q [.reg [m 13 4] [0,4,13],
 C 13 (.reg [m 14 0,o1 15 (.nlc (.t 14)),fa 16 15 1,l1 17 16,bi 18 .add 17 1,o1 19 (.nlc (.t 14)),fa 20 19 1,st 1 20 18] [0,4]) (.skip)],
 .reg [o1 5 (.alc (zs 95 (.bool false)))] [0,4,5],
 Q [.reg [mb 6 true] [0,4,5,6],
 .block 0 (.loop [0,4,5,6] (Q [Q [.reg [m 21 6,m 22 21,gf 22 (m 23 0),gf 22 (o1 24 (.callH 144 [.t 23,.v (.str [93])])),gf 22 (nt' 25 24),po 26 22 25] [0,4,5,26],
 C 26 (.skip) (.exit 0)],
 .block 1 (Q [.reg [m 28 0,o1 29 (.callH 155 [.t 28,.v (.str [92,93,45,94])]),m 27 29,ex 30 27 0,ex 31 27 1,m 7 30,m 8 31] [0,4,5,7,8],
 Q [.reg [m 32 8,nt' 33 32] [0,4,5,7,33],
 C 33 (Q [.reg [mv 2 (.niliface),mb 3 false] [0,2,3],
 .ret]) (.skip)],
 .reg [m 34 7,m 9 34] [0,4,5,7,9],
 Q [.reg [m 35 0,o1 36 (.callH 144 [.t 35,.v (.str [45])])] [0,4,5,7,9,36],
 C 36 (Q [.reg [m 37 0,o1 38 (.nlc (.t 37)),fa 39 38 1,l1 40 39,bi 41 .add 40 1,o1 42 (.nlc (.t 37)),fa 43 42 1,st 1 43 41] [0,4,5,7],
 .reg [m 45 0,o1 46 (.callH 155 [.t 45,.v (.str [92,93,45,94])]),m 44 46,ex 47 44 0,ex 48 44 1,m 9 47,m 8 48] [0,4,5,7,8,9],
 .reg [m 49 8,nt' 50 49,m 51 50,gf 51 (m 52 9),gf 51 (m 53 7),gf 51 (bt 54 .lss 52 53),po 55 51 54] [0,4,5,7,9,55],
 C 55 (Q [.reg [mv 2 (.niliface),mb 3 false] [0,2,3],
 .ret]) (.skip)]) (.skip)],
 .reg [m 56 7,m 10 56] [0,4,5,9,10],
 .block 2 (.loop [0,4,5,9,10] (Q [Q [.reg [m 57 10,m 58 9,bt 59 .leq 57 58] [0,4,5,9,10,59],
 C 59 (.skip) (.exit 2)],
 .block 3 (.reg [m 62 10,bu 63 .sub 62 32,o1 64 (.iaa (.t 5) (.t 63) 95 1),o0 (.st 1 (.t 64) (.v (.bool true)))] [0,4,5,9,10]),
 .reg [m 60 10,bu 61 .add 60 1,m 10 61] [0,4,5,9,10]]))]),
 .reg [mb 6 false] [0,4,5,6]]))],
 .reg [m 65 0,o1 66 (.nlc (.t 65)),fa 67 66 1,l1 68 67,bi 69 .add 68 1,o1 70 (.nlc (.t 65)),fa 71 70 1,st 1 71 69] [0,4,5],
 Q [.reg [m 72 4] [0,5,72],
 C 72 (.reg [la 73 5 95,ca 74 157 [73],st 95 5 74] [0,5]) (.skip)],
 .reg [la 75 5 95,o1 76 (.mki 214 (.t 75)),m 2 76,mb 3 true] [0,2,3],
 .ret]
theorem l6:aJ Tryz.prog Tryz.f154 [0] [123,136,147,135,143,144,149,155,154,146,208,210,211,209,213,214,212] [[0],[0,4],[0,4,13],[0,4],[0,4,5],[0,4,5,6],[0,4,5,6],[0,4,5,26],[0,4,5,7,8],[0,4,5,7,33],[0,2,3],[0,4,5,7,9],[0,4,5,7,9,36],[0,4,5,7],[0,4,5,7,8,9],[0,4,5,7,9,55],[0,2,3],[0,4,5,9,10],[0,4,5,9,10],[0,4,5,9,10,59],[0,4,5,9,10],[0,4,5,9,10],[0,4,5,6],[0,4,5],[0,5,72],[0,5],[0,2,3]] 1=some (fx,[.t 2,.t 3]):=by kernel_rfl
abbrev d5:Nat:=146
theorem d8:Tryz.prog.funcs[146]?=some Tryz.f146:=Tryz.func146
def cu:AC:=
 .reg [m 8 0,m 9 0,o1 10 (.nlc (.t 9)),fa 11 10 2,l1 12 11,m 13 1,m 14 2,m 15 3,o1 16 (.bld [.niliface,.int .i64 0,.int .i64 0] [(0,1,(.t 13)),(1,1,(.t 14)),(2,1,(.t 15))]),o1 17 (.lit 209 3 [.t 16]),o1 18 (.app (.t 12) (.t 17) 209 3 32),o1 19 (.nlc (.t 8)),fa 20 19 2,st 1 20 18] [0]
theorem d7:aJ Tryz.prog Tryz.f146 [0] [123,136,147,135,143,144,149,155,154,146,208,210,211,209,213,214,212] [[0]] 4=some (cu,[]):=by kernel_rfl
abbrev gb:Nat:=208
theorem gr:Tryz.prog.funcs[208]?=some Tryz.f208:=Tryz.func208
def dM:AC:=
 Q [.reg [mi 2 0] [0],
 .reg [m 3 0,o1 4 (.nlc (.t 3)),fa 5 4 0,l1 6 5,bi 7 .add 6 1,o1 8 (.nlc (.t 3)),fa 9 8 0,st 1 9 7] [0],
 .reg [m 10 0,o1 11 (.nlc (.t 10)),fa 12 11 0,l1 13 12,bi 14 .sub 13 1,m 2 14] [0,2],
 .ret]
theorem gn:aJ Tryz.prog Tryz.f208 [0] [123,136,147,135,143,144,149,155,154,146,208,210,211,209,213,214,212] [[0],[0],[0,2]] 1=some (dM,[.t 2]):=by kernel_rfl
abbrev gV:Nat:=210
theorem gX:Tryz.prog.funcs[210]?=some Tryz.f210:=Tryz.func210
def d9:AC:=
 .reg [m 6 0,m 7 0,o1 8 (.nlc (.t 7)),fa 9 8 1,l1 10 9,m 11 1,m 12 2,o1 13 (.bld [.int .i64 0,.int .i64 0,.int .u8 0,.int .u8 0] [(0,1,(.t 11)),(1,1,(.t 12)),(2,1,(.v (.int .u8 1))),(3,1,(.v (.int .u8 0)))]),o1 14 (.lit 192 4 [.t 13]),o1 15 (.app (.t 10) (.t 14) 192 4 24),o1 16 (.nlc (.t 6)),fa 17 16 1,st 1 17 15] [0]
theorem gW:aJ Tryz.prog Tryz.f210 [0] [123,136,147,135,143,144,149,155,154,146,208,210,211,209,213,214,212] [[0]] 3=some (d9,[]):=by kernel_rfl
abbrev lB:Nat:=211
theorem lK:Tryz.prog.funcs[211]?=some Tryz.f211:=Tryz.func211
def gN:AC:=
 Q [.reg [bx 4 0] [1,2,3,4],
 .reg [mi 8 0] [1,2,3,4,8],
 .block 0 (.loop [1,2,3,4,8] (Q [Q [.reg [m 10 8,bi 11 .lss 10 95] [1,2,3,4,8,11],
 C 11 (.skip) (.exit 0)],
 .block 1 (Q [Q [.reg [m 14 8,o1 15 (.iaa (.t 4) (.t 14) 95 1),l1 16 15,nt' 17 16] [1,2,3,4,8,17],
 C 17 (.exit 1) (.skip)],
 .reg [m 18 8,ch 19 212 [4,18],m 9 19] [1,2,3,4,8,9],
 .reg [m 20 1,m 21 1,o1 22 (.nlc (.t 21)),fa 23 22 1,l1 24 23,m 25 2,m 26 3,m 27 8,o1 28 (.bin .add (.v (.int .i64 32)) (.t 27)),o1 29 (.cii .u8 (.t 28)),m 30 9,o1 31 (.bin .add (.v (.int .i64 32)) (.t 30)),o1 32 (.cii .u8 (.t 31)),o1 33 (.bld [.int .i64 0,.int .i64 0,.int .u8 0,.int .u8 0] [(0,1,(.t 25)),(1,1,(.t 26)),(2,1,(.t 29)),(3,1,(.t 32))]),o1 34 (.lit 192 4 [.t 33]),o1 35 (.app (.t 24) (.t 34) 192 4 24),o1 36 (.nlc (.t 20)),fa 37 36 1,st 1 37 35] [1,2,3,4,9],
 .reg [m 38 9,m 8 38] [1,2,3,4,8]]),
 .reg [m 12 8,bi 13 .add 12 1,m 8 13] [1,2,3,4,8]]))]
theorem lG:aJ Tryz.prog Tryz.f211 [1] [123,136,147,135,143,144,149,155,154,146,208,210,211,209,213,214,212] [[1,2,3,4],[1,2,3,4,8],[1,2,3,4,8],[1,2,3,4,8,11],[1,2,3,4,8,17],[1,2,3,4,8,9],[1,2,3,4,9],[1,2,3,4,8],[1,2,3,4,8]] 4=some (gN,[]):=by kernel_rfl
abbrev lD:Nat:=209
theorem lM:Tryz.prog.funcs[209]?=some Tryz.f209:=Tryz.func209
def gP:AC:=
 Q [.reg [bx 4 0] [1,2,3,4],
 .reg [fa 11 4 1,l1 12 11] [1,2,3,4,12],
 .block 0 (Q [.reg [bu 36 .eql 12 63,m 35 36] [1,2,3,4,12,35],
 C 35 (Q [.reg [m 37 1,m 38 2,m 39 3,ch 40 210 [37,38,39]] [1,2,3,4],
 .reg [m 41 1,fa 42 4 0,l1 43 42,m 44 2,m 45 3,ch 46 146 [41,43,44,45]] [1]]) (Q [.reg [bu 48 .eql 12 42,m 47 48] [1,2,3,4,47],
 C 47 (Q [.reg [m 49 1,ch 50 208 [49],m 8 50] [1,2,3,4,8],
 .reg [m 51 1,m 52 2,m 53 8,ch 54 210 [51,52,53]] [1,3,4,8],
 .reg [m 55 1,fa 56 4 0,l1 57 56,m 58 8,m 59 8,ch 60 146 [55,57,58,59]] [1,3,8],
 .reg [m 61 1,m 62 8,m 63 3,ch 64 210 [61,62,63]] [1]]) (Q [.reg [m 13 1,ch 14 208 [13],m 15 1,ch 16 208 [15],m 9 14,m 10 16] [1,2,3,4,9,10],
 .reg [m 17 1,m 18 2,m 19 9,ch 20 210 [17,18,19]] [1,3,4,9,10],
 .reg [m 21 1,fa 22 4 0,l1 23 22,m 24 9,m 25 10,ch 26 146 [21,23,24,25]] [1,3,9,10],
 .reg [m 27 1,m 28 10,m 29 9,ch 30 210 [27,28,29]] [1,3,10],
 .reg [m 31 1,m 32 10,m 33 3,ch 34 210 [31,32,33]] [1]])])])]
theorem lI:aJ Tryz.prog Tryz.f209 [1] [123,136,147,135,143,144,149,155,154,146,208,210,211,209,213,214,212] [[1,2,3,4],[1,2,3,4,12],[1,2,3,4,12,35],[1,2,3,4],[1],[1,2,3,4,47],[1,2,3,4,8],[1,3,4,8],[1,3,8],[1],[1,2,3,4,9,10],[1,3,4,9,10],[1,3,9,10],[1,3,10],[1]] 4=some (gP,[]):=by kernel_rfl
abbrev lE:Nat:=213
theorem lN:Tryz.prog.funcs[213]?=some Tryz.f213:=Tryz.func213
def gQ:AC:=
 Q [.reg [bx 4 0] [1,2,3,4],
 .reg [fa 10 4 0,l1 11 10,lq 12 11,mi 13 0] [1,2,3,11,12,13],
 .block 0 (.loop [1,2,3,11,12,13] (Q [.reg [bt 14 .lss 13 12] [1,2,3,11,12,13,14],
 C 14 (.skip) (.exit 0),
 .block 1 (Q [.reg [ia 15 11 13 1,l1 16 15,m 9 16] [1,2,3,9,11,12,13],
 .reg [m 17 1,m 18 9,m 19 2,m 20 3,ch 21 146 [17,18,19,20]] [1,2,3,11,12,13]]),
 .reg [bi 22 .add 13 1,m 13 22] [1,2,3,11,12,13]]))]
theorem lJ:aJ Tryz.prog Tryz.f213 [1] [123,136,147,135,143,144,149,155,154,146,208,210,211,209,213,214,212] [[1,2,3,4],[1,2,3,11,12,13],[1,2,3,11,12,13],[1,2,3,11,12,13,14],[1,2,3,9,11,12,13],[1,2,3,11,12,13],[1,2,3,11,12,13]] 4=some (gQ,[]):=by kernel_rfl
abbrev lC:Nat:=214
theorem lL:Tryz.prog.funcs[214]?=some Tryz.f214:=Tryz.func214
def gO:AC:=
 Q [.reg [bx 4 0] [1,2,3,4],
 Q [.reg [fa 12 4 0,l1 13 12,lq 14 13,bi 15 .eql 14 0] [1,2,3,4,15],
 C 15 (Q [.reg [m 16 1,m 17 2,m 18 3,ch 19 210 [16,17,18]] [1],
 .ret]) (.skip)],
 .reg [fa 20 4 0,l1 21 20,lq 22 21,bi 23 .sub 22 1,m 8 23] [1,2,3,4,8],
 Q [.reg [fa 24 4 0,l1 25 24,m 26 8,o1 27 (.slq (.t 25) none (some (.t 26)) 1),lq 28 27,mi 29 0] [1,2,3,4,8,27,28,29],
 .block 0 (.loop [1,2,3,4,8,27,28,29] (Q [.reg [bt 30 .lss 29 28] [1,2,3,4,8,27,28,29,30],
 C 30 (.skip) (.exit 0),
 .block 1 (Q [.reg [ia 31 27 29 1,l1 32 31,m 10 32] [1,2,3,4,8,10,27,28,29],
 .reg [m 33 1,ch 34 208 [33],m 11 34] [1,2,3,4,8,10,11,27,28,29],
 .reg [m 35 1,m 36 10,m 37 2,m 38 11,ch 39 146 [35,36,37,38]] [1,3,4,8,11,27,28,29],
 .reg [m 40 11,m 2 40] [1,2,3,4,8,27,28,29]]),
 .reg [bi 41 .add 29 1,m 29 41] [1,2,3,4,8,27,28,29]]))],
 .reg [m 42 1,fa 43 4 0,l1 44 43,m 45 8,ia 46 44 45 1,l1 47 46,m 48 2,m 49 3,ch 50 146 [42,47,48,49]] [1]]
theorem lH:aJ Tryz.prog Tryz.f214 [1] [123,136,147,135,143,144,149,155,154,146,208,210,211,209,213,214,212] [[1,2,3,4],[1,2,3,4,15],[1],[1,2,3,4,8],[1,2,3,4,8,27,28,29],[1,2,3,4,8,27,28,29],[1,2,3,4,8,27,28,29,30],[1,2,3,4,8,10,27,28,29],[1,2,3,4,8,10,11,27,28,29],[1,3,4,8,11,27,28,29],[1,2,3,4,8,27,28,29],[1,2,3,4,8,27,28,29],[1]] 4=some (gO,[]):=by kernel_rfl
abbrev kf:Nat:=212
theorem ko:Tryz.prog.funcs[212]?=some Tryz.f212:=Tryz.func212
def fH:AC:=
 Q [.reg [mi 4 0] [0,1],
 .block 0 (.loop [0,1] (Q [Q [.reg [m 5 1,bi 6 .add 5 1,bi 7 .lss 6 95,m 8 7,gt 8 (m 9 0),gt 8 (m 10 1),gt 8 (bi 11 .add 10 1),gt 8 (o1 12 (.nlc (.t 9))),gt 8 (o1 13 (.iaa (.t 12) (.t 11) 95 1)),gt 8 (l1 14 13),pa 15 8 14] [0,1,15],
 C 15 (.skip) (.exit 0)],
 .block 1 (.reg [m 16 1,bi 17 .add 16 1,m 1 17] [0,1])])),
 .reg [m 18 1,m 4 18] [0,4],
 .ret]
theorem ki:aJ Tryz.prog Tryz.f212 [0] [123,136,147,135,143,144,149,155,154,146,208,210,211,209,213,214,212] [[0,1],[0,1],[0,1,15],[0,1],[0,4]] 2=some (fH,[.t 4]):=by kernel_rfl
end Go.Abs
