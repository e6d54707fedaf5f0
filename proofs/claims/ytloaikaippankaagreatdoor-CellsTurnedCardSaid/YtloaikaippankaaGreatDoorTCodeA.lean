/-
  The images of some of the program's functions, as the kernel reckons them. Made by program. No condition.
-/
import Derived.Test.YtloaikaippankaaGreatDoorTCodeD
set_option linter.unusedVariables false
set_option linter.unusedSimpArgs false
set_option linter.unusedSectionVars false
set_option maxRecDepth 100000
namespace Go.Abs
open Go.Proofs

abbrev yI:Nat:=92
theorem zC:Tryz.prog.funcs[92]?=some Tryz.f92:=Tryz.func92
def j8:AC:=
 Q [.reg [mb 2 false] [0],
 .reg [m 3 0,bu 4 .geq 3 97,m 5 4,gt 5 (m 6 0),gt 5 (bu 7 .leq 6 122),pa 8 5 7,m 2 8] [2],
 .ret]
theorem zb:an Tryz.prog Tryz.f92 [[0],[2]] 1=some (j8,[.t 2]):=by kernel_rfl

abbrev yJ:Nat:=54
theorem zD:Tryz.prog.funcs[54]?=some Tryz.f54:=Tryz.func54
def fZ:AC:=
 Q [.reg [mb 2 false] [0],
 Q [.reg [m 6 0,ls 7 6,bi 8 .eql 7 0] [0,8],
 C 8 (Q [.reg [mb 2 false] [2],
 .ret]) (.skip)],
 .reg [m 9 0,o1 10 (.ixs (.t 9) (.v (.int .i64 0))),ca 11 92 [10],m 3 11] [0,3],
 Q [.reg [mi 4 0] [0,3,4],
 .block 0 (.loop [0,3,4] (Q [Q [.reg [m 12 4,m 13 0,ls 14 13,bt 15 .lss 12 14] [0,3,4,15],
 C 15 (.skip) (.exit 0)],
 .block 1 (Q [.reg [m 18 0,m 19 4,ix 20 18 19,ca 21 92 [20],m 5 21] [0,3,4,5],
 .reg [m 22 5,nt' 23 22,m 24 23,gt 24 (m 25 0),gt 24 (m 26 4),gt 24 (ix 27 25 26),gt 24 (bu 28 .lss 27 48),gt 24 (m 29 28),gf 29 (m 30 0),gf 29 (m 31 4),gf 29 (ix 32 30 31),gf 29 (bu 33 .gtr 32 57),gt 24 (po 34 29 33),pa 35 24 34,m 36 35,gt 36 (m 37 0),gt 36 (m 38 4),gt 36 (ix 39 37 38),gt 36 (bu 40 .neq 39 45),pa 41 36 40] [0,3,4,41],
 C 41 (Q [.reg [mb 2 false] [2],
 .ret]) (.skip)]),
 .reg [m 16 4,bi 17 .add 16 1,m 4 17] [0,3,4]]))],
 .reg [m 42 3,m 2 42] [2],
 .ret]
theorem zd:an Tryz.prog Tryz.f54 [[0],[0,8],[2],[0,3],[0,3,4],[0,3,4],[0,3,4,15],[0,3,4,5],[0,3,4,41],[2],[0,3,4],[2]] 1=some (fZ,[.t 2]):=by kernel_rfl

abbrev yF:Nat:=28
theorem zz:Tryz.prog.funcs[28]?=some Tryz.f28:=Tryz.func28
def j5:AC:=
 Q [.reg [mb 2 false] [0],
 .reg [m 4 0,ca 5 54 [4],m 3 5] [0,3],
 .reg [m 6 3,m 7 6,gt 7 (m 8 0),gt 7 (ls 9 8),gt 7 (bi 10 .leq 9 16),pa 11 7 10,m 2 11] [2],
 .ret]
theorem y8:an Tryz.prog Tryz.f28 [[0],[0,3],[2]] 1=some (j5,[.t 2]):=by kernel_rfl

abbrev B3:Nat:=29
theorem CN:Tryz.prog.funcs[29]?=some Tryz.f29:=Tryz.func29
def lG:AC:=
 Q [.reg [bx 2 0,o1 4 (.alc [.str [],.nil 1,.nil 5]),mb 5 false] [1,2,4],
 Q [.reg [mi 6 0] [1,2,4,6],
 .block 0 (.loop [1,2,4,6] (Q [Q [.reg [m 7 6,fa 8 2 1,l1 9 8,lq 10 9,bt 11 .lss 7 10] [1,2,4,6,11],
 C 11 (.skip) (.exit 0)],
 .block 1 (Q [.reg [fa 14 2 1,l1 15 14,m 16 6,ia 17 15 16 3,fa 18 17 0,l1 19 18,m 20 1,bt 21 .eql 19 20] [1,2,4,6,21],
 C 21 (Q [.reg [fa 22 2 1,l1 23 22,m 24 6,ia 25 23 24 3,la 26 25 3,st 3 4 26,mb 5 true] [4,5],
 .ret]) (.skip)]),
 .reg [m 12 6,bi 13 .add 12 1,m 6 13] [1,2,4,6]]))],
 .reg [o1 27 (.bld [.str [],.nil 1,.nil 5] []),st 3 4 27,mb 5 false] [4,5],
 .ret]
theorem Ct:an Tryz.prog Tryz.f29 [[1,2,4],[1,2,4,6],[1,2,4,6],[1,2,4,6,11],[1,2,4,6,21],[4,5],[1,2,4,6],[4,5]] 2=some (lG,[.c 4 3 true,.t 5]):=by kernel_rfl

abbrev wP:Nat:=141
theorem xo:Tryz.prog.funcs[141]?=some Tryz.f141:=Tryz.func141
def jm:AC:=
 Q [.reg [mb 2 false] [0],
 Q [.reg [mi 3 0] [0,3],
 .block 0 (.loop [0,3] (Q [Q [.reg [m 4 3,m 5 0,ls 6 5,bt 7 .lss 4 6] [0,3,7],
 C 7 (.skip) (.exit 0)],
 .block 1 (Q [.reg [m 10 0,m 11 3,ix 12 10 11,bu 13 .lss 12 97,m 14 13,gf 14 (m 15 0),gf 14 (m 16 3),gf 14 (ix 17 15 16),gf 14 (bu 18 .gtr 17 122),po 19 14 18] [0,3,19],
 C 19 (Q [.reg [mb 2 false] [2],
 .ret]) (.skip)]),
 .reg [m 8 3,bi 9 .add 8 1,m 3 9] [0,3]]))],
 .reg [m 20 0,ls 21 20,bi 22 .geq 21 1,m 23 22,gt 23 (m 24 0),gt 23 (ls 25 24),gt 23 (bi 26 .leq 25 16),pa 27 23 26,m 2 27] [2],
 .ret]
theorem xb:an Tryz.prog Tryz.f141 [[0],[0,3],[0,3],[0,3,7],[0,3,19],[2],[0,3],[2]] 1=some (jm,[.t 2]):=by kernel_rfl

abbrev yH:Nat:=142
theorem zB:Tryz.prog.funcs[142]?=some Tryz.f142:=Tryz.func142
def j7:AC:=
 Q [.reg [mb 2 false] [0],
 Q [.reg [mi 3 0] [0,3],
 .block 0 (.loop [0,3] (Q [Q [.reg [m 4 3,m 5 0,ls 6 5,bt 7 .lss 4 6] [0,3,7],
 C 7 (.skip) (.exit 0)],
 .block 1 (Q [.reg [m 10 0,m 11 3,ix 12 10 11,bu 13 .lss 12 32,m 14 13,gf 14 (m 15 0),gf 14 (m 16 3),gf 14 (ix 17 15 16),gf 14 (bu 18 .gtr 17 126),po 19 14 18] [0,3,19],
 C 19 (Q [.reg [mb 2 false] [2],
 .ret]) (.skip)]),
 .reg [m 8 3,bi 9 .add 8 1,m 3 9] [0,3]]))],
 .reg [mb 2 true] [2],
 .ret]
theorem za:an Tryz.prog Tryz.f142 [[0],[0,3],[0,3],[0,3,7],[0,3,19],[2],[0,3],[2]] 1=some (j7,[.t 2]):=by kernel_rfl

abbrev yG:Nat:=93
theorem zA:Tryz.prog.funcs[93]?=some Tryz.f93:=Tryz.func93
def j6:AC:=
 Q [.reg [mb 4 false] [0,1],
 Q [.reg [mi 5 0] [0,1,5],
 .block 0 (.loop [0,1,5] (Q [Q [.reg [m 9 5,m 10 0,lq 11 10,bt 12 .lss 9 11] [0,1,5,12],
 C 12 (.skip) (.exit 0)],
 .block 1 (Q [.reg [m 15 0,m 16 5,ia 17 15 16 1,l1 18 17,ca 19 141 [18],m 6 19] [0,1,5,6],
 .reg [m 20 0,m 21 5,ia 22 20 21 1,l1 23 22,ca 24 142 [23],m 7 24] [0,1,5,6,7],
 Q [.reg [m 25 1,m 26 25,gt 26 (m 27 6),gt 26 (nt' 28 27),pa 29 26 28,m 30 29,gf 30 (m 31 1),gf 30 (nt' 32 31),gf 30 (m 33 32),gt 33 (m 34 7),gt 33 (nt' 35 34),gt 33 (m 36 35),gf 36 (m 37 0),gf 36 (m 38 5),gf 36 (ia 39 37 38 1),gf 36 (l1 40 39),gf 36 (ls 41 40),gf 36 (bi 42 .gtr 41 40),gt 33 (po 43 36 42),gf 30 (pa 44 33 43),po 45 30 44] [0,1,5,45],
 C 45 (Q [.reg [mb 4 false] [4],
 .ret]) (.skip)],
 .reg [mi 8 0] [0,1,5,8],
 .block 2 (.loop [0,1,5,8] (Q [Q [.reg [m 46 8,m 47 5,bt 48 .lss 46 47] [0,1,5,8,48],
 C 48 (.skip) (.exit 2)],
 .block 3 (Q [.regD [m 51 0,m 52 8,ia 53 51 52 1,l1 54 53,m 55 0,m 56 5,ia 57 55 56 1,l1 58 57,bt 59 .eql 54 58] [0,1,5,8,59],
 C 59 (Q [.reg [mb 4 false] [4],
 .ret]) (.skip)]),
 .reg [m 49 8,bi 50 .add 49 1,m 8 50] [0,1,5,8]]))]),
 .reg [m 13 5,bi 14 .add 13 1,m 5 14] [0,1,5]]))],
 .reg [m 60 0,lq 61 60,bi 62 .leq 61 8,m 4 62] [4],
 .ret]
theorem y9:an Tryz.prog Tryz.f93 [[0,1],[0,1,5],[0,1,5],[0,1,5,12],[0,1,5,6],[0,1,5,6,7],[0,1,5,45],[4],[0,1,5,8],[0,1,5,8],[0,1,5,8,48],[0,0,0,3,7,0,0,48,112,255],[0,1,2,3,4,5,6,7,8],[0,1,5,8,59],[4],[0,1,5,8],[0,1,5],[4]] 2=some (j6,[.t 4]):=by kernel_rfl

abbrev B4:Nat:=55
theorem CO:Tryz.prog.funcs[55]?=some Tryz.f55:=Tryz.func55
def lH:AC:=
 Q [.reg [bx 1 0,o1 2 (.alc [.int .i64 0,.nil 1,.str []])] [1,2],
 .reg [fa 12 1 0,l1 13 12,m 3 13] [1,2,3],
 Q [.reg [m 14 3,bi 15 .lss 14 0] [1,2,3,15],
 C 15 (.reg [m 16 3,bi 17 .add 16 1,o1 18 (.un .neg (.t 17)),m 3 18] [1,2,3]) (.skip)],
 .reg [m 19 3,bi 20 .rem 19 4,o1 21 (.bin .add (.v (.int .i64 1)) (.t 20)),o1 22 (.bld [.int .i64 0,.nil 1,.str []] [(0,1,(.t 21))]),o1 4 (.alc [.int .i64 0,.nil 1,.str []]),st 3 4 22] [1,2,4],
 Q [.reg [fa 23 4 0,l1 24 23,bi 25 .eql 24 4] [1,2,4,25],
 C 25 (Q [.reg [o1 26 (.lit 9 1 [.v (.str [97,42]),.v (.str [40,97,124,98,41,43]),.v (.str [91,48,45,57,93,43]),.v (.str [120,46,121]),.v (.str [91,94,97,93,42]),.v (.str []),.v (.str [97,124,98,98,124,99])]),m 5 26] [1,2,4,5],
 .reg [mi 6 0] [1,2,4,5,6],
 Q [.reg [mi 7 0] [1,2,4,5,6,7],
 .block 0 (.loop [1,2,4,5,6,7] (Q [Q [.reg [m 27 7,fa 28 1 2,l1 29 28,ls 30 29,bt 31 .lss 27 30] [1,2,4,5,6,7,31],
 C 31 (.skip) (.exit 0)],
 .block 1 (.reg [m 34 6,fa 35 1 2,l1 36 35,m 37 7,ix 38 36 37,o1 39 (.cii .i64 (.t 38)),bt 40 .add 34 39,m 6 40] [1,2,4,5,6,7]),
 .reg [m 32 7,bi 33 .add 32 1,m 7 33] [1,2,4,5,6,7]]))],
 .reg [m 41 5,m 42 6,m 43 5,lq 44 43,bt 45 .rem 42 44,ia 46 41 45 1,l1 47 46,fa 48 4 2,st 1 48 47] [2,4],
 .reg [la 49 4 3,st 3 2 49] [2],
 .ret]) (.skip)],
 Q [.reg [mi 8 0] [1,2,4,8],
 .block 2 (.loop [1,2,4,8] (Q [Q [.reg [m 50 8,fa 51 1 1,l1 52 51,lq 53 52,bt 54 .lss 50 53,m 55 54,gt 55 (m 56 8),gt 55 (bi 57 .lss 56 4),pa 58 55 57,m 59 58,gt 59 (fa 60 4 0),gt 59 (l1 61 60),gt 59 (bi 62 .neq 61 1),pa 63 59 62] [1,2,4,8,63],
 C 63 (.skip) (.exit 2)],
 .block 3 (Q [.reg [fa 66 1 1,l1 67 66,m 68 8,ia 69 67 68 1,l1 70 69,m 9 70] [1,2,4,8,9],
 .reg [fa 71 4 1,l1 72 71,o1 73 (.app (.v (.nil 1)) (.t 72) 9 1 16),m 74 9,o1 75 (.lit 9 1 [.t 74]),o1 76 (.app (.t 73) (.t 75) 9 1 16),m 10 76] [1,2,4,8,10],
 .reg [m 77 10,fa 78 4 0,l1 79 78,bi 80 .eql 79 3,ca 81 93 [77,80],m 11 81] [1,2,4,8,10,11],
 .reg [m 82 11] [1,2,4,8,10,82],
 C 82 (.reg [m 83 10,fa 84 4 1,st 1 84 83] [1,2,4,8]) (.skip)]),
 .reg [m 64 8,bi 65 .add 64 1,m 8 65] [1,2,4,8]]))],
 Q [.reg [fa 85 4 0,l1 86 85,bi 87 .eql 86 2,m 88 87,gt 88 (fa 89 4 1),gt 88 (l1 90 89),gt 88 (lq 91 90),gt 88 (bi 92 .eql 91 0),pa 93 88 92] [2,4,93],
 C 93 (.reg [o1 94 (.lit 9 1 [.v (.str [120])]),fa 95 4 1,st 1 95 94] [2,4]) (.skip)],
 .reg [la 96 4 3,st 3 2 96] [2],
 .ret]
theorem Cu:an Tryz.prog Tryz.f55 [[1,2],[1,2,3],[1,2,3,15],[1,2,3],[1,2,4],[1,2,4,25],[1,2,4,5],[1,2,4,5,6],[1,2,4,5,6,7],[1,2,4,5,6,7],[1,2,4,5,6,7,31],[1,2,4,5,6,7],[1,2,4,5,6,7],[2,4],[2],[1,2,4,8],[1,2,4,8],[1,2,4,8,63],[1,2,4,8,9],[1,2,4,8,10],[1,2,4,8,10,11],[1,2,4,8,10,82],[1,2,4,8],[1,2,4,8],[2,4,93],[2,4],[2]] 1=some (lH,[.c 2 3 true]):=by kernel_rfl

abbrev BZ:Nat:=56
theorem CJ:Tryz.prog.funcs[56]?=some Tryz.f56:=Tryz.func56
def iB:AC:=
 Q [.reg [mv 2 (.str []),mb 3 false] [0],
 Q [.reg [m 4 0,ls 5 4,bi 6 .gtr 5 0,m 7 6,gt 7 (m 8 0),gt 7 (m 9 0),gt 7 (ls 10 9),gt 7 (bi 11 .sub 10 1),gt 7 (ix 12 8 11),gt 7 (bu 13 .eql 12 42),pa 14 7 13] [0,14],
 C 14 (Q [.reg [m 15 0,m 16 0,ls 17 16,bi 18 .sub 17 1,o1 19 (.sls (.t 15) none (some (.t 18))),m 2 19,mb 3 true] [2,3],
 .ret]) (.skip)],
 .reg [m 20 0,m 2 20,mb 3 false] [2,3],
 .ret]
theorem Cp:an Tryz.prog Tryz.f56 [[0],[0,14],[2,3],[2,3]] 1=some (iB,[.t 2,.t 3]):=by kernel_rfl

abbrev D8:Nat:=32
theorem EB:Tryz.prog.funcs[32]?=some Tryz.f32:=Tryz.func32
def n6:AC:=
 Q [.reg [mb 4 false] [0,1],
 Q [.reg [mi 5 0] [0,1,5],
 .block 0 (.loop [0,1,5] (Q [Q [.reg [m 6 5,m 7 0,lq 8 7,bt 9 .lss 6 8] [0,1,5,9],
 C 9 (.skip) (.exit 0)],
 .block 1 (Q [.reg [m 12 0,m 13 5,ia 14 12 13 1,l1 15 14,m 16 1,bt 17 .eql 15 16] [0,1,5,17],
 C 17 (Q [.reg [mb 4 true] [4],
 .ret]) (.skip)]),
 .reg [m 10 5,bi 11 .add 10 1,m 5 11] [0,1,5]]))],
 .reg [mb 4 false] [4],
 .ret]
theorem Et:an Tryz.prog Tryz.f32 [[0,1],[0,1,5],[0,1,5],[0,1,5,9],[0,1,5,17],[4],[0,1,5],[4]] 2=some (n6,[.t 4]):=by kernel_rfl

abbrev yE:Nat:=30
theorem zy:Tryz.prog.funcs[30]?=some Tryz.f30:=Tryz.func30
def j4:AC:=
 Q [.reg [mv 2 (.nil 5)] [0],
 .reg [mv 3 (.nil 5)] [0,3],
 .reg [mv 4 (.nil 1)] [0,3,4],
 Q [.reg [mi 5 0] [0,3,4,5],
 .block 0 (.loop [0,3,4,5] (Q [Q [.reg [m 12 5,m 13 0,lq 14 13,bt 15 .lss 12 14,m 16 15,gt 16 (m 17 5),gt 16 (bi 18 .lss 17 3),pa 19 16 18] [0,3,4,5,19],
 C 19 (.skip) (.exit 0)],
 .block 1 (Q [.regD [m 22 0,m 23 5,ia 24 22 23 5,fa 25 24 0,l1 26 25,m 27 0,m 28 5,ia 29 27 28 5,fa 30 29 1,la 31 30 3,ca 32 55 [31],m 33 0,m 34 5,ia 35 33 34 5,fa 36 35 4,l1 37 36,o1 38 (.bld [.str [],.int .i64 0,.nil 1,.str [],.bool false] [(0,1,(.t 26)),(1,3,(.t 32)),(4,1,(.t 37))]),o1 6 (.alc [.str [],.int .i64 0,.nil 1,.str [],.bool false]),st 5 6 38] [0,3,4,5,6],
 .reg [fa 40 6 0,l1 41 40,ca 42 56 [41],m 39 42,ex 43 39 0,ex 44 39 1,m 7 43,m 8 44] [0,3,4,5,6,7,8],
 .reg [m 45 7,ca 46 28 [45],m 9 46] [0,3,4,5,6,8,9],
 Q [.reg [m 47 9,nt' 48 47] [0,3,4,5,6,8,48],
 C 48 (Q [.reg [o1 49 (.lit 9 1 [.v (.str [105,100]),.v (.str [104,114,101,102]),.v (.str [100,97,116,97,45,42])]),m 10 49] [0,3,4,5,6,10],
 .reg [m 50 10,m 51 5,ia 52 50 51 1,l1 53 52,fa 54 6 0,st 1 54 53] [0,3,4,5,6],
 .reg [m 55 5,bi 56 .eql 55 2,m 8 56] [0,3,4,5,6,8]]) (.skip)],
 Q [.reg [m 57 8] [0,3,4,5,6,57],
 C 57 (.reg [fa 58 6 4,o0 (.st 1 (.t 58) (.v (.bool false)))] [0,3,4,5,6]) (.skip)],
 .reg [m 59 4,fa 60 6 0,l1 61 60,ca 62 32 [59,61],m 11 62] [0,3,4,5,6,11],
 .reg [m 63 11,nt' 64 63] [0,3,4,5,6,64],
 C 64 (Q [.reg [m 65 4,fa 66 6 0,l1 67 66,o1 68 (.lit 9 1 [.t 67]),o1 69 (.app (.t 65) (.t 68) 9 1 16),m 4 69] [0,3,4,5,6],
 .reg [m 70 3,la 71 6 5,o1 72 (.lit 95 5 [.t 71]),o1 73 (.app (.t 70) (.t 72) 95 5 72),m 3 73] [0,3,4,5]]) (.skip)]),
 .reg [m 20 5,bi 21 .add 20 1,m 5 21] [0,3,4,5]]))],
 .reg [m 74 3,m 2 74] [2],
 .ret]
theorem y7:an Tryz.prog Tryz.f30 [[0],[0,3],[0,3,4],[0,3,4,5],[0,3,4,5],[0,3,4,5,19],[0,0,0,3,7,15,0,0,96,224,480,992,0,0,6144,14336,30720,65535,0,262143],[0,1,2,3,4,5,6,7,8,9,10,11,12,13,14,15,16,17,18],[0,3,4,5,6],[0,3,4,5,6,7,8],[0,3,4,5,6,8,9],[0,3,4,5,6,8,48],[0,3,4,5,6,10],[0,3,4,5,6],[0,3,4,5,6,8],[0,3,4,5,6,57],[0,3,4,5,6],[0,3,4,5,6,11],[0,3,4,5,6,64],[0,3,4,5,6],[0,3,4,5],[0,3,4,5],[2]] 1=some (j4,[.t 2]):=by kernel_rfl

abbrev B5:Nat:=94
theorem CP:Tryz.prog.funcs[94]?=some Tryz.f94:=Tryz.func94
def lI:AC:=
 Q [.reg [mb 2 false] [0],
 .reg [m 3 0,bs 4 .eql 3 [98,114],m 5 4,gf 5 (m 6 0),gf 5 (bs 7 .eql 6 [104,114]),po 8 5 7,m 9 8,gf 9 (m 10 0),gf 9 (bs 11 .eql 10 [105,109,103]),po 12 9 11,m 13 12,gf 13 (m 14 0),gf 13 (bs 15 .eql 14 [105,110,112,117,116]),po 16 13 15,m 17 16,gf 17 (m 18 0),gf 17 (bs 19 .eql 18 [119,98,114]),po 20 17 19,m 2 20] [2],
 .ret]
theorem Cv:an Tryz.prog Tryz.f94 [[0],[2]] 1=some (lI,[.t 2]):=by kernel_rfl

abbrev D9:Nat:=95
theorem EC:Tryz.prog.funcs[95]?=some Tryz.f95:=Tryz.func95
def n7:AC:=
 Q [.reg [mb 2 false] [0],
 .reg [m 3 0,bs 4 .eql 3 [115,99,114,105,112,116],m 5 4,gf 5 (m 6 0),gf 5 (bs 7 .eql 6 [115,116,121,108,101]),po 8 5 7,m 2 8] [2],
 .ret]
theorem Eu:an Tryz.prog Tryz.f95 [[0],[2]] 1=some (n7,[.t 2]):=by kernel_rfl

abbrev wQ:Nat:=96
theorem xp:Tryz.prog.funcs[96]?=some Tryz.f96:=Tryz.func96
def jn:AC:=
 Q [.reg [mb 4 false] [0,1],
 .reg [mv 5 (.nil 1)] [0,1,5],
 Q [.reg [m 7 0] [1,5,7],
 .block 0 (Q [.reg [bs 9 .eql 7 [112],m 8 9] [1,5,7,8],
 C 8 (.reg [o1 10 (.lit 9 1 [.v (.str [98,108,111,99,107,113,117,111,116,101]),.v (.str [100,105,118]),.v (.str [104,49]),.v (.str [104,50]),.v (.str [104,114]),.v (.str [108,105]),.v (.str [111,108]),.v (.str [112]),.v (.str [112,114,101]),.v (.str [116,97,98,108,101]),.v (.str [117,108])]),m 5 10] [1,5]) (Q [.reg [bs 12 .eql 7 [108,105],m 11 12] [1,5,7,11],
 C 11 (.reg [o1 13 (.lit 9 1 [.v (.str [108,105])]),m 5 13] [1,5]) (Q [Q [.reg [bs 15 .eql 7 [100,116],m 14 15] [1,5,7,14],
 C 14 (.skip) (.reg [bs 16 .eql 7 [100,100],m 14 16] [1,5,7,14])],
 C 14 (.reg [o1 17 (.lit 9 1 [.v (.str [100,100]),.v (.str [100,116])]),m 5 17] [1,5]) (Q [.reg [bs 19 .eql 7 [111,112,116,105,111,110],m 18 19] [1,5,7,18],
 C 18 (.reg [o1 20 (.lit 9 1 [.v (.str [111,112,116,105,111,110])]),m 5 20] [1,5]) (Q [.reg [bs 22 .eql 7 [116,100],m 21 22] [1,5,7,21],
 C 21 (.reg [o1 23 (.lit 9 1 [.v (.str [116,100]),.v (.str [116,114])]),m 5 23] [1,5]) (Q [.reg [bs 25 .eql 7 [116,114],m 24 25] [1,5,24],
 C 24 (.reg [o1 26 (.lit 9 1 [.v (.str [116,114])]),m 5 26] [1,5]) (.skip)])])])])])])],
 Q [.reg [mi 6 0] [1,5,6],
 .block 1 (.loop [1,5,6] (Q [Q [.reg [m 27 6,m 28 5,lq 29 28,bt 30 .lss 27 29] [1,5,6,30],
 C 30 (.skip) (.exit 1)],
 .block 2 (Q [.reg [m 33 5,m 34 6,ia 35 33 34 1,l1 36 35,m 37 1,bt 38 .eql 36 37] [1,5,6,38],
 C 38 (Q [.reg [mb 4 true] [4],
 .ret]) (.skip)]),
 .reg [m 31 6,bi 32 .add 31 1,m 6 32] [1,5,6]]))],
 .reg [mb 4 false] [4],
 .ret]
theorem xc:an Tryz.prog Tryz.f96 [[0,1],[0,1,5],[1,5,7],[1,5,7,8],[1,5],[1,5,7,11],[1,5],[1,5,7,14],[1,5,7,14],[1,5],[1,5,7,18],[1,5],[1,5,7,21],[1,5],[1,5,24],[1,5],[1,5,6],[1,5,6],[1,5,6,30],[1,5,6,38],[4],[1,5,6],[4]] 2=some (jn,[.t 4]):=by kernel_rfl

abbrev B0:Nat:=97
theorem CK:Tryz.prog.funcs[97]?=some Tryz.f97:=Tryz.func97
def lE:AC:=
 Q [.reg [mb 2 false] [0],
 Q [.reg [mi 3 0] [0,3],
 .block 0 (.loop [0,3] (Q [Q [.reg [m 5 3,m 6 0,lq 7 6,bt 8 .lss 5 7] [0,3,8],
 C 8 (.skip) (.exit 0)],
 .block 1 (Q [.regD [m 11 0,m 12 3,o1 13 (.slq (.t 11) none (some (.t 12)) 1),m 14 0,m 15 3,ia 16 14 15 1,l1 17 16,ca 18 32 [13,17],m 4 18] [0,3,4],
 .reg [m 19 4] [0,3,19],
 C 19 (Q [.reg [mb 2 false] [2],
 .ret]) (.skip)]),
 .reg [m 9 3,bi 10 .add 9 1,m 3 10] [0,3]]))],
 .reg [mb 2 true] [2],
 .ret]
theorem Cq:an Tryz.prog Tryz.f97 [[0],[0,3],[0,3],[0,3,8],[0,0,0,3,0,0,24,56,127,255],[0,1,2,3,4,5,6,7,8],[0,3,4],[0,3,19],[2],[0,3],[2]] 1=some (lE,[.t 2]):=by kernel_rfl

abbrev B1:Nat:=57
theorem CL:Tryz.prog.funcs[57]?=some Tryz.f57:=Tryz.func57
def lF:AC:=
 Q [.reg [bx 3 0,mb 6 false] [1,2,3],
 .reg [m 13 1,ca 14 94 [13],m 7 14] [1,2,3,7],
 .reg [m 15 1,ca 16 95 [15],m 8 16] [1,2,3,7,8],
 Q [.reg [mi 9 0] [1,2,3,7,8,9],
 .block 0 (.loop [1,2,3,7,8,9] (Q [Q [.reg [m 17 9,m 18 2,lq 19 18,bt 20 .lss 17 19] [1,2,3,7,8,9,20],
 C 20 (.skip) (.exit 0)],
 .block 1 (Q [Q [.reg [m 23 7,m 24 23,gf 24 (m 25 8),gf 24 (m 26 25),gt 26 (m 27 2),gt 26 (m 28 9),gt 26 (ia 29 27 28 1),gt 26 (l1 30 29),gt 26 (bs 31 .neq 30 [35,116,101,120,116]),gf 24 (pa 32 26 31),po 33 24 32] [1,2,3,7,8,9,33],
 C 33 (Q [.reg [mb 6 false] [6],
 .ret]) (.skip)],
 Q [.reg [m 34 2,m 35 9,ia 36 34 35 1,l1 37 36,bs 38 .eql 37 [35,116,101,120,116],m 39 38,gf 39 (m 40 2),gf 39 (m 41 9),gf 39 (ia 42 40 41 1),gf 39 (l1 43 42),gf 39 (bs 44 .eql 43 [35,99,111,109,109,101,110,116]),po 45 39 44] [1,2,3,7,8,9,45],
 C 45 (.exit 1) (.skip)],
 .regD [la 47 3 3,m 48 2,m 49 9,ia 50 48 49 1,l1 51 50,ca 52 29 [47,51],m 46 52,ex 53 46 0,ex 54 46 1,o1 10 (.alc [.str [],.nil 1,.nil 5]),st 3 10 53,m 11 54] [1,2,3,7,8,9,11],
 .reg [m 55 1,m 56 2,m 57 9,ia 58 56 57 1,l1 59 58,ca 60 96 [55,59],m 12 60] [1,2,3,7,8,9,11,12],
 .reg [m 61 11,nt' 62 61,m 63 62,gf 63 (m 64 12),po 65 63 64] [1,2,3,7,8,9,65],
 C 65 (Q [.reg [mb 6 false] [6],
 .ret]) (.skip)]),
 .reg [m 21 9,bi 22 .add 21 1,m 9 22] [1,2,3,7,8,9]]))],
 .reg [m 66 2,ca 67 97 [66],m 6 67] [6],
 .ret]
theorem Cr:an Tryz.prog Tryz.f57 [[1,2,3],[1,2,3,7],[1,2,3,7,8],[1,2,3,7,8,9],[1,2,3,7,8,9],[1,2,3,7,8,9,20],[1,2,3,7,8,9,33],[6],[1,2,3,7,8,9,45],[0,0,0,0,6,14,31,63,127,127,0,767,2047],[0,1,2,3,4,5,6,7,8,9,10,11],[1,2,3,7,8,9,11],[1,2,3,7,8,9,11,12],[1,2,3,7,8,9,65],[6],[1,2,3,7,8,9],[6]] 3=some (lF,[.t 6]):=by kernel_rfl

abbrev ve:Nat:=31
theorem vq:Tryz.prog.funcs[31]?=some Tryz.f31:=Tryz.func31
def ml:AC:=
 Q [.reg [bx 3 0,mv 6 (.nil 1)] [1,2,3],
 .reg [mv 7 (.nil 1)] [1,2,3,7],
 Q [.reg [mi 8 0] [1,2,3,7,8],
 .block 0 (.loop [1,2,3,7,8] (Q [Q [.reg [m 11 8,m 12 2,lq 13 12,bt 14 .lss 11 13,m 15 14,gt 15 (m 16 8),gt 15 (bi 17 .lss 16 8),pa 18 15 17] [1,2,3,7,8,18],
 C 18 (.skip) (.exit 0)],
 .block 1 (Q [.regD [m 21 7,m 23 2,m 24 8,ia 25 23 24 1,l1 26 25,o1 27 (.lit 9 1 [.t 26]),o1 22 (.app (.v (.nil 1)) (.t 21) 9 1 16),o1 28 (.app (.t 22) (.t 27) 9 1 16),m 9 28] [1,2,3,7,8,9],
 .reg [la 29 3 3,m 30 1,m 31 9,ca 32 57 [29,30,31],m 10 32] [1,2,3,7,8,9,10],
 .reg [m 33 10] [1,2,3,7,8,9,33],
 C 33 (.reg [m 34 9,m 7 34] [1,2,3,7,8]) (.skip)]),
 .reg [m 19 8,bi 20 .add 19 1,m 8 20] [1,2,3,7,8]]))],
 .reg [m 35 7,m 6 35] [6],
 .ret]
theorem vi:an Tryz.prog Tryz.f31 [[1,2,3],[1,2,3,7],[1,2,3,7,8],[1,2,3,7,8],[1,2,3,7,8,18],[0,0,1,0,0,12,28,60,127,255],[0,2,3,4,5,6,1,7,8],[1,2,3,7,8,9],[1,2,3,7,8,9,10],[1,2,3,7,8,9,33],[1,2,3,7,8],[1,2,3,7,8],[6]] 3=some (ml,[.t 6]):=by kernel_rfl

abbrev lc:Nat:=9
theorem CM:Tryz.prog.funcs[9]?=some Tryz.f9:=Tryz.func9
def sN:AC:=
 Q [.reg [bx 1 0,o1 2 (.alc [.nil 1,.nil 3,.nil 1])] [1,2],
 .reg [o1 3 (.alc [.nil 1,.nil 3,.nil 1])] [1,2,3],
 Q [.reg [mi 4 0] [1,2,3,4],
 .block 0 (.loop [1,2,3,4] (Q [Q [.reg [m 15 4,fa 16 1 1,l1 17 16,lq 18 17,bt 19 .lss 15 18,m 20 19,gt 20 (m 21 4),gt 20 (bi 22 .lss 21 5),pa 23 20 22] [1,2,3,4,23],
 C 23 (.skip) (.exit 0)],
 .block 1 (Q [.reg [fa 26 1 1,l1 27 26,m 28 4,ia 29 27 28 3,fa 30 29 0,l1 31 30,m 5 31] [1,2,3,4,5],
 .reg [m 32 5,ca 33 28 [32],m 6 33] [1,2,3,4,5,6],
 Q [.reg [m 34 6,nt' 35 34] [1,2,3,4,5,35],
 C 35 (Q [.reg [o1 36 (.lit 9 1 [.v (.str [97]),.v (.str [98]),.v (.str [112]),.v (.str [98,114]),.v (.str [115,116,121,108,101])]),m 7 36] [1,2,3,4,7],
 .reg [m 37 7,m 38 4,ia 39 37 38 1,l1 40 39,m 5 40] [1,2,3,4,5]]) (.skip)],
 .reg [la 42 3 3,m 43 5,ca 44 29 [42,43],m 41 44,ex 45 41 0,ex 46 41 1,o1 8 (.alc [.str [],.nil 1,.nil 5]),st 3 8 45,m 9 46] [1,2,3,4,5,9],
 .reg [m 47 9,nt' 48 47] [1,2,3,4,5,48],
 C 48 (.regD [fa 49 3 1,l1 50 49,m 51 5,fa 52 1 1,l1 53 52,m 54 4,ia 55 53 54 3,fa 56 55 2,l1 57 56,ca 58 30 [57],o1 59 (.bld [.str [],.nil 1,.nil 5] [(0,1,(.t 51)),(2,1,(.t 58))]),o1 60 (.lit 59 3 [.t 59]),o1 61 (.app (.t 50) (.t 60) 59 3 64),fa 62 3 1,st 1 62 61] [1,2,3,4]) (.skip)]),
 .reg [m 24 4,bi 25 .add 24 1,m 4 25] [1,2,3,4]]))],
 Q [.reg [mi 10 0] [1,2,3,10],
 .block 2 (.loop [1,2,3,10] (Q [Q [.reg [m 63 10,fa 64 3 1,l1 65 64,lq 66 65,bt 67 .lss 63 66] [1,2,3,10,67],
 C 67 (.skip) (.exit 2)],
 .block 3 (Q [.reg [fa 70 1 1,l1 71 70,m 72 10,ia 73 71 72 3,fa 74 73 1,l1 75 74,m 11 75] [1,2,3,10,11],
 .regD [fa 76 3 1,l1 77 76,m 78 10,la 79 3 3,fa 80 3 1,l1 81 80,m 82 10,ia 83 81 82 3,fa 84 83 0,l1 85 84,m 86 11,ca 87 31 [79,85,86],ia 88 77 78 3,fa 89 88 1,st 1 89 87] [1,2,3,10]]),
 .reg [m 68 10,bi 69 .add 68 1,m 10 69] [1,2,3,10]]))],
 .reg [la 90 3 3,fa 91 1 0,l1 92 91,o1 93 (.call 31 [.t 90,.v (.str []),.t 92]),fa 94 3 0,st 1 94 93] [1,2,3],
 Q [.reg [mi 12 0] [1,2,3,12],
 .block 4 (.loop [1,2,3,12] (Q [Q [.reg [m 95 12,fa 96 1 2,l1 97 96,lq 98 97,bt 99 .lss 95 98,m 100 99,gt 100 (m 101 12),gt 100 (bi 102 .lss 101 4),pa 103 100 102] [1,2,3,12,103],
 C 103 (.skip) (.exit 4)],
 .block 5 (Q [.reg [fa 106 1 2,l1 107 106,m 108 12,ia 109 107 108 1,l1 110 109,ca 111 28 [110],m 13 111] [1,2,3,12,13],
 .regD [fa 112 3 2,l1 113 112,fa 114 1 2,l1 115 114,m 116 12,ia 117 115 116 1,l1 118 117,ca 119 32 [113,118],m 14 119] [1,2,3,12,13,14],
 .reg [m 120 13,m 121 120,gt 121 (m 122 14),gt 121 (nt' 123 122),pa 124 121 123] [1,2,3,12,124],
 C 124 (.regD [fa 125 3 2,l1 126 125,fa 127 1 2,l1 128 127,m 129 12,ia 130 128 129 1,l1 131 130,o1 132 (.lit 9 1 [.t 131]),o1 133 (.app (.t 126) (.t 132) 9 1 16),fa 134 3 2,st 1 134 133] [1,2,3,12]) (.skip)]),
 .reg [m 104 12,bi 105 .add 104 1,m 12 105] [1,2,3,12]]))],
 .reg [la 135 3 3,st 3 2 135] [2],
 .ret]
theorem Cs:an Tryz.prog Tryz.f9 [[1,2],[1,2,3],[1,2,3,4],[1,2,3,4],[1,2,3,4,23],[1,2,3,4,5],[1,2,3,4,5,6],[1,2,3,4,5,35],[1,2,3,4,7],[1,2,3,4,5],[1,2,3,4,5,9],[1,2,3,4,5,48],[0,0,1,0,0,8,0,56,120,248,504,1020,2044,4095,8191,16383],[0,1,2,3,4,5,6,7,8,9,10,11,12,13,14],[1,2,3,4],[1,2,3,4],[1,2,3,10],[1,2,3,10],[1,2,3,10,67],[1,2,3,10,11],[0,0,1,0,0,0,16,0,112,240,496,0,2040,4095,8191,16383],[0,1,2,3,4,5,6,7,8,9,10,11,12,13,14],[1,2,3,10],[1,2,3,10],[1,2,3],[1,2,3,12],[1,2,3,12],[1,2,3,12,103],[1,2,3,12,13],[0,0,1,0,4,0,28,60,127,255],[0,1,2,3,4,5,6,7,8],[1,2,3,12,13,14],[1,2,3,12,124],[0,0,1,0,4,0,28,60,124,255,511,1023],[0,1,2,3,4,5,6,7,8,9,10],[1,2,3,12],[1,2,3,12],[2]] 1=some (sN,[.c 2 3 true]):=by kernel_rfl

abbrev ge:Nat:=169
theorem gq:Tryz.prog.funcs[169]?=some Tryz.f169:=Tryz.func169
def cJ:AC:=
 Q [.reg [mi 4 0] [0,1],
 Q [.reg [m 6 0,lq 7 6,mi 8 0] [0,1,7,8],
 .block 0 (.loop [0,1,7,8] (Q [.reg [bt 9 .lss 8 7] [0,1,7,8,9],
 C 9 (.skip) (.exit 0),
 .block 1 (Q [.reg [m 10 8,m 5 10] [0,1,5,7,8],
 .reg [m 11 1,m 12 0,m 13 5,ia 14 12 13 1,l1 15 14,bt 16 .eql 11 15] [0,1,5,7,8,16],
 C 16 (Q [.reg [m 17 5,m 4 17] [4],
 .ret]) (.skip)]),
 .reg [bi 18 .add 8 1,m 8 18] [0,1,7,8]]))],
 .reg [mi 4 (-1)] [4],
 .ret]
theorem gn:an Tryz.prog Tryz.f169 [[0,1],[0,1,7,8],[0,1,7,8],[0,1,7,8,9],[0,1,5,7,8],[0,1,5,7,8,16],[4],[0,1,7,8],[4]] 2=some (cJ,[.t 4]):=by kernel_rfl

abbrev eB:Nat:=171
theorem eX:Tryz.prog.funcs[171]?=some Tryz.f171:=Tryz.func171
def b7:AC:=
 Q [.reg [mb 4 false] [0,1],
 .reg [m 5 0,m 6 1,ca 7 169 [5,6],bi 8 .geq 7 0,m 4 8] [4],
 .ret]
theorem eO:an Tryz.prog Tryz.f171 [[0,1],[4]] 2=some (b7,[.t 4]):=by kernel_rfl

abbrev eH:Nat:=161
theorem fd:Tryz.prog.funcs[161]?=some Tryz.f161:=Tryz.func161
def cc:AC:=
 Q [.reg [mb 4 false] [0,1],
 .reg [m 5 0,ls 6 5,m 7 1,ls 8 7,bt 9 .geq 6 8,m 10 9,gt 10 (m 11 0),gt 10 (m 12 1),gt 10 (ls 13 12),gt 10 (o1 14 (.sls (.t 11) none (some (.t 13)))),gt 10 (m 15 1),gt 10 (bt 16 .eql 14 15),pa 17 10 16,m 4 17] [4],
 .ret]
theorem eV:an Tryz.prog Tryz.f161 [[0,1],[4]] 2=some (cc,[.t 4]):=by kernel_rfl

abbrev pe:Nat:=118
theorem pu:Tryz.prog.funcs[118]?=some Tryz.f118:=Tryz.func118
def g9:AC:=
 Q [.reg [mb 4 false] [0,1],
 .reg [m 5 0,m 6 1,ca 7 161 [5,6],m 4 7] [4],
 .ret]
theorem pl:an Tryz.prog Tryz.f118 [[0,1],[4]] 2=some (g9,[.t 4]):=by kernel_rfl

abbrev wU:Nat:=213
theorem xv:Tryz.prog.funcs[213]?=some Tryz.f213:=Tryz.func213
def oe:AC:=
 Q [.reg [mb 2 false] [0],
 Q [.reg [mi 3 0] [0,3],
 .block 0 (.loop [0,3] (Q [Q [.reg [m 4 3,m 5 0,ls 6 5,bt 7 .lss 4 6] [0,3,7],
 C 7 (.skip) (.exit 0)],
 .block 1 (Q [.reg [m 10 0,m 11 3,ix 12 10 11,bu 13 .lss 12 32,m 14 13,gf 14 (m 15 0),gf 14 (m 16 3),gf 14 (ix 17 15 16),gf 14 (bu 18 .gtr 17 126),po 19 14 18] [0,3,19],
 C 19 (Q [.reg [mb 2 false] [2],
 .ret]) (.skip)]),
 .reg [m 8 3,bi 9 .add 8 1,m 3 9] [0,3]]))],
 .reg [mb 2 true] [2],
 .ret]
theorem xg:an Tryz.prog Tryz.f213 [[0],[0,3],[0,3],[0,3,7],[0,3,19],[2],[0,3],[2]] 1=some (oe,[.t 2]):=by kernel_rfl

abbrev lW:Nat:=258
theorem vp:Tryz.prog.funcs[258]?=some Tryz.f258:=Tryz.func258
def mj:AC:=
 Q [.reg [mv 2 (.nilptr)] [0],
 .reg [m 5 0,ls 6 5,o1 7 (.mk0 242 1 16 (.t 6)),m 3 7] [0,3],
 Q [.reg [mi 4 0] [0,3,4],
 .block 0 (.loop [0,3,4] (Q [Q [.reg [m 8 4,m 9 0,ls 10 9,bt 11 .lss 8 10] [0,3,4,11],
 C 11 (.skip) (.exit 0)],
 .block 1 (Q [Q [.reg [m 14 0,m 15 4,ix 16 14 15,ca 17 271 [16],nt' 18 17] [0,3,4,18],
 C 18 (Q [.reg [o1 19 (.bld (zs 95 (.bool false)) []),o1 20 (.mki 282 (.t 19)),o1 21 (.bld [.niliface] [(0,1,(.t 20))]),bx 22 21,m 2 22] [2],
 .ret]) (.skip)],
 .reg [m 23 3,m 24 0,m 25 4,ix 26 24 25,ca 27 272 [26],o1 28 (.mki 282 (.t 27)),o1 29 (.lit 242 1 [.t 28]),o1 30 (.app (.t 23) (.t 29) 242 1 16),m 3 30] [0,3,4]]),
 .reg [m 12 4,bi 13 .add 12 1,m 4 13] [0,3,4]]))],
 .reg [m 31 3,ca 32 259 [31],o1 33 (.bld [.niliface] [(0,1,(.t 32))]),bx 34 33,m 2 34] [2],
 .ret]
theorem vh:am Tryz.prog Tryz.f258 [] [9999999] [[0],[0,3],[0,3,4],[0,3,4],[0,3,4,11],[0,3,4,18],[2],[0,3,4],[0,3,4],[2]] 1=some (mj,[.t 2]):=by kernel_rfl

abbrev yC:Nat:=257
theorem zu:Tryz.prog.funcs[257]?=some Tryz.f257:=Tryz.func257
def p5:AC:=
 Q [.reg [mv 2 (.nil 1)] [0],
 .reg [m 6 0,lq 7 6,o1 8 (.mk0 242 1 16 (.t 7)),m 3 8] [0,3],
 Q [.reg [m 9 0,lq 10 9,mi 11 0] [3,9,10,11],
 .block 0 (.loop [3,9,10,11] (Q [.reg [bt 12 .lss 11 10] [3,9,10,11,12],
 C 12 (.skip) (.exit 0),
 .block 1 (Q [.reg [ia 13 9 11 1,l1 14 13,m 5 14] [3,5,9,10,11],
 .reg [m 15 3,m 16 5,ca 17 198 [16],o1 18 (.lit 242 1 [.t 17]),o1 19 (.app (.t 15) (.t 18) 242 1 16),m 3 19] [3,9,10,11]]),
 .reg [bi 20 .add 11 1,m 11 20] [3,9,10,11]]))],
 .reg [m 21 3,m 2 21] [2],
 .ret]
theorem yZ:an Tryz.prog Tryz.f257 [[0],[0,3],[3,9,10,11],[3,9,10,11],[3,9,10,11,12],[3,5,9,10,11],[3,9,10,11],[3,9,10,11],[2]] 1=some (p5,[.t 2]):=by kernel_rfl

abbrev wO:Nat:=228
theorem Gu:Tryz.prog.funcs[228]?=some Tryz.f228:=Tryz.func228
def ye:AC:=
 Q [.reg [mv 2 (.nilptr)] [0],
 .reg [m 3 0,ca 4 257 [3],ca 5 256 [4],o1 6 (.bld [.niliface] [(0,1,(.t 5))]),bx 7 6,m 2 7] [2],
 .ret]
theorem Gm:am Tryz.prog Tryz.f228 [] [9999999] [[0],[2]] 1=some (ye,[.t 2]):=by kernel_rfl

abbrev r4:Nat:=230
theorem CI:Tryz.prog.funcs[230]?=some Tryz.f230:=Tryz.func230
def sM:AC:=
 Q [.reg [mv 2 (.nilptr)] [0],
 .reg [m 3 0,ca 4 257 [3],ca 5 259 [4],o1 6 (.bld [.niliface] [(0,1,(.t 5))]),bx 7 6,m 2 7] [2],
 .ret]
theorem Co:am Tryz.prog Tryz.f230 [] [9999999] [[0],[2]] 1=some (sM,[.t 2]):=by kernel_rfl

abbrev uE:Nat:=114
theorem ED:Tryz.prog.funcs[114]?=some Tryz.f114:=Tryz.func114
def uY:AC:=
 Q [.reg [bx 1 0,o1 2 (.alc [.nil 1,.nil 1])] [1,2],
 Q [.reg [la 5 1 3,ca 6 152 [5],bi 7 .neq 6 0] [1,2,7],
 C 7 (Q [.reg [o1 8 (.bld [.nil 1,.nil 1] []),st 2 2 8] [2],
 .ret]) (.skip)],
 .regF ((.both
 (OQ [ch 10 154 [],fa 11 1 0,l1 12 11,o1 13 (.lkp ⟨false,[.i .i64]⟩ (.nilfn) false (.t 10) (.t 12)),la 14 1 3,cv 15 13 [14],ca 16 155 [15],ca 17 153 [16],m 9 17,ex 18 9 0,ex 19 9 1,o1 3 (.alc [.nil 1,.nil 1]),st 2 3 18,m 4 19] .nil)
 ((.both
 (OQ [fa 11 1 0] (.both
 (OQ [ch 10 154 [],l1 12 11,o1 13 (.lkp ⟨false,[.i .i64]⟩ (.nilfn) false (.t 10) (.t 12)),la 14 1 3,cv 15 13 [14],ca 16 155 [15],ca 17 153 [16],m 9 17,ex 18 9 0,ex 19 9 1,o1 3 (.alc [.nil 1,.nil 1]),st 2 3 18,m 4 19] .nil)
 ((.both
 (OQ [l1 12 11] (.both
 (OQ [ch 10 154 [],o1 13 (.lkp ⟨false,[.i .i64]⟩ (.nilfn) false (.t 10) (.t 12)),la 14 1 3,cv 15 13 [14],ca 16 155 [15],ca 17 153 [16],m 9 17,ex 18 9 0,ex 19 9 1,o1 3 (.alc [.nil 1,.nil 1]),st 2 3 18,m 4 19] .nil)
 ((.both
 (OQ [la 14 1 3] (.both
 (OQ [ch 10 154 [],o1 13 (.lkp ⟨false,[.i .i64]⟩ (.nilfn) false (.t 10) (.t 12)),cv 15 13 [14],ca 16 155 [15],ca 17 153 [16],m 9 17,ex 18 9 0,ex 19 9 1,o1 3 (.alc [.nil 1,.nil 1]),st 2 3 18,m 4 19] .nil)
 (OQ [o1 3 (.alc [.nil 1,.nil 1]),ch 10 154 [],o1 13 (.lkp ⟨false,[.i .i64]⟩ (.nilfn) false (.t 10) (.t 12)),cv 15 13 [14],ca 16 155 [15],ca 17 153 [16],m 9 17,ex 18 9 0,ex 19 9 1,st 2 3 18,m 4 19] .nil)))
 (OQ [o1 3 (.alc [.nil 1,.nil 1])] (.both
 (OQ [ch 10 154 [],o1 13 (.lkp ⟨false,[.i .i64]⟩ (.nilfn) false (.t 10) (.t 12)),la 14 1 3,cv 15 13 [14],ca 16 155 [15],ca 17 153 [16],m 9 17,ex 18 9 0,ex 19 9 1,st 2 3 18,m 4 19] .nil)
 (OQ [la 14 1 3,ch 10 154 [],o1 13 (.lkp ⟨false,[.i .i64]⟩ (.nilfn) false (.t 10) (.t 12)),cv 15 13 [14],ca 16 155 [15],ca 17 153 [16],m 9 17,ex 18 9 0,ex 19 9 1,st 2 3 18,m 4 19] .nil)))))))
 ((.both
 (OQ [la 14 1 3] (.both
 (OQ [ch 10 154 [],l1 12 11,o1 13 (.lkp ⟨false,[.i .i64]⟩ (.nilfn) false (.t 10) (.t 12)),cv 15 13 [14],ca 16 155 [15],ca 17 153 [16],m 9 17,ex 18 9 0,ex 19 9 1,o1 3 (.alc [.nil 1,.nil 1]),st 2 3 18,m 4 19] .nil)
 ((.both
 (OQ [l1 12 11] (.both
 (OQ [ch 10 154 [],o1 13 (.lkp ⟨false,[.i .i64]⟩ (.nilfn) false (.t 10) (.t 12)),cv 15 13 [14],ca 16 155 [15],ca 17 153 [16],m 9 17,ex 18 9 0,ex 19 9 1,o1 3 (.alc [.nil 1,.nil 1]),st 2 3 18,m 4 19] .nil)
 (OQ [o1 3 (.alc [.nil 1,.nil 1]),ch 10 154 [],o1 13 (.lkp ⟨false,[.i .i64]⟩ (.nilfn) false (.t 10) (.t 12)),cv 15 13 [14],ca 16 155 [15],ca 17 153 [16],m 9 17,ex 18 9 0,ex 19 9 1,st 2 3 18,m 4 19] .nil)))
 (OQ [o1 3 (.alc [.nil 1,.nil 1])] (.both
 (OQ [ch 10 154 [],l1 12 11,o1 13 (.lkp ⟨false,[.i .i64]⟩ (.nilfn) false (.t 10) (.t 12)),cv 15 13 [14],ca 16 155 [15],ca 17 153 [16],m 9 17,ex 18 9 0,ex 19 9 1,st 2 3 18,m 4 19] .nil)
 (OQ [l1 12 11,ch 10 154 [],o1 13 (.lkp ⟨false,[.i .i64]⟩ (.nilfn) false (.t 10) (.t 12)),cv 15 13 [14],ca 16 155 [15],ca 17 153 [16],m 9 17,ex 18 9 0,ex 19 9 1,st 2 3 18,m 4 19] .nil)))))))
 (OQ [o1 3 (.alc [.nil 1,.nil 1])] (.both
 (OQ [ch 10 154 [],l1 12 11,o1 13 (.lkp ⟨false,[.i .i64]⟩ (.nilfn) false (.t 10) (.t 12)),la 14 1 3,cv 15 13 [14],ca 16 155 [15],ca 17 153 [16],m 9 17,ex 18 9 0,ex 19 9 1,st 2 3 18,m 4 19] .nil)
 ((.both
 (OQ [l1 12 11] (.both
 (OQ [ch 10 154 [],o1 13 (.lkp ⟨false,[.i .i64]⟩ (.nilfn) false (.t 10) (.t 12)),la 14 1 3,cv 15 13 [14],ca 16 155 [15],ca 17 153 [16],m 9 17,ex 18 9 0,ex 19 9 1,st 2 3 18,m 4 19] .nil)
 (OQ [la 14 1 3,ch 10 154 [],o1 13 (.lkp ⟨false,[.i .i64]⟩ (.nilfn) false (.t 10) (.t 12)),cv 15 13 [14],ca 16 155 [15],ca 17 153 [16],m 9 17,ex 18 9 0,ex 19 9 1,st 2 3 18,m 4 19] .nil)))
 (OQ [la 14 1 3] (.both
 (OQ [ch 10 154 [],l1 12 11,o1 13 (.lkp ⟨false,[.i .i64]⟩ (.nilfn) false (.t 10) (.t 12)),cv 15 13 [14],ca 16 155 [15],ca 17 153 [16],m 9 17,ex 18 9 0,ex 19 9 1,st 2 3 18,m 4 19] .nil)
 (OQ [l1 12 11,ch 10 154 [],o1 13 (.lkp ⟨false,[.i .i64]⟩ (.nilfn) false (.t 10) (.t 12)),cv 15 13 [14],ca 16 155 [15],ca 17 153 [16],m 9 17,ex 18 9 0,ex 19 9 1,st 2 3 18,m 4 19] .nil)))))))))))))
 ((.both
 (OQ [la 14 1 3] (.both
 (OQ [ch 10 154 [],fa 11 1 0,l1 12 11,o1 13 (.lkp ⟨false,[.i .i64]⟩ (.nilfn) false (.t 10) (.t 12)),cv 15 13 [14],ca 16 155 [15],ca 17 153 [16],m 9 17,ex 18 9 0,ex 19 9 1,o1 3 (.alc [.nil 1,.nil 1]),st 2 3 18,m 4 19] .nil)
 ((.both
 (OQ [fa 11 1 0] (.both
 (OQ [ch 10 154 [],l1 12 11,o1 13 (.lkp ⟨false,[.i .i64]⟩ (.nilfn) false (.t 10) (.t 12)),cv 15 13 [14],ca 16 155 [15],ca 17 153 [16],m 9 17,ex 18 9 0,ex 19 9 1,o1 3 (.alc [.nil 1,.nil 1]),st 2 3 18,m 4 19] .nil)
 ((.both
 (OQ [l1 12 11] (.both
 (OQ [ch 10 154 [],o1 13 (.lkp ⟨false,[.i .i64]⟩ (.nilfn) false (.t 10) (.t 12)),cv 15 13 [14],ca 16 155 [15],ca 17 153 [16],m 9 17,ex 18 9 0,ex 19 9 1,o1 3 (.alc [.nil 1,.nil 1]),st 2 3 18,m 4 19] .nil)
 (OQ [o1 3 (.alc [.nil 1,.nil 1]),ch 10 154 [],o1 13 (.lkp ⟨false,[.i .i64]⟩ (.nilfn) false (.t 10) (.t 12)),cv 15 13 [14],ca 16 155 [15],ca 17 153 [16],m 9 17,ex 18 9 0,ex 19 9 1,st 2 3 18,m 4 19] .nil)))
 (OQ [o1 3 (.alc [.nil 1,.nil 1])] (.both
 (OQ [ch 10 154 [],l1 12 11,o1 13 (.lkp ⟨false,[.i .i64]⟩ (.nilfn) false (.t 10) (.t 12)),cv 15 13 [14],ca 16 155 [15],ca 17 153 [16],m 9 17,ex 18 9 0,ex 19 9 1,st 2 3 18,m 4 19] .nil)
 (OQ [l1 12 11,ch 10 154 [],o1 13 (.lkp ⟨false,[.i .i64]⟩ (.nilfn) false (.t 10) (.t 12)),cv 15 13 [14],ca 16 155 [15],ca 17 153 [16],m 9 17,ex 18 9 0,ex 19 9 1,st 2 3 18,m 4 19] .nil)))))))
 (OQ [o1 3 (.alc [.nil 1,.nil 1])] (.both
 (OQ [ch 10 154 [],fa 11 1 0,l1 12 11,o1 13 (.lkp ⟨false,[.i .i64]⟩ (.nilfn) false (.t 10) (.t 12)),cv 15 13 [14],ca 16 155 [15],ca 17 153 [16],m 9 17,ex 18 9 0,ex 19 9 1,st 2 3 18,m 4 19] .nil)
 (OQ [fa 11 1 0] (.both
 (OQ [ch 10 154 [],l1 12 11,o1 13 (.lkp ⟨false,[.i .i64]⟩ (.nilfn) false (.t 10) (.t 12)),cv 15 13 [14],ca 16 155 [15],ca 17 153 [16],m 9 17,ex 18 9 0,ex 19 9 1,st 2 3 18,m 4 19] .nil)
 (OQ [l1 12 11,ch 10 154 [],o1 13 (.lkp ⟨false,[.i .i64]⟩ (.nilfn) false (.t 10) (.t 12)),cv 15 13 [14],ca 16 155 [15],ca 17 153 [16],m 9 17,ex 18 9 0,ex 19 9 1,st 2 3 18,m 4 19] .nil)))))))))
 (OQ [o1 3 (.alc [.nil 1,.nil 1])] (.both
 (OQ [ch 10 154 [],fa 11 1 0,l1 12 11,o1 13 (.lkp ⟨false,[.i .i64]⟩ (.nilfn) false (.t 10) (.t 12)),la 14 1 3,cv 15 13 [14],ca 16 155 [15],ca 17 153 [16],m 9 17,ex 18 9 0,ex 19 9 1,st 2 3 18,m 4 19] .nil)
 ((.both
 (OQ [fa 11 1 0] (.both
 (OQ [ch 10 154 [],l1 12 11,o1 13 (.lkp ⟨false,[.i .i64]⟩ (.nilfn) false (.t 10) (.t 12)),la 14 1 3,cv 15 13 [14],ca 16 155 [15],ca 17 153 [16],m 9 17,ex 18 9 0,ex 19 9 1,st 2 3 18,m 4 19] .nil)
 ((.both
 (OQ [l1 12 11] (.both
 (OQ [ch 10 154 [],o1 13 (.lkp ⟨false,[.i .i64]⟩ (.nilfn) false (.t 10) (.t 12)),la 14 1 3,cv 15 13 [14],ca 16 155 [15],ca 17 153 [16],m 9 17,ex 18 9 0,ex 19 9 1,st 2 3 18,m 4 19] .nil)
 (OQ [la 14 1 3,ch 10 154 [],o1 13 (.lkp ⟨false,[.i .i64]⟩ (.nilfn) false (.t 10) (.t 12)),cv 15 13 [14],ca 16 155 [15],ca 17 153 [16],m 9 17,ex 18 9 0,ex 19 9 1,st 2 3 18,m 4 19] .nil)))
 (OQ [la 14 1 3] (.both
 (OQ [ch 10 154 [],l1 12 11,o1 13 (.lkp ⟨false,[.i .i64]⟩ (.nilfn) false (.t 10) (.t 12)),cv 15 13 [14],ca 16 155 [15],ca 17 153 [16],m 9 17,ex 18 9 0,ex 19 9 1,st 2 3 18,m 4 19] .nil)
 (OQ [l1 12 11,ch 10 154 [],o1 13 (.lkp ⟨false,[.i .i64]⟩ (.nilfn) false (.t 10) (.t 12)),cv 15 13 [14],ca 16 155 [15],ca 17 153 [16],m 9 17,ex 18 9 0,ex 19 9 1,st 2 3 18,m 4 19] .nil)))))))
 (OQ [la 14 1 3] (.both
 (OQ [ch 10 154 [],fa 11 1 0,l1 12 11,o1 13 (.lkp ⟨false,[.i .i64]⟩ (.nilfn) false (.t 10) (.t 12)),cv 15 13 [14],ca 16 155 [15],ca 17 153 [16],m 9 17,ex 18 9 0,ex 19 9 1,st 2 3 18,m 4 19] .nil)
 (OQ [fa 11 1 0] (.both
 (OQ [ch 10 154 [],l1 12 11,o1 13 (.lkp ⟨false,[.i .i64]⟩ (.nilfn) false (.t 10) (.t 12)),cv 15 13 [14],ca 16 155 [15],ca 17 153 [16],m 9 17,ex 18 9 0,ex 19 9 1,st 2 3 18,m 4 19] .nil)
 (OQ [l1 12 11,ch 10 154 [],o1 13 (.lkp ⟨false,[.i .i64]⟩ (.nilfn) false (.t 10) (.t 12)),cv 15 13 [14],ca 16 155 [15],ca 17 153 [16],m 9 17,ex 18 9 0,ex 19 9 1,st 2 3 18,m 4 19] .nil))))))))))))))) [2,3],
 .reg [la 20 3 2,st 2 2 20] [2],
 .ret]
theorem Ev:am Tryz.prog Tryz.f114 [] [154] [[1,2],[1,2,7],[2],[1,0,0,2,7,0,31,63,127,255,511,511,0,3071,8191],[2,3],[2]] 1=some (uY,[.c 2 2 true]):=by kernel_rfl

abbrev yR:Nat:=154
theorem zM:Tryz.prog.funcs[154]?=some Tryz.f154:=Tryz.func154
def qi:AC:=
 Q [.reg [mv 0 (.junk)] [],
 .reg [o1 1 (.mkp ⟨false,[.i .i64]⟩),o0 (.mup ⟨false,[.i .i64]⟩ (.t 1) (.v (.int .i64 1)) (.v (.fn (.func 193) [] []))),o0 (.mup ⟨false,[.i .i64]⟩ (.t 1) (.v (.int .i64 2)) (.v (.fn (.func 194) [] []))),o0 (.mup ⟨false,[.i .i64]⟩ (.t 1) (.v (.int .i64 3)) (.v (.fn (.func 195) [] []))),o0 (.mup ⟨false,[.i .i64]⟩ (.t 1) (.v (.int .i64 4)) (.v (.fn (.func 196) [] []))),m 2 1,m 0 2] [0],
 .ret]
theorem zm:am Tryz.prog Tryz.f154 [] [9999999] [[],[0]] 0=some (qi,[.t 0]):=by kernel_rfl

abbrev F9:Nat:=152
theorem Gw:Tryz.prog.funcs[152]?=some Tryz.f152:=Tryz.func152
def yg:AC:=
 Q [.reg [bx 1 0,mi 2 0] [1],
 .reg [mb 3 false] [1,3],
 Q [.reg [fa 4 1 0,l1 5 4] [1,3,5],
 .block 0 (Q [.reg [bi 7 .eql 5 1,m 6 7] [1,3,5,6],
 C 6 (.reg [fa 8 1 1,l1 9 8,lq 10 9,bi 11 .eql 10 0,m 12 11,gt 12 (fa 13 1 2),gt 12 (l1 14 13),gt 12 (bs 15 .eql 14 []),pa 16 12 15,m 3 16] [3]) (Q [.reg [bi 18 .eql 5 2,m 17 18] [1,3,5,17],
 C 17 (.reg [fa 19 1 1,l1 20 19,lq 21 20,bi 22 .gtr 21 0,m 23 22,gt 23 (fa 24 1 1),gt 23 (l1 25 24),gt 23 (o1 26 (.call 179 [.t 25,.v (.fn (.func 180) [] [])])),pa 27 23 26,m 28 27,gt 28 (fa 29 1 2),gt 28 (l1 30 29),gt 28 (bs 31 .eql 30 []),pa 32 28 31,m 3 32] [3]) (Q [.reg [bi 34 .eql 5 3,m 33 34] [1,3,5,33],
 C 33 (.reg [fa 35 1 1,l1 36 35,o1 37 (.call 179 [.t 36,.v (.fn (.func 181) [] [])]),m 38 37,gt 38 (fa 39 1 2),gt 38 (l1 40 39),gt 38 (bs 41 .eql 40 []),pa 42 38 41,m 3 42] [3]) (Q [.reg [bi 44 .eql 5 4,m 43 44] [1,3,43],
 C 43 (.reg [fa 45 1 1,l1 46 45,lq 47 46,bi 48 .eql 47 0,m 49 48,gt 49 (fa 50 1 2),gt 49 (l1 51 50),gt 49 (ca 52 182 [51]),pa 53 49 52,m 3 53] [3]) (.skip)])])])])],
 Q [.reg [m 54 3,nt' 55 54] [55],
 C 55 (Q [.reg [mi 2 10] [2],
 .ret]) (.skip)],
 .reg [mi 2 0] [2],
 .ret]
theorem Gp:an Tryz.prog Tryz.f152 [[1],[1,3],[1,3,5],[1,3,5,6],[3],[1,3,5,17],[3],[1,3,5,33],[3],[1,3,43],[3],[55],[2],[2]] 1=some (yg,[.t 2]):=by kernel_rfl

abbrev B7:Nat:=179
theorem CS:Tryz.prog.funcs[179]?=some Tryz.f179:=Tryz.func179
def sQ:AC:=
 Q [.reg [mb 4 false] [0,1],
 Q [.reg [m 7 0,lq 8 7,bi 9 .gtr 8 8] [0,1,9],
 C 9 (Q [.reg [mb 4 false] [4],
 .ret]) (.skip)],
 Q [.reg [m 10 0,lq 11 10,mi 12 0] [0,1,10,11,12],
 .block 0 (.loop [0,1,10,11,12] (Q [.reg [bt 13 .lss 12 11] [0,1,10,11,12,13],
 C 13 (.skip) (.exit 0),
 .block 1 (Q [.reg [m 14 12,ia 15 10 12 1,l1 16 15,m 5 14,m 6 16] [0,1,5,6,10,11,12],
 .reg [m 17 1,m 18 6,cv 19 17 [18],nt' 20 19,m 21 20,gf 21 (m 22 0),gf 21 (m 23 5),gf 21 (o1 24 (.slq (.t 22) none (some (.t 23)) 1)),gf 21 (m 25 6),gf 21 (ca 26 171 [24,25]),po 27 21 26] [0,1,10,11,12,27],
 C 27 (Q [.reg [mb 4 false] [4],
 .ret]) (.skip)]),
 .reg [bi 28 .add 12 1,m 12 28] [0,1,10,11,12]]))],
 .reg [mb 4 true] [4],
 .ret]
theorem Cy:an Tryz.prog Tryz.f179 [[0,1],[0,1,9],[4],[0,1,10,11,12],[0,1,10,11,12],[0,1,10,11,12,13],[0,1,5,6,10,11,12],[0,1,10,11,12,27],[4],[0,1,10,11,12],[4]] 2=some (sQ,[.t 4]):=by kernel_rfl

abbrev pK:Nat:=180
theorem zN:Tryz.prog.funcs[180]?=some Tryz.f180:=Tryz.func180
def qj:AC:=
 Q [.reg [mb 2 false] [0],
 .reg [m 3 0,ls 4 3,bi 5 .leq 4 40,m 6 5,gt 6 (m 7 0),gt 6 (ca 8 213 [7]),pa 9 6 8,m 2 9] [2],
 .ret]
theorem zn:an Tryz.prog Tryz.f180 [[0],[2]] 1=some (qj,[.t 2]):=by kernel_rfl

abbrev lY:Nat:=181
theorem vu:Tryz.prog.funcs[181]?=some Tryz.f181:=Tryz.func181
def mr:AC:=
 Q [.reg [mb 2 false] [0],
 Q [.reg [mi 3 0] [0,3],
 .block 0 (.loop [0,3] (Q [Q [.reg [m 4 3,m 5 0,ls 6 5,bt 7 .lss 4 6] [0,3,7],
 C 7 (.skip) (.exit 0)],
 .block 1 (Q [.reg [m 10 0,m 11 3,ix 12 10 11,bu 13 .lss 12 97,m 14 13,gf 14 (m 15 0),gf 14 (m 16 3),gf 14 (ix 17 15 16),gf 14 (bu 18 .gtr 17 122),po 19 14 18] [0,3,19],
 C 19 (Q [.reg [mb 2 false] [2],
 .ret]) (.skip)]),
 .reg [m 8 3,bi 9 .add 8 1,m 3 9] [0,3]]))],
 .reg [m 20 0,ls 21 20,o1 22 (.bin .leq (.v (.int .i64 1)) (.t 21)),m 23 22,gt 23 (m 24 0),gt 23 (ls 25 24),gt 23 (bi 26 .leq 25 16),pa 27 23 26,m 2 27] [2],
 .ret]
theorem vl:an Tryz.prog Tryz.f181 [[0],[0,3],[0,3],[0,3,7],[0,3,19],[2],[0,3],[2]] 1=some (mr,[.t 2]):=by kernel_rfl

abbrev wT:Nat:=182
theorem xu:Tryz.prog.funcs[182]?=some Tryz.f182:=Tryz.func182
def oc:AC:=
 Q [.reg [mb 2 false] [0],
 .reg [m 6 0,ca 7 214 [6],m 5 7,ex 8 5 0,ex 9 5 1,m 3 8,m 4 9] [3,4],
 Q [.reg [m 10 4,bi 11 .neq 10 0] [3,11],
 C 11 (Q [.reg [mb 2 false] [2],
 .ret]) (.skip)],
 .reg [m 13 3,ca 14 155 [13],ca 15 153 [14],m 12 15,ex 16 12 0,ex 17 12 1,m 4 17] [4],
 .reg [m 18 4,bi 19 .eql 18 0,m 2 19] [2],
 .ret]
theorem xf:an Tryz.prog Tryz.f182 [[0],[3,4],[3,11],[2],[4],[2]] 1=some (oc,[.t 2]):=by kernel_rfl

abbrev yQ:Nat:=227
theorem zL:Tryz.prog.funcs[227]?=some Tryz.f227:=Tryz.func227
def qh:AC:=
 Q [.reg [mv 2 (.nilptr)] [0],
 .reg [m 6 0,ca 7 214 [6],m 5 7,ex 8 5 0,ex 9 5 1,m 3 8,m 4 9] [3,4],
 Q [.reg [m 10 4,bi 11 .neq 10 0] [3,11],
 C 11 (Q [.reg [mv 2 (.nilptr)] [2],
 .ret]) (.skip)],
 .reg [m 12 3,m 2 12] [2],
 .ret]
theorem zl:an Tryz.prog Tryz.f227 [[0],[3,4],[3,11],[2],[2]] 1=some (qh,[.t 2]):=by kernel_rfl

abbrev vf:Nat:=229
theorem vr:Tryz.prog.funcs[229]?=some Tryz.f229:=Tryz.func229
def mo:AC:=
 Q [.reg [mv 4 (.nil 1)] [0,1],
 .reg [mv 5 (.nil 1)] [0,1,5],
 Q [.reg [m 8 0,lq 9 8,mi 10 0] [1,5,8,9,10],
 .block 0 (.loop [1,5,8,9,10] (Q [.reg [bt 11 .lss 10 9] [1,5,8,9,10,11],
 C 11 (.skip) (.exit 0),
 .block 1 (Q [.reg [ia 12 8 10 1,l1 13 12,m 7 13] [1,5,7,8,9,10],
 .reg [m 14 5,m 15 7,m 16 1,bt 17 .add 15 16,ca 18 258 [17],o1 19 (.lit 192 1 [.t 18]),o1 20 (.app (.t 14) (.t 19) 192 1 8),m 5 20] [1,5,8,9,10]]),
 .reg [bi 21 .add 10 1,m 10 21] [1,5,8,9,10]]))],
 .reg [m 22 5,m 4 22] [4],
 .ret]
theorem vj:an Tryz.prog Tryz.f229 [[0,1],[0,1,5],[1,5,8,9,10],[1,5,8,9,10],[1,5,8,9,10,11],[1,5,7,8,9,10],[1,5,8,9,10],[1,5,8,9,10],[4]] 2=some (mo,[.t 4]):=by kernel_rfl

abbrev gK:Nat:=193
theorem vt:Tryz.prog.funcs[193]?=some Tryz.f193:=Tryz.func193
def mq:AC:=
 Q [.reg [bx 1 0,mv 2 (.nilptr)] [],
 .reg [o1 3 (.call 227 [.v (.str [46,42])]),m 2 3] [2],
 .ret]
theorem vk:an Tryz.prog Tryz.f193 [[],[2]] 1=some (mq,[.t 2]):=by kernel_rfl

abbrev fG:Nat:=194
theorem tL:Tryz.prog.funcs[194]?=some Tryz.f194:=Tryz.func194
def kK:AC:=
 Q [.reg [bx 1 0,mv 2 (.nilptr)] [1],
 .reg [fa 3 1 1,l1 4 3,o1 5 (.call 229 [.t 4,.v (.str [])]),ca 6 228 [5],m 2 6] [2],
 .ret]
theorem tG:an Tryz.prog Tryz.f194 [[1],[2]] 1=some (kK,[.t 2]):=by kernel_rfl

abbrev d8:Nat:=195
theorem qV:Tryz.prog.funcs[195]?=some Tryz.f195:=Tryz.func195
def jq:AC:=
 Q [.reg [bx 1 0,mv 2 (.nilptr)] [1],
 .reg [fa 4 1 1,l1 5 4,o1 6 (.call 229 [.t 5,.v (.str [58])]),ca 7 228 [6],m 3 7] [1,3],
 .regD [o1 8 (.call 227 [.v (.str [91,94,58,93,42])]),m 9 3,la 10 1 3,ca 11 193 [10],o1 12 (.lit 192 1 [.t 9,.t 11]),ca 13 230 [12],o1 14 (.lit 192 1 [.t 8,.t 13]),ca 15 228 [14],m 2 15] [2],
 .ret]
theorem qP:an Tryz.prog Tryz.f195 [[1],[1,3],[0,0,0,0,5,15,31,63,127,255],[0,1,2,3,4,5,6,7,8],[2]] 1=some (jq,[.t 2]):=by kernel_rfl

abbrev eE:Nat:=196
theorem sl:Tryz.prog.funcs[196]?=some Tryz.f196:=Tryz.func196
def jQ:AC:=
 Q [.reg [bx 1 0,mv 2 (.nilptr)] [1],
 .reg [fa 3 1 2,l1 4 3,ca 5 227 [4],m 2 5] [2],
 .ret]
theorem sh:an Tryz.prog Tryz.f196 [[1],[2]] 1=some (jQ,[.t 2]):=by kernel_rfl

abbrev B8:Nat:=112
theorem CT:Tryz.prog.funcs[112]?=some Tryz.f112:=Tryz.func112
def sR:AC:=
 Q [.reg [bx 2 0,bx 3 1,o1 4 (.alc [.str [],.str [],.str [],.str []])] [2,3,4],
 .regF (OQ [la 15 2 3,ca 16 114 [15],la 17 3 3,ca 18 114 [17]] (.both
 (OQ [o1 5 (.alc [.nil 1,.nil 1]),o1 6 (.alc [.nil 1,.nil 1]),st 2 5 16,st 2 6 18] .nil)
 (OQ [o1 6 (.alc [.nil 1,.nil 1]),o1 5 (.alc [.nil 1,.nil 1]),st 2 5 16,st 2 6 18] .nil))) [4,5,6],
 .regF (OQ [la 19 5 2,ca 20 115 [19],la 21 6 2,ca 22 115 [21]] (.both
 (OQ [o1 7 (.alc [.nil 1,.nil 1]),o1 8 (.alc [.nil 1,.nil 1]),st 2 7 20,st 2 8 22] .nil)
 (OQ [o1 8 (.alc [.nil 1,.nil 1]),o1 7 (.alc [.nil 1,.nil 1]),st 2 7 20,st 2 8 22] .nil))) [4,5,6,7,8],
 .reg [la 23 5 2,la 24 6 2,o1 25 (.bld [.nil 1,.nil 1,.nil 1,.nil 1] [(0,2,(.t 23)),(2,2,(.t 24))]),la 26 5 2,la 27 8 2,o1 28 (.bld [.nil 1,.nil 1,.nil 1,.nil 1] [(0,2,(.t 26)),(2,2,(.t 27))]),la 29 7 2,la 30 6 2,o1 31 (.bld [.nil 1,.nil 1,.nil 1,.nil 1] [(0,2,(.t 29)),(2,2,(.t 30))]),la 32 7 2,la 33 8 2,o1 34 (.bld [.nil 1,.nil 1,.nil 1,.nil 1] [(0,2,(.t 32)),(2,2,(.t 33))]),o1 35 (.bld (zs 16 (.nil 1)) [(0,4,(.t 25)),(4,4,(.t 28)),(8,4,(.t 31)),(12,4,(.t 34))]),o1 9 (.alc (zs 16 (.nil 1))),st 16 9 35] [4,9],
 .reg [o1 10 (.alc [.str [],.str [],.str [],.str []])] [4,9,10],
 Q [.reg [la 36 9 16,mi 37 0] [4,10,36,37],
 .block 0 (.loop [4,10,36,37] (Q [.reg [bi 38 .lss 37 4] [4,10,36,37,38],
 C 38 (.skip) (.exit 0),
 .block 1 (Q [.reg [m 39 37,o1 40 (.ixa (.t 36) (.t 37) 4 4 true),o1 12 (.alc [.nil 1,.nil 1,.nil 1,.nil 1]),m 11 39,st 4 12 40] [4,10,11,12,36,37],
 .reg [o1 42 (.iaa (.t 12) (.v (.int .i64 0)) 2 2),la 43 42 2,o1 44 (.iaa (.t 12) (.v (.int .i64 1)) 2 2),la 45 44 2,ca 46 116 [43,45],m 41 46,ex 47 41 0,ex 48 41 1,m 13 47,m 14 48] [4,10,11,13,14,36,37],
 .reg [m 49 14] [4,10,11,13,36,37,49],
 C 49 (.reg [m 50 11,m 51 13,o1 52 (.bin .add (.v (.str [43])) (.t 51)),o1 53 (.iaa (.t 10) (.t 50) 4 1),st 1 53 52] [4,10,36,37]) (.skip)]),
 .reg [bi 54 .add 37 1,m 37 54] [4,10,36,37]]))],
 .reg [la 55 10 4,st 4 4 55] [4],
 .ret]
theorem Cz:an Tryz.prog Tryz.f112 [[2,3,4],[1,0,1,0,7,0,0,63,127],[4,5,6],[1,0,1,0,7,0,0,63,127],[4,5,6,7,8],[4,9],[4,9,10],[4,10,36,37],[4,10,36,37],[4,10,36,37,38],[4,10,11,12,36,37],[4,10,11,13,14,36,37],[4,10,11,13,36,37,49],[4,10,36,37],[4,10,36,37],[4]] 2=some (sR,[.c 4 4 true]):=by kernel_rfl

end Go.Abs
