/-
  The images of some of the program's functions, as the kernel reckons them. Made by program. No condition.
-/
import Derived.Test.YthficpngadcpgaaGreatDoorNCodeD
set_option linter.unusedVariables false
set_option linter.unusedSimpArgs false
set_option linter.unusedSectionVars false
set_option maxRecDepth 100000
namespace Go.Abs
open Go.Proofs

abbrev np:Nat:=111
theorem n5:Tryz.prog.funcs[111]?=some Tryz.f111:=Tryz.func111
def et:AC:=
 Q [.reg [mb 2 false] [0],
 .reg [m 3 0,bu 4 .geq 3 97,m 5 4,gt 5 (m 6 0),gt 5 (bu 7 .leq 6 122),pa 8 5 7,m 2 8] [2],
 .ret]
theorem nJ:ar Tryz.prog Tryz.f111 [[0],[2]] 1=some (et,[.t 2]):=by kernel_rfl

abbrev nr:Nat:=70
theorem n7:Tryz.prog.funcs[70]?=some Tryz.f70:=Tryz.func70
def cQ:AC:=
 Q [.reg [mb 2 false] [0],
 Q [.reg [m 6 0,ls 7 6,bi 8 .eql 7 0] [0,8],
 C 8 (Q [.reg [mb 2 false] [2],
 .ret]) (.skip)],
 .reg [m 9 0,o1 10 (.ixs (.t 9) (.v (.int .i64 0))),ca 11 111 [10],m 3 11] [0,3],
 Q [.reg [mi 4 0] [0,3,4],
 .block 0 (.loop [0,3,4] (Q [Q [.reg [m 12 4,m 13 0,ls 14 13,bt 15 .lss 12 14] [0,3,4,15],
 C 15 (.skip) (.exit 0)],
 .block 1 (Q [.reg [m 18 0,m 19 4,ix 20 18 19,ca 21 111 [20],m 5 21] [0,3,4,5],
 .reg [m 22 5,nt' 23 22,m 24 23,gt 24 (m 25 0),gt 24 (m 26 4),gt 24 (ix 27 25 26),gt 24 (bu 28 .lss 27 48),gt 24 (m 29 28),gf 29 (m 30 0),gf 29 (m 31 4),gf 29 (ix 32 30 31),gf 29 (bu 33 .gtr 32 57),gt 24 (po 34 29 33),pa 35 24 34,m 36 35,gt 36 (m 37 0),gt 36 (m 38 4),gt 36 (ix 39 37 38),gt 36 (bu 40 .neq 39 45),pa 41 36 40] [0,3,4,41],
 C 41 (Q [.reg [mb 2 false] [2],
 .ret]) (.skip)]),
 .reg [m 16 4,bi 17 .add 16 1,m 4 17] [0,3,4]]))],
 .reg [m 42 3,m 2 42] [2],
 .ret]
theorem nL:ar Tryz.prog Tryz.f70 [[0],[0,8],[2],[0,3],[0,3,4],[0,3,4],[0,3,4,15],[0,3,4,5],[0,3,4,41],[2],[0,3,4],[2]] 1=some (cQ,[.t 2]):=by kernel_rfl

abbrev nk:Nat:=44
theorem nX:Tryz.prog.funcs[44]?=some Tryz.f44:=Tryz.func44
def eo:AC:=
 Q [.reg [mb 2 false] [0],
 .reg [m 4 0,ca 5 70 [4],m 3 5] [0,3],
 .reg [m 6 3,m 7 6,gt 7 (m 8 0),gt 7 (ls 9 8),gt 7 (bi 10 .leq 9 16),pa 11 7 10,m 2 11] [2],
 .ret]
theorem nG:ar Tryz.prog Tryz.f44 [[0],[0,3],[2]] 1=some (eo,[.t 2]):=by kernel_rfl

abbrev p3:Nat:=45
theorem qK:Tryz.prog.funcs[45]?=some Tryz.f45:=Tryz.func45
def fu:AC:=
 Q [.reg [bx 2 0,o1 4 (.alc [.str [],.nil 1,.nil 5]),mb 5 false] [1,2,4],
 Q [.reg [mi 6 0] [1,2,4,6],
 .block 0 (.loop [1,2,4,6] (Q [Q [.reg [m 7 6,fa 8 2 1,l1 9 8,lq 10 9,bt 11 .lss 7 10] [1,2,4,6,11],
 C 11 (.skip) (.exit 0)],
 .block 1 (Q [.reg [fa 14 2 1,l1 15 14,m 16 6,ia 17 15 16 3,fa 18 17 0,l1 19 18,m 20 1,bt 21 .eql 19 20] [1,2,4,6,21],
 C 21 (Q [.reg [fa 22 2 1,l1 23 22,m 24 6,ia 25 23 24 3,la 26 25 3,st 3 4 26,mb 5 true] [4,5],
 .ret]) (.skip)]),
 .reg [m 12 6,bi 13 .add 12 1,m 6 13] [1,2,4,6]]))],
 .reg [o1 27 (.bld [.str [],.nil 1,.nil 5] []),st 3 4 27,mb 5 false] [4,5],
 .ret]
theorem qu:ar Tryz.prog Tryz.f45 [[1,2,4],[1,2,4,6],[1,2,4,6],[1,2,4,6,11],[1,2,4,6,21],[4,5],[1,2,4,6],[4,5]] 2=some (fu,[.c 4 3 true,.t 5]):=by kernel_rfl

abbrev l6:Nat:=143
theorem mw:Tryz.prog.funcs[143]?=some Tryz.f143:=Tryz.func143
def dO:AC:=
 Q [.reg [mb 2 false] [0],
 Q [.reg [mi 3 0] [0,3],
 .block 0 (.loop [0,3] (Q [Q [.reg [m 4 3,m 5 0,ls 6 5,bt 7 .lss 4 6] [0,3,7],
 C 7 (.skip) (.exit 0)],
 .block 1 (Q [.reg [m 10 0,m 11 3,ix 12 10 11,bu 13 .lss 12 97,m 14 13,gf 14 (m 15 0),gf 14 (m 16 3),gf 14 (ix 17 15 16),gf 14 (bu 18 .gtr 17 122),po 19 14 18] [0,3,19],
 C 19 (Q [.reg [mb 2 false] [2],
 .ret]) (.skip)]),
 .reg [m 8 3,bi 9 .add 8 1,m 3 9] [0,3]]))],
 .reg [m 20 0,ls 21 20,bi 22 .geq 21 1,m 23 22,gt 23 (m 24 0),gt 23 (ls 25 24),gt 23 (bi 26 .leq 25 16),pa 27 23 26,m 2 27] [2],
 .ret]
theorem ml:ar Tryz.prog Tryz.f143 [[0],[0,3],[0,3],[0,3,7],[0,3,19],[2],[0,3],[2]] 1=some (dO,[.t 2]):=by kernel_rfl

abbrev nn:Nat:=144
theorem nZ:Tryz.prog.funcs[144]?=some Tryz.f144:=Tryz.func144
def er:AC:=
 Q [.reg [mb 2 false] [0],
 Q [.reg [mi 3 0] [0,3],
 .block 0 (.loop [0,3] (Q [Q [.reg [m 4 3,m 5 0,ls 6 5,bt 7 .lss 4 6] [0,3,7],
 C 7 (.skip) (.exit 0)],
 .block 1 (Q [.reg [m 10 0,m 11 3,ix 12 10 11,bu 13 .lss 12 32,m 14 13,gf 14 (m 15 0),gf 14 (m 16 3),gf 14 (ix 17 15 16),gf 14 (bu 18 .gtr 17 126),po 19 14 18] [0,3,19],
 C 19 (Q [.reg [mb 2 false] [2],
 .ret]) (.skip)]),
 .reg [m 8 3,bi 9 .add 8 1,m 3 9] [0,3]]))],
 .reg [mb 2 true] [2],
 .ret]
theorem nI:ar Tryz.prog Tryz.f144 [[0],[0,3],[0,3],[0,3,7],[0,3,19],[2],[0,3],[2]] 1=some (er,[.t 2]):=by kernel_rfl

abbrev nl:Nat:=112
theorem nY:Tryz.prog.funcs[112]?=some Tryz.f112:=Tryz.func112
def ep:AC:=
 Q [.reg [mb 4 false] [0,1],
 Q [.reg [mi 5 0] [0,1,5],
 .block 0 (.loop [0,1,5] (Q [Q [.reg [m 9 5,m 10 0,lq 11 10,bt 12 .lss 9 11] [0,1,5,12],
 C 12 (.skip) (.exit 0)],
 .block 1 (Q [.reg [m 15 0,m 16 5,ia 17 15 16 1,l1 18 17,ca 19 143 [18],m 6 19] [0,1,5,6],
 .reg [m 20 0,m 21 5,ia 22 20 21 1,l1 23 22,ca 24 144 [23],m 7 24] [0,1,5,6,7],
 Q [.reg [m 25 1,m 26 25,gt 26 (m 27 6),gt 26 (nt' 28 27),pa 29 26 28,m 30 29,gf 30 (m 31 1),gf 30 (nt' 32 31),gf 30 (m 33 32),gt 33 (m 34 7),gt 33 (nt' 35 34),gt 33 (m 36 35),gf 36 (m 37 0),gf 36 (m 38 5),gf 36 (ia 39 37 38 1),gf 36 (l1 40 39),gf 36 (ls 41 40),gf 36 (bi 42 .gtr 41 40),gt 33 (po 43 36 42),gf 30 (pa 44 33 43),po 45 30 44] [0,1,5,45],
 C 45 (Q [.reg [mb 4 false] [4],
 .ret]) (.skip)],
 .reg [mi 8 0] [0,1,5,8],
 .block 2 (.loop [0,1,5,8] (Q [Q [.reg [m 46 8,m 47 5,bt 48 .lss 46 47] [0,1,5,8,48],
 C 48 (.skip) (.exit 2)],
 .block 3 (Q [.regD [m 51 0,m 52 8,ia 53 51 52 1,l1 54 53,m 55 0,m 56 5,ia 57 55 56 1,l1 58 57,bt 59 .eql 54 58] [0,1,5,8,59],
 C 59 (Q [.reg [mb 4 false] [4],
 .ret]) (.skip)]),
 .reg [m 49 8,bi 50 .add 49 1,m 8 50] [0,1,5,8]]))]),
 .reg [m 13 5,bi 14 .add 13 1,m 5 14] [0,1,5]]))],
 .reg [m 60 0,lq 61 60,bi 62 .leq 61 8,m 4 62] [4],
 .ret]
theorem nH:ar Tryz.prog Tryz.f112 [[0,1],[0,1,5],[0,1,5],[0,1,5,12],[0,1,5,6],[0,1,5,6,7],[0,1,5,45],[4],[0,1,5,8],[0,1,5,8],[0,1,5,8,48],[0,0,0,3,7,0,0,48,112,255],[0,1,2,3,4,5,6,7,8],[0,1,5,8,59],[4],[0,1,5,8],[0,1,5],[4]] 2=some (ep,[.t 4]):=by kernel_rfl

abbrev p4:Nat:=71
theorem qL:Tryz.prog.funcs[71]?=some Tryz.f71:=Tryz.func71
def fv:AC:=
 Q [.reg [bx 1 0,o1 2 (.alc [.int .i64 0,.nil 1,.str []])] [1,2],
 .reg [fa 12 1 0,l1 13 12,m 3 13] [1,2,3],
 Q [.reg [m 14 3,bi 15 .lss 14 0] [1,2,3,15],
 C 15 (.reg [m 16 3,bi 17 .add 16 1,o1 18 (.un .neg (.t 17)),m 3 18] [1,2,3]) (.skip)],
 .reg [m 19 3,bi 20 .rem 19 4,o1 21 (.bin .add (.v (.int .i64 1)) (.t 20)),o1 22 (.bld [.int .i64 0,.nil 1,.str []] [(0,1,(.t 21))]),o1 4 (.alc [.int .i64 0,.nil 1,.str []]),st 3 4 22] [1,2,4],
 Q [.reg [fa 23 4 0,l1 24 23,bi 25 .eql 24 4] [1,2,4,25],
 C 25 (Q [.reg [o1 26 (.lit 9 1 [.v (.str [97,42]),.v (.str [40,97,124,98,41,43]),.v (.str [91,48,45,57,93,43]),.v (.str [120,46,121]),.v (.str [91,94,97,93,42]),.v (.str []),.v (.str [97,124,98,98,124,99])]),m 5 26] [1,2,4,5],
 .reg [mi 6 0] [1,2,4,5,6],
 Q [.reg [mi 7 0] [1,2,4,5,6,7],
 .block 0 (.loop [1,2,4,5,6,7] (Q [Q [.reg [m 27 7,fa 28 1 2,l1 29 28,ls 30 29,bt 31 .lss 27 30] [1,2,4,5,6,7,31],
 C 31 (.skip) (.exit 0)],
 .block 1 (.reg [m 34 6,fa 35 1 2,l1 36 35,m 37 7,ix 38 36 37,o1 39 (.cii .i64 (.t 38)),bt 40 .add 34 39,m 6 40] [1,2,4,5,6,7]),
 .reg [m 32 7,bi 33 .add 32 1,m 7 33] [1,2,4,5,6,7]]))],
 .reg [m 41 5,m 42 6,m 43 5,lq 44 43,bt 45 .rem 42 44,ia 46 41 45 1,l1 47 46,fa 48 4 2,st 1 48 47] [2,4],
 .reg [la 49 4 3,st 3 2 49] [2],
 .ret]) (.skip)],
 Q [.reg [mi 8 0] [1,2,4,8],
 .block 2 (.loop [1,2,4,8] (Q [Q [.reg [m 50 8,fa 51 1 1,l1 52 51,lq 53 52,bt 54 .lss 50 53,m 55 54,gt 55 (m 56 8),gt 55 (bi 57 .lss 56 4),pa 58 55 57,m 59 58,gt 59 (fa 60 4 0),gt 59 (l1 61 60),gt 59 (bi 62 .neq 61 1),pa 63 59 62] [1,2,4,8,63],
 C 63 (.skip) (.exit 2)],
 .block 3 (Q [.reg [fa 66 1 1,l1 67 66,m 68 8,ia 69 67 68 1,l1 70 69,m 9 70] [1,2,4,8,9],
 .reg [fa 71 4 1,l1 72 71,o1 73 (.app (.v (.nil 1)) (.t 72) 9 1 16),m 74 9,o1 75 (.lit 9 1 [.t 74]),o1 76 (.app (.t 73) (.t 75) 9 1 16),m 10 76] [1,2,4,8,10],
 .reg [m 77 10,fa 78 4 0,l1 79 78,bi 80 .eql 79 3,ca 81 112 [77,80],m 11 81] [1,2,4,8,10,11],
 .reg [m 82 11] [1,2,4,8,10,82],
 C 82 (.reg [m 83 10,fa 84 4 1,st 1 84 83] [1,2,4,8]) (.skip)]),
 .reg [m 64 8,bi 65 .add 64 1,m 8 65] [1,2,4,8]]))],
 Q [.reg [fa 85 4 0,l1 86 85,bi 87 .eql 86 2,m 88 87,gt 88 (fa 89 4 1),gt 88 (l1 90 89),gt 88 (lq 91 90),gt 88 (bi 92 .eql 91 0),pa 93 88 92] [2,4,93],
 C 93 (.reg [o1 94 (.lit 9 1 [.v (.str [120])]),fa 95 4 1,st 1 95 94] [2,4]) (.skip)],
 .reg [la 96 4 3,st 3 2 96] [2],
 .ret]
theorem qv:ar Tryz.prog Tryz.f71 [[1,2],[1,2,3],[1,2,3,15],[1,2,3],[1,2,4],[1,2,4,25],[1,2,4,5],[1,2,4,5,6],[1,2,4,5,6,7],[1,2,4,5,6,7],[1,2,4,5,6,7,31],[1,2,4,5,6,7],[1,2,4,5,6,7],[2,4],[2],[1,2,4,8],[1,2,4,8],[1,2,4,8,63],[1,2,4,8,9],[1,2,4,8,10],[1,2,4,8,10,11],[1,2,4,8,10,82],[1,2,4,8],[1,2,4,8],[2,4,93],[2,4],[2]] 1=some (fv,[.c 2 3 true]):=by kernel_rfl

abbrev pY:Nat:=72
theorem qG:Tryz.prog.funcs[72]?=some Tryz.f72:=Tryz.func72
def dv:AC:=
 Q [.reg [mv 2 (.str []),mb 3 false] [0],
 Q [.reg [m 4 0,ls 5 4,bi 6 .gtr 5 0,m 7 6,gt 7 (m 8 0),gt 7 (m 9 0),gt 7 (ls 10 9),gt 7 (bi 11 .sub 10 1),gt 7 (ix 12 8 11),gt 7 (bu 13 .eql 12 42),pa 14 7 13] [0,14],
 C 14 (Q [.reg [m 15 0,m 16 0,ls 17 16,bi 18 .sub 17 1,o1 19 (.sls (.t 15) none (some (.t 18))),m 2 19,mb 3 true] [2,3],
 .ret]) (.skip)],
 .reg [m 20 0,m 2 20,mb 3 false] [2,3],
 .ret]
theorem qp:ar Tryz.prog Tryz.f72 [[0],[0,14],[2,3],[2,3]] 1=some (dv,[.t 2,.t 3]):=by kernel_rfl

abbrev r8:Nat:=39
theorem sE:Tryz.prog.funcs[39]?=some Tryz.f39:=Tryz.func39
def gz:AC:=
 Q [.reg [mb 4 false] [0,1],
 Q [.reg [mi 5 0] [0,1,5],
 .block 0 (.loop [0,1,5] (Q [Q [.reg [m 6 5,m 7 0,lq 8 7,bt 9 .lss 6 8] [0,1,5,9],
 C 9 (.skip) (.exit 0)],
 .block 1 (Q [.reg [m 12 0,m 13 5,ia 14 12 13 1,l1 15 14,m 16 1,bt 17 .eql 15 16] [0,1,5,17],
 C 17 (Q [.reg [mb 4 true] [4],
 .ret]) (.skip)]),
 .reg [m 10 5,bi 11 .add 10 1,m 5 11] [0,1,5]]))],
 .reg [mb 4 false] [4],
 .ret]
theorem so:ar Tryz.prog Tryz.f39 [[0,1],[0,1,5],[0,1,5],[0,1,5,9],[0,1,5,17],[4],[0,1,5],[4]] 2=some (gz,[.t 4]):=by kernel_rfl

abbrev nj:Nat:=46
theorem nW:Tryz.prog.funcs[46]?=some Tryz.f46:=Tryz.func46
def en:AC:=
 Q [.reg [mv 2 (.nil 5)] [0],
 .reg [mv 3 (.nil 5)] [0,3],
 .reg [mv 4 (.nil 1)] [0,3,4],
 Q [.reg [mi 5 0] [0,3,4,5],
 .block 0 (.loop [0,3,4,5] (Q [Q [.reg [m 12 5,m 13 0,lq 14 13,bt 15 .lss 12 14,m 16 15,gt 16 (m 17 5),gt 16 (bi 18 .lss 17 3),pa 19 16 18] [0,3,4,5,19],
 C 19 (.skip) (.exit 0)],
 .block 1 (Q [.regD [m 22 0,m 23 5,ia 24 22 23 5,fa 25 24 0,l1 26 25,m 27 0,m 28 5,ia 29 27 28 5,fa 30 29 1,la 31 30 3,ca 32 71 [31],m 33 0,m 34 5,ia 35 33 34 5,fa 36 35 4,l1 37 36,o1 38 (.bld [.str [],.int .i64 0,.nil 1,.str [],.bool false] [(0,1,(.t 26)),(1,3,(.t 32)),(4,1,(.t 37))]),o1 6 (.alc [.str [],.int .i64 0,.nil 1,.str [],.bool false]),st 5 6 38] [0,3,4,5,6],
 .reg [fa 40 6 0,l1 41 40,ca 42 72 [41],m 39 42,ex 43 39 0,ex 44 39 1,m 7 43,m 8 44] [0,3,4,5,6,7,8],
 .reg [m 45 7,ca 46 44 [45],m 9 46] [0,3,4,5,6,8,9],
 Q [.reg [m 47 9,nt' 48 47] [0,3,4,5,6,8,48],
 C 48 (Q [.reg [o1 49 (.lit 9 1 [.v (.str [105,100]),.v (.str [104,114,101,102]),.v (.str [100,97,116,97,45,42])]),m 10 49] [0,3,4,5,6,10],
 .reg [m 50 10,m 51 5,ia 52 50 51 1,l1 53 52,fa 54 6 0,st 1 54 53] [0,3,4,5,6],
 .reg [m 55 5,bi 56 .eql 55 2,m 8 56] [0,3,4,5,6,8]]) (.skip)],
 Q [.reg [m 57 8] [0,3,4,5,6,57],
 C 57 (.reg [fa 58 6 4,o0 (.st 1 (.t 58) (.v (.bool false)))] [0,3,4,5,6]) (.skip)],
 .reg [m 59 4,fa 60 6 0,l1 61 60,ca 62 39 [59,61],m 11 62] [0,3,4,5,6,11],
 .reg [m 63 11,nt' 64 63] [0,3,4,5,6,64],
 C 64 (Q [.reg [m 65 4,fa 66 6 0,l1 67 66,o1 68 (.lit 9 1 [.t 67]),o1 69 (.app (.t 65) (.t 68) 9 1 16),m 4 69] [0,3,4,5,6],
 .reg [m 70 3,la 71 6 5,o1 72 (.lit 42 5 [.t 71]),o1 73 (.app (.t 70) (.t 72) 42 5 72),m 3 73] [0,3,4,5]]) (.skip)]),
 .reg [m 20 5,bi 21 .add 20 1,m 5 21] [0,3,4,5]]))],
 .reg [m 74 3,m 2 74] [2],
 .ret]
theorem nF:ar Tryz.prog Tryz.f46 [[0],[0,3],[0,3,4],[0,3,4,5],[0,3,4,5],[0,3,4,5,19],[0,0,0,3,7,15,0,0,96,224,480,992,0,0,6144,14336,30720,65535,0,262143],[0,1,2,3,4,5,6,7,8,9,10,11,12,13,14,15,16,17,18],[0,3,4,5,6],[0,3,4,5,6,7,8],[0,3,4,5,6,8,9],[0,3,4,5,6,8,48],[0,3,4,5,6,10],[0,3,4,5,6],[0,3,4,5,6,8],[0,3,4,5,6,57],[0,3,4,5,6],[0,3,4,5,6,11],[0,3,4,5,6,64],[0,3,4,5,6],[0,3,4,5],[0,3,4,5],[2]] 1=some (en,[.t 2]):=by kernel_rfl

abbrev p6:Nat:=101
theorem qO:Tryz.prog.funcs[101]?=some Tryz.f101:=Tryz.func101
def fw:AC:=
 Q [.reg [mb 2 false] [0],
 .reg [m 3 0,bs 4 .eql 3 [98,114],m 5 4,gf 5 (m 6 0),gf 5 (bs 7 .eql 6 [104,114]),po 8 5 7,m 9 8,gf 9 (m 10 0),gf 9 (bs 11 .eql 10 [105,109,103]),po 12 9 11,m 13 12,gf 13 (m 14 0),gf 13 (bs 15 .eql 14 [105,110,112,117,116]),po 16 13 15,m 17 16,gf 17 (m 18 0),gf 17 (bs 19 .eql 18 [119,98,114]),po 20 17 19,m 2 20] [2],
 .ret]
theorem qy:ar Tryz.prog Tryz.f101 [[0],[2]] 1=some (fw,[.t 2]):=by kernel_rfl

abbrev sa:Nat:=103
theorem sG:Tryz.prog.funcs[103]?=some Tryz.f103:=Tryz.func103
def gA:AC:=
 Q [.reg [mb 2 false] [0],
 .reg [m 3 0,bs 4 .eql 3 [115,99,114,105,112,116],m 5 4,gf 5 (m 6 0),gf 5 (bs 7 .eql 6 [115,116,121,108,101]),po 8 5 7,m 2 8] [2],
 .ret]
theorem sr:ar Tryz.prog Tryz.f103 [[0],[2]] 1=some (gA,[.t 2]):=by kernel_rfl

abbrev l7:Nat:=113
theorem my:Tryz.prog.funcs[113]?=some Tryz.f113:=Tryz.func113
def dP:AC:=
 Q [.reg [mb 4 false] [0,1],
 .reg [mv 5 (.nil 1)] [0,1,5],
 Q [.reg [m 7 0] [1,5,7],
 .block 0 (Q [.reg [bs 9 .eql 7 [112],m 8 9] [1,5,7,8],
 C 8 (.reg [o1 10 (.lit 9 1 [.v (.str [98,108,111,99,107,113,117,111,116,101]),.v (.str [100,105,118]),.v (.str [104,49]),.v (.str [104,50]),.v (.str [104,114]),.v (.str [108,105]),.v (.str [111,108]),.v (.str [112]),.v (.str [112,114,101]),.v (.str [116,97,98,108,101]),.v (.str [117,108])]),m 5 10] [1,5]) (Q [.reg [bs 12 .eql 7 [108,105],m 11 12] [1,5,7,11],
 C 11 (.reg [o1 13 (.lit 9 1 [.v (.str [108,105])]),m 5 13] [1,5]) (Q [Q [.reg [bs 15 .eql 7 [100,116],m 14 15] [1,5,7,14],
 C 14 (.skip) (.reg [bs 16 .eql 7 [100,100],m 14 16] [1,5,7,14])],
 C 14 (.reg [o1 17 (.lit 9 1 [.v (.str [100,100]),.v (.str [100,116])]),m 5 17] [1,5]) (Q [.reg [bs 19 .eql 7 [111,112,116,105,111,110],m 18 19] [1,5,7,18],
 C 18 (.reg [o1 20 (.lit 9 1 [.v (.str [111,112,116,105,111,110])]),m 5 20] [1,5]) (Q [.reg [bs 22 .eql 7 [116,100],m 21 22] [1,5,7,21],
 C 21 (.reg [o1 23 (.lit 9 1 [.v (.str [116,100]),.v (.str [116,114])]),m 5 23] [1,5]) (Q [.reg [bs 25 .eql 7 [116,114],m 24 25] [1,5,24],
 C 24 (.reg [o1 26 (.lit 9 1 [.v (.str [116,114])]),m 5 26] [1,5]) (.skip)])])])])])])],
 Q [.reg [mi 6 0] [1,5,6],
 .block 1 (.loop [1,5,6] (Q [Q [.reg [m 27 6,m 28 5,lq 29 28,bt 30 .lss 27 29] [1,5,6,30],
 C 30 (.skip) (.exit 1)],
 .block 2 (Q [.reg [m 33 5,m 34 6,ia 35 33 34 1,l1 36 35,m 37 1,bt 38 .eql 36 37] [1,5,6,38],
 C 38 (Q [.reg [mb 4 true] [4],
 .ret]) (.skip)]),
 .reg [m 31 6,bi 32 .add 31 1,m 6 32] [1,5,6]]))],
 .reg [mb 4 false] [4],
 .ret]
theorem mn:ar Tryz.prog Tryz.f113 [[0,1],[0,1,5],[1,5,7],[1,5,7,8],[1,5],[1,5,7,11],[1,5],[1,5,7,14],[1,5,7,14],[1,5],[1,5,7,18],[1,5],[1,5,7,21],[1,5],[1,5,24],[1,5],[1,5,6],[1,5,6],[1,5,6,30],[1,5,6,38],[4],[1,5,6],[4]] 2=some (dP,[.t 4]):=by kernel_rfl

abbrev pZ:Nat:=114
theorem qH:Tryz.prog.funcs[114]?=some Tryz.f114:=Tryz.func114
def fp:AC:=
 Q [.reg [mb 2 false] [0],
 Q [.reg [mi 3 0] [0,3],
 .block 0 (.loop [0,3] (Q [Q [.reg [m 5 3,m 6 0,lq 7 6,bt 8 .lss 5 7] [0,3,8],
 C 8 (.skip) (.exit 0)],
 .block 1 (Q [.regD [m 11 0,m 12 3,o1 13 (.slq (.t 11) none (some (.t 12)) 1),m 14 0,m 15 3,ia 16 14 15 1,l1 17 16,ca 18 39 [13,17],m 4 18] [0,3,4],
 .reg [m 19 4] [0,3,19],
 C 19 (Q [.reg [mb 2 false] [2],
 .ret]) (.skip)]),
 .reg [m 9 3,bi 10 .add 9 1,m 3 10] [0,3]]))],
 .reg [mb 2 true] [2],
 .ret]
theorem qq:ar Tryz.prog Tryz.f114 [[0],[0,3],[0,3],[0,3,8],[0,0,0,3,0,0,24,56,127,255],[0,1,2,3,4,5,6,7,8],[0,3,4],[0,3,19],[2],[0,3],[2]] 1=some (fp,[.t 2]):=by kernel_rfl

abbrev p1:Nat:=73
theorem qI:Tryz.prog.funcs[73]?=some Tryz.f73:=Tryz.func73
def fq:AC:=
 Q [.reg [bx 3 0,mb 6 false] [1,2,3],
 .reg [m 13 1,ca 14 101 [13],m 7 14] [1,2,3,7],
 .reg [m 15 1,ca 16 103 [15],m 8 16] [1,2,3,7,8],
 Q [.reg [mi 9 0] [1,2,3,7,8,9],
 .block 0 (.loop [1,2,3,7,8,9] (Q [Q [.reg [m 17 9,m 18 2,lq 19 18,bt 20 .lss 17 19] [1,2,3,7,8,9,20],
 C 20 (.skip) (.exit 0)],
 .block 1 (Q [Q [.reg [m 23 7,m 24 23,gf 24 (m 25 8),gf 24 (m 26 25),gt 26 (m 27 2),gt 26 (m 28 9),gt 26 (ia 29 27 28 1),gt 26 (l1 30 29),gt 26 (bs 31 .neq 30 [35,116,101,120,116]),gf 24 (pa 32 26 31),po 33 24 32] [1,2,3,7,8,9,33],
 C 33 (Q [.reg [mb 6 false] [6],
 .ret]) (.skip)],
 Q [.reg [m 34 2,m 35 9,ia 36 34 35 1,l1 37 36,bs 38 .eql 37 [35,116,101,120,116],m 39 38,gf 39 (m 40 2),gf 39 (m 41 9),gf 39 (ia 42 40 41 1),gf 39 (l1 43 42),gf 39 (bs 44 .eql 43 [35,99,111,109,109,101,110,116]),po 45 39 44] [1,2,3,7,8,9,45],
 C 45 (.exit 1) (.skip)],
 .regD [la 47 3 3,m 48 2,m 49 9,ia 50 48 49 1,l1 51 50,ca 52 45 [47,51],m 46 52,ex 53 46 0,ex 54 46 1,o1 10 (.alc [.str [],.nil 1,.nil 5]),st 3 10 53,m 11 54] [1,2,3,7,8,9,11],
 .reg [m 55 1,m 56 2,m 57 9,ia 58 56 57 1,l1 59 58,ca 60 113 [55,59],m 12 60] [1,2,3,7,8,9,11,12],
 .reg [m 61 11,nt' 62 61,m 63 62,gf 63 (m 64 12),po 65 63 64] [1,2,3,7,8,9,65],
 C 65 (Q [.reg [mb 6 false] [6],
 .ret]) (.skip)]),
 .reg [m 21 9,bi 22 .add 21 1,m 9 22] [1,2,3,7,8,9]]))],
 .reg [m 66 2,ca 67 114 [66],m 6 67] [6],
 .ret]
theorem qr:ar Tryz.prog Tryz.f73 [[1,2,3],[1,2,3,7],[1,2,3,7,8],[1,2,3,7,8,9],[1,2,3,7,8,9],[1,2,3,7,8,9,20],[1,2,3,7,8,9,33],[6],[1,2,3,7,8,9,45],[0,0,0,0,6,14,31,63,127,127,0,767,2047],[0,1,2,3,4,5,6,7,8,9,10,11],[1,2,3,7,8,9,11],[1,2,3,7,8,9,11,12],[1,2,3,7,8,9,65],[6],[1,2,3,7,8,9],[6]] 3=some (fq,[.t 6]):=by kernel_rfl

abbrev kL:Nat:=47
theorem kX:Tryz.prog.funcs[47]?=some Tryz.f47:=Tryz.func47
def fL:AC:=
 Q [.reg [bx 3 0,mv 6 (.nil 1)] [1,2,3],
 .reg [mv 7 (.nil 1)] [1,2,3,7],
 Q [.reg [mi 8 0] [1,2,3,7,8],
 .block 0 (.loop [1,2,3,7,8] (Q [Q [.reg [m 11 8,m 12 2,lq 13 12,bt 14 .lss 11 13,m 15 14,gt 15 (m 16 8),gt 15 (bi 17 .lss 16 8),pa 18 15 17] [1,2,3,7,8,18],
 C 18 (.skip) (.exit 0)],
 .block 1 (Q [.regD [m 21 7,m 23 2,m 24 8,ia 25 23 24 1,l1 26 25,o1 27 (.lit 9 1 [.t 26]),o1 22 (.app (.v (.nil 1)) (.t 21) 9 1 16),o1 28 (.app (.t 22) (.t 27) 9 1 16),m 9 28] [1,2,3,7,8,9],
 .reg [la 29 3 3,m 30 1,m 31 9,ca 32 73 [29,30,31],m 10 32] [1,2,3,7,8,9,10],
 .reg [m 33 10] [1,2,3,7,8,9,33],
 C 33 (.reg [m 34 9,m 7 34] [1,2,3,7,8]) (.skip)]),
 .reg [m 19 8,bi 20 .add 19 1,m 8 20] [1,2,3,7,8]]))],
 .reg [m 35 7,m 6 35] [6],
 .ret]
theorem kR:ar Tryz.prog Tryz.f47 [[1,2,3],[1,2,3,7],[1,2,3,7,8],[1,2,3,7,8],[1,2,3,7,8,18],[0,0,1,0,0,12,28,60,127,255],[0,2,3,4,5,6,1,7,8],[1,2,3,7,8,9],[1,2,3,7,8,9,10],[1,2,3,7,8,9,33],[1,2,3,7,8],[1,2,3,7,8],[6]] 3=some (fL,[.t 6]):=by kernel_rfl

abbrev p2:Nat:=14
theorem qJ:Tryz.prog.funcs[14]?=some Tryz.f14:=Tryz.func14
def jw:AC:=
 Q [.reg [bx 1 0,o1 2 (.alc [.nil 1,.nil 3,.nil 1])] [1,2],
 .reg [o1 3 (.alc [.nil 1,.nil 3,.nil 1])] [1,2,3],
 Q [.reg [mi 4 0] [1,2,3,4],
 .block 0 (.loop [1,2,3,4] (Q [Q [.reg [m 15 4,fa 16 1 1,l1 17 16,lq 18 17,bt 19 .lss 15 18,m 20 19,gt 20 (m 21 4),gt 20 (bi 22 .lss 21 5),pa 23 20 22] [1,2,3,4,23],
 C 23 (.skip) (.exit 0)],
 .block 1 (Q [.reg [fa 26 1 1,l1 27 26,m 28 4,ia 29 27 28 3,fa 30 29 0,l1 31 30,m 5 31] [1,2,3,4,5],
 .reg [m 32 5,ca 33 44 [32],m 6 33] [1,2,3,4,5,6],
 Q [.reg [m 34 6,nt' 35 34] [1,2,3,4,5,35],
 C 35 (Q [.reg [o1 36 (.lit 9 1 [.v (.str [97]),.v (.str [98]),.v (.str [112]),.v (.str [98,114]),.v (.str [115,116,121,108,101])]),m 7 36] [1,2,3,4,7],
 .reg [m 37 7,m 38 4,ia 39 37 38 1,l1 40 39,m 5 40] [1,2,3,4,5]]) (.skip)],
 .reg [la 42 3 3,m 43 5,ca 44 45 [42,43],m 41 44,ex 45 41 0,ex 46 41 1,o1 8 (.alc [.str [],.nil 1,.nil 5]),st 3 8 45,m 9 46] [1,2,3,4,5,9],
 .reg [m 47 9,nt' 48 47] [1,2,3,4,5,48],
 C 48 (.regD [fa 49 3 1,l1 50 49,m 51 5,fa 52 1 1,l1 53 52,m 54 4,ia 55 53 54 3,fa 56 55 2,l1 57 56,ca 58 46 [57],o1 59 (.bld [.str [],.nil 1,.nil 5] [(0,1,(.t 51)),(2,1,(.t 58))]),o1 60 (.lit 38 3 [.t 59]),o1 61 (.app (.t 50) (.t 60) 38 3 64),fa 62 3 1,st 1 62 61] [1,2,3,4]) (.skip)]),
 .reg [m 24 4,bi 25 .add 24 1,m 4 25] [1,2,3,4]]))],
 Q [.reg [mi 10 0] [1,2,3,10],
 .block 2 (.loop [1,2,3,10] (Q [Q [.reg [m 63 10,fa 64 3 1,l1 65 64,lq 66 65,bt 67 .lss 63 66] [1,2,3,10,67],
 C 67 (.skip) (.exit 2)],
 .block 3 (Q [.reg [fa 70 1 1,l1 71 70,m 72 10,ia 73 71 72 3,fa 74 73 1,l1 75 74,m 11 75] [1,2,3,10,11],
 .regD [fa 76 3 1,l1 77 76,m 78 10,la 79 3 3,fa 80 3 1,l1 81 80,m 82 10,ia 83 81 82 3,fa 84 83 0,l1 85 84,m 86 11,ca 87 47 [79,85,86],ia 88 77 78 3,fa 89 88 1,st 1 89 87] [1,2,3,10]]),
 .reg [m 68 10,bi 69 .add 68 1,m 10 69] [1,2,3,10]]))],
 .reg [la 90 3 3,fa 91 1 0,l1 92 91,o1 93 (.call 47 [.t 90,.v (.str []),.t 92]),fa 94 3 0,st 1 94 93] [1,2,3],
 Q [.reg [mi 12 0] [1,2,3,12],
 .block 4 (.loop [1,2,3,12] (Q [Q [.reg [m 95 12,fa 96 1 2,l1 97 96,lq 98 97,bt 99 .lss 95 98,m 100 99,gt 100 (m 101 12),gt 100 (bi 102 .lss 101 4),pa 103 100 102] [1,2,3,12,103],
 C 103 (.skip) (.exit 4)],
 .block 5 (Q [.reg [fa 106 1 2,l1 107 106,m 108 12,ia 109 107 108 1,l1 110 109,ca 111 44 [110],m 13 111] [1,2,3,12,13],
 .regD [fa 112 3 2,l1 113 112,fa 114 1 2,l1 115 114,m 116 12,ia 117 115 116 1,l1 118 117,ca 119 39 [113,118],m 14 119] [1,2,3,12,13,14],
 .reg [m 120 13,m 121 120,gt 121 (m 122 14),gt 121 (nt' 123 122),pa 124 121 123] [1,2,3,12,124],
 C 124 (.regD [fa 125 3 2,l1 126 125,fa 127 1 2,l1 128 127,m 129 12,ia 130 128 129 1,l1 131 130,o1 132 (.lit 9 1 [.t 131]),o1 133 (.app (.t 126) (.t 132) 9 1 16),fa 134 3 2,st 1 134 133] [1,2,3,12]) (.skip)]),
 .reg [m 104 12,bi 105 .add 104 1,m 12 105] [1,2,3,12]]))],
 .reg [la 135 3 3,st 3 2 135] [2],
 .ret]
theorem qt:ar Tryz.prog Tryz.f14 [[1,2],[1,2,3],[1,2,3,4],[1,2,3,4],[1,2,3,4,23],[1,2,3,4,5],[1,2,3,4,5,6],[1,2,3,4,5,35],[1,2,3,4,7],[1,2,3,4,5],[1,2,3,4,5,9],[1,2,3,4,5,48],[0,0,1,0,0,8,0,56,120,248,504,1020,2044,4095,8191,16383],[0,1,2,3,4,5,6,7,8,9,10,11,12,13,14],[1,2,3,4],[1,2,3,4],[1,2,3,10],[1,2,3,10],[1,2,3,10,67],[1,2,3,10,11],[0,0,1,0,0,0,16,0,112,240,496,0,2040,4095,8191,16383],[0,1,2,3,4,5,6,7,8,9,10,11,12,13,14],[1,2,3,10],[1,2,3,10],[1,2,3],[1,2,3,12],[1,2,3,12],[1,2,3,12,103],[1,2,3,12,13],[0,0,1,0,4,0,28,60,127,255],[0,1,2,3,4,5,6,7,8],[1,2,3,12,13,14],[1,2,3,12,124],[0,0,1,0,4,0,28,60,124,255,511,1023],[0,1,2,3,4,5,6,7,8,9,10],[1,2,3,12],[1,2,3,12],[2]] 1=some (jw,[.c 2 3 true]):=by kernel_rfl

abbrev r9:Nat:=74
theorem sF:Tryz.prog.funcs[74]?=some Tryz.f74:=Tryz.func74
def ku:AC:=
 Q [.reg [mv 2 (.str [])] [0],
 Q [.reg [m 3 0,ls 4 3,bi 5 .gtr 4 30] [0,5],
 C 5 (Q [.reg [m 6 0,o1 7 (.sls (.t 6) none (some (.v (.int .i64 30)))),m 2 7] [2],
 .ret]) (.skip)],
 .reg [m 8 0,m 2 8] [2],
 .ret]
theorem sq:ar Tryz.prog Tryz.f74 [[0],[0,5],[2],[2]] 1=some (ku,[.t 2]):=by kernel_rfl

abbrev dW:Nat:=48
theorem sI:Tryz.prog.funcs[48]?=some Tryz.f48:=Tryz.func48
def kx:AC:=
 Q [.reg [mv 4 (.nil 5),mi 5 0] [0,1],
 .reg [mv 6 (.nil 5)] [0,1,6],
 Q [.reg [mi 7 0] [0,1,6,7],
 .block 0 (.loop [0,1,6,7] (Q [Q [.reg [m 11 7,m 12 0,lq 13 12,bt 14 .lss 11 13,m 15 14,gt 15 (m 16 1),gt 15 (bi 17 .gtr 16 0),pa 18 15 17] [0,1,6,7,18],
 C 18 (.skip) (.exit 0)],
 .block 1 (Q [.reg [m 21 0,m 22 7,ia 23 21 22 5,la 24 23 5,o1 8 (.alc [.int .i64 0,.str [],.nil 2,.str [],.nil 5]),st 5 8 24] [0,1,6,7,8],
 .reg [m 25 1,bi 26 .sub 25 1,m 1 26] [0,1,6,7,8],
 .reg [fa 27 8 1,l1 28 27,ca 29 74 [28],fa 30 8 1,st 1 30 29] [0,1,6,7,8],
 .reg [fa 31 8 3,l1 32 31,ca 33 74 [32],fa 34 8 3,st 1 34 33] [0,1,6,7,8],
 .reg [fa 36 8 4,l1 37 36,m 38 1,ca 39 48 [37,38],m 35 39,ex 40 35 0,ex 41 35 1,fa 42 8 4,st 1 42 40,m 1 41] [0,1,6,7,8],
 .reg [mv 9 (.nil 2)] [0,1,6,7,8,9],
 Q [.reg [mi 10 0] [0,1,6,7,8,9,10],
 .block 2 (.loop [0,1,6,7,8,9,10] (Q [Q [.reg [m 43 10,fa 44 8 2,l1 45 44,lq 46 45,bt 47 .lss 43 46,m 48 47,gt 48 (m 49 10),gt 48 (bi 50 .lss 49 5),pa 51 48 50] [0,1,6,7,8,9,10,51],
 C 51 (.skip) (.exit 2)],
 .block 3 (.regD [m 54 9,fa 55 8 2,l1 56 55,m 57 10,ia 58 56 57 2,fa 59 58 0,l1 60 59,ca 61 74 [60],fa 62 8 2,l1 63 62,m 64 10,ia 65 63 64 2,fa 66 65 1,l1 67 66,ca 68 74 [67],o1 69 (.bld [.str [],.str []] [(0,1,(.t 61)),(1,1,(.t 68))]),o1 70 (.lit 76 2 [.t 69]),o1 71 (.app (.t 54) (.t 70) 76 2 32),m 9 71] [0,1,6,7,8,9,10]),
 .reg [m 52 10,bi 53 .add 52 1,m 10 53] [0,1,6,7,8,9,10]]))],
 .reg [m 72 9,fa 73 8 2,st 1 73 72] [0,1,6,7,8],
 .reg [m 74 6,la 75 8 5,o1 76 (.lit 34 5 [.t 75]),o1 77 (.app (.t 74) (.t 76) 34 5 88),m 6 77] [0,1,6,7]]),
 .reg [m 19 7,bi 20 .add 19 1,m 7 20] [0,1,6,7]]))],
 .reg [m 78 6,m 79 1,m 4 78,m 5 79] [4,5],
 .ret]
theorem sv:ar Tryz.prog Tryz.f48 [[0,1],[0,1,6],[0,1,6,7],[0,1,6,7],[0,1,6,7,18],[0,1,6,7,8],[0,1,6,7,8],[0,1,6,7,8],[0,1,6,7,8],[0,1,6,7,8],[0,1,6,7,8,9],[0,1,6,7,8,9,10],[0,1,6,7,8,9,10],[0,1,6,7,8,9,10,51],[0,0,0,2,0,14,30,62,126,0,256,0,1792,3840,7936,16382,32766,65534,131071,262143],[0,1,2,3,4,5,6,7,8,9,10,11,12,13,14,15,16,17,18],[0,1,6,7,8,9,10],[0,1,6,7,8,9,10],[0,1,6,7,8],[0,1,6,7],[0,1,6,7],[4,5]] 2=some (kx,[.t 4,.t 5]):=by kernel_rfl

abbrev sb:Nat:=15
theorem sH:Tryz.prog.funcs[15]?=some Tryz.f15:=Tryz.func15
def kw:AC:=
 Q [.reg [mv 2 (.nil 5)] [0],
 .reg [m 6 0,o1 7 (.call 48 [.t 6,.v (.int .i64 40)]),m 5 7,ex 8 5 0,ex 9 5 1,m 3 8,m 4 9] [3],
 .reg [m 10 3,m 2 10] [2],
 .ret]
theorem su:ar Tryz.prog Tryz.f15 [[0],[3],[2]] 1=some (kw,[.t 2]):=by kernel_rfl

abbrev kM:Nat:=174
theorem kY:Tryz.prog.funcs[174]?=some Tryz.f174:=Tryz.func174
def fM:AC:=
 Q [.reg [mb 2 false] [0],
 .reg [m 3 0,bu 4 .geq 3 128,m 5 4,gt 5 (m 6 0),gt 5 (bu 7 .lss 6 192),pa 8 5 7,m 2 8] [2],
 .ret]
theorem kS:ar Tryz.prog Tryz.f174 [[0],[2]] 1=some (fM,[.t 2]):=by kernel_rfl

abbrev sc:Nat:=141
theorem sJ:Tryz.prog.funcs[141]?=some Tryz.f141:=Tryz.func141
def ky:AC:=
 Q [.reg [mv 2 (.int .i32 0),mi 3 0] [0],
 .reg [m 10 0,o1 11 (.ia (.t 10) (.v (.int .i64 0)) 1),l1 12 11,o1 13 (.cii .i64 (.t 12)),m 4 13] [0,4],
 Q [.reg [m 14 4,bi 15 .lss 14 128] [0,4,15],
 C 15 (Q [.reg [m 16 4,o1 17 (.cii .i32 (.t 16)),m 2 17,mi 3 1] [2,3],
 .ret]) (.skip)],
 .reg [mi 5 0] [0,4],
 .reg [mi 6 0] [0,4],
 .reg [mi 7 0] [0,4],
 Q [.reg [m 18 4,bi 19 .geq 18 192,m 20 19,gt 20 (m 21 4),gt 20 (bi 22 .lss 21 224),pa 23 20 22] [0,4,23],
 C 23 (Q [.reg [mi 5 2] [0,4,5],
 .reg [m 24 4,bi 25 .sub 24 192,m 6 25] [0,5,6],
 .reg [mi 7 128] [0,5,6,7]]) (Q [.reg [m 26 4,bi 27 .geq 26 224,m 28 27,gt 28 (m 29 4),gt 28 (bi 30 .lss 29 240),pa 31 28 30] [0,4,31],
 C 31 (Q [.reg [mi 5 3] [0,4,5],
 .reg [m 32 4,bi 33 .sub 32 224,m 6 33] [0,5,6],
 .reg [mi 7 2048] [0,5,6,7]]) (Q [.reg [m 34 4,bi 35 .geq 34 240,m 36 35,gt 36 (m 37 4),gt 36 (bi 38 .lss 37 248),pa 39 36 38] [0,4,39],
 C 39 (Q [.reg [mi 5 4] [0,4,5],
 .reg [m 40 4,bi 41 .sub 40 240,m 6 41] [0,5,6],
 .reg [mi 7 65536] [0,5,6,7]]) (Q [.reg [mv 2 (.int .i32 65533),mi 3 1] [2,3],
 .ret])])])],
 Q [.reg [m 42 0,lq 43 42,m 44 5,bt 45 .lss 43 44] [0,5,6,7,45],
 C 45 (Q [.reg [mv 2 (.int .i32 65533),mi 3 1] [2,3],
 .ret]) (.skip)],
 Q [.reg [mi 8 1] [0,5,6,7,8],
 .block 0 (.loop [0,5,6,7,8] (Q [Q [.reg [m 46 8,m 47 5,bt 48 .lss 46 47] [0,5,6,7,8,48],
 C 48 (.skip) (.exit 0)],
 .block 1 (Q [.reg [m 51 0,m 52 8,ia 53 51 52 1,l1 54 53,ca 55 174 [54],m 9 55] [0,5,6,7,8,9],
 Q [.reg [m 56 9,nt' 57 56] [0,5,6,7,8,57],
 C 57 (Q [.reg [mv 2 (.int .i32 65533),mi 3 1] [2,3],
 .ret]) (.skip)],
 .reg [m 58 6,o1 59 (.bin .mul (.v (.int .i64 64)) (.t 58)),m 60 0,m 61 8,ia 62 60 61 1,l1 63 62,o1 64 (.cii .i64 (.t 63)),bt 65 .add 59 64,bi 66 .sub 65 128,m 6 66] [0,5,6,7,8]]),
 .reg [m 49 8,bi 50 .add 49 1,m 8 50] [0,5,6,7,8]]))],
 Q [.reg [m 67 6,m 68 7,bt 69 .lss 67 68,m 70 69,gf 70 (m 71 6),gf 70 (bi 72 .gtr 71 1114111),po 73 70 72,m 74 73,gf 74 (m 75 6),gf 74 (bi 76 .geq 75 55296),gf 74 (m 77 76),gt 77 (m 78 6),gt 77 (bi 79 .leq 78 57343),gf 74 (pa 80 77 79),po 81 74 80] [5,6,81],
 C 81 (Q [.reg [mv 2 (.int .i32 65533),mi 3 1] [2,3],
 .ret]) (.skip)],
 .reg [m 82 6,o1 83 (.cii .i32 (.t 82)),m 84 5,m 2 83,m 3 84] [2,3],
 .ret]
theorem sw:ar Tryz.prog Tryz.f141 [[0],[0,4],[0,4,15],[2,3],[0,4],[0,4],[0,4],[0,4,23],[0,4,5],[0,5,6],[0,5,6,7],[0,4,31],[0,4,5],[0,5,6],[0,5,6,7],[0,4,39],[0,4,5],[0,5,6],[0,5,6,7],[2,3],[0,5,6,7,45],[2,3],[0,5,6,7,8],[0,5,6,7,8],[0,5,6,7,8,48],[0,5,6,7,8,9],[0,5,6,7,8,57],[2,3],[0,5,6,7,8],[0,5,6,7,8],[5,6,81],[2,3],[2,3]] 1=some (ky,[.t 2,.t 3]):=by kernel_rfl

abbrev nv:Nat:=109
theorem oa:Tryz.prog.funcs[109]?=some Tryz.f109:=Tryz.func109
def ik:AC:=
 Q [.reg [mv 2 (.nil 1)] [0],
 .reg [mv 3 (.nil 1)] [0,3],
 Q [.reg [mi 4 0] [0,3,4],
 .block 0 (.loop [0,3,4] (Q [Q [.reg [m 7 4,m 8 0,lq 9 8,bt 10 .lss 7 9] [0,3,4,10],
 C 10 (.skip) (.exit 0)],
 .block 1 (Q [.reg [m 12 0,m 13 4,o1 14 (.slq (.t 12) (some (.t 13)) none 1),ca 15 141 [14],m 11 15,ex 16 11 0,ex 17 11 1,m 5 16,m 6 17] [0,3,4,5,6],
 .reg [m 18 3,m 19 5,o1 20 (.lit 21 1 [.t 19]),o1 21 (.app (.t 18) (.t 20) 21 1 4),m 3 21] [0,3,4,6],
 .reg [m 22 4,m 23 6,bt 24 .add 22 23,m 4 24] [0,3,4]])]))],
 .reg [m 25 3,m 2 25] [2],
 .ret]
theorem nO:ar Tryz.prog Tryz.f109 [[0],[0,3],[0,3,4],[0,3,4],[0,3,4,10],[0,3,4,5,6],[0,3,4,6],[0,3,4],[2]] 1=some (ik,[.t 2]):=by kernel_rfl

abbrev nu:Nat:=142
theorem n9:Tryz.prog.funcs[142]?=some Tryz.f142:=Tryz.func142
def ij:AC:=
 Q [.reg [mv 2 (.nil 1)] [0],
 .reg [m 4 0,o1 5 (.cii .i64 (.t 4)),m 3 5] [3],
 Q [.reg [m 6 3,bi 7 .lss 6 0,m 8 7,gf 8 (m 9 3),gf 8 (bi 10 .gtr 9 1114111),po 11 8 10,m 12 11,gf 12 (m 13 3),gf 12 (bi 14 .geq 13 55296),gf 12 (m 15 14),gt 15 (m 16 3),gt 15 (bi 17 .leq 16 57343),gf 12 (pa 18 15 17),po 19 12 18] [3,19],
 C 19 (.reg [mi 3 65533] [3]) (.skip)],
 Q [.reg [m 20 3,bi 21 .lss 20 128] [3,21],
 C 21 (Q [.reg [m 22 3,o1 23 (.cii .u8 (.t 22)),o1 24 (.lit 5 1 [.t 23]),m 2 24] [2],
 .ret]) (.skip)],
 Q [.reg [m 25 3,bi 26 .lss 25 2048] [3,26],
 C 26 (Q [.reg [m 27 3,bi 28 .quo 27 64,o1 29 (.bin .add (.v (.int .i64 192)) (.t 28)),o1 30 (.cii .u8 (.t 29)),m 31 3,bi 32 .rem 31 64,o1 33 (.bin .add (.v (.int .i64 128)) (.t 32)),o1 34 (.cii .u8 (.t 33)),o1 35 (.lit 5 1 [.t 30,.t 34]),m 2 35] [2],
 .ret]) (.skip)],
 Q [.reg [m 36 3,bi 37 .lss 36 65536] [3,37],
 C 37 (Q [.reg [m 38 3,bi 39 .quo 38 4096,o1 40 (.bin .add (.v (.int .i64 224)) (.t 39)),o1 41 (.cii .u8 (.t 40)),m 42 3,bi 43 .quo 42 64,bi 44 .rem 43 64,o1 45 (.bin .add (.v (.int .i64 128)) (.t 44)),o1 46 (.cii .u8 (.t 45)),m 47 3,bi 48 .rem 47 64,o1 49 (.bin .add (.v (.int .i64 128)) (.t 48)),o1 50 (.cii .u8 (.t 49)),o1 51 (.lit 5 1 [.t 41,.t 46,.t 50]),m 2 51] [2],
 .ret]) (.skip)],
 .reg [m 52 3,bi 53 .quo 52 262144,o1 54 (.bin .add (.v (.int .i64 240)) (.t 53)),o1 55 (.cii .u8 (.t 54)),m 56 3,bi 57 .quo 56 4096,bi 58 .rem 57 64,o1 59 (.bin .add (.v (.int .i64 128)) (.t 58)),o1 60 (.cii .u8 (.t 59)),m 61 3,bi 62 .quo 61 64,bi 63 .rem 62 64,o1 64 (.bin .add (.v (.int .i64 128)) (.t 63)),o1 65 (.cii .u8 (.t 64)),m 66 3,bi 67 .rem 66 64,o1 68 (.bin .add (.v (.int .i64 128)) (.t 67)),o1 69 (.cii .u8 (.t 68)),o1 70 (.lit 5 1 [.t 55,.t 60,.t 65,.t 69]),m 2 70] [2],
 .ret]
theorem nN:ar Tryz.prog Tryz.f142 [[0],[3],[3,19],[3],[3,21],[2],[3,26],[2],[3,37],[2],[2]] 1=some (ij,[.t 2]):=by kernel_rfl

abbrev p8:Nat:=110
theorem qQ:Tryz.prog.funcs[110]?=some Tryz.f110:=Tryz.func110
def jA:AC:=
 Q [.reg [mv 2 (.str [])] [0],
 .reg [mv 3 (.nil 1)] [0,3],
 Q [.reg [mi 4 0] [0,3,4],
 .block 0 (.loop [0,3,4] (Q [Q [.reg [m 5 4,m 6 0,lq 7 6,bt 8 .lss 5 7] [0,3,4,8],
 C 8 (.skip) (.exit 0)],
 .block 1 (.reg [m 11 3,m 12 0,m 13 4,ia 14 12 13 1,l1 15 14,ca 16 142 [15],o1 17 (.app (.t 11) (.t 16) 5 1 1),m 3 17] [0,3,4]),
 .reg [m 9 4,bi 10 .add 9 1,m 4 10] [0,3,4]]))],
 .reg [m 18 3,o1 19 (.b2s (.t 18)),m 2 19] [2],
 .ret]
theorem qA:ar Tryz.prog Tryz.f110 [[0],[0,3],[0,3,4],[0,3,4],[0,3,4,8],[0,3,4],[0,3,4],[2]] 1=some (jA,[.t 2]):=by kernel_rfl

abbrev nx:Nat:=68
theorem oc:Tryz.prog.funcs[68]?=some Tryz.f68:=Tryz.func68
def il:AC:=
 Q [.reg [mv 2 (.str [])] [0],
 .reg [m 7 0,ca 8 109 [7],m 3 8] [3],
 .reg [mv 4 (.nil 1)] [3,4],
 Q [.reg [mi 5 0] [3,4,5],
 .block 0 (.loop [3,4,5] (Q [Q [.reg [m 9 5,m 10 3,lq 11 10,bt 12 .lss 9 11] [3,4,5,12],
 C 12 (.skip) (.exit 0)],
 .block 1 (Q [.reg [m 15 3,m 16 5,ia 17 15 16 1,l1 18 17,m 6 18] [3,4,5,6],
 Q [.reg [m 19 6,o1 20 (.bin .eql (.t 19) (.v (.int .i32 10))),m 21 20,gt 21 (m 22 5),gt 21 (bi 23 .gtr 22 0),pa 24 21 23,m 25 24,gt 25 (m 26 3),gt 25 (m 27 5),gt 25 (bi 28 .sub 27 1),gt 25 (ia 29 26 28 1),gt 25 (l1 30 29),gt 25 (o1 31 (.bin .eql (.t 30) (.v (.int .i32 13)))),pa 32 25 31] [3,4,5,6,32],
 C 32 (.exit 1) (.skip)],
 Q [.reg [m 33 6,o1 34 (.bin .eql (.t 33) (.v (.int .i32 13)))] [3,4,5,6,34],
 C 34 (.reg [mv 6 (.int .i32 10)] [3,4,5,6]) (.skip)],
 Q [.reg [m 35 6,o1 36 (.bin .eql (.t 35) (.v (.int .i32 0)))] [3,4,5,6,36],
 C 36 (.reg [mv 6 (.int .i32 65533)] [3,4,5,6]) (.skip)],
 .reg [m 37 4,m 38 6,o1 39 (.lit 21 1 [.t 38]),o1 40 (.app (.t 37) (.t 39) 21 1 4),m 4 40] [3,4,5]]),
 .reg [m 13 5,bi 14 .add 13 1,m 5 14] [3,4,5]]))],
 .reg [m 41 4,ca 42 110 [41],m 2 42] [2],
 .ret]
theorem nP:ar Tryz.prog Tryz.f68 [[0],[3],[3,4],[3,4,5],[3,4,5],[3,4,5,12],[3,4,5,6],[3,4,5,6,32],[3,4,5,6,34],[3,4,5,6],[3,4,5,6,36],[3,4,5,6],[3,4,5],[3,4,5],[2]] 1=some (il,[.t 2]):=by kernel_rfl

abbrev p5:Nat:=75
theorem qM:Tryz.prog.funcs[75]?=some Tryz.f75:=Tryz.func75
def jx:AC:=
 Q [.reg [mv 2 (.str [])] [0],
 .reg [o1 7 (.lit 9 1 [.v (.str [97]),.v (.str [98]),.v (.str [112]),.v (.str [117,108]),.v (.str [108,105]),.v (.str [98,114]),.v (.str [105,109,103]),.v (.str [100,105,118]),.v (.str [115,99,114,105,112,116]),.v (.str [120,45,121])]),m 3 7] [0,3],
 .reg [mi 4 0] [0,3,4],
 Q [.reg [mi 5 0] [0,3,4,5],
 .block 0 (.loop [0,3,4,5] (Q [Q [.reg [m 8 5,m 9 0,ls 10 9,bt 11 .lss 8 10] [0,3,4,5,11],
 C 11 (.skip) (.exit 0)],
 .block 1 (.reg [m 14 4,m 15 0,m 16 5,ix 17 15 16,o1 18 (.cii .i64 (.t 17)),bt 19 .add 14 18,m 4 19] [0,3,4,5]),
 .reg [m 12 5,bi 13 .add 12 1,m 5 13] [0,3,4,5]]))],
 .reg [m 20 0,ca 21 70 [20],m 6 21] [0,3,4,6],
 Q [.reg [m 22 6] [0,3,4,22],
 C 22 (Q [.reg [m 23 0,m 2 23] [2],
 .ret]) (.skip)],
 .reg [m 24 3,m 25 4,m 26 3,lq 27 26,bt 28 .rem 25 27,ia 29 24 28 1,l1 30 29,m 2 30] [2],
 .ret]
theorem qw:ar Tryz.prog Tryz.f75 [[0],[0,3],[0,3,4],[0,3,4,5],[0,3,4,5],[0,3,4,5,11],[0,3,4,5],[0,3,4,5],[0,3,4,6],[0,3,4,22],[2],[2]] 1=some (jx,[.t 2]):=by kernel_rfl

abbrev tX:Nat:=99
theorem uk:Tryz.prog.funcs[99]?=some Tryz.f99:=Tryz.func99
def mY:AC:=
 Q [.reg [mb 2 false] [0],
 .reg [m 3 0,o1 4 (.s2b (.t 3)),ca 5 68 [4],m 6 0,bt 7 .eql 5 6,m 2 7] [2],
 .ret]
theorem ug:ar Tryz.prog Tryz.f99 [[0],[2]] 1=some (mY,[.t 2]):=by kernel_rfl

abbrev iI:Nat:=115
theorem iP:Tryz.prog.funcs[115]?=some Tryz.f115:=Tryz.func115
def dQ:AC:=
 Q [.reg [mb 2 false] [0],
 .reg [m 6 0,ca 7 99 [6],m 3 7] [0,3],
 Q [.reg [mi 4 0] [0,3,4],
 .block 0 (.loop [0,3,4] (Q [Q [.reg [m 8 4,m 9 0,ls 10 9,bt 11 .lss 8 10] [0,3,4,11],
 C 11 (.skip) (.exit 0)],
 .block 1 (Q [.reg [m 14 0,m 15 4,ix 16 14 15,m 5 16] [0,3,4,5],
 .reg [m 17 5,bu 18 .geq 17 65,m 19 18,gt 19 (m 20 5),gt 19 (bu 21 .leq 20 90),pa 22 19 21,m 23 22,gf 23 (m 24 5),gf 23 (bu 25 .eql 24 9),po 26 23 25,m 27 26,gf 27 (m 28 5),gf 27 (bu 29 .eql 28 10),po 30 27 29,m 31 30,gf 31 (m 32 5),gf 31 (bu 33 .eql 32 12),po 34 31 33,m 35 34,gf 35 (m 36 5),gf 35 (bu 37 .eql 36 32),po 38 35 37,m 39 38,gf 39 (m 40 5),gf 39 (bu 41 .eql 40 47),po 42 39 41,m 43 42,gf 43 (m 44 5),gf 43 (bu 45 .eql 44 62),po 46 43 45,m 47 46,gf 47 (m 48 5),gf 47 (bu 49 .eql 48 61),po 50 47 49] [0,3,4,50],
 C 50 (Q [.reg [mb 2 false] [2],
 .ret]) (.skip)]),
 .reg [m 12 4,bi 13 .add 12 1,m 4 13] [0,3,4]]))],
 .reg [m 51 3,m 52 51,gt 52 (m 53 0),gt 52 (ls 54 53),gt 52 (bi 55 .gtr 54 0),pa 56 52 55,m 2 56] [2],
 .ret]
theorem iN:ar Tryz.prog Tryz.f115 [[0],[0,3],[0,3,4],[0,3,4],[0,3,4,11],[0,3,4,5],[0,3,4,50],[2],[0,3,4],[2]] 1=some (dQ,[.t 2]):=by kernel_rfl

abbrev je:Nat:=76
theorem jl:Tryz.prog.funcs[76]?=some Tryz.f76:=Tryz.func76
def d6:AC:=
 Q [.reg [mv 2 (.str [])] [0],
 .reg [m 5 0,ca 6 115 [5],m 3 6] [0,3],
 Q [.reg [m 7 3] [0,7],
 C 7 (Q [.reg [m 8 0,m 2 8] [2],
 .ret]) (.skip)],
 .reg [o1 9 (.lit 9 1 [.v (.str [105,100]),.v (.str [104,114,101,102]),.v (.str [116,105,116,108,101]),.v (.str [100,97,116,97,45,97]),.v (.str [111,110,99,108,105,99,107])]),m 4 9] [0,4],
 .reg [m 10 4,m 11 0,ls 12 11,m 13 4,lq 14 13,bt 15 .rem 12 14,ia 16 10 15 1,l1 17 16,m 2 17] [2],
 .ret]
theorem jj:ar Tryz.prog Tryz.f76 [[0],[0,3],[0,7],[2],[0,4],[2]] 1=some (d6,[.t 2]):=by kernel_rfl

abbrev nq:Nat:=77
theorem n6:Tryz.prog.funcs[77]?=some Tryz.f77:=Tryz.func77
def ig:AC:=
 Q [.reg [bx 2 0,mv 4 (.str []),mb 5 false] [1,2],
 Q [.reg [mi 6 0] [1,2,6],
 .block 0 (.loop [1,2,6] (Q [Q [.reg [m 7 6,fa 8 2 2,l1 9 8,lq 10 9,bt 11 .lss 7 10] [1,2,6,11],
 C 11 (.skip) (.exit 0)],
 .block 1 (Q [.reg [fa 14 2 2,l1 15 14,m 16 6,ia 17 15 16 2,fa 18 17 0,l1 19 18,m 20 1,bt 21 .eql 19 20] [1,2,6,21],
 C 21 (Q [.reg [fa 22 2 2,l1 23 22,m 24 6,ia 25 23 24 2,fa 26 25 1,l1 27 26,m 4 27,mb 5 true] [4,5],
 .ret]) (.skip)]),
 .reg [m 12 6,bi 13 .add 12 1,m 6 13] [1,2,6]]))],
 .reg [mv 4 (.str []),mb 5 false] [4,5],
 .ret]
theorem nK:ar Tryz.prog Tryz.f77 [[1,2],[1,2,6],[1,2,6],[1,2,6,11],[1,2,6,21],[4,5],[1,2,6],[4,5]] 2=some (ig,[.t 4,.t 5]):=by kernel_rfl

abbrev ns:Nat:=78
theorem n8:Tryz.prog.funcs[78]?=some Tryz.f78:=Tryz.func78
def ii:AC:=
 Q [.reg [mv 2 (.nil 5)] [0],
 .reg [mv 3 (.nil 5)] [0,3],
 Q [.reg [mi 4 0] [0,3,4],
 .block 0 (.loop [0,3,4] (Q [Q [.reg [m 6 4,m 7 0,lq 8 7,bt 9 .lss 6 8] [0,3,4,9],
 C 9 (.skip) (.exit 0)],
 .block 1 (Q [.reg [m 12 3,lq 13 12,bi 14 .sub 13 1,m 5 14] [0,3,4,5],
 Q [.reg [m 15 0,m 16 4,ia 17 15 16 5,fa 18 17 0,l1 19 18,bi 20 .eql 19 2,m 21 20,gt 21 (m 22 0),gt 21 (m 23 4),gt 21 (ia 24 22 23 5),gt 21 (fa 25 24 3),gt 21 (l1 26 25),gt 21 (bs 27 .eql 26 []),pa 28 21 27] [0,3,4,5,28],
 C 28 (.exit 1) (.skip)],
 .reg [m 29 0,m 30 4,ia 31 29 30 5,fa 32 31 0,l1 33 32,bi 34 .eql 33 2,m 35 34,gt 35 (m 36 5),gt 35 (bi 37 .geq 36 0),pa 38 35 37,m 39 38,gt 39 (m 40 3),gt 39 (m 41 5),gt 39 (ia 42 40 41 5),gt 39 (fa 43 42 0),gt 39 (l1 44 43),gt 39 (bi 45 .eql 44 2),pa 46 39 45] [0,3,4,5,46],
 C 46 (.regD [m 47 3,m 48 5,m 49 3,m 50 5,ia 51 49 50 5,fa 52 51 3,l1 53 52,m 54 0,m 55 4,ia 56 54 55 5,fa 57 56 3,l1 58 57,bt 59 .add 53 58,ia 60 47 48 5,fa 61 60 3,st 1 61 59] [0,3,4]) (.reg [m 62 3,m 63 0,m 64 4,ia 65 63 64 5,la 66 65 5,o1 67 (.lit 34 5 [.t 66]),o1 68 (.app (.t 62) (.t 67) 34 5 88),m 3 68] [0,3,4])]),
 .reg [m 10 4,bi 11 .add 10 1,m 4 11] [0,3,4]]))],
 .reg [m 69 3,m 2 69] [2],
 .ret]
theorem nM:ar Tryz.prog Tryz.f78 [[0],[0,3],[0,3,4],[0,3,4],[0,3,4,9],[0,3,4,5],[0,3,4,5,28],[0,3,4,5,46],[0,0,0,0,0,12,28,60,0,0,384,896,1920,4092,8191,16383,32767],[0,1,2,3,4,5,6,7,8,9,10,11,12,13,14,15],[0,3,4],[0,3,4],[0,3,4],[2]] 1=some (ii,[.t 2]):=by kernel_rfl

abbrev dr:Nat:=49
theorem qN:Tryz.prog.funcs[49]?=some Tryz.f49:=Tryz.func49
def jy:AC:=
 Q [.reg [mv 2 (.nil 5)] [0],
 .reg [mv 3 (.nil 5)] [0,3],
 Q [.reg [mi 4 0] [0,3,4],
 .block 0 (.loop [0,3,4] (Q [Q [.reg [m 10 4,m 11 0,lq 12 11,bt 13 .lss 10 12] [0,3,4,13],
 C 13 (.skip) (.exit 0)],
 .block 1 (Q [.reg [m 16 0,m 17 4,ia 18 16 17 5,fa 19 18 0,l1 20 19,o1 21 (.bld [.int .i64 0,.str [],.nil 2,.str [],.nil 5] [(0,1,(.t 20))]),o1 5 (.alc [.int .i64 0,.str [],.nil 2,.str [],.nil 5]),st 5 5 21] [0,3,4,5],
 Q [.reg [fa 22 5 0,l1 23 22,bi 24 .lss 23 1,m 25 24,gf 25 (fa 26 5 0),gf 25 (l1 27 26),gf 25 (bi 28 .gtr 27 3),po 29 25 28] [0,3,4,5,29],
 C 29 (.reg [fa 30 5 0,o0 (.st 1 (.t 30) (.v (.int .i64 1)))] [0,3,4,5]) (.skip)],
 Q [.reg [fa 31 5 0,l1 32 31,bi 33 .neq 32 1] [0,3,4,5,33],
 C 33 (Q [.reg [m 34 0,m 35 4,ia 36 34 35 5,fa 37 36 3,l1 38 37,o1 39 (.s2b (.t 38)),ca 40 68 [39],fa 41 5 3,st 1 41 40] [0,3,4,5],
 .reg [m 42 3,la 43 5 5,o1 44 (.lit 34 5 [.t 43]),o1 45 (.app (.t 42) (.t 44) 34 5 88),m 3 45] [0,3,4],
 .exit 1]) (.skip)],
 .reg [m 46 0,m 47 4,ia 48 46 47 5,fa 49 48 1,l1 50 49,ca 51 75 [50],fa 52 5 1,st 1 52 51] [0,3,4,5],
 Q [.reg [mi 6 0] [0,3,4,5,6],
 .block 2 (.loop [0,3,4,5,6] (Q [Q [.reg [m 53 6,m 54 0,m 55 4,ia 56 54 55 5,fa 57 56 2,l1 58 57,lq 59 58,bt 60 .lss 53 59] [0,3,4,5,6,60],
 C 60 (.skip) (.exit 2)],
 .block 3 (Q [.regD [m 63 0,m 64 4,ia 65 63 64 5,fa 66 65 2,l1 67 66,m 68 6,ia 69 67 68 2,fa 70 69 0,l1 71 70,ca 72 76 [71],m 73 0,m 74 4,ia 75 73 74 5,fa 76 75 2,l1 77 76,m 78 6,ia 79 77 78 2,fa 80 79 1,l1 81 80,o1 82 (.s2b (.t 81)),ca 83 68 [82],o1 84 (.bld [.str [],.str []] [(0,1,(.t 72)),(1,1,(.t 83))]),o1 7 (.alc [.str [],.str []]),st 2 7 84] [0,3,4,5,6,7],
 .reg [la 86 5 5,fa 87 7 0,l1 88 87,ca 89 77 [86,88],m 85 89,ex 90 85 0,ex 91 85 1,m 8 90,m 9 91] [0,3,4,5,6,7,9],
 .reg [m 92 9,nt' 93 92] [0,3,4,5,6,7,93],
 C 93 (.reg [fa 94 5 2,l1 95 94,la 96 7 2,o1 97 (.lit 76 2 [.t 96]),o1 98 (.app (.t 95) (.t 97) 76 2 32),fa 99 5 2,st 1 99 98] [0,3,4,5,6]) (.skip)]),
 .reg [m 61 6,bi 62 .add 61 1,m 6 62] [0,3,4,5,6]]))],
 .reg [m 100 0,m 101 4,ia 102 100 101 5,fa 103 102 4,l1 104 103,ca 105 49 [104],fa 106 5 4,st 1 106 105] [0,3,4,5],
 .reg [m 107 3,la 108 5 5,o1 109 (.lit 34 5 [.t 108]),o1 110 (.app (.t 107) (.t 109) 34 5 88),m 3 110] [0,3,4]]),
 .reg [m 14 4,bi 15 .add 14 1,m 4 15] [0,3,4]]))],
 .reg [m 111 3,ca 112 78 [111],m 2 112] [2],
 .ret]
theorem qx:ar Tryz.prog Tryz.f49 [[0],[0,3],[0,3,4],[0,3,4],[0,3,4,13],[0,3,4,5],[0,3,4,5,29],[0,3,4,5],[0,3,4,5,33],[0,3,4,5],[0,3,4],[0,3,4,5],[0,3,4,5,6],[0,3,4,5,6],[0,3,4,5,6,60],[0,0,0,3,7,15,0,63,127,255,511,0,0,3072,7168,15360,0,64512,130048,261120,523264,1048575,2097151,0,8388607],[0,1,2,3,4,5,6,7,8,9,10,11,12,13,14,15,16,17,18,19,20,21,22,23],[0,3,4,5,6,7],[0,3,4,5,6,7,9],[0,3,4,5,6,7,93],[0,3,4,5,6],[0,3,4,5,6],[0,3,4,5],[0,3,4],[0,3,4],[2]] 1=some (jy,[.t 2]):=by kernel_rfl

abbrev p7:Nat:=16
theorem qP:Tryz.prog.funcs[16]?=some Tryz.f16:=Tryz.func16
def jz:AC:=
 Q [.reg [mv 2 (.nil 5)] [0],
 .reg [m 3 0,ca 4 15 [3],ca 5 49 [4],m 2 5] [2],
 .ret]
theorem qz:ar Tryz.prog Tryz.f16 [[0],[2]] 1=some (jz,[.t 2]):=by kernel_rfl

abbrev cX:Nat:=148
theorem c9:Tryz.prog.funcs[148]?=some Tryz.f148:=Tryz.func148
def br:AC:=
 Q [.reg [mi 4 0] [0,1],
 Q [.reg [m 6 0,lq 7 6,mi 8 0] [0,1,7,8],
 .block 0 (.loop [0,1,7,8] (Q [.reg [bt 9 .lss 8 7] [0,1,7,8,9],
 C 9 (.skip) (.exit 0),
 .block 1 (Q [.reg [m 10 8,m 5 10] [0,1,5,7,8],
 .reg [m 11 1,m 12 0,m 13 5,ia 14 12 13 1,l1 15 14,bt 16 .eql 11 15] [0,1,5,7,8,16],
 C 16 (Q [.reg [m 17 5,m 4 17] [4],
 .ret]) (.skip)]),
 .reg [bi 18 .add 8 1,m 8 18] [0,1,7,8]]))],
 .reg [mi 4 (-1)] [4],
 .ret]
theorem c8:ar Tryz.prog Tryz.f148 [[0,1],[0,1,7,8],[0,1,7,8],[0,1,7,8,9],[0,1,5,7,8],[0,1,5,7,8,16],[4],[0,1,7,8],[4]] 2=some (br,[.t 4]):=by kernel_rfl

abbrev cx:Nat:=118
theorem cB:Tryz.prog.funcs[118]?=some Tryz.f118:=Tryz.func118
def bc:AC:=
 Q [.reg [mb 4 false] [0,1],
 .reg [m 5 0,m 6 1,ca 7 148 [5,6],bi 8 .geq 7 0,m 4 8] [4],
 .ret]
theorem cA:ar Tryz.prog Tryz.f118 [[0,1],[4]] 2=some (bc,[.t 4]):=by kernel_rfl

abbrev aT:Nat:=178
end Go.Abs
