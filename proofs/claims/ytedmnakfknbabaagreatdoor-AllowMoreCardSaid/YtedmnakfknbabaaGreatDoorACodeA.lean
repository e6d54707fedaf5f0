/- The images of some of the program's functions, as the kernel reckons them. No condition. -/
import Derived.Test.YtedmnakfknbabaaGreatDoorACodeD
set_option linter.all false
set_option maxHeartbeats 0
set_option maxRecDepth 100000
namespace Go.Abs
open Go.Proofs
abbrev xx:Nat:=71
theorem yw:Tryz.prog.funcs[71]?=some Tryz.f71:=Tryz.func71
def jZ:AC:=
 Q [.reg [mb 2 false] [0],
 .reg [m 3 0,bu 4 .geq 3 97,m 5 4,gt 5 (m 6 0),gt 5 (bu 7 .leq 6 122),pa 8 5 7,m 2 8] [2],
 .ret]
theorem xY:am Tryz.prog Tryz.f71 [[0],[2]] 1=some (jZ,[.t 2]):=by kernel_rfl
abbrev xz:Nat:=39
theorem yy:Tryz.prog.funcs[39]?=some Tryz.f39:=Tryz.func39
def fQ:AC:=
 Q [.reg [mb 2 false] [0],
 Q [.reg [m 6 0,ls 7 6,bi 8 .eql 7 0] [0,8],
 C 8 (Q [.reg [mb 2 false] [2],
 .ret]) (.skip)],
 .reg [m 9 0,o1 10 (.ixs (.t 9) (.v (.int .i64 0))),ca 11 71 [10],m 3 11] [0,3],
 Q [.reg [mi 4 0] [0,3,4],
 .block 0 (.loop [0,3,4] (Q [Q [.reg [m 12 4,m 13 0,ls 14 13,bt 15 .lss 12 14] [0,3,4,15],
 C 15 (.skip) (.exit 0)],
 .block 1 (Q [.reg [m 18 0,m 19 4,ix 20 18 19,ca 21 71 [20],m 5 21] [0,3,4,5],
 .reg [m 22 5,nt' 23 22,m 24 23,gt 24 (m 25 0),gt 24 (m 26 4),gt 24 (ix 27 25 26),gt 24 (bu 28 .lss 27 48),gt 24 (m 29 28),gf 29 (m 30 0),gf 29 (m 31 4),gf 29 (ix 32 30 31),gf 29 (bu 33 .gtr 32 57),gt 24 (po 34 29 33),pa 35 24 34,m 36 35,gt 36 (m 37 0),gt 36 (m 38 4),gt 36 (ix 39 37 38),gt 36 (bu 40 .neq 39 45),pa 41 36 40] [0,3,4,41],
 C 41 (Q [.reg [mb 2 false] [2],
 .ret]) (.skip)]),
 .reg [m 16 4,bi 17 .add 16 1,m 4 17] [0,3,4]]))],
 .reg [m 42 3,m 2 42] [2],
 .ret]
theorem x0:am Tryz.prog Tryz.f39 [[0],[0,8],[2],[0,3],[0,3,4],[0,3,4],[0,3,4,15],[0,3,4,5],[0,3,4,41],[2],[0,3,4],[2]] 1=some (fQ,[.t 2]):=by kernel_rfl
abbrev xr:Nat:=22
theorem yp:Tryz.prog.funcs[22]?=some Tryz.f22:=Tryz.func22
def jW:AC:=
 Q [.reg [mb 2 false] [0],
 .reg [m 4 0,ca 5 39 [4],m 3 5] [0,3],
 .reg [m 6 3,m 7 6,gt 7 (m 8 0),gt 7 (ls 9 8),gt 7 (bi 10 .leq 9 16),pa 11 7 10,m 2 11] [2],
 .ret]
theorem xT:am Tryz.prog Tryz.f22 [[0],[0,3],[2]] 1=some (jW,[.t 2]):=by kernel_rfl
abbrev Ba:Nat:=23
theorem BZ:Tryz.prog.funcs[23]?=some Tryz.f23:=Tryz.func23
def lp:AC:=
 Q [.reg [bx 2 0,o1 4 (.alc [.str [],.nil 1,.nil 5]),mb 5 false] [1,2,4],
 Q [.reg [mi 6 0] [1,2,4,6],
 .block 0 (.loop [1,2,4,6] (Q [Q [.reg [m 7 6,fa 8 2 1,l1 9 8,lq 10 9,bt 11 .lss 7 10] [1,2,4,6,11],
 C 11 (.skip) (.exit 0)],
 .block 1 (Q [.reg [fa 14 2 1,l1 15 14,m 16 6,ia 17 15 16 3,fa 18 17 0,l1 19 18,m 20 1,bt 21 .eql 19 20] [1,2,4,6,21],
 C 21 (Q [.reg [fa 22 2 1,l1 23 22,m 24 6,ia 25 23 24 3,la 26 25 3,st 3 4 26,mb 5 true] [4,5],
 .ret]) (.skip)]),
 .reg [m 12 6,bi 13 .add 12 1,m 6 13] [1,2,4,6]]))],
 .reg [o1 27 (.bld [.str [],.nil 1,.nil 5] []),st 3 4 27,mb 5 false] [4,5],
 .ret]
theorem BF:am Tryz.prog Tryz.f23 [[1,2,4],[1,2,4,6],[1,2,4,6],[1,2,4,6,11],[1,2,4,6,21],[4,5],[1,2,4,6],[4,5]] 2=some (lp,[.c 4 3 true,.t 5]):=by kernel_rfl
abbrev vu:Nat:=96
theorem we:Tryz.prog.funcs[96]?=some Tryz.f96:=Tryz.func96
def i5:AC:=
 Q [.reg [mb 2 false] [0],
 Q [.reg [mi 3 0] [0,3],
 .block 0 (.loop [0,3] (Q [Q [.reg [m 4 3,m 5 0,ls 6 5,bt 7 .lss 4 6] [0,3,7],
 C 7 (.skip) (.exit 0)],
 .block 1 (Q [.reg [m 10 0,m 11 3,ix 12 10 11,bu 13 .lss 12 97,m 14 13,gf 14 (m 15 0),gf 14 (m 16 3),gf 14 (ix 17 15 16),gf 14 (bu 18 .gtr 17 122),po 19 14 18] [0,3,19],
 C 19 (Q [.reg [mb 2 false] [2],
 .ret]) (.skip)]),
 .reg [m 8 3,bi 9 .add 8 1,m 3 9] [0,3]]))],
 .reg [m 20 0,ls 21 20,bi 22 .geq 21 1,m 23 22,gt 23 (m 24 0),gt 23 (ls 25 24),gt 23 (bi 26 .leq 25 16),pa 27 23 26,m 2 27] [2],
 .ret]
theorem vQ:am Tryz.prog Tryz.f96 [[0],[0,3],[0,3],[0,3,7],[0,3,19],[2],[0,3],[2]] 1=some (i5,[.t 2]):=by kernel_rfl
abbrev xv:Nat:=97
theorem yu:Tryz.prog.funcs[97]?=some Tryz.f97:=Tryz.func97
def jY:AC:=
 Q [.reg [mb 2 false] [0],
 Q [.reg [mi 3 0] [0,3],
 .block 0 (.loop [0,3] (Q [Q [.reg [m 4 3,m 5 0,ls 6 5,bt 7 .lss 4 6] [0,3,7],
 C 7 (.skip) (.exit 0)],
 .block 1 (Q [.reg [m 10 0,m 11 3,ix 12 10 11,bu 13 .lss 12 32,m 14 13,gf 14 (m 15 0),gf 14 (m 16 3),gf 14 (ix 17 15 16),gf 14 (bu 18 .gtr 17 126),po 19 14 18] [0,3,19],
 C 19 (Q [.reg [mb 2 false] [2],
 .ret]) (.skip)]),
 .reg [m 8 3,bi 9 .add 8 1,m 3 9] [0,3]]))],
 .reg [mb 2 true] [2],
 .ret]
theorem xW:am Tryz.prog Tryz.f97 [[0],[0,3],[0,3],[0,3,7],[0,3,19],[2],[0,3],[2]] 1=some (jY,[.t 2]):=by kernel_rfl
abbrev xu:Nat:=72
theorem yr:Tryz.prog.funcs[72]?=some Tryz.f72:=Tryz.func72
def jX:AC:=
 Q [.reg [mb 4 false] [0,1],
 Q [.reg [mi 5 0] [0,1,5],
 .block 0 (.loop [0,1,5] (Q [Q [.reg [m 9 5,m 10 0,lq 11 10,bt 12 .lss 9 11] [0,1,5,12],
 C 12 (.skip) (.exit 0)],
 .block 1 (Q [.reg [m 15 0,m 16 5,ia 17 15 16 1,l1 18 17,ca 19 96 [18],m 6 19] [0,1,5,6],
 .reg [m 20 0,m 21 5,ia 22 20 21 1,l1 23 22,ca 24 97 [23],m 7 24] [0,1,5,6,7],
 Q [.reg [m 25 1,m 26 25,gt 26 (m 27 6),gt 26 (nt' 28 27),pa 29 26 28,m 30 29,gf 30 (m 31 1),gf 30 (nt' 32 31),gf 30 (m 33 32),gt 33 (m 34 7),gt 33 (nt' 35 34),gt 33 (m 36 35),gf 36 (m 37 0),gf 36 (m 38 5),gf 36 (ia 39 37 38 1),gf 36 (l1 40 39),gf 36 (ls 41 40),gf 36 (bi 42 .gtr 41 40),gt 33 (po 43 36 42),gf 30 (pa 44 33 43),po 45 30 44] [0,1,5,45],
 C 45 (Q [.reg [mb 4 false] [4],
 .ret]) (.skip)],
 .reg [mi 8 0] [0,1,5,8],
 .block 2 (.loop [0,1,5,8] (Q [Q [.reg [m 46 8,m 47 5,bt 48 .lss 46 47] [0,1,5,8,48],
 C 48 (.skip) (.exit 2)],
 .block 3 (Q [.regD [m 51 0,m 52 8,ia 53 51 52 1,l1 54 53,m 55 0,m 56 5,ia 57 55 56 1,l1 58 57,bt 59 .eql 54 58] [0,1,5,8,59],
 C 59 (Q [.reg [mb 4 false] [4],
 .ret]) (.skip)]),
 .reg [m 49 8,bi 50 .add 49 1,m 8 50] [0,1,5,8]]))]),
 .reg [m 13 5,bi 14 .add 13 1,m 5 14] [0,1,5]]))],
 .reg [m 60 0,lq 61 60,bi 62 .leq 61 8,m 4 62] [4],
 .ret]
theorem xV:am Tryz.prog Tryz.f72 [[0,1],[0,1,5],[0,1,5],[0,1,5,12],[0,1,5,6],[0,1,5,6,7],[0,1,5,45],[4],[0,1,5,8],[0,1,5,8],[0,1,5,8,48],[0,0,0,3,7,0,0,48,112,255],[0,1,2,3,4,5,6,7,8],[0,1,5,8,59],[4],[0,1,5,8],[0,1,5],[4]] 2=some (jX,[.t 4]):=by kernel_rfl
abbrev Bb:Nat:=40
theorem B0:Tryz.prog.funcs[40]?=some Tryz.f40:=Tryz.func40
def lr:AC:=
 Q [.reg [bx 1 0,o1 2 (.alc [.int .i64 0,.nil 1,.str []])] [1,2],
 .reg [fa 12 1 0,l1 13 12,m 3 13] [1,2,3],
 Q [.reg [m 14 3,bi 15 .lss 14 0] [1,2,3,15],
 C 15 (.reg [m 16 3,bi 17 .add 16 1,o1 18 (.un .neg (.t 17)),m 3 18] [1,2,3]) (.skip)],
 .reg [m 19 3,bi 20 .rem 19 4,o1 21 (.bin .add (.v (.int .i64 1)) (.t 20)),o1 22 (.bld [.int .i64 0,.nil 1,.str []] [(0,1,(.t 21))]),o1 4 (.alc [.int .i64 0,.nil 1,.str []]),st 3 4 22] [1,2,4],
 Q [.reg [fa 23 4 0,l1 24 23,bi 25 .eql 24 4] [1,2,4,25],
 C 25 (Q [.reg [o1 26 (.lit 9 1 [.v (.str [97,42]),.v (.str [40,97,124,98,41,43]),.v (.str [91,48,45,57,93,43]),.v (.str [120,46,121]),.v (.str [91,94,97,93,42]),.v (.str []),.v (.str [97,124,98,98,124,99])]),m 5 26] [1,2,4,5],
 .reg [mi 6 0] [1,2,4,5,6],
 Q [.reg [mi 7 0] [1,2,4,5,6,7],
 .block 0 (.loop [1,2,4,5,6,7] (Q [Q [.reg [m 27 7,fa 28 1 2,l1 29 28,ls 30 29,bt 31 .lss 27 30] [1,2,4,5,6,7,31],
 C 31 (.skip) (.exit 0)],
 .block 1 (.reg [m 34 6,fa 35 1 2,l1 36 35,m 37 7,ix 38 36 37,o1 39 (.cii .i64 (.t 38)),bt 40 .add 34 39,m 6 40] [1,2,4,5,6,7]),
 .reg [m 32 7,bi 33 .add 32 1,m 7 33] [1,2,4,5,6,7]]))],
 .reg [m 41 5,m 42 6,m 43 5,lq 44 43,bt 45 .rem 42 44,ia 46 41 45 1,l1 47 46,fa 48 4 2,st 1 48 47] [2,4],
 .reg [la 49 4 3,st 3 2 49] [2],
 .ret]) (.skip)],
 Q [.reg [mi 8 0] [1,2,4,8],
 .block 2 (.loop [1,2,4,8] (Q [Q [.reg [m 50 8,fa 51 1 1,l1 52 51,lq 53 52,bt 54 .lss 50 53,m 55 54,gt 55 (m 56 8),gt 55 (bi 57 .lss 56 4),pa 58 55 57,m 59 58,gt 59 (fa 60 4 0),gt 59 (l1 61 60),gt 59 (bi 62 .neq 61 1),pa 63 59 62] [1,2,4,8,63],
 C 63 (.skip) (.exit 2)],
 .block 3 (Q [.reg [fa 66 1 1,l1 67 66,m 68 8,ia 69 67 68 1,l1 70 69,m 9 70] [1,2,4,8,9],
 .reg [fa 71 4 1,l1 72 71,o1 73 (.app (.v (.nil 1)) (.t 72) 9 1 16),m 74 9,o1 75 (.lit 9 1 [.t 74]),o1 76 (.app (.t 73) (.t 75) 9 1 16),m 10 76] [1,2,4,8,10],
 .reg [m 77 10,fa 78 4 0,l1 79 78,bi 80 .eql 79 3,ca 81 72 [77,80],m 11 81] [1,2,4,8,10,11],
 .reg [m 82 11] [1,2,4,8,10,82],
 C 82 (.reg [m 83 10,fa 84 4 1,st 1 84 83] [1,2,4,8]) (.skip)]),
 .reg [m 64 8,bi 65 .add 64 1,m 8 65] [1,2,4,8]]))],
 Q [.reg [fa 85 4 0,l1 86 85,bi 87 .eql 86 2,m 88 87,gt 88 (fa 89 4 1),gt 88 (l1 90 89),gt 88 (lq 91 90),gt 88 (bi 92 .eql 91 0),pa 93 88 92] [2,4,93],
 C 93 (.reg [o1 94 (.lit 9 1 [.v (.str [120])]),fa 95 4 1,st 1 95 94] [2,4]) (.skip)],
 .reg [la 96 4 3,st 3 2 96] [2],
 .ret]
theorem BG:am Tryz.prog Tryz.f40 [[1,2],[1,2,3],[1,2,3,15],[1,2,3],[1,2,4],[1,2,4,25],[1,2,4,5],[1,2,4,5,6],[1,2,4,5,6,7],[1,2,4,5,6,7],[1,2,4,5,6,7,31],[1,2,4,5,6,7],[1,2,4,5,6,7],[2,4],[2],[1,2,4,8],[1,2,4,8],[1,2,4,8,63],[1,2,4,8,9],[1,2,4,8,10],[1,2,4,8,10,11],[1,2,4,8,10,82],[1,2,4,8],[1,2,4,8],[2,4,93],[2,4],[2]] 1=some (lr,[.c 2 3 true]):=by kernel_rfl
abbrev A7:Nat:=41
theorem BV:Tryz.prog.funcs[41]?=some Tryz.f41:=Tryz.func41
def iu:AC:=
 Q [.reg [mv 2 (.str []),mb 3 false] [0],
 Q [.reg [m 4 0,ls 5 4,bi 6 .gtr 5 0,m 7 6,gt 7 (m 8 0),gt 7 (m 9 0),gt 7 (ls 10 9),gt 7 (bi 11 .sub 10 1),gt 7 (ix 12 8 11),gt 7 (bu 13 .eql 12 42),pa 14 7 13] [0,14],
 C 14 (Q [.reg [m 15 0,m 16 0,ls 17 16,bi 18 .sub 17 1,o1 19 (.sls (.t 15) none (some (.t 18))),m 2 19,mb 3 true] [2,3],
 .ret]) (.skip)],
 .reg [m 20 0,m 2 20,mb 3 false] [2,3],
 .ret]
theorem BB:am Tryz.prog Tryz.f41 [[0],[0,14],[2,3],[2,3]] 1=some (iu,[.t 2,.t 3]):=by kernel_rfl
abbrev DB:Nat:=26
theorem Ee:Tryz.prog.funcs[26]?=some Tryz.f26:=Tryz.func26
def ni:AC:=
 Q [.reg [mb 4 false] [0,1],
 Q [.reg [mi 5 0] [0,1,5],
 .block 0 (.loop [0,1,5] (Q [Q [.reg [m 6 5,m 7 0,lq 8 7,bt 9 .lss 6 8] [0,1,5,9],
 C 9 (.skip) (.exit 0)],
 .block 1 (Q [.reg [m 12 0,m 13 5,ia 14 12 13 1,l1 15 14,m 16 1,bt 17 .eql 15 16] [0,1,5,17],
 C 17 (Q [.reg [mb 4 true] [4],
 .ret]) (.skip)]),
 .reg [m 10 5,bi 11 .add 10 1,m 5 11] [0,1,5]]))],
 .reg [mb 4 false] [4],
 .ret]
theorem D0:am Tryz.prog Tryz.f26 [[0,1],[0,1,5],[0,1,5],[0,1,5,9],[0,1,5,17],[4],[0,1,5],[4]] 2=some (ni,[.t 4]):=by kernel_rfl
abbrev oE:Nat:=24
theorem yo:Tryz.prog.funcs[24]?=some Tryz.f24:=Tryz.func24
def jV:AC:=
 Q [.reg [mv 2 (.nil 5)] [0],
 .reg [mv 3 (.nil 5)] [0,3],
 .reg [mv 4 (.nil 1)] [0,3,4],
 Q [.reg [mi 5 0] [0,3,4,5],
 .block 0 (.loop [0,3,4,5] (Q [Q [.reg [m 12 5,m 13 0,lq 14 13,bt 15 .lss 12 14,m 16 15,gt 16 (m 17 5),gt 16 (bi 18 .lss 17 3),pa 19 16 18] [0,3,4,5,19],
 C 19 (.skip) (.exit 0)],
 .block 1 (Q [.regD [m 22 0,m 23 5,ia 24 22 23 5,fa 25 24 0,l1 26 25,m 27 0,m 28 5,ia 29 27 28 5,fa 30 29 1,la 31 30 3,ca 32 40 [31],m 33 0,m 34 5,ia 35 33 34 5,fa 36 35 4,l1 37 36,o1 38 (.bld [.str [],.int .i64 0,.nil 1,.str [],.bool false] [(0,1,(.t 26)),(1,3,(.t 32)),(4,1,(.t 37))]),o1 6 (.alc [.str [],.int .i64 0,.nil 1,.str [],.bool false]),st 5 6 38] [0,3,4,5,6],
 .reg [fa 40 6 0,l1 41 40,ca 42 41 [41],m 39 42,ex 43 39 0,ex 44 39 1,m 7 43,m 8 44] [0,3,4,5,6,7,8],
 .reg [m 45 7,ca 46 22 [45],m 9 46] [0,3,4,5,6,8,9],
 Q [.reg [m 47 9,nt' 48 47] [0,3,4,5,6,8,48],
 C 48 (Q [.reg [o1 49 (.lit 9 1 [.v (.str [105,100]),.v (.str [104,114,101,102]),.v (.str [100,97,116,97,45,42])]),m 10 49] [0,3,4,5,6,10],
 .reg [m 50 10,m 51 5,ia 52 50 51 1,l1 53 52,fa 54 6 0,st 1 54 53] [0,3,4,5,6],
 .reg [m 55 5,bi 56 .eql 55 2,m 8 56] [0,3,4,5,6,8]]) (.skip)],
 Q [.reg [m 57 8] [0,3,4,5,6,57],
 C 57 (.reg [fa 58 6 4,o0 (.st 1 (.t 58) (.v (.bool false)))] [0,3,4,5,6]) (.skip)],
 .reg [m 59 4,fa 60 6 0,l1 61 60,ca 62 26 [59,61],m 11 62] [0,3,4,5,6,11],
 .reg [m 63 11,nt' 64 63] [0,3,4,5,6,64],
 C 64 (Q [.reg [m 65 4,fa 66 6 0,l1 67 66,o1 68 (.lit 9 1 [.t 67]),o1 69 (.app (.t 65) (.t 68) 9 1 16),m 4 69] [0,3,4,5,6],
 .reg [m 70 3,la 71 6 5,o1 72 (.lit 36 5 [.t 71]),o1 73 (.app (.t 70) (.t 72) 36 5 72),m 3 73] [0,3,4,5]]) (.skip)]),
 .reg [m 20 5,bi 21 .add 20 1,m 5 21] [0,3,4,5]]))],
 .reg [m 74 3,m 2 74] [2],
 .ret]
theorem xS:am Tryz.prog Tryz.f24 [[0],[0,3],[0,3,4],[0,3,4,5],[0,3,4,5],[0,3,4,5,19],[0,0,0,3,7,15,0,0,96,224,480,992,0,0,6144,14336,30720,65535,0,262143],[0,1,2,3,4,5,6,7,8,9,10,11,12,13,14,15,16,17,18],[0,3,4,5,6],[0,3,4,5,6,7,8],[0,3,4,5,6,8,9],[0,3,4,5,6,8,48],[0,3,4,5,6,10],[0,3,4,5,6],[0,3,4,5,6,8],[0,3,4,5,6,57],[0,3,4,5,6],[0,3,4,5,6,11],[0,3,4,5,6,64],[0,3,4,5,6],[0,3,4,5],[0,3,4,5],[2]] 1=some (jV,[.t 2]):=by kernel_rfl
abbrev Bg:Nat:=68
theorem B7:Tryz.prog.funcs[68]?=some Tryz.f68:=Tryz.func68
def lu:AC:=
 Q [.reg [mb 2 false] [0],
 .reg [m 3 0,bs 4 .eql 3 [98,114],m 5 4,gf 5 (m 6 0),gf 5 (bs 7 .eql 6 [104,114]),po 8 5 7,m 9 8,gf 9 (m 10 0),gf 9 (bs 11 .eql 10 [105,109,103]),po 12 9 11,m 13 12,gf 13 (m 14 0),gf 13 (bs 15 .eql 14 [105,110,112,117,116]),po 16 13 15,m 17 16,gf 17 (m 18 0),gf 17 (bs 19 .eql 18 [119,98,114]),po 20 17 19,m 2 20] [2],
 .ret]
theorem BM:am Tryz.prog Tryz.f68 [[0],[2]] 1=some (lu,[.t 2]):=by kernel_rfl
abbrev DE:Nat:=70
theorem Eh:Tryz.prog.funcs[70]?=some Tryz.f70:=Tryz.func70
def nk:AC:=
 Q [.reg [mb 2 false] [0],
 .reg [m 3 0,bs 4 .eql 3 [115,99,114,105,112,116],m 5 4,gf 5 (m 6 0),gf 5 (bs 7 .eql 6 [115,116,121,108,101]),po 8 5 7,m 2 8] [2],
 .ret]
theorem D3:am Tryz.prog Tryz.f70 [[0],[2]] 1=some (nk,[.t 2]):=by kernel_rfl
abbrev vv:Nat:=73
theorem wh:Tryz.prog.funcs[73]?=some Tryz.f73:=Tryz.func73
def i6:AC:=
 Q [.reg [mb 4 false] [0,1],
 .reg [mv 5 (.nil 1)] [0,1,5],
 Q [.reg [m 7 0] [1,5,7],
 .block 0 (Q [.reg [bs 9 .eql 7 [112],m 8 9] [1,5,7,8],
 C 8 (.reg [o1 10 (.lit 9 1 [.v (.str [98,108,111,99,107,113,117,111,116,101]),.v (.str [100,105,118]),.v (.str [104,49]),.v (.str [104,50]),.v (.str [104,114]),.v (.str [108,105]),.v (.str [111,108]),.v (.str [112]),.v (.str [112,114,101]),.v (.str [116,97,98,108,101]),.v (.str [117,108])]),m 5 10] [1,5]) (Q [.reg [bs 12 .eql 7 [108,105],m 11 12] [1,5,7,11],
 C 11 (.reg [o1 13 (.lit 9 1 [.v (.str [108,105])]),m 5 13] [1,5]) (Q [Q [.reg [bs 15 .eql 7 [100,116],m 14 15] [1,5,7,14],
 C 14 (.skip) (.reg [bs 16 .eql 7 [100,100],m 14 16] [1,5,7,14])],
 C 14 (.reg [o1 17 (.lit 9 1 [.v (.str [100,100]),.v (.str [100,116])]),m 5 17] [1,5]) (Q [.reg [bs 19 .eql 7 [111,112,116,105,111,110],m 18 19] [1,5,7,18],
 C 18 (.reg [o1 20 (.lit 9 1 [.v (.str [111,112,116,105,111,110])]),m 5 20] [1,5]) (Q [.reg [bs 22 .eql 7 [116,100],m 21 22] [1,5,7,21],
 C 21 (.reg [o1 23 (.lit 9 1 [.v (.str [116,100]),.v (.str [116,114])]),m 5 23] [1,5]) (Q [.reg [bs 25 .eql 7 [116,114],m 24 25] [1,5,24],
 C 24 (.reg [o1 26 (.lit 9 1 [.v (.str [116,114])]),m 5 26] [1,5]) (.skip)])])])])])])],
 Q [.reg [mi 6 0] [1,5,6],
 .block 1 (.loop [1,5,6] (Q [Q [.reg [m 27 6,m 28 5,lq 29 28,bt 30 .lss 27 29] [1,5,6,30],
 C 30 (.skip) (.exit 1)],
 .block 2 (Q [.reg [m 33 5,m 34 6,ia 35 33 34 1,l1 36 35,m 37 1,bt 38 .eql 36 37] [1,5,6,38],
 C 38 (Q [.reg [mb 4 true] [4],
 .ret]) (.skip)]),
 .reg [m 31 6,bi 32 .add 31 1,m 6 32] [1,5,6]]))],
 .reg [mb 4 false] [4],
 .ret]
theorem vS:am Tryz.prog Tryz.f73 [[0,1],[0,1,5],[1,5,7],[1,5,7,8],[1,5],[1,5,7,11],[1,5],[1,5,7,14],[1,5,7,14],[1,5],[1,5,7,18],[1,5],[1,5,7,21],[1,5],[1,5,24],[1,5],[1,5,6],[1,5,6],[1,5,6,30],[1,5,6,38],[4],[1,5,6],[4]] 2=some (i6,[.t 4]):=by kernel_rfl
abbrev A8:Nat:=74
theorem BW:Tryz.prog.funcs[74]?=some Tryz.f74:=Tryz.func74
def lm:AC:=
 Q [.reg [mb 2 false] [0],
 Q [.reg [mi 3 0] [0,3],
 .block 0 (.loop [0,3] (Q [Q [.reg [m 5 3,m 6 0,lq 7 6,bt 8 .lss 5 7] [0,3,8],
 C 8 (.skip) (.exit 0)],
 .block 1 (Q [.regD [m 11 0,m 12 3,o1 13 (.slq (.t 11) none (some (.t 12)) 1),m 14 0,m 15 3,ia 16 14 15 1,l1 17 16,ca 18 26 [13,17],m 4 18] [0,3,4],
 .reg [m 19 4] [0,3,19],
 C 19 (Q [.reg [mb 2 false] [2],
 .ret]) (.skip)]),
 .reg [m 9 3,bi 10 .add 9 1,m 3 10] [0,3]]))],
 .reg [mb 2 true] [2],
 .ret]
theorem BC:am Tryz.prog Tryz.f74 [[0],[0,3],[0,3],[0,3,8],[0,0,0,3,0,0,24,56,127,255],[0,1,2,3,4,5,6,7,8],[0,3,4],[0,3,19],[2],[0,3],[2]] 1=some (lm,[.t 2]):=by kernel_rfl
abbrev A9:Nat:=42
theorem BX:Tryz.prog.funcs[42]?=some Tryz.f42:=Tryz.func42
def ln:AC:=
 Q [.reg [bx 3 0,mb 6 false] [1,2,3],
 .reg [m 13 1,ca 14 68 [13],m 7 14] [1,2,3,7],
 .reg [m 15 1,ca 16 70 [15],m 8 16] [1,2,3,7,8],
 Q [.reg [mi 9 0] [1,2,3,7,8,9],
 .block 0 (.loop [1,2,3,7,8,9] (Q [Q [.reg [m 17 9,m 18 2,lq 19 18,bt 20 .lss 17 19] [1,2,3,7,8,9,20],
 C 20 (.skip) (.exit 0)],
 .block 1 (Q [Q [.reg [m 23 7,m 24 23,gf 24 (m 25 8),gf 24 (m 26 25),gt 26 (m 27 2),gt 26 (m 28 9),gt 26 (ia 29 27 28 1),gt 26 (l1 30 29),gt 26 (bs 31 .neq 30 [35,116,101,120,116]),gf 24 (pa 32 26 31),po 33 24 32] [1,2,3,7,8,9,33],
 C 33 (Q [.reg [mb 6 false] [6],
 .ret]) (.skip)],
 Q [.reg [m 34 2,m 35 9,ia 36 34 35 1,l1 37 36,bs 38 .eql 37 [35,116,101,120,116],m 39 38,gf 39 (m 40 2),gf 39 (m 41 9),gf 39 (ia 42 40 41 1),gf 39 (l1 43 42),gf 39 (bs 44 .eql 43 [35,99,111,109,109,101,110,116]),po 45 39 44] [1,2,3,7,8,9,45],
 C 45 (.exit 1) (.skip)],
 .regD [la 47 3 3,m 48 2,m 49 9,ia 50 48 49 1,l1 51 50,ca 52 23 [47,51],m 46 52,ex 53 46 0,ex 54 46 1,o1 10 (.alc [.str [],.nil 1,.nil 5]),st 3 10 53,m 11 54] [1,2,3,7,8,9,11],
 .reg [m 55 1,m 56 2,m 57 9,ia 58 56 57 1,l1 59 58,ca 60 73 [55,59],m 12 60] [1,2,3,7,8,9,11,12],
 .reg [m 61 11,nt' 62 61,m 63 62,gf 63 (m 64 12),po 65 63 64] [1,2,3,7,8,9,65],
 C 65 (Q [.reg [mb 6 false] [6],
 .ret]) (.skip)]),
 .reg [m 21 9,bi 22 .add 21 1,m 9 22] [1,2,3,7,8,9]]))],
 .reg [m 66 2,ca 67 74 [66],m 6 67] [6],
 .ret]
theorem BD:am Tryz.prog Tryz.f42 [[1,2,3],[1,2,3,7],[1,2,3,7,8],[1,2,3,7,8,9],[1,2,3,7,8,9],[1,2,3,7,8,9,20],[1,2,3,7,8,9,33],[6],[1,2,3,7,8,9,45],[0,0,0,0,6,14,31,63,127,127,0,767,2047],[0,1,2,3,4,5,6,7,8,9,10,11],[1,2,3,7,8,9,11],[1,2,3,7,8,9,11,12],[1,2,3,7,8,9,65],[6],[1,2,3,7,8,9],[6]] 3=some (ln,[.t 6]):=by kernel_rfl
abbrev tO:Nat:=25
theorem t8:Tryz.prog.funcs[25]?=some Tryz.f25:=Tryz.func25
def lS:AC:=
 Q [.reg [bx 3 0,mv 6 (.nil 1)] [1,2,3],
 .reg [mv 7 (.nil 1)] [1,2,3,7],
 Q [.reg [mi 8 0] [1,2,3,7,8],
 .block 0 (.loop [1,2,3,7,8] (Q [Q [.reg [m 11 8,m 12 2,lq 13 12,bt 14 .lss 11 13,m 15 14,gt 15 (m 16 8),gt 15 (bi 17 .lss 16 8),pa 18 15 17] [1,2,3,7,8,18],
 C 18 (.skip) (.exit 0)],
 .block 1 (Q [.regD [m 21 7,m 23 2,m 24 8,ia 25 23 24 1,l1 26 25,o1 27 (.lit 9 1 [.t 26]),o1 22 (.app (.v (.nil 1)) (.t 21) 9 1 16),o1 28 (.app (.t 22) (.t 27) 9 1 16),m 9 28] [1,2,3,7,8,9],
 .reg [la 29 3 3,m 30 1,m 31 9,ca 32 42 [29,30,31],m 10 32] [1,2,3,7,8,9,10],
 .reg [m 33 10] [1,2,3,7,8,9,33],
 C 33 (.reg [m 34 9,m 7 34] [1,2,3,7,8]) (.skip)]),
 .reg [m 19 8,bi 20 .add 19 1,m 8 20] [1,2,3,7,8]]))],
 .reg [m 35 7,m 6 35] [6],
 .ret]
theorem tV:am Tryz.prog Tryz.f25 [[1,2,3],[1,2,3,7],[1,2,3,7,8],[1,2,3,7,8],[1,2,3,7,8,18],[0,0,1,0,0,12,28,60,127,255],[0,2,3,4,5,6,1,7,8],[1,2,3,7,8,9],[1,2,3,7,8,9,10],[1,2,3,7,8,9,33],[1,2,3,7,8],[1,2,3,7,8],[6]] 3=some (lS,[.t 6]):=by kernel_rfl
abbrev qG:Nat:=7
theorem BY:Tryz.prog.funcs[7]?=some Tryz.f7:=Tryz.func7
def ry:AC:=
 Q [.reg [bx 1 0,o1 2 (.alc [.nil 1,.nil 3,.nil 1])] [1,2],
 .reg [o1 3 (.alc [.nil 1,.nil 3,.nil 1])] [1,2,3],
 Q [.reg [mi 4 0] [1,2,3,4],
 .block 0 (.loop [1,2,3,4] (Q [Q [.reg [m 15 4,fa 16 1 1,l1 17 16,lq 18 17,bt 19 .lss 15 18,m 20 19,gt 20 (m 21 4),gt 20 (bi 22 .lss 21 5),pa 23 20 22] [1,2,3,4,23],
 C 23 (.skip) (.exit 0)],
 .block 1 (Q [.reg [fa 26 1 1,l1 27 26,m 28 4,ia 29 27 28 3,fa 30 29 0,l1 31 30,m 5 31] [1,2,3,4,5],
 .reg [m 32 5,ca 33 22 [32],m 6 33] [1,2,3,4,5,6],
 Q [.reg [m 34 6,nt' 35 34] [1,2,3,4,5,35],
 C 35 (Q [.reg [o1 36 (.lit 9 1 [.v (.str [97]),.v (.str [98]),.v (.str [112]),.v (.str [98,114]),.v (.str [115,116,121,108,101])]),m 7 36] [1,2,3,4,7],
 .reg [m 37 7,m 38 4,ia 39 37 38 1,l1 40 39,m 5 40] [1,2,3,4,5]]) (.skip)],
 .reg [la 42 3 3,m 43 5,ca 44 23 [42,43],m 41 44,ex 45 41 0,ex 46 41 1,o1 8 (.alc [.str [],.nil 1,.nil 5]),st 3 8 45,m 9 46] [1,2,3,4,5,9],
 .reg [m 47 9,nt' 48 47] [1,2,3,4,5,48],
 C 48 (.regD [fa 49 3 1,l1 50 49,m 51 5,fa 52 1 1,l1 53 52,m 54 4,ia 55 53 54 3,fa 56 55 2,l1 57 56,ca 58 24 [57],o1 59 (.bld [.str [],.nil 1,.nil 5] [(0,1,(.t 51)),(2,1,(.t 58))]),o1 60 (.lit 32 3 [.t 59]),o1 61 (.app (.t 50) (.t 60) 32 3 64),fa 62 3 1,st 1 62 61] [1,2,3,4]) (.skip)]),
 .reg [m 24 4,bi 25 .add 24 1,m 4 25] [1,2,3,4]]))],
 Q [.reg [mi 10 0] [1,2,3,10],
 .block 2 (.loop [1,2,3,10] (Q [Q [.reg [m 63 10,fa 64 3 1,l1 65 64,lq 66 65,bt 67 .lss 63 66] [1,2,3,10,67],
 C 67 (.skip) (.exit 2)],
 .block 3 (Q [.reg [fa 70 1 1,l1 71 70,m 72 10,ia 73 71 72 3,fa 74 73 1,l1 75 74,m 11 75] [1,2,3,10,11],
 .regD [fa 76 3 1,l1 77 76,m 78 10,la 79 3 3,fa 80 3 1,l1 81 80,m 82 10,ia 83 81 82 3,fa 84 83 0,l1 85 84,m 86 11,ca 87 25 [79,85,86],ia 88 77 78 3,fa 89 88 1,st 1 89 87] [1,2,3,10]]),
 .reg [m 68 10,bi 69 .add 68 1,m 10 69] [1,2,3,10]]))],
 .reg [la 90 3 3,fa 91 1 0,l1 92 91,o1 93 (.call 25 [.t 90,.v (.str []),.t 92]),fa 94 3 0,st 1 94 93] [1,2,3],
 Q [.reg [mi 12 0] [1,2,3,12],
 .block 4 (.loop [1,2,3,12] (Q [Q [.reg [m 95 12,fa 96 1 2,l1 97 96,lq 98 97,bt 99 .lss 95 98,m 100 99,gt 100 (m 101 12),gt 100 (bi 102 .lss 101 4),pa 103 100 102] [1,2,3,12,103],
 C 103 (.skip) (.exit 4)],
 .block 5 (Q [.reg [fa 106 1 2,l1 107 106,m 108 12,ia 109 107 108 1,l1 110 109,ca 111 22 [110],m 13 111] [1,2,3,12,13],
 .regD [fa 112 3 2,l1 113 112,fa 114 1 2,l1 115 114,m 116 12,ia 117 115 116 1,l1 118 117,ca 119 26 [113,118],m 14 119] [1,2,3,12,13,14],
 .reg [m 120 13,m 121 120,gt 121 (m 122 14),gt 121 (nt' 123 122),pa 124 121 123] [1,2,3,12,124],
 C 124 (.regD [fa 125 3 2,l1 126 125,fa 127 1 2,l1 128 127,m 129 12,ia 130 128 129 1,l1 131 130,o1 132 (.lit 9 1 [.t 131]),o1 133 (.app (.t 126) (.t 132) 9 1 16),fa 134 3 2,st 1 134 133] [1,2,3,12]) (.skip)]),
 .reg [m 104 12,bi 105 .add 104 1,m 12 105] [1,2,3,12]]))],
 .reg [la 135 3 3,st 3 2 135] [2],
 .ret]
theorem BE:am Tryz.prog Tryz.f7 [[1,2],[1,2,3],[1,2,3,4],[1,2,3,4],[1,2,3,4,23],[1,2,3,4,5],[1,2,3,4,5,6],[1,2,3,4,5,35],[1,2,3,4,7],[1,2,3,4,5],[1,2,3,4,5,9],[1,2,3,4,5,48],[0,0,1,0,0,8,0,56,120,248,504,1020,2044,4095,8191,16383],[0,1,2,3,4,5,6,7,8,9,10,11,12,13,14],[1,2,3,4],[1,2,3,4],[1,2,3,10],[1,2,3,10],[1,2,3,10,67],[1,2,3,10,11],[0,0,1,0,0,0,16,0,112,240,496,0,2040,4095,8191,16383],[0,1,2,3,4,5,6,7,8,9,10,11,12,13,14],[1,2,3,10],[1,2,3,10],[1,2,3],[1,2,3,12],[1,2,3,12],[1,2,3,12,103],[1,2,3,12,13],[0,0,1,0,4,0,28,60,127,255],[0,1,2,3,4,5,6,7,8],[1,2,3,12,13,14],[1,2,3,12,124],[0,0,1,0,4,0,28,60,124,255,511,1023],[0,1,2,3,4,5,6,7,8,9,10],[1,2,3,12],[1,2,3,12],[2]] 1=some (ry,[.c 2 3 true]):=by kernel_rfl
abbrev DD:Nat:=85
theorem Eg:Tryz.prog.funcs[85]?=some Tryz.f85:=Tryz.func85
def tA:AC:=
 Q [.reg [mv 2 (.str [])] [0],
 Q [.reg [m 3 0,ls 4 3,bi 5 .gtr 4 30] [0,5],
 C 5 (Q [.reg [m 6 0,o1 7 (.sls (.t 6) none (some (.v (.int .i64 30)))),m 2 7] [2],
 .ret]) (.skip)],
 .reg [m 8 0,m 2 8] [2],
 .ret]
theorem D2:am Tryz.prog Tryz.f85 [[0],[0,5],[2],[2]] 1=some (tA,[.t 2]):=by kernel_rfl
abbrev jw:Nat:=56
theorem Ej:Tryz.prog.funcs[56]?=some Tryz.f56:=Tryz.func56
def tC:AC:=
 Q [.reg [mv 4 (.nil 5),mi 5 0] [0,1],
 .reg [mv 6 (.nil 5)] [0,1,6],
 Q [.reg [mi 7 0] [0,1,6,7],
 .block 0 (.loop [0,1,6,7] (Q [Q [.reg [m 11 7,m 12 0,lq 13 12,bt 14 .lss 11 13,m 15 14,gt 15 (m 16 1),gt 15 (bi 17 .gtr 16 0),pa 18 15 17] [0,1,6,7,18],
 C 18 (.skip) (.exit 0)],
 .block 1 (Q [.reg [m 21 0,m 22 7,ia 23 21 22 5,la 24 23 5,o1 8 (.alc [.int .i64 0,.str [],.nil 2,.str [],.nil 5]),st 5 8 24] [0,1,6,7,8],
 .reg [m 25 1,bi 26 .sub 25 1,m 1 26] [0,1,6,7,8],
 .reg [fa 27 8 1,l1 28 27,ca 29 85 [28],fa 30 8 1,st 1 30 29] [0,1,6,7,8],
 .reg [fa 31 8 3,l1 32 31,ca 33 85 [32],fa 34 8 3,st 1 34 33] [0,1,6,7,8],
 .reg [fa 36 8 4,l1 37 36,m 38 1,ca 39 56 [37,38],m 35 39,ex 40 35 0,ex 41 35 1,fa 42 8 4,st 1 42 40,m 1 41] [0,1,6,7,8],
 .reg [mv 9 (.nil 2)] [0,1,6,7,8,9],
 Q [.reg [mi 10 0] [0,1,6,7,8,9,10],
 .block 2 (.loop [0,1,6,7,8,9,10] (Q [Q [.reg [m 43 10,fa 44 8 2,l1 45 44,lq 46 45,bt 47 .lss 43 46,m 48 47,gt 48 (m 49 10),gt 48 (bi 50 .lss 49 5),pa 51 48 50] [0,1,6,7,8,9,10,51],
 C 51 (.skip) (.exit 2)],
 .block 3 (.regD [m 54 9,fa 55 8 2,l1 56 55,m 57 10,ia 58 56 57 2,fa 59 58 0,l1 60 59,ca 61 85 [60],fa 62 8 2,l1 63 62,m 64 10,ia 65 63 64 2,fa 66 65 1,l1 67 66,ca 68 85 [67],o1 69 (.bld [.str [],.str []] [(0,1,(.t 61)),(1,1,(.t 68))]),o1 70 (.lit 59 2 [.t 69]),o1 71 (.app (.t 54) (.t 70) 59 2 32),m 9 71] [0,1,6,7,8,9,10]),
 .reg [m 52 10,bi 53 .add 52 1,m 10 53] [0,1,6,7,8,9,10]]))],
 .reg [m 72 9,fa 73 8 2,st 1 73 72] [0,1,6,7,8],
 .reg [m 74 6,la 75 8 5,o1 76 (.lit 48 5 [.t 75]),o1 77 (.app (.t 74) (.t 76) 48 5 88),m 6 77] [0,1,6,7]]),
 .reg [m 19 7,bi 20 .add 19 1,m 7 20] [0,1,6,7]]))],
 .reg [m 78 6,m 79 1,m 4 78,m 5 79] [4,5],
 .ret]
theorem D5:am Tryz.prog Tryz.f56 [[0,1],[0,1,6],[0,1,6,7],[0,1,6,7],[0,1,6,7,18],[0,1,6,7,8],[0,1,6,7,8],[0,1,6,7,8],[0,1,6,7,8],[0,1,6,7,8],[0,1,6,7,8,9],[0,1,6,7,8,9,10],[0,1,6,7,8,9,10],[0,1,6,7,8,9,10,51],[0,0,0,2,0,14,30,62,126,0,256,0,1792,3840,7936,16382,32766,65534,131071,262143],[0,1,2,3,4,5,6,7,8,9,10,11,12,13,14,15,16,17,18],[0,1,6,7,8,9,10],[0,1,6,7,8,9,10],[0,1,6,7,8],[0,1,6,7],[0,1,6,7],[4,5]] 2=some (tC,[.t 4,.t 5]):=by kernel_rfl
abbrev DF:Nat:=31
theorem Ei:Tryz.prog.funcs[31]?=some Tryz.f31:=Tryz.func31
def tB:AC:=
 Q [.reg [mv 2 (.nil 5)] [0],
 .reg [m 6 0,o1 7 (.call 56 [.t 6,.v (.int .i64 40)]),m 5 7,ex 8 5 0,ex 9 5 1,m 3 8,m 4 9] [3],
 .reg [m 10 3,m 2 10] [2],
 .ret]
theorem D4:am Tryz.prog Tryz.f31 [[0],[3],[2]] 1=some (tB,[.t 2]):=by kernel_rfl
abbrev tQ:Nat:=125
theorem ub:Tryz.prog.funcs[125]?=some Tryz.f125:=Tryz.func125
def lU:AC:=
 Q [.reg [mb 2 false] [0],
 .reg [m 3 0,bu 4 .geq 3 128,m 5 4,gt 5 (m 6 0),gt 5 (bu 7 .lss 6 192),pa 8 5 7,m 2 8] [2],
 .ret]
theorem tX:am Tryz.prog Tryz.f125 [[0],[2]] 1=some (lU,[.t 2]):=by kernel_rfl
abbrev DG:Nat:=105
theorem Ek:Tryz.prog.funcs[105]?=some Tryz.f105:=Tryz.func105
def tD:AC:=
 Q [.reg [mv 2 (.int .i32 0),mi 3 0] [0],
 .reg [m 10 0,o1 11 (.ia (.t 10) (.v (.int .i64 0)) 1),l1 12 11,o1 13 (.cii .i64 (.t 12)),m 4 13] [0,4],
 Q [.reg [m 14 4,bi 15 .lss 14 128] [0,4,15],
 C 15 (Q [.reg [m 16 4,o1 17 (.cii .i32 (.t 16)),m 2 17,mi 3 1] [2,3],
 .ret]) (.skip)],
 .reg [mi 5 0] [0,4],
 .reg [mi 6 0] [0,4],
 .reg [mi 7 0] [0,4],
 Q [.reg [m 18 4,bi 19 .geq 18 192,m 20 19,gt 20 (m 21 4),gt 20 (bi 22 .lss 21 224),pa 23 20 22] [0,4,23],
 C 23 (Q [.reg [mi 5 2] [0,4,5],
 .reg [m 24 4,bi 25 .sub 24 192,m 6 25] [0,5,6],
 .reg [mi 7 128] [0,5,6,7]]) (Q [.reg [m 26 4,bi 27 .geq 26 224,m 28 27,gt 28 (m 29 4),gt 28 (bi 30 .lss 29 240),pa 31 28 30] [0,4,31],
 C 31 (Q [.reg [mi 5 3] [0,4,5],
 .reg [m 32 4,bi 33 .sub 32 224,m 6 33] [0,5,6],
 .reg [mi 7 2048] [0,5,6,7]]) (Q [.reg [m 34 4,bi 35 .geq 34 240,m 36 35,gt 36 (m 37 4),gt 36 (bi 38 .lss 37 248),pa 39 36 38] [0,4,39],
 C 39 (Q [.reg [mi 5 4] [0,4,5],
 .reg [m 40 4,bi 41 .sub 40 240,m 6 41] [0,5,6],
 .reg [mi 7 65536] [0,5,6,7]]) (Q [.reg [mv 2 (.int .i32 65533),mi 3 1] [2,3],
 .ret])])])],
 Q [.reg [m 42 0,lq 43 42,m 44 5,bt 45 .lss 43 44] [0,5,6,7,45],
 C 45 (Q [.reg [mv 2 (.int .i32 65533),mi 3 1] [2,3],
 .ret]) (.skip)],
 Q [.reg [mi 8 1] [0,5,6,7,8],
 .block 0 (.loop [0,5,6,7,8] (Q [Q [.reg [m 46 8,m 47 5,bt 48 .lss 46 47] [0,5,6,7,8,48],
 C 48 (.skip) (.exit 0)],
 .block 1 (Q [.reg [m 51 0,m 52 8,ia 53 51 52 1,l1 54 53,ca 55 125 [54],m 9 55] [0,5,6,7,8,9],
 Q [.reg [m 56 9,nt' 57 56] [0,5,6,7,8,57],
 C 57 (Q [.reg [mv 2 (.int .i32 65533),mi 3 1] [2,3],
 .ret]) (.skip)],
 .reg [m 58 6,o1 59 (.bin .mul (.v (.int .i64 64)) (.t 58)),m 60 0,m 61 8,ia 62 60 61 1,l1 63 62,o1 64 (.cii .i64 (.t 63)),bt 65 .add 59 64,bi 66 .sub 65 128,m 6 66] [0,5,6,7,8]]),
 .reg [m 49 8,bi 50 .add 49 1,m 8 50] [0,5,6,7,8]]))],
 Q [.reg [m 67 6,m 68 7,bt 69 .lss 67 68,m 70 69,gf 70 (m 71 6),gf 70 (bi 72 .gtr 71 1114111),po 73 70 72,m 74 73,gf 74 (m 75 6),gf 74 (bi 76 .geq 75 55296),gf 74 (m 77 76),gt 77 (m 78 6),gt 77 (bi 79 .leq 78 57343),gf 74 (pa 80 77 79),po 81 74 80] [5,6,81],
 C 81 (Q [.reg [mv 2 (.int .i32 65533),mi 3 1] [2,3],
 .ret]) (.skip)],
 .reg [m 82 6,o1 83 (.cii .i32 (.t 82)),m 84 5,m 2 83,m 3 84] [2,3],
 .ret]
theorem D6:am Tryz.prog Tryz.f105 [[0],[0,4],[0,4,15],[2,3],[0,4],[0,4],[0,4],[0,4,23],[0,4,5],[0,5,6],[0,5,6,7],[0,4,31],[0,4,5],[0,5,6],[0,5,6,7],[0,4,39],[0,4,5],[0,5,6],[0,5,6,7],[2,3],[0,5,6,7,45],[2,3],[0,5,6,7,8],[0,5,6,7,8],[0,5,6,7,8,48],[0,5,6,7,8,9],[0,5,6,7,8,57],[2,3],[0,5,6,7,8],[0,5,6,7,8],[5,6,81],[2,3],[2,3]] 1=some (tD,[.t 2,.t 3]):=by kernel_rfl
abbrev xC:Nat:=82
theorem yB:Tryz.prog.funcs[82]?=some Tryz.f82:=Tryz.func82
def pc:AC:=
 Q [.reg [mv 2 (.nil 1)] [0],
 .reg [mv 3 (.nil 1)] [0,3],
 Q [.reg [mi 4 0] [0,3,4],
 .block 0 (.loop [0,3,4] (Q [Q [.reg [m 7 4,m 8 0,lq 9 8,bt 10 .lss 7 9] [0,3,4,10],
 C 10 (.skip) (.exit 0)],
 .block 1 (Q [.reg [m 12 0,m 13 4,o1 14 (.slq (.t 12) (some (.t 13)) none 1),ca 15 105 [14],m 11 15,ex 16 11 0,ex 17 11 1,m 5 16,m 6 17] [0,3,4,5,6],
 .reg [m 18 3,m 19 5,o1 20 (.lit 21 1 [.t 19]),o1 21 (.app (.t 18) (.t 20) 21 1 4),m 3 21] [0,3,4,6],
 .reg [m 22 4,m 23 6,bt 24 .add 22 23,m 4 24] [0,3,4]])]))],
 .reg [m 25 3,m 2 25] [2],
 .ret]
theorem x7:am Tryz.prog Tryz.f82 [[0],[0,3],[0,3,4],[0,3,4],[0,3,4,10],[0,3,4,5,6],[0,3,4,6],[0,3,4],[2]] 1=some (pc,[.t 2]):=by kernel_rfl
abbrev xB:Nat:=106
theorem yA:Tryz.prog.funcs[106]?=some Tryz.f106:=Tryz.func106
def pb:AC:=
 Q [.reg [mv 2 (.nil 1)] [0],
 .reg [m 4 0,o1 5 (.cii .i64 (.t 4)),m 3 5] [3],
 Q [.reg [m 6 3,bi 7 .lss 6 0,m 8 7,gf 8 (m 9 3),gf 8 (bi 10 .gtr 9 1114111),po 11 8 10,m 12 11,gf 12 (m 13 3),gf 12 (bi 14 .geq 13 55296),gf 12 (m 15 14),gt 15 (m 16 3),gt 15 (bi 17 .leq 16 57343),gf 12 (pa 18 15 17),po 19 12 18] [3,19],
 C 19 (.reg [mi 3 65533] [3]) (.skip)],
 Q [.reg [m 20 3,bi 21 .lss 20 128] [3,21],
 C 21 (Q [.reg [m 22 3,o1 23 (.cii .u8 (.t 22)),o1 24 (.lit 5 1 [.t 23]),m 2 24] [2],
 .ret]) (.skip)],
 Q [.reg [m 25 3,bi 26 .lss 25 2048] [3,26],
 C 26 (Q [.reg [m 27 3,bi 28 .quo 27 64,o1 29 (.bin .add (.v (.int .i64 192)) (.t 28)),o1 30 (.cii .u8 (.t 29)),m 31 3,bi 32 .rem 31 64,o1 33 (.bin .add (.v (.int .i64 128)) (.t 32)),o1 34 (.cii .u8 (.t 33)),o1 35 (.lit 5 1 [.t 30,.t 34]),m 2 35] [2],
 .ret]) (.skip)],
 Q [.reg [m 36 3,bi 37 .lss 36 65536] [3,37],
 C 37 (Q [.reg [m 38 3,bi 39 .quo 38 4096,o1 40 (.bin .add (.v (.int .i64 224)) (.t 39)),o1 41 (.cii .u8 (.t 40)),m 42 3,bi 43 .quo 42 64,bi 44 .rem 43 64,o1 45 (.bin .add (.v (.int .i64 128)) (.t 44)),o1 46 (.cii .u8 (.t 45)),m 47 3,bi 48 .rem 47 64,o1 49 (.bin .add (.v (.int .i64 128)) (.t 48)),o1 50 (.cii .u8 (.t 49)),o1 51 (.lit 5 1 [.t 41,.t 46,.t 50]),m 2 51] [2],
 .ret]) (.skip)],
 .reg [m 52 3,bi 53 .quo 52 262144,o1 54 (.bin .add (.v (.int .i64 240)) (.t 53)),o1 55 (.cii .u8 (.t 54)),m 56 3,bi 57 .quo 56 4096,bi 58 .rem 57 64,o1 59 (.bin .add (.v (.int .i64 128)) (.t 58)),o1 60 (.cii .u8 (.t 59)),m 61 3,bi 62 .quo 61 64,bi 63 .rem 62 64,o1 64 (.bin .add (.v (.int .i64 128)) (.t 63)),o1 65 (.cii .u8 (.t 64)),m 66 3,bi 67 .rem 66 64,o1 68 (.bin .add (.v (.int .i64 128)) (.t 67)),o1 69 (.cii .u8 (.t 68)),o1 70 (.lit 5 1 [.t 55,.t 60,.t 65,.t 69]),m 2 70] [2],
 .ret]
theorem x6:am Tryz.prog Tryz.f106 [[0],[3],[3,19],[3],[3,21],[2],[3,26],[2],[3,37],[2],[2]] 1=some (pb,[.t 2]):=by kernel_rfl
abbrev Bi:Nat:=83
theorem B9:Tryz.prog.funcs[83]?=some Tryz.f83:=Tryz.func83
def rF:AC:=
 Q [.reg [mv 2 (.str [])] [0],
 .reg [mv 3 (.nil 1)] [0,3],
 Q [.reg [mi 4 0] [0,3,4],
 .block 0 (.loop [0,3,4] (Q [Q [.reg [m 5 4,m 6 0,lq 7 6,bt 8 .lss 5 7] [0,3,4,8],
 C 8 (.skip) (.exit 0)],
 .block 1 (.reg [m 11 3,m 12 0,m 13 4,ia 14 12 13 1,l1 15 14,ca 16 106 [15],o1 17 (.app (.t 11) (.t 16) 5 1 1),m 3 17] [0,3,4]),
 .reg [m 9 4,bi 10 .add 9 1,m 4 10] [0,3,4]]))],
 .reg [m 18 3,o1 19 (.b2s (.t 18)),m 2 19] [2],
 .ret]
theorem BO:am Tryz.prog Tryz.f83 [[0],[0,3],[0,3,4],[0,3,4],[0,3,4,8],[0,3,4],[0,3,4],[2]] 1=some (rF,[.t 2]):=by kernel_rfl
abbrev xD:Nat:=52
theorem yC:Tryz.prog.funcs[52]?=some Tryz.f52:=Tryz.func52
def pd:AC:=
 Q [.reg [mv 2 (.str [])] [0],
 .reg [m 7 0,ca 8 82 [7],m 3 8] [3],
 .reg [mv 4 (.nil 1)] [3,4],
 Q [.reg [mi 5 0] [3,4,5],
 .block 0 (.loop [3,4,5] (Q [Q [.reg [m 9 5,m 10 3,lq 11 10,bt 12 .lss 9 11] [3,4,5,12],
 C 12 (.skip) (.exit 0)],
 .block 1 (Q [.reg [m 15 3,m 16 5,ia 17 15 16 1,l1 18 17,m 6 18] [3,4,5,6],
 Q [.reg [m 19 6,o1 20 (.bin .eql (.t 19) (.v (.int .i32 10))),m 21 20,gt 21 (m 22 5),gt 21 (bi 23 .gtr 22 0),pa 24 21 23,m 25 24,gt 25 (m 26 3),gt 25 (m 27 5),gt 25 (bi 28 .sub 27 1),gt 25 (ia 29 26 28 1),gt 25 (l1 30 29),gt 25 (o1 31 (.bin .eql (.t 30) (.v (.int .i32 13)))),pa 32 25 31] [3,4,5,6,32],
 C 32 (.exit 1) (.skip)],
 Q [.reg [m 33 6,o1 34 (.bin .eql (.t 33) (.v (.int .i32 13)))] [3,4,5,6,34],
 C 34 (.reg [mv 6 (.int .i32 10)] [3,4,5,6]) (.skip)],
 Q [.reg [m 35 6,o1 36 (.bin .eql (.t 35) (.v (.int .i32 0)))] [3,4,5,6,36],
 C 36 (.reg [mv 6 (.int .i32 65533)] [3,4,5,6]) (.skip)],
 .reg [m 37 4,m 38 6,o1 39 (.lit 21 1 [.t 38]),o1 40 (.app (.t 37) (.t 39) 21 1 4),m 4 40] [3,4,5]]),
 .reg [m 13 5,bi 14 .add 13 1,m 5 14] [3,4,5]]))],
 .reg [m 41 4,ca 42 83 [41],m 2 42] [2],
 .ret]
theorem x8:am Tryz.prog Tryz.f52 [[0],[3],[3,4],[3,4,5],[3,4,5],[3,4,5,12],[3,4,5,6],[3,4,5,6,32],[3,4,5,6,34],[3,4,5,6],[3,4,5,6,36],[3,4,5,6],[3,4,5],[3,4,5],[2]] 1=some (pd,[.t 2]):=by kernel_rfl
abbrev Bf:Nat:=53
theorem B5:Tryz.prog.funcs[53]?=some Tryz.f53:=Tryz.func53
def rC:AC:=
 Q [.reg [mv 2 (.str [])] [0],
 .reg [o1 7 (.lit 9 1 [.v (.str [97]),.v (.str [98]),.v (.str [112]),.v (.str [117,108]),.v (.str [108,105]),.v (.str [98,114]),.v (.str [105,109,103]),.v (.str [100,105,118]),.v (.str [115,99,114,105,112,116]),.v (.str [120,45,121])]),m 3 7] [0,3],
 .reg [mi 4 0] [0,3,4],
 Q [.reg [mi 5 0] [0,3,4,5],
 .block 0 (.loop [0,3,4,5] (Q [Q [.reg [m 8 5,m 9 0,ls 10 9,bt 11 .lss 8 10] [0,3,4,5,11],
 C 11 (.skip) (.exit 0)],
 .block 1 (.reg [m 14 4,m 15 0,m 16 5,ix 17 15 16,o1 18 (.cii .i64 (.t 17)),bt 19 .add 14 18,m 4 19] [0,3,4,5]),
 .reg [m 12 5,bi 13 .add 12 1,m 5 13] [0,3,4,5]]))],
 .reg [m 20 0,ca 21 39 [20],m 6 21] [0,3,4,6],
 Q [.reg [m 22 6] [0,3,4,22],
 C 22 (Q [.reg [m 23 0,m 2 23] [2],
 .ret]) (.skip)],
 .reg [m 24 3,m 25 4,m 26 3,lq 27 26,bt 28 .rem 25 27,ia 29 24 28 1,l1 30 29,m 2 30] [2],
 .ret]
theorem BK:am Tryz.prog Tryz.f53 [[0],[0,3],[0,3,4],[0,3,4,5],[0,3,4,5],[0,3,4,5,11],[0,3,4,5],[0,3,4,5],[0,3,4,6],[0,3,4,22],[2],[2]] 1=some (rC,[.t 2]):=by kernel_rfl
abbrev FV:Nat:=66
theorem Gj:Tryz.prog.funcs[66]?=some Tryz.f66:=Tryz.func66
def wZ:AC:=
 Q [.reg [mb 2 false] [0],
 .reg [m 3 0,o1 4 (.s2b (.t 3)),ca 5 52 [4],m 6 0,bt 7 .eql 5 6,m 2 7] [2],
 .ret]
theorem Gb:am Tryz.prog Tryz.f66 [[0],[2]] 1=some (wZ,[.t 2]):=by kernel_rfl
abbrev pL:Nat:=84
theorem pV:Tryz.prog.funcs[84]?=some Tryz.f84:=Tryz.func84
def i7:AC:=
 Q [.reg [mb 2 false] [0],
 .reg [m 6 0,ca 7 66 [6],m 3 7] [0,3],
 Q [.reg [mi 4 0] [0,3,4],
 .block 0 (.loop [0,3,4] (Q [Q [.reg [m 8 4,m 9 0,ls 10 9,bt 11 .lss 8 10] [0,3,4,11],
 C 11 (.skip) (.exit 0)],
 .block 1 (Q [.reg [m 14 0,m 15 4,ix 16 14 15,m 5 16] [0,3,4,5],
 .reg [m 17 5,bu 18 .geq 17 65,m 19 18,gt 19 (m 20 5),gt 19 (bu 21 .leq 20 90),pa 22 19 21,m 23 22,gf 23 (m 24 5),gf 23 (bu 25 .eql 24 9),po 26 23 25,m 27 26,gf 27 (m 28 5),gf 27 (bu 29 .eql 28 10),po 30 27 29,m 31 30,gf 31 (m 32 5),gf 31 (bu 33 .eql 32 12),po 34 31 33,m 35 34,gf 35 (m 36 5),gf 35 (bu 37 .eql 36 32),po 38 35 37,m 39 38,gf 39 (m 40 5),gf 39 (bu 41 .eql 40 47),po 42 39 41,m 43 42,gf 43 (m 44 5),gf 43 (bu 45 .eql 44 62),po 46 43 45,m 47 46,gf 47 (m 48 5),gf 47 (bu 49 .eql 48 61),po 50 47 49] [0,3,4,50],
 C 50 (Q [.reg [mb 2 false] [2],
 .ret]) (.skip)]),
 .reg [m 12 4,bi 13 .add 12 1,m 4 13] [0,3,4]]))],
 .reg [m 51 3,m 52 51,gt 52 (m 53 0),gt 52 (ls 54 53),gt 52 (bi 55 .gtr 54 0),pa 56 52 55,m 2 56] [2],
 .ret]
theorem pQ:am Tryz.prog Tryz.f84 [[0],[0,3],[0,3,4],[0,3,4],[0,3,4,11],[0,3,4,5],[0,3,4,50],[2],[0,3,4],[2]] 1=some (i7,[.t 2]):=by kernel_rfl
abbrev qH:Nat:=54
theorem qU:Tryz.prog.funcs[54]?=some Tryz.f54:=Tryz.func54
def jE:AC:=
 Q [.reg [mv 2 (.str [])] [0],
 .reg [m 5 0,ca 6 84 [5],m 3 6] [0,3],
 Q [.reg [m 7 3] [0,7],
 C 7 (Q [.reg [m 8 0,m 2 8] [2],
 .ret]) (.skip)],
 .reg [o1 9 (.lit 9 1 [.v (.str [105,100]),.v (.str [104,114,101,102]),.v (.str [116,105,116,108,101]),.v (.str [100,97,116,97,45,97]),.v (.str [111,110,99,108,105,99,107])]),m 4 9] [0,4],
 .reg [m 10 4,m 11 0,ls 12 11,m 13 4,lq 14 13,bt 15 .rem 12 14,ia 16 10 15 1,l1 17 16,m 2 17] [2],
 .ret]
theorem qR:am Tryz.prog Tryz.f54 [[0],[0,3],[0,7],[2],[0,4],[2]] 1=some (jE,[.t 2]):=by kernel_rfl
abbrev xy:Nat:=55
theorem yx:Tryz.prog.funcs[55]?=some Tryz.f55:=Tryz.func55
def oZ:AC:=
 Q [.reg [bx 2 0,mv 4 (.str []),mb 5 false] [1,2],
 Q [.reg [mi 6 0] [1,2,6],
 .block 0 (.loop [1,2,6] (Q [Q [.reg [m 7 6,fa 8 2 2,l1 9 8,lq 10 9,bt 11 .lss 7 10] [1,2,6,11],
 C 11 (.skip) (.exit 0)],
 .block 1 (Q [.reg [fa 14 2 2,l1 15 14,m 16 6,ia 17 15 16 2,fa 18 17 0,l1 19 18,m 20 1,bt 21 .eql 19 20] [1,2,6,21],
 C 21 (Q [.reg [fa 22 2 2,l1 23 22,m 24 6,ia 25 23 24 2,fa 26 25 1,l1 27 26,m 4 27,mb 5 true] [4,5],
 .ret]) (.skip)]),
 .reg [m 12 6,bi 13 .add 12 1,m 6 13] [1,2,6]]))],
 .reg [mv 4 (.str []),mb 5 false] [4,5],
 .ret]
theorem xZ:am Tryz.prog Tryz.f55 [[1,2],[1,2,6],[1,2,6],[1,2,6,11],[1,2,6,21],[4,5],[1,2,6],[4,5]] 2=some (oZ,[.t 4,.t 5]):=by kernel_rfl
abbrev xA:Nat:=45
theorem yz:Tryz.prog.funcs[45]?=some Tryz.f45:=Tryz.func45
def o9:AC:=
 Q [.reg [mv 2 (.nil 5)] [0],
 .reg [mv 3 (.nil 5)] [0,3],
 Q [.reg [mi 4 0] [0,3,4],
 .block 0 (.loop [0,3,4] (Q [Q [.reg [m 6 4,m 7 0,lq 8 7,bt 9 .lss 6 8] [0,3,4,9],
 C 9 (.skip) (.exit 0)],
 .block 1 (Q [.reg [m 12 3,lq 13 12,bi 14 .sub 13 1,m 5 14] [0,3,4,5],
 Q [.reg [m 15 0,m 16 4,ia 17 15 16 5,fa 18 17 0,l1 19 18,bi 20 .eql 19 2,m 21 20,gt 21 (m 22 0),gt 21 (m 23 4),gt 21 (ia 24 22 23 5),gt 21 (fa 25 24 3),gt 21 (l1 26 25),gt 21 (bs 27 .eql 26 []),pa 28 21 27] [0,3,4,5,28],
 C 28 (.exit 1) (.skip)],
 .reg [m 29 0,m 30 4,ia 31 29 30 5,fa 32 31 0,l1 33 32,bi 34 .eql 33 2,m 35 34,gt 35 (m 36 5),gt 35 (bi 37 .geq 36 0),pa 38 35 37,m 39 38,gt 39 (m 40 3),gt 39 (m 41 5),gt 39 (ia 42 40 41 5),gt 39 (fa 43 42 0),gt 39 (l1 44 43),gt 39 (bi 45 .eql 44 2),pa 46 39 45] [0,3,4,5,46],
 C 46 (.regD [m 47 3,m 48 5,m 49 3,m 50 5,ia 51 49 50 5,fa 52 51 3,l1 53 52,m 54 0,m 55 4,ia 56 54 55 5,fa 57 56 3,l1 58 57,bt 59 .add 53 58,ia 60 47 48 5,fa 61 60 3,st 1 61 59] [0,3,4]) (.reg [m 62 3,m 63 0,m 64 4,ia 65 63 64 5,la 66 65 5,o1 67 (.lit 48 5 [.t 66]),o1 68 (.app (.t 62) (.t 67) 48 5 88),m 3 68] [0,3,4])]),
 .reg [m 10 4,bi 11 .add 10 1,m 4 11] [0,3,4]]))],
 .reg [m 69 3,m 2 69] [2],
 .ret]
theorem x5:am Tryz.prog Tryz.f45 [[0],[0,3],[0,3,4],[0,3,4],[0,3,4,9],[0,3,4,5],[0,3,4,5,28],[0,3,4,5,46],[0,0,0,0,0,12,28,60,0,0,384,896,1920,4092,8191,16383,32767],[0,1,2,3,4,5,6,7,8,9,10,11,12,13,14,15],[0,3,4],[0,3,4],[0,3,4],[2]] 1=some (o9,[.t 2]):=by kernel_rfl
abbrev il:Nat:=30
theorem B6:Tryz.prog.funcs[30]?=some Tryz.f30:=Tryz.func30
def rD:AC:=
 Q [.reg [mv 2 (.nil 5)] [0],
 .reg [mv 3 (.nil 5)] [0,3],
 Q [.reg [mi 4 0] [0,3,4],
 .block 0 (.loop [0,3,4] (Q [Q [.reg [m 10 4,m 11 0,lq 12 11,bt 13 .lss 10 12] [0,3,4,13],
 C 13 (.skip) (.exit 0)],
 .block 1 (Q [.reg [m 16 0,m 17 4,ia 18 16 17 5,fa 19 18 0,l1 20 19,o1 21 (.bld [.int .i64 0,.str [],.nil 2,.str [],.nil 5] [(0,1,(.t 20))]),o1 5 (.alc [.int .i64 0,.str [],.nil 2,.str [],.nil 5]),st 5 5 21] [0,3,4,5],
 Q [.reg [fa 22 5 0,l1 23 22,bi 24 .lss 23 1,m 25 24,gf 25 (fa 26 5 0),gf 25 (l1 27 26),gf 25 (bi 28 .gtr 27 3),po 29 25 28] [0,3,4,5,29],
 C 29 (.reg [fa 30 5 0,o0 (.st 1 (.t 30) (.v (.int .i64 1)))] [0,3,4,5]) (.skip)],
 Q [.reg [fa 31 5 0,l1 32 31,bi 33 .neq 32 1] [0,3,4,5,33],
 C 33 (Q [.reg [m 34 0,m 35 4,ia 36 34 35 5,fa 37 36 3,l1 38 37,o1 39 (.s2b (.t 38)),ca 40 52 [39],fa 41 5 3,st 1 41 40] [0,3,4,5],
 .reg [m 42 3,la 43 5 5,o1 44 (.lit 48 5 [.t 43]),o1 45 (.app (.t 42) (.t 44) 48 5 88),m 3 45] [0,3,4],
 .exit 1]) (.skip)],
 .reg [m 46 0,m 47 4,ia 48 46 47 5,fa 49 48 1,l1 50 49,ca 51 53 [50],fa 52 5 1,st 1 52 51] [0,3,4,5],
 Q [.reg [mi 6 0] [0,3,4,5,6],
 .block 2 (.loop [0,3,4,5,6] (Q [Q [.reg [m 53 6,m 54 0,m 55 4,ia 56 54 55 5,fa 57 56 2,l1 58 57,lq 59 58,bt 60 .lss 53 59] [0,3,4,5,6,60],
 C 60 (.skip) (.exit 2)],
 .block 3 (Q [.regD [m 63 0,m 64 4,ia 65 63 64 5,fa 66 65 2,l1 67 66,m 68 6,ia 69 67 68 2,fa 70 69 0,l1 71 70,ca 72 54 [71],m 73 0,m 74 4,ia 75 73 74 5,fa 76 75 2,l1 77 76,m 78 6,ia 79 77 78 2,fa 80 79 1,l1 81 80,o1 82 (.s2b (.t 81)),ca 83 52 [82],o1 84 (.bld [.str [],.str []] [(0,1,(.t 72)),(1,1,(.t 83))]),o1 7 (.alc [.str [],.str []]),st 2 7 84] [0,3,4,5,6,7],
 .reg [la 86 5 5,fa 87 7 0,l1 88 87,ca 89 55 [86,88],m 85 89,ex 90 85 0,ex 91 85 1,m 8 90,m 9 91] [0,3,4,5,6,7,9],
 .reg [m 92 9,nt' 93 92] [0,3,4,5,6,7,93],
 C 93 (.reg [fa 94 5 2,l1 95 94,la 96 7 2,o1 97 (.lit 59 2 [.t 96]),o1 98 (.app (.t 95) (.t 97) 59 2 32),fa 99 5 2,st 1 99 98] [0,3,4,5,6]) (.skip)]),
 .reg [m 61 6,bi 62 .add 61 1,m 6 62] [0,3,4,5,6]]))],
 .reg [m 100 0,m 101 4,ia 102 100 101 5,fa 103 102 4,l1 104 103,ca 105 30 [104],fa 106 5 4,st 1 106 105] [0,3,4,5],
 .reg [m 107 3,la 108 5 5,o1 109 (.lit 48 5 [.t 108]),o1 110 (.app (.t 107) (.t 109) 48 5 88),m 3 110] [0,3,4]]),
 .reg [m 14 4,bi 15 .add 14 1,m 4 15] [0,3,4]]))],
 .reg [m 111 3,ca 112 45 [111],m 2 112] [2],
 .ret]
theorem BL:am Tryz.prog Tryz.f30 [[0],[0,3],[0,3,4],[0,3,4],[0,3,4,13],[0,3,4,5],[0,3,4,5,29],[0,3,4,5],[0,3,4,5,33],[0,3,4,5],[0,3,4],[0,3,4,5],[0,3,4,5,6],[0,3,4,5,6],[0,3,4,5,6,60],[0,0,0,3,7,15,0,63,127,255,511,0,0,3072,7168,15360,0,64512,130048,261120,523264,1048575,2097151,0,8388607],[0,1,2,3,4,5,6,7,8,9,10,11,12,13,14,15,16,17,18,19,20,21,22,23],[0,3,4,5,6,7],[0,3,4,5,6,7,9],[0,3,4,5,6,7,93],[0,3,4,5,6],[0,3,4,5,6],[0,3,4,5],[0,3,4],[0,3,4],[2]] 1=some (rD,[.t 2]):=by kernel_rfl
abbrev Bh:Nat:=11
theorem B8:Tryz.prog.funcs[11]?=some Tryz.f11:=Tryz.func11
def rE:AC:=
 Q [.reg [mv 2 (.nil 5)] [0],
 .reg [m 3 0,ca 4 31 [3],ca 5 30 [4],m 2 5] [2],
 .ret]
theorem BN:am Tryz.prog Tryz.f11 [[0],[2]] 1=some (rE,[.t 2]):=by kernel_rfl
abbrev DC:Nat:=43
theorem Ef:Tryz.prog.funcs[43]?=some Tryz.f43:=Tryz.func43
def tz:AC:=
 Q [.reg [mb 4 false] [0,1],
 Q [.reg [mi 5 0] [0,1,5],
 .block 0 (.loop [0,1,5] (Q [Q [.reg [m 6 5,m 7 1,ls 8 7,bt 9 .add 6 8,m 10 0,ls 11 10,bt 12 .leq 9 11] [0,1,5,12],
 C 12 (.skip) (.exit 0)],
 .block 1 (Q [.reg [m 15 0,m 16 5,m 17 5,m 18 1,ls 19 18,bt 20 .add 17 19,o1 21 (.sls (.t 15) (some (.t 16)) (some (.t 20))),m 22 1,bt 23 .eql 21 22] [0,1,5,23],
 C 23 (Q [.reg [mb 4 true] [4],
 .ret]) (.skip)]),
 .reg [m 13 5,bi 14 .add 13 1,m 5 14] [0,1,5]]))],
 .reg [mb 4 false] [4],
 .ret]
theorem D1:am Tryz.prog Tryz.f43 [[0,1],[0,1,5],[0,1,5],[0,1,5,12],[0,1,5,23],[4],[0,1,5],[4]] 2=some (tz,[.t 4]):=by kernel_rfl
abbrev Bj:Nat:=111
theorem Ca:Tryz.prog.funcs[111]?=some Tryz.f111:=Tryz.func111
def rG:AC:=
 Q [.reg [mv 2 (.str [])] [0],
 .reg [mv 3 (.nil 1)] [0,3],
 Q [.reg [mi 4 0] [0,3,4],
 .block 0 (.loop [0,3,4] (Q [Q [.reg [m 6 4,m 7 0,ls 8 7,bt 9 .lss 6 8] [0,3,4,9],
 C 9 (.skip) (.exit 0)],
 .block 1 (Q [.reg [m 12 0,m 13 4,ix 14 12 13,m 5 14] [0,3,4,5],
 Q [.reg [m 15 5,bu 16 .geq 15 65,m 17 16,gt 17 (m 18 5),gt 17 (bu 19 .leq 18 90),pa 20 17 19] [0,3,4,5,20],
 C 20 (.reg [m 21 5,bu 22 .add 21 32,m 5 22] [0,3,4,5]) (.skip)],
 .reg [m 23 3,m 24 5,o1 25 (.lit 5 1 [.t 24]),o1 26 (.app (.t 23) (.t 25) 5 1 1),m 3 26] [0,3,4]]),
 .reg [m 10 4,bi 11 .add 10 1,m 4 11] [0,3,4]]))],
 .reg [m 27 3,o1 28 (.b2s (.t 27)),m 2 28] [2],
 .ret]
theorem BP:am Tryz.prog Tryz.f111 [[0],[0,3],[0,3,4],[0,3,4],[0,3,4,9],[0,3,4,5],[0,3,4,5,20],[0,3,4,5],[0,3,4],[0,3,4],[2]] 1=some (rG,[.t 2]):=by kernel_rfl
abbrev xw:Nat:=112
theorem yv:Tryz.prog.funcs[112]?=some Tryz.f112:=Tryz.func112
def oY:AC:=
 Q [.reg [mb 2 false] [0],
 .reg [m 3 0,bu 4 .eql 3 9,m 5 4,gf 5 (m 6 0),gf 5 (bu 7 .eql 6 10),po 8 5 7,m 9 8,gf 9 (m 10 0),gf 9 (bu 11 .eql 10 12),po 12 9 11,m 13 12,gf 13 (m 14 0),gf 13 (bu 15 .eql 14 32),po 16 13 15,m 2 16] [2],
 .ret]
theorem xX:am Tryz.prog Tryz.f112 [[0],[2]] 1=some (oY,[.t 2]):=by kernel_rfl
abbrev Be:Nat:=90
theorem B4:Tryz.prog.funcs[90]?=some Tryz.f90:=Tryz.func90
def rB:AC:=
 Q [.reg [mi 4 0] [0,1],
 .reg [m 8 1,ls 9 8,o1 10 (.bin .add (.v (.int .i64 2)) (.t 9)),m 5 10] [0,1,5],
 Q [.reg [mi 6 0] [0,1,5,6],
 .block 0 (.loop [0,1,5,6] (Q [Q [.reg [m 11 6,m 12 5,bt 13 .add 11 12,m 14 0,ls 15 14,bt 16 .lss 13 15] [0,1,5,6,16],
 C 16 (.skip) (.exit 0)],
 .block 1 (Q [.reg [m 19 0,m 20 6,m 21 5,bt 22 .add 20 21,ix 23 19 22,m 7 23] [0,1,5,6,7],
 .reg [m 24 0,m 25 6,m 26 6,m 27 5,bt 28 .add 26 27,o1 29 (.sls (.t 24) (some (.t 25)) (some (.t 28))),ca 30 111 [29],m 31 1,o1 32 (.bin .add (.v (.str [60,47])) (.t 31)),bt 33 .eql 30 32,m 34 33,gt 34 (m 35 7),gt 34 (ca 36 112 [35]),gt 34 (m 37 36),gf 37 (m 38 7),gf 37 (bu 39 .eql 38 47),gt 34 (po 40 37 39),gt 34 (m 41 40),gf 41 (m 42 7),gf 41 (bu 43 .eql 42 62),gt 34 (po 44 41 43),pa 45 34 44] [0,1,5,6,45],
 C 45 (Q [.reg [m 46 6,m 4 46] [4],
 .ret]) (.skip)]),
 .reg [m 17 6,bi 18 .add 17 1,m 6 18] [0,1,5,6]]))],
 .reg [mi 4 (-1)] [4],
 .ret]
theorem BJ:am Tryz.prog Tryz.f90 [[0,1],[0,1,5],[0,1,5,6],[0,1,5,6],[0,1,5,6,16],[0,1,5,6,7],[0,1,5,6,45],[4],[0,1,5,6],[4]] 2=some (rB,[.t 4]):=by kernel_rfl
abbrev Bd:Nat:=60
theorem B3:Tryz.prog.funcs[60]?=some Tryz.f60:=Tryz.func60
def rA:AC:=
 Q [.reg [bx 3 1,mb 4 false] [0,3],
 .reg [m 8 0,ca 9 68 [8],m 5 9] [0,3,5],
 .reg [m 10 0,ca 11 70 [10],m 6 11] [0,3,5,6],
 Q [.reg [m 12 5] [0,3,6,12],
 C 12 (Q [.reg [mb 4 false] [4],
 .ret]) (.skip)],
 Q [.reg [m 13 6] [0,3,13],
 C 13 (Q [.regD [fa 14 3 0,l1 15 14,bi 16 .eql 15 2,m 17 16,gt 17 (fa 18 3 3),gt 17 (l1 19 18),gt 17 (bs 20 .add 19 [60,47]),gt 17 (m 21 0),gt 17 (bt 22 .add 20 21),gt 17 (bs 23 .add 22 [62]),gt 17 (m 24 0),gt 17 (ca 25 90 [23,24]),gt 17 (fa 26 3 3),gt 17 (l1 27 26),gt 17 (ls 28 27),gt 17 (bt 29 .eql 25 28),pa 30 17 29,m 4 30] [4],
 .ret]) (.skip)],
 .reg [m 31 0,fa 32 3 1,l1 33 32,ca 34 73 [31,33],m 7 34] [3,7],
 .reg [fa 35 3 0,l1 36 35,bi 37 .neq 36 1,m 38 37,gf 38 (m 39 7),gf 38 (nt' 40 39),po 41 38 40,m 4 41] [4],
 .ret]
theorem BI:am Tryz.prog Tryz.f60 [[0,3],[0,3,5],[0,3,5,6],[0,3,6,12],[4],[0,3,13],[0,0,1,3,7,15,31,63,15,255,511,15,2047,15,4111,12303,32767,65535,131071],[0,1,2,3,4,5,6,7,8,9,10,11,12,13,14,15,16,17],[4],[3,7],[4]] 2=some (rA,[.t 4]):=by kernel_rfl
abbrev tP:Nat:=44
theorem ua:Tryz.prog.funcs[44]?=some Tryz.f44:=Tryz.func44
def lT:AC:=
 Q [.reg [mv 4 (.nil 5)] [0,1],
 .reg [mv 5 (.nil 5)] [0,1,5],
 Q [.reg [mi 6 0] [0,1,5,6],
 .block 0 (.loop [0,1,5,6] (Q [Q [.reg [m 8 6,m 9 1,lq 10 9,bt 11 .lss 8 10] [0,1,5,6,11],
 C 11 (.skip) (.exit 0)],
 .block 1 (Q [.reg [m 14 0,m 15 1,m 16 6,ia 17 15 16 5,la 18 17 5,ca 19 60 [14,18],m 7 19] [0,1,5,6,7],
 .reg [m 20 7] [0,1,5,6,20],
 C 20 (.reg [m 21 5,m 22 1,m 23 6,ia 24 22 23 5,la 25 24 5,o1 26 (.lit 48 5 [.t 25]),o1 27 (.app (.t 21) (.t 26) 48 5 88),m 5 27] [0,1,5,6]) (.skip)]),
 .reg [m 12 6,bi 13 .add 12 1,m 6 13] [0,1,5,6]]))],
 .reg [m 28 5,m 4 28] [4],
 .ret]
theorem tW:am Tryz.prog Tryz.f44 [[0,1],[0,1,5],[0,1,5,6],[0,1,5,6],[0,1,5,6,11],[0,1,5,6,7],[0,1,5,6,20],[0,1,5,6],[0,1,5,6],[4]] 2=some (lT,[.t 4]):=by kernel_rfl
abbrev eU:Nat:=27
theorem wg:Tryz.prog.funcs[27]?=some Tryz.f27:=Tryz.func27
def nj:AC:=
 Q [.reg [mv 2 (.nil 5)] [0],
 .reg [mv 3 (.nil 5)] [0,3],
 Q [.reg [mi 4 0] [0,3,4],
 .block 0 (.loop [0,3,4] (Q [Q [.reg [m 6 4,m 7 0,lq 8 7,bt 9 .lss 6 8] [0,3,4,9],
 C 9 (.skip) (.exit 0)],
 .block 1 (Q [.reg [m 12 0,m 13 4,ia 14 12 13 5,la 15 14 5,o1 5 (.alc [.int .i64 0,.str [],.nil 2,.str [],.nil 5]),st 5 5 15] [0,3,4,5],
 Q [.reg [fa 16 5 0,l1 17 16,bi 18 .eql 17 3,m 19 18,gt 19 (fa 20 5 3),gt 19 (l1 21 20),gt 19 (o1 22 (.call 43 [.t 21,.v (.str [45,45,62])])),pa 23 19 22] [0,3,4,5,23],
 C 23 (.exit 1) (.skip)],
 Q [.reg [fa 24 5 0,l1 25 24,bi 26 .eql 25 1] [0,3,4,5,26],
 C 26 (.regD [fa 27 5 1,l1 28 27,fa 29 5 1,l1 30 29,fa 31 5 4,l1 32 31,ca 33 44 [30,32],ca 34 27 [33],ca 35 44 [28,34],fa 36 5 4,st 1 36 35] [0,3,4,5]) (.skip)],
 .reg [m 37 3,la 38 5 5,o1 39 (.lit 48 5 [.t 38]),o1 40 (.app (.t 37) (.t 39) 48 5 88),m 3 40] [0,3,4]]),
 .reg [m 10 4,bi 11 .add 10 1,m 4 11] [0,3,4]]))],
 .reg [m 41 3,ca 42 45 [41],m 2 42] [2],
 .ret]
theorem vR:am Tryz.prog Tryz.f27 [[0],[0,3],[0,3,4],[0,3,4],[0,3,4,9],[0,3,4,5],[0,3,4,5,23],[0,3,4,5,26],[0,0,1,0,4,0,16,60,124,255,511,1023],[0,1,2,3,4,5,6,7,8,9,10],[0,3,4,5],[0,3,4],[0,3,4],[2]] 1=some (nj,[.t 2]):=by kernel_rfl
abbrev Bc:Nat:=8
theorem B1:Tryz.prog.funcs[8]?=some Tryz.f8:=Tryz.func8
def rz:AC:=
 Q [.reg [mv 2 (.nil 5)] [0],
 .reg [m 3 0,ca 4 11 [3],ca 5 27 [4],m 2 5] [2],
 .ret]
theorem BH:am Tryz.prog Tryz.f8 [[0],[2]] 1=some (rz,[.t 2]):=by kernel_rfl
abbrev ga:Nat:=119
theorem gp:Tryz.prog.funcs[119]?=some Tryz.f119:=Tryz.func119
def cI:AC:=
 Q [.reg [mi 4 0] [0,1],
 Q [.reg [m 6 0,lq 7 6,mi 8 0] [0,1,7,8],
 .block 0 (.loop [0,1,7,8] (Q [.reg [bt 9 .lss 8 7] [0,1,7,8,9],
 C 9 (.skip) (.exit 0),
 .block 1 (Q [.reg [m 10 8,m 5 10] [0,1,5,7,8],
 .reg [m 11 1,m 12 0,m 13 5,ia 14 12 13 1,l1 15 14,bt 16 .eql 11 15] [0,1,5,7,8,16],
 C 16 (Q [.reg [m 17 5,m 4 17] [4],
 .ret]) (.skip)]),
 .reg [bi 18 .add 8 1,m 8 18] [0,1,7,8]]))],
 .reg [mi 4 (-1)] [4],
 .ret]
theorem gm:am Tryz.prog Tryz.f119 [[0,1],[0,1,7,8],[0,1,7,8],[0,1,7,8,9],[0,1,5,7,8],[0,1,5,7,8,16],[4],[0,1,7,8],[4]] 2=some (cI,[.t 4]):=by kernel_rfl
abbrev eT:Nat:=101
theorem fe:Tryz.prog.funcs[101]?=some Tryz.f101:=Tryz.func101
def ce:AC:=
 Q [.reg [mb 4 false] [0,1],
 .reg [m 5 0,m 6 1,ca 7 119 [5,6],bi 8 .geq 7 0,m 4 8] [4],
 .ret]
theorem eZ:am Tryz.prog Tryz.f101 [[0,1],[4]] 2=some (ce,[.t 4]):=by kernel_rfl
abbrev eW:Nat:=142
theorem fh:Tryz.prog.funcs[142]?=some Tryz.f142:=Tryz.func142
def cg:AC:=
 Q [.reg [mb 4 false] [0,1],
 .reg [m 5 0,ls 6 5,m 7 1,ls 8 7,bt 9 .geq 6 8,m 10 9,gt 10 (m 11 0),gt 10 (m 12 1),gt 10 (ls 13 12),gt 10 (o1 14 (.sls (.t 11) none (some (.t 13)))),gt 10 (m 15 1),gt 10 (bt 16 .eql 14 15),pa 17 10 16,m 4 17] [4],
 .ret]
theorem fc:am Tryz.prog Tryz.f142 [[0,1],[4]] 2=some (cg,[.t 4]):=by kernel_rfl
abbrev n9:Nat:=133
theorem oq:Tryz.prog.funcs[133]?=some Tryz.f133:=Tryz.func133
def hO:AC:=
 Q [.reg [mb 4 false] [0,1],
 .reg [m 5 0,m 6 1,ca 7 142 [5,6],m 4 7] [4],
 .ret]
theorem ol:am Tryz.prog Tryz.f133 [[0,1],[4]] 2=some (hO,[.t 4]):=by kernel_rfl
abbrev vB:Nat:=121
theorem wl:Tryz.prog.funcs[121]?=some Tryz.f121:=Tryz.func121
def nq:AC:=
 Q [.reg [mb 2 false] [0],
 Q [.reg [mi 3 0] [0,3],
 .block 0 (.loop [0,3] (Q [Q [.reg [m 4 3,m 5 0,ls 6 5,bt 7 .lss 4 6] [0,3,7],
 C 7 (.skip) (.exit 0)],
 .block 1 (Q [.reg [m 10 0,m 11 3,ix 12 10 11,bu 13 .lss 12 32,m 14 13,gf 14 (m 15 0),gf 14 (m 16 3),gf 14 (ix 17 15 16),gf 14 (bu 18 .gtr 17 126),po 19 14 18] [0,3,19],
 C 19 (Q [.reg [mb 2 false] [2],
 .ret]) (.skip)]),
 .reg [m 8 3,bi 9 .add 8 1,m 3 9] [0,3]]))],
 .reg [mb 2 true] [2],
 .ret]
theorem vW:am Tryz.prog Tryz.f121 [[0],[0,3],[0,3],[0,3,7],[0,3,19],[2],[0,3],[2]] 1=some (nq,[.t 2]):=by kernel_rfl
abbrev bc:Nat:=118
theorem gL:Tryz.prog.funcs[118]?=some Tryz.f118:=Tryz.func118
def c7:AC:=
 Q [.reg [mi 4 0] [0,1],
 .reg [m 14 1,ls 15 14,m 5 15] [0,1,5],
 .block 0 (Q [.reg [m 17 5,bi 18 .eql 17 0,m 19 18,gf 19 (m 20 1),gf 19 (m 21 0),gf 19 (bt 22 .eql 20 21),po 23 19 22,m 16 23] [0,1,5,16],
 C 16 (Q [.reg [mi 4 0] [4],
 .ret]) (Q [.reg [m 25 5,bi 26 .eql 25 1,m 24 26] [0,1,5,24],
 C 24 (Q [.reg [m 27 0,m 28 1,o1 29 (.ixs (.t 28) (.v (.int .i64 0))),ca 30 128 [27,29],m 4 30] [4],
 .ret]) (Q [.reg [m 32 5,m 33 0,ls 34 33,bt 35 .geq 32 34,m 31 35] [0,1,5,31],
 C 31 (Q [.reg [mi 4 (-1)] [4],
 .ret]) (Q [.reg [m 37 5,o1 38 (.bad),bt 39 .leq 37 38,m 40 39,gt 40 (m 41 0),gt 40 (ls 42 41),gt 40 (bi 43 .leq 42 64),pa 44 40 43,m 36 44] [0,1,5,36],
 C 36 (Q [.reg [m 45 0,m 46 1,ca 47 129 [45,46],m 4 47] [4],
 .ret]) (.skip)])])])]),
 .reg [m 48 1,o1 49 (.ixs (.t 48) (.v (.int .i64 0))),m 6 49] [0,1,5,6],
 .reg [m 50 1,o1 51 (.ixs (.t 50) (.v (.int .i64 1))),m 7 51] [0,1,5,6,7],
 .reg [mi 8 0] [0,1,5,6,7,8],
 .reg [m 52 0,ls 53 52,m 54 5,bt 55 .sub 53 54,bi 56 .add 55 1,m 9 56] [0,1,5,6,7,8,9],
 .reg [mi 10 0] [0,1,5,6,7,8,9,10],
 .block 1 (.loop [0,1,5,6,7,8,9,10] (Q [Q [.reg [m 57 8,m 58 9,bt 59 .lss 57 58] [0,1,5,6,7,8,9,10,59],
 C 59 (.skip) (.exit 1)],
 .block 2 (Q [Q [.reg [m 60 0,m 61 8,ix 62 60 61,m 63 6,bt 64 .neq 62 63] [0,1,5,6,7,8,9,10,64],
 C 64 (Q [.reg [m 65 0,m 66 8,bi 67 .add 66 1,m 68 9,o1 69 (.sls (.t 65) (some (.t 67)) (some (.t 68))),m 70 6,ca 71 128 [69,70],m 11 71] [0,1,5,6,7,8,9,10,11],
 Q [.reg [m 72 11,bi 73 .lss 72 0] [0,1,5,6,7,8,9,10,11,73],
 C 73 (Q [.reg [mi 4 (-1)] [4],
 .ret]) (.skip)],
 .reg [m 74 8,m 75 11,bi 76 .add 75 1,bt 77 .add 74 76,m 8 77] [0,1,5,6,7,8,9,10]]) (.skip)],
 Q [.reg [m 78 0,m 79 8,bi 80 .add 79 1,ix 81 78 80,m 82 7,bt 83 .eql 81 82,m 84 83,gt 84 (m 85 0),gt 84 (m 86 8),gt 84 (m 87 8),gt 84 (m 88 5),gt 84 (bt 89 .add 87 88),gt 84 (o1 90 (.sls (.t 85) (some (.t 86)) (some (.t 89)))),gt 84 (m 91 1),gt 84 (bt 92 .eql 90 91),pa 93 84 92] [0,1,5,6,7,8,9,10,93],
 C 93 (Q [.reg [m 94 8,m 4 94] [4],
 .ret]) (.skip)],
 .reg [m 95 8,bi 96 .add 95 1,m 8 96] [0,1,5,6,7,8,9,10],
 .reg [m 97 10,bi 98 .add 97 1,m 10 98] [0,1,5,6,7,8,9,10],
 .reg [m 99 5,o1 100 (.bad),bt 101 .leq 99 100,m 102 101,gt 102 (m 103 10),gt 102 (m 104 8),gt 102 (ca 105 130 [104]),gt 102 (bt 106 .gtr 103 105),pa 107 102 106] [0,1,5,6,7,8,9,10,107],
 C 107 (Q [.reg [m 108 0,m 109 8,o1 110 (.sls (.t 108) (some (.t 109)) none),m 111 1,ca 112 129 [110,111],m 12 112] [8,12],
 Q [.reg [m 113 12,bi 114 .geq 113 0] [8,12,114],
 C 114 (Q [.reg [m 115 12,m 116 8,bt 117 .add 115 116,m 4 117] [4],
 .ret]) (.skip)],
 .reg [mi 4 (-1)] [4],
 .ret]) (Q [.reg [m 118 5,o1 119 (.bad),bt 120 .gtr 118 119,m 121 120,gt 121 (m 122 10),gt 121 (m 123 8),gt 121 (o1 124 (.bin .shr (.t 123) (.v (.int .u64 4)))),gt 121 (o1 125 (.bin .add (.v (.int .i64 4)) (.t 124))),gt 121 (bt 126 .geq 122 125),pa 127 121 126,m 128 127,gt 128 (m 129 8),gt 128 (m 130 9),gt 128 (bt 131 .lss 129 130),pa 132 128 131] [0,1,5,6,7,8,9,10,132],
 C 132 (Q [.reg [m 133 0,m 134 8,o1 135 (.sls (.t 133) (some (.t 134)) none),m 136 1,ca 137 131 [135,136],m 13 137] [8,13],
 Q [.reg [m 138 13,bi 139 .lss 138 0] [8,13,139],
 C 139 (Q [.reg [mi 4 (-1)] [4],
 .ret]) (.skip)],
 .reg [m 140 8,m 141 13,bt 142 .add 140 141,m 4 142] [4],
 .ret]) (.skip)])])])),
 .reg [mi 4 (-1)] [4],
 .ret]
theorem gK:am Tryz.prog Tryz.f118 [[0,1],[0,1,5],[0,1,5,16],[4],[0,1,5,24],[4],[0,1,5,31],[4],[0,1,5,36],[4],[0,1,5,6],[0,1,5,6,7],[0,1,5,6,7,8],[0,1,5,6,7,8,9],[0,1,5,6,7,8,9,10],[0,1,5,6,7,8,9,10],[0,1,5,6,7,8,9,10,59],[0,1,5,6,7,8,9,10,64],[0,1,5,6,7,8,9,10,11],[0,1,5,6,7,8,9,10,11,73],[4],[0,1,5,6,7,8,9,10],[0,1,5,6,7,8,9,10,93],[4],[0,1,5,6,7,8,9,10],[0,1,5,6,7,8,9,10],[0,1,5,6,7,8,9,10,107],[8,12],[8,12,114],[4],[4],[0,1,5,6,7,8,9,10,132],[8,13],[8,13,139],[4],[4],[4]] 2=some (c7,[.t 4]):=by kernel_rfl
abbrev iL:Nat:=134
theorem iV:Tryz.prog.funcs[134]?=some Tryz.f134:=Tryz.func134
def dN:AC:=
 Q [.reg [mv 4 (.str []),mv 5 (.str []),mb 6 false] [0,1],
 Q [.reg [m 8 0,m 9 1,ca 10 118 [8,9],m 7 10] [0,1,7],
 .reg [m 11 7,bi 12 .geq 11 0] [0,1,7,12],
 C 12 (Q [.regD [m 13 0,m 14 7,o1 15 (.sls (.t 13) none (some (.t 14))),m 16 0,m 17 7,m 18 1,ls 19 18,bt 20 .add 17 19,o1 21 (.sls (.t 16) (some (.t 20)) none),m 4 15,m 5 21,mb 6 true] [4,5,6],
 .ret]) (.skip)],
 .reg [m 22 0,m 4 22,mv 5 (.str []),mb 6 false] [4,5,6],
 .ret]
theorem iS:am Tryz.prog Tryz.f134 [[0,1],[0,1,7],[0,1,7,12],[0,0,0,3,0,0,0,32,112,248,7,1023,2047],[0,1,2,3,4,5,6,7,8,9,10,11],[4,5,6],[4,5,6]] 2=some (dN,[.t 4,.t 5,.t 6]):=by kernel_rfl
abbrev xp:Nat:=122
theorem yl:Tryz.prog.funcs[122]?=some Tryz.f122:=Tryz.func122
def oU:AC:=
 Q [.reg [mv 4 (.str []),mv 5 (.str []),mb 6 false] [0,1],
 .reg [m 7 0,m 8 1,ca 9 134 [7,8],ex 10 9 0,ex 11 9 1,ex 12 9 2,m 4 10,m 5 11,m 6 12] [4,5,6],
 .ret]
theorem xP:am Tryz.prog Tryz.f122 [[0,1],[4,5,6]] 2=some (oU,[.t 4,.t 5,.t 6]):=by kernel_rfl
abbrev bN:Nat:=104
theorem oL:Tryz.prog.funcs[104]?=some Tryz.f104:=Tryz.func104
def j0:AC:=
 Q [.reg [bx 2 0,mb 4 false] [1,2],
 Q [.reg [m 10 1,ca 11 121 [10],nt' 12 11] [1,2,12],
 C 12 (Q [.reg [mb 4 false] [4],
 .ret]) (.skip)],
 Q [.reg [fa 13 2 0,l1 14 13] [1,2,14],
 .block 0 (Q [.reg [bi 16 .eql 14 1,m 15 16] [1,2,14,15],
 C 15 (Q [.reg [mb 4 true] [4],
 .ret]) (Q [.reg [bi 18 .eql 14 2,m 17 18] [1,2,14,17],
 C 17 (Q [.reg [fa 19 2 1,l1 20 19,m 21 1,ca 22 101 [20,21],m 4 22] [4],
 .ret]) (Q [.reg [bi 24 .eql 14 3,m 23 24] [1,2,14,23],
 C 23 (Q [.reg [m 26 1,o1 27 (.call 122 [.t 26,.v (.str [58])]),m 25 27,ex 28 25 0,ex 29 25 1,ex 30 25 2,m 5 28,m 6 29,m 7 30] [2,5,7],
 .reg [m 31 7,nt' 32 31,m 33 32,gf 33 (fa 34 2 1),gf 33 (l1 35 34),gf 33 (m 36 5),gf 33 (ca 37 101 [35,36]),po 38 33 37,m 4 38] [4],
 .ret]) (Q [.reg [bi 40 .eql 14 4,m 39 40] [1,2,39],
 C 39 (Q [.reg [fa 42 2 2,l1 43 42,ca 44 123 [43],m 41 44,ex 45 41 0,ex 46 41 1,m 8 45,m 9 46] [1,8,9],
 .reg [m 47 9,bi 48 .eql 47 0,m 49 48,gt 49 (m 50 8),gt 49 (m 51 1),gt 49 (ca 52 124 [50,51]),pa 53 49 52,m 4 53] [4],
 .ret]) (.skip)])])])])],
 .reg [mb 4 false] [4],
 .ret]
theorem oJ:am Tryz.prog Tryz.f104 [[1,2],[1,2,12],[4],[1,2,14],[1,2,14,15],[4],[1,2,14,17],[4],[1,2,14,23],[2,5,7],[4],[1,2,39],[1,8,9],[4],[4]] 2=some (j0,[.t 4]):=by kernel_rfl
abbrev dF:Nat:=124
theorem mV:Tryz.prog.funcs[124]?=some Tryz.f124:=Tryz.func124
def gC:AC:=
 Q [.reg [mb 4 false] [0,1],
 .reg [m 18 0,ca 19 136 [18],o1 5 (.alc [.int .i64 0,.int .i64 0,.int .i64 0,.nil 4]),st 4 5 19] [1,5],
 .reg [fa 20 5 0,l1 21 20,o1 22 (.mkm 186 24 192 4 (.t 21)),m 6 22] [1,5,6],
 Q [.reg [fa 23 5 3,l1 24 23,lq 25 24,mi 26 0] [1,5,6,24,25,26],
 .block 0 (.loop [1,5,6,24,25,26] (Q [.reg [bt 27 .lss 26 25] [1,5,6,24,25,26,27],
 C 27 (.skip) (.exit 0),
 .block 1 (Q [.reg [ia 28 24 26 4,la 29 28 4,o1 8 (.alc [.int .i64 0,.int .i64 0,.int .u8 0,.int .u8 0]),st 4 8 29] [1,5,6,8,24,25,26],
 .regF (OQ [m 30 6,m 33 6,fa 34 8 0,l1 35 34,ia 36 33 35 1,l1 37 36,la 38 8 4,o1 39 (.lit 192 4 [.t 38])] (.both
 (OQ [fa 31 8 0] (.both
 (OQ [l1 32 31,o1 40 (.app (.t 37) (.t 39) 192 4 24),ia 41 30 32 1,st 1 41 40] .nil)
 (OQ [o1 40 (.app (.t 37) (.t 39) 192 4 24),l1 32 31,ia 41 30 32 1,st 1 41 40] .nil)))
 (OQ [o1 40 (.app (.t 37) (.t 39) 192 4 24),fa 31 8 0,l1 32 31,ia 41 30 32 1,st 1 41 40] .nil))) [1,5,6,24,25,26]]),
 .reg [bi 42 .add 26 1,m 26 42] [1,5,6,24,25,26]]))],
 .reg [fa 43 5 0,l1 44 43,o1 45 (.mks 3 1 8 (.int .i64 0) (.t 44)),m 9 45] [1,5,6,9],
 .reg [m 46 9,fa 47 5 1,l1 48 47,ia 49 46 48 1,o0 (.st 1 (.t 49) (.v (.int .i64 1)))] [1,5,6,9],
 .reg [m 50 6,m 51 9,fa 52 5 1,l1 53 52,o1 54 (.ltr 3 1 [.t 53]),o1 55 (.callH 137 [.t 50,.t 51,.v (.int .i64 1),.t 54]),m 10 55] [1,5,6,9,10],
 .reg [mv 11 (.nil 1)] [1,5,6,9,10,11],
 Q [.reg [mi 12 0] [1,5,6,9,10,11,12],
 .block 2 (.loop [1,5,6,9,10,11,12] (Q [Q [.reg [m 56 12,m 57 1,ls 58 57,bt 59 .lss 56 58] [1,5,6,9,10,11,12,59],
 C 59 (.skip) (.exit 2)],
 .block 3 (Q [Q [.reg [m 62 10,lq 63 62,bi 64 .eql 63 0] [1,5,6,9,10,11,12,64],
 C 64 (Q [.reg [mb 4 false] [4],
 .ret]) (.skip)],
 .reg [m 65 12,bi 66 .add 65 2,m 13 66] [1,5,6,9,10,11,12,13],
 .reg [m 67 11,o1 68 (.trc (.t 67) (.v (.int .i64 0)) 1),m 11 68] [1,5,6,9,10,11,12,13],
 Q [.reg [m 69 10,lq 70 69,mi 71 0] [1,5,6,9,10,11,12,13,69,70,71],
 .block 4 (.loop [1,5,6,9,10,11,12,13,69,70,71] (Q [.reg [bt 72 .lss 71 70] [1,5,6,9,10,11,12,13,69,70,71,72],
 C 72 (.skip) (.exit 4),
 .block 5 (Q [.reg [ia 73 69 71 1,l1 74 73,m 15 74] [1,5,6,9,10,11,12,13,15,69,70,71],
 .reg [m 75 6,m 76 15,ia 77 75 76 1,l1 78 77,lq 79 78,mi 80 0] [1,5,6,9,10,11,12,13,69,70,71,78,79,80],
 .block 6 (.loop [1,5,6,9,10,11,12,13,69,70,71,78,79,80] (Q [.reg [bt 81 .lss 80 79] [1,5,6,9,10,11,12,13,69,70,71,78,79,80,81],
 C 81 (.skip) (.exit 6),
 .block 7 (Q [.reg [ia 82 78 80 4,la 83 82 4,o1 17 (.alc [.int .i64 0,.int .i64 0,.int .u8 0,.int .u8 0]),st 4 17 83] [1,5,6,9,10,11,12,13,17,69,70,71,78,79,80],
 .regD [fa 84 17 2,l1 85 84,m 86 1,m 87 12,ix 88 86 87,bt 89 .leq 85 88,m 90 89,gt 90 (m 91 1),gt 90 (m 92 12),gt 90 (ix 93 91 92),gt 90 (fa 94 17 3),gt 90 (l1 95 94),gt 90 (bt 96 .leq 93 95),pa 97 90 96,m 98 97,gt 98 (m 99 9),gt 98 (fa 100 17 1),gt 98 (l1 101 100),gt 98 (ia 102 99 101 1),gt 98 (l1 103 102),gt 98 (m 104 13),gt 98 (bt 105 .neq 103 104),pa 106 98 105] [1,5,6,9,10,11,12,13,17,69,70,71,78,79,80,106],
 C 106 (Q [.reg [m 107 9,fa 108 17 1,l1 109 108,m 110 13,ia 111 107 109 1,st 1 111 110] [1,5,6,9,10,11,12,13,17,69,70,71,78,79,80],
 .reg [m 112 11,fa 113 17 1,l1 114 113,o1 115 (.ltr 3 1 [.t 114]),o1 116 (.app (.t 112) (.t 115) 3 1 8),m 11 116] [1,5,6,9,10,11,12,13,69,70,71,78,79,80]]) (.skip)]),
 .reg [bi 117 .add 80 1,m 80 117] [1,5,6,9,10,11,12,13,69,70,71,78,79,80]]))]),
 .reg [bi 118 .add 71 1,m 71 118] [1,5,6,9,10,11,12,13,69,70,71]]))],
 .reg [m 119 6,m 120 9,m 121 13,m 122 11,ch 123 137 [119,120,121,122],m 124 10,m 10 123,m 11 124] [1,5,6,9,10,11,12]]),
 .reg [m 60 12,bi 61 .add 60 1,m 12 61] [1,5,6,9,10,11,12]]))],
 .reg [m 125 9,fa 126 5 2,l1 127 126,ia 128 125 127 1,l1 129 128,m 130 1,ls 131 130,bi 132 .add 131 1,bt 133 .eql 129 132,m 4 133] [4],
 .ret]
theorem mS:aJ Tryz.prog Tryz.f124 [] [137,1000000,2000003] [[0,1],[1,5],[1,5,6],[1,5,6,24,25,26],[1,5,6,24,25,26],[1,5,6,24,25,26,27],[1,5,6,8,24,25,26],[1,0,0,2,0,0,16,56,120,0,256,1016,2047,4095],[1,5,6,24,25,26],[1,5,6,24,25,26],[1,5,6,9],[1,5,6,9],[1,5,6,9,10],[1,5,6,9,10,11],[1,5,6,9,10,11,12],[1,5,6,9,10,11,12],[1,5,6,9,10,11,12,59],[1,5,6,9,10,11,12,64],[4],[1,5,6,9,10,11,12,13],[1,5,6,9,10,11,12,13],[1,5,6,9,10,11,12,13,69,70,71],[1,5,6,9,10,11,12,13,69,70,71],[1,5,6,9,10,11,12,13,69,70,71,72],[1,5,6,9,10,11,12,13,15,69,70,71],[1,5,6,9,10,11,12,13,69,70,71,78,79,80],[1,5,6,9,10,11,12,13,69,70,71,78,79,80],[1,5,6,9,10,11,12,13,69,70,71,78,79,80,81],[1,5,6,9,10,11,12,13,17,69,70,71,78,79,80],[0,0,1,0,0,12,31,63,127,127,511,127,1151,4095,8191,16383,32767,32767,98303,262143,524287,32767,2097151,4194303],[0,1,2,3,4,5,6,7,8,9,10,11,12,13,14,15,16,17,18,19,20,21,22],[1,5,6,9,10,11,12,13,17,69,70,71,78,79,80,106],[1,5,6,9,10,11,12,13,17,69,70,71,78,79,80],[1,5,6,9,10,11,12,13,69,70,71,78,79,80],[1,5,6,9,10,11,12,13,69,70,71,78,79,80],[1,5,6,9,10,11,12,13,69,70,71],[1,5,6,9,10,11,12],[1,5,6,9,10,11,12],[4]] 2=some (gC,[.t 4]):=by kernel_rfl
abbrev vt:Nat:=137
theorem wc:Tryz.prog.funcs[137]?=some Tryz.f137:=Tryz.func137
def ng:AC:=
 Q [.reg [mv 8 (.nil 1)] [0,1,2,3],
 Q [.reg [mi 9 0] [0,1,2,3,9],
 .block 0 (.loop [0,1,2,3,9] (Q [Q [.reg [m 12 9,m 13 3,lq 14 13,bt 15 .lss 12 14] [0,1,2,3,9,15],
 C 15 (.skip) (.exit 0)],
 .block 1 (Q [.reg [m 18 0,m 19 3,m 20 9,ia 21 19 20 1,l1 22 21,ia 23 18 22 1,l1 24 23,lq 25 24,mi 26 0] [0,1,2,3,9,24,25,26],
 .block 2 (.loop [0,1,2,3,9,24,25,26] (Q [.reg [bt 27 .lss 26 25] [0,1,2,3,9,24,25,26,27],
 C 27 (.skip) (.exit 2),
 .block 3 (Q [.reg [ia 28 24 26 4,la 29 28 4,o1 11 (.alc [.int .i64 0,.int .i64 0,.int .u8 0,.int .u8 0]),st 4 11 29] [0,1,2,3,9,11,24,25,26],
 .reg [fa 30 11 2,l1 31 30,fa 32 11 3,l1 33 32,bt 34 .gtr 31 33,m 35 34,gt 35 (m 36 1),gt 35 (fa 37 11 1),gt 35 (l1 38 37),gt 35 (ia 39 36 38 1),gt 35 (l1 40 39),gt 35 (m 41 2),gt 35 (bt 42 .neq 40 41),pa 43 35 42] [0,1,2,3,9,11,24,25,26,43],
 C 43 (Q [.reg [m 44 1,fa 45 11 1,l1 46 45,m 47 2,ia 48 44 46 1,st 1 48 47] [0,1,2,3,9,11,24,25,26],
 .reg [m 49 3,fa 50 11 1,l1 51 50,o1 52 (.lit 3 1 [.t 51]),o1 53 (.app (.t 49) (.t 52) 3 1 8),m 3 53] [0,1,2,3,9,24,25,26]]) (.skip)]),
 .reg [bi 54 .add 26 1,m 26 54] [0,1,2,3,9,24,25,26]]))]),
 .reg [m 16 9,bi 17 .add 16 1,m 9 17] [0,1,2,3,9]]))],
 .reg [m 55 3,m 8 55] [1,8],
 .ret]
theorem vO:aJ Tryz.prog Tryz.f137 [1] [] [[0,1,2,3],[0,1,2,3,9],[0,1,2,3,9],[0,1,2,3,9,15],[0,1,2,3,9,24,25,26],[0,1,2,3,9,24,25,26],[0,1,2,3,9,24,25,26,27],[0,1,2,3,9,11,24,25,26],[0,1,2,3,9,11,24,25,26,43],[0,1,2,3,9,11,24,25,26],[0,1,2,3,9,24,25,26],[0,1,2,3,9,24,25,26],[0,1,2,3,9],[1,8]] 4=some (ng,[.t 8]):=by kernel_rfl
end Go.Abs
