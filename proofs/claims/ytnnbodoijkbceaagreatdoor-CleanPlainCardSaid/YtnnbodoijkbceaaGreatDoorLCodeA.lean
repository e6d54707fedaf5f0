/-
  The images of some of the program's functions, as the kernel reckons them. Made by program. No condition.
-/
import Derived.Test.YtnnbodoijkbceaaGreatDoorLCodeD
set_option linter.all false
set_option maxHeartbeats 0
set_option maxRecDepth 100000
namespace Go.Abs
open Go.Proofs

abbrev vY:Nat:=70
theorem w9:Tryz.prog.funcs[70]?=some Tryz.f70:=Tryz.func70
def jc:AC:=
 Q [.reg [mb 2 false] [0],
 .reg [m 3 0,bu 4 .geq 3 97,m 5 4,gt 5 (m 6 0),gt 5 (bu 7 .leq 6 122),pa 8 5 7,m 2 8] [2],
 .ret]
theorem wE:aq Tryz.prog Tryz.f70 [[0],[2]] 1=some (jc,[.t 2]):=by kernel_rfl

abbrev v6:Nat:=41
theorem xd:Tryz.prog.funcs[41]?=some Tryz.f41:=Tryz.func41
def fE:AC:=
 Q [.reg [mb 2 false] [0],
 Q [.reg [m 6 0,ls 7 6,bi 8 .eql 7 0] [0,8],
 C 8 (Q [.reg [mb 2 false] [2],
 .ret]) (.skip)],
 .reg [m 9 0,o1 10 (.ixs (.t 9) (.v (.int .i64 0))),ca 11 70 [10],m 3 11] [0,3],
 Q [.reg [mi 4 0] [0,3,4],
 .block 0 (.loop [0,3,4] (Q [Q [.reg [m 12 4,m 13 0,ls 14 13,bt 15 .lss 12 14] [0,3,4,15],
 C 15 (.skip) (.exit 0)],
 .block 1 (Q [.reg [m 18 0,m 19 4,ix 20 18 19,ca 21 70 [20],m 5 21] [0,3,4,5],
 .reg [m 22 5,nt' 23 22,m 24 23,gt 24 (m 25 0),gt 24 (m 26 4),gt 24 (ix 27 25 26),gt 24 (bu 28 .lss 27 48),gt 24 (m 29 28),gf 29 (m 30 0),gf 29 (m 31 4),gf 29 (ix 32 30 31),gf 29 (bu 33 .gtr 32 57),gt 24 (po 34 29 33),pa 35 24 34,m 36 35,gt 36 (m 37 0),gt 36 (m 38 4),gt 36 (ix 39 37 38),gt 36 (bu 40 .neq 39 45),pa 41 36 40] [0,3,4,41],
 C 41 (Q [.reg [mb 2 false] [2],
 .ret]) (.skip)]),
 .reg [m 16 4,bi 17 .add 16 1,m 4 17] [0,3,4]]))],
 .reg [m 42 3,m 2 42] [2],
 .ret]
theorem wG:aq Tryz.prog Tryz.f41 [[0],[0,8],[2],[0,3],[0,3,4],[0,3,4],[0,3,4,15],[0,3,4,5],[0,3,4,41],[2],[0,3,4],[2]] 1=some (fE,[.t 2]):=by kernel_rfl

abbrev BQ:Nat:=19
theorem Cy:Tryz.prog.funcs[19]?=some Tryz.f19:=Tryz.func19
def mf:AC:=
 Q [.reg [mb 4 false] [0,1],
 Q [.reg [mi 5 0] [0,1,5],
 .block 0 (.loop [0,1,5] (Q [Q [.reg [m 6 5,m 7 0,lq 8 7,bt 9 .lss 6 8] [0,1,5,9],
 C 9 (.skip) (.exit 0)],
 .block 1 (Q [.reg [m 12 0,m 13 5,ia 14 12 13 1,l1 15 14,m 16 1,bt 17 .eql 15 16] [0,1,5,17],
 C 17 (Q [.reg [mb 4 true] [4],
 .ret]) (.skip)]),
 .reg [m 10 5,bi 11 .add 10 1,m 5 11] [0,1,5]]))],
 .reg [mb 4 false] [4],
 .ret]
theorem Cg:aq Tryz.prog Tryz.f19 [[0,1],[0,1,5],[0,1,5],[0,1,5,9],[0,1,5,17],[4],[0,1,5],[4]] 2=some (mf,[.t 4]):=by kernel_rfl

abbrev BR:Nat:=75
theorem Cz:Tryz.prog.funcs[75]?=some Tryz.f75:=Tryz.func75
def sq:AC:=
 Q [.reg [mv 2 (.str [])] [0],
 Q [.reg [m 3 0,ls 4 3,bi 5 .gtr 4 30] [0,5],
 C 5 (Q [.reg [m 6 0,o1 7 (.sls (.t 6) none (some (.v (.int .i64 30)))),m 2 7] [2],
 .ret]) (.skip)],
 .reg [m 8 0,m 2 8] [2],
 .ret]
theorem Ch:aq Tryz.prog Tryz.f75 [[0],[0,5],[2],[2]] 1=some (sq,[.t 2]):=by kernel_rfl

abbrev iN:Nat:=49
theorem CB:Tryz.prog.funcs[49]?=some Tryz.f49:=Tryz.func49
def su:AC:=
 Q [.reg [mv 4 (.nil 5),mi 5 0] [0,1],
 .reg [mv 6 (.nil 5)] [0,1,6],
 Q [.reg [mi 7 0] [0,1,6,7],
 .block 0 (.loop [0,1,6,7] (Q [Q [.reg [m 11 7,m 12 0,lq 13 12,bt 14 .lss 11 13,m 15 14,gt 15 (m 16 1),gt 15 (bi 17 .gtr 16 0),pa 18 15 17] [0,1,6,7,18],
 C 18 (.skip) (.exit 0)],
 .block 1 (Q [.reg [m 21 0,m 22 7,ia 23 21 22 5,la 24 23 5,o1 8 (.alc [.int .i64 0,.str [],.nil 2,.str [],.nil 5]),st 5 8 24] [0,1,6,7,8],
 .reg [m 25 1,bi 26 .sub 25 1,m 1 26] [0,1,6,7,8],
 .reg [fa 27 8 1,l1 28 27,ca 29 75 [28],fa 30 8 1,st 1 30 29] [0,1,6,7,8],
 .reg [fa 31 8 3,l1 32 31,ca 33 75 [32],fa 34 8 3,st 1 34 33] [0,1,6,7,8],
 .reg [fa 36 8 4,l1 37 36,m 38 1,ca 39 49 [37,38],m 35 39,ex 40 35 0,ex 41 35 1,fa 42 8 4,st 1 42 40,m 1 41] [0,1,6,7,8],
 .reg [mv 9 (.nil 2)] [0,1,6,7,8,9],
 Q [.reg [mi 10 0] [0,1,6,7,8,9,10],
 .block 2 (.loop [0,1,6,7,8,9,10] (Q [Q [.reg [m 43 10,fa 44 8 2,l1 45 44,lq 46 45,bt 47 .lss 43 46,m 48 47,gt 48 (m 49 10),gt 48 (bi 50 .lss 49 5),pa 51 48 50] [0,1,6,7,8,9,10,51],
 C 51 (.skip) (.exit 2)],
 .block 3 (.regD [m 54 9,fa 55 8 2,l1 56 55,m 57 10,ia 58 56 57 2,fa 59 58 0,l1 60 59,ca 61 75 [60],fa 62 8 2,l1 63 62,m 64 10,ia 65 63 64 2,fa 66 65 1,l1 67 66,ca 68 75 [67],o1 69 (.bld [.str [],.str []] [(0,1,(.t 61)),(1,1,(.t 68))]),o1 70 (.lit 59 2 [.t 69]),o1 71 (.app (.t 54) (.t 70) 59 2 32),m 9 71] [0,1,6,7,8,9,10]),
 .reg [m 52 10,bi 53 .add 52 1,m 10 53] [0,1,6,7,8,9,10]]))],
 .reg [m 72 9,fa 73 8 2,st 1 73 72] [0,1,6,7,8],
 .reg [m 74 6,la 75 8 5,o1 76 (.lit 41 5 [.t 75]),o1 77 (.app (.t 74) (.t 76) 41 5 88),m 6 77] [0,1,6,7]]),
 .reg [m 19 7,bi 20 .add 19 1,m 7 20] [0,1,6,7]]))],
 .reg [m 78 6,m 79 1,m 4 78,m 5 79] [4,5],
 .ret]
theorem Cj:aq Tryz.prog Tryz.f49 [[0,1],[0,1,6],[0,1,6,7],[0,1,6,7],[0,1,6,7,18],[0,1,6,7,8],[0,1,6,7,8],[0,1,6,7,8],[0,1,6,7,8],[0,1,6,7,8],[0,1,6,7,8,9],[0,1,6,7,8,9,10],[0,1,6,7,8,9,10],[0,1,6,7,8,9,10,51],[0,0,0,2,0,14,30,62,126,0,256,0,1792,3840,7936,16382,32766,65534,131071,262143],[0,1,2,3,4,5,6,7,8,9,10,11,12,13,14,15,16,17,18],[0,1,6,7,8,9,10],[0,1,6,7,8,9,10],[0,1,6,7,8],[0,1,6,7],[0,1,6,7],[4,5]] 2=some (su,[.t 4,.t 5]):=by kernel_rfl

abbrev BS:Nat:=29
theorem CA:Tryz.prog.funcs[29]?=some Tryz.f29:=Tryz.func29
def sr:AC:=
 Q [.reg [mv 2 (.nil 5)] [0],
 .reg [m 6 0,o1 7 (.call 49 [.t 6,.v (.int .i64 40)]),m 5 7,ex 8 5 0,ex 9 5 1,m 3 8,m 4 9] [3],
 .reg [m 10 3,m 2 10] [2],
 .ret]
theorem Ci:aq Tryz.prog Tryz.f29 [[0],[3],[2]] 1=some (sr,[.t 2]):=by kernel_rfl

abbrev sN:Nat:=138
theorem s4:Tryz.prog.funcs[138]?=some Tryz.f138:=Tryz.func138
def kG:AC:=
 Q [.reg [mb 2 false] [0],
 .reg [m 3 0,bu 4 .geq 3 128,m 5 4,gt 5 (m 6 0),gt 5 (bu 7 .lss 6 192),pa 8 5 7,m 2 8] [2],
 .ret]
theorem sT:aq Tryz.prog Tryz.f138 [[0],[2]] 1=some (kG,[.t 2]):=by kernel_rfl

abbrev BU:Nat:=101
theorem CD:Tryz.prog.funcs[101]?=some Tryz.f101:=Tryz.func101
def sw:AC:=
 Q [.reg [mv 2 (.int .i32 0),mi 3 0] [0],
 .reg [m 10 0,o1 11 (.ia (.t 10) (.v (.int .i64 0)) 1),l1 12 11,o1 13 (.cii .i64 (.t 12)),m 4 13] [0,4],
 Q [.reg [m 14 4,bi 15 .lss 14 128] [0,4,15],
 C 15 (Q [.reg [m 16 4,o1 17 (.cii .i32 (.t 16)),m 2 17,mi 3 1] [2,3],
 .ret]) (.skip)],
 .reg [mi 5 0] [0,4],
 .reg [mi 6 0] [0,4],
 .reg [mi 7 0] [0,4],
 Q [.reg [m 18 4,bi 19 .geq 18 192,m 20 19,gt 20 (m 21 4),gt 20 (bi 22 .lss 21 224),pa 23 20 22] [0,4,23],
 C 23 (Q [.reg [mi 5 2] [0,4,5],
 .reg [m 24 4,bi 25 .sub 24 192,m 6 25] [0,5,6],
 .reg [mi 7 128] [0,5,6,7]]) (Q [.reg [m 26 4,bi 27 .geq 26 224,m 28 27,gt 28 (m 29 4),gt 28 (bi 30 .lss 29 240),pa 31 28 30] [0,4,31],
 C 31 (Q [.reg [mi 5 3] [0,4,5],
 .reg [m 32 4,bi 33 .sub 32 224,m 6 33] [0,5,6],
 .reg [mi 7 2048] [0,5,6,7]]) (Q [.reg [m 34 4,bi 35 .geq 34 240,m 36 35,gt 36 (m 37 4),gt 36 (bi 38 .lss 37 248),pa 39 36 38] [0,4,39],
 C 39 (Q [.reg [mi 5 4] [0,4,5],
 .reg [m 40 4,bi 41 .sub 40 240,m 6 41] [0,5,6],
 .reg [mi 7 65536] [0,5,6,7]]) (Q [.reg [mv 2 (.int .i32 65533),mi 3 1] [2,3],
 .ret])])])],
 Q [.reg [m 42 0,lq 43 42,m 44 5,bt 45 .lss 43 44] [0,5,6,7,45],
 C 45 (Q [.reg [mv 2 (.int .i32 65533),mi 3 1] [2,3],
 .ret]) (.skip)],
 Q [.reg [mi 8 1] [0,5,6,7,8],
 .block 0 (.loop [0,5,6,7,8] (Q [Q [.reg [m 46 8,m 47 5,bt 48 .lss 46 47] [0,5,6,7,8,48],
 C 48 (.skip) (.exit 0)],
 .block 1 (Q [.reg [m 51 0,m 52 8,ia 53 51 52 1,l1 54 53,ca 55 138 [54],m 9 55] [0,5,6,7,8,9],
 Q [.reg [m 56 9,nt' 57 56] [0,5,6,7,8,57],
 C 57 (Q [.reg [mv 2 (.int .i32 65533),mi 3 1] [2,3],
 .ret]) (.skip)],
 .reg [m 58 6,o1 59 (.bin .mul (.v (.int .i64 64)) (.t 58)),m 60 0,m 61 8,ia 62 60 61 1,l1 63 62,o1 64 (.cii .i64 (.t 63)),bt 65 .add 59 64,bi 66 .sub 65 128,m 6 66] [0,5,6,7,8]]),
 .reg [m 49 8,bi 50 .add 49 1,m 8 50] [0,5,6,7,8]]))],
 Q [.reg [m 67 6,m 68 7,bt 69 .lss 67 68,m 70 69,gf 70 (m 71 6),gf 70 (bi 72 .gtr 71 1114111),po 73 70 72,m 74 73,gf 74 (m 75 6),gf 74 (bi 76 .geq 75 55296),gf 74 (m 77 76),gt 77 (m 78 6),gt 77 (bi 79 .leq 78 57343),gf 74 (pa 80 77 79),po 81 74 80] [5,6,81],
 C 81 (Q [.reg [mv 2 (.int .i32 65533),mi 3 1] [2,3],
 .ret]) (.skip)],
 .reg [m 82 6,o1 83 (.cii .i32 (.t 82)),m 84 5,m 2 83,m 3 84] [2,3],
 .ret]
theorem Cl:aq Tryz.prog Tryz.f101 [[0],[0,4],[0,4,15],[2,3],[0,4],[0,4],[0,4],[0,4,23],[0,4,5],[0,5,6],[0,5,6,7],[0,4,31],[0,4,5],[0,5,6],[0,5,6,7],[0,4,39],[0,4,5],[0,5,6],[0,5,6,7],[2,3],[0,5,6,7,45],[2,3],[0,5,6,7,8],[0,5,6,7,8],[0,5,6,7,8,48],[0,5,6,7,8,9],[0,5,6,7,8,57],[2,3],[0,5,6,7,8],[0,5,6,7,8],[5,6,81],[2,3],[2,3]] 1=some (sw,[.t 2,.t 3]):=by kernel_rfl

abbrev wa:Nat:=64
theorem xg:Tryz.prog.funcs[64]?=some Tryz.f64:=Tryz.func64
def nF:AC:=
 Q [.reg [mv 2 (.nil 1)] [0],
 .reg [mv 3 (.nil 1)] [0,3],
 Q [.reg [mi 4 0] [0,3,4],
 .block 0 (.loop [0,3,4] (Q [Q [.reg [m 7 4,m 8 0,lq 9 8,bt 10 .lss 7 9] [0,3,4,10],
 C 10 (.skip) (.exit 0)],
 .block 1 (Q [.reg [m 12 0,m 13 4,o1 14 (.slq (.t 12) (some (.t 13)) none 1),ca 15 101 [14],m 11 15,ex 16 11 0,ex 17 11 1,m 5 16,m 6 17] [0,3,4,5,6],
 .reg [m 18 3,m 19 5,o1 20 (.lit 21 1 [.t 19]),o1 21 (.app (.t 18) (.t 20) 21 1 4),m 3 21] [0,3,4,6],
 .reg [m 22 4,m 23 6,bt 24 .add 22 23,m 4 24] [0,3,4]])]))],
 .reg [m 25 3,m 2 25] [2],
 .ret]
theorem wJ:aq Tryz.prog Tryz.f64 [[0],[0,3],[0,3,4],[0,3,4],[0,3,4,10],[0,3,4,5,6],[0,3,4,6],[0,3,4],[2]] 1=some (nF,[.t 2]):=by kernel_rfl

abbrev v8:Nat:=102
theorem xf:Tryz.prog.funcs[102]?=some Tryz.f102:=Tryz.func102
def nE:AC:=
 Q [.reg [mv 2 (.nil 1)] [0],
 .reg [m 4 0,o1 5 (.cii .i64 (.t 4)),m 3 5] [3],
 Q [.reg [m 6 3,bi 7 .lss 6 0,m 8 7,gf 8 (m 9 3),gf 8 (bi 10 .gtr 9 1114111),po 11 8 10,m 12 11,gf 12 (m 13 3),gf 12 (bi 14 .geq 13 55296),gf 12 (m 15 14),gt 15 (m 16 3),gt 15 (bi 17 .leq 16 57343),gf 12 (pa 18 15 17),po 19 12 18] [3,19],
 C 19 (.reg [mi 3 65533] [3]) (.skip)],
 Q [.reg [m 20 3,bi 21 .lss 20 128] [3,21],
 C 21 (Q [.reg [m 22 3,o1 23 (.cii .u8 (.t 22)),o1 24 (.lit 5 1 [.t 23]),m 2 24] [2],
 .ret]) (.skip)],
 Q [.reg [m 25 3,bi 26 .lss 25 2048] [3,26],
 C 26 (Q [.reg [m 27 3,bi 28 .quo 27 64,o1 29 (.bin .add (.v (.int .i64 192)) (.t 28)),o1 30 (.cii .u8 (.t 29)),m 31 3,bi 32 .rem 31 64,o1 33 (.bin .add (.v (.int .i64 128)) (.t 32)),o1 34 (.cii .u8 (.t 33)),o1 35 (.lit 5 1 [.t 30,.t 34]),m 2 35] [2],
 .ret]) (.skip)],
 Q [.reg [m 36 3,bi 37 .lss 36 65536] [3,37],
 C 37 (Q [.reg [m 38 3,bi 39 .quo 38 4096,o1 40 (.bin .add (.v (.int .i64 224)) (.t 39)),o1 41 (.cii .u8 (.t 40)),m 42 3,bi 43 .quo 42 64,bi 44 .rem 43 64,o1 45 (.bin .add (.v (.int .i64 128)) (.t 44)),o1 46 (.cii .u8 (.t 45)),m 47 3,bi 48 .rem 47 64,o1 49 (.bin .add (.v (.int .i64 128)) (.t 48)),o1 50 (.cii .u8 (.t 49)),o1 51 (.lit 5 1 [.t 41,.t 46,.t 50]),m 2 51] [2],
 .ret]) (.skip)],
 .reg [m 52 3,bi 53 .quo 52 262144,o1 54 (.bin .add (.v (.int .i64 240)) (.t 53)),o1 55 (.cii .u8 (.t 54)),m 56 3,bi 57 .quo 56 4096,bi 58 .rem 57 64,o1 59 (.bin .add (.v (.int .i64 128)) (.t 58)),o1 60 (.cii .u8 (.t 59)),m 61 3,bi 62 .quo 61 64,bi 63 .rem 62 64,o1 64 (.bin .add (.v (.int .i64 128)) (.t 63)),o1 65 (.cii .u8 (.t 64)),m 66 3,bi 67 .rem 66 64,o1 68 (.bin .add (.v (.int .i64 128)) (.t 67)),o1 69 (.cii .u8 (.t 68)),o1 70 (.lit 5 1 [.t 55,.t 60,.t 65,.t 69]),m 2 70] [2],
 .ret]
theorem wI:aq Tryz.prog Tryz.f102 [[0],[3],[3,19],[3],[3,21],[2],[3,26],[2],[3,37],[2],[2]] 1=some (nE,[.t 2]):=by kernel_rfl

abbrev zF:Nat:=65
theorem As:Tryz.prog.funcs[65]?=some Tryz.f65:=Tryz.func65
def qw:AC:=
 Q [.reg [mv 2 (.str [])] [0],
 .reg [mv 3 (.nil 1)] [0,3],
 Q [.reg [mi 4 0] [0,3,4],
 .block 0 (.loop [0,3,4] (Q [Q [.reg [m 5 4,m 6 0,lq 7 6,bt 8 .lss 5 7] [0,3,4,8],
 C 8 (.skip) (.exit 0)],
 .block 1 (.reg [m 11 3,m 12 0,m 13 4,ia 14 12 13 1,l1 15 14,ca 16 102 [15],o1 17 (.app (.t 11) (.t 16) 5 1 1),m 3 17] [0,3,4]),
 .reg [m 9 4,bi 10 .add 9 1,m 4 10] [0,3,4]]))],
 .reg [m 18 3,o1 19 (.b2s (.t 18)),m 2 19] [2],
 .ret]
theorem Ac:aq Tryz.prog Tryz.f65 [[0],[0,3],[0,3,4],[0,3,4],[0,3,4,8],[0,3,4],[0,3,4],[2]] 1=some (qw,[.t 2]):=by kernel_rfl

abbrev wb:Nat:=38
theorem xh:Tryz.prog.funcs[38]?=some Tryz.f38:=Tryz.func38
def nG:AC:=
 Q [.reg [mv 2 (.str [])] [0],
 .reg [m 7 0,ca 8 64 [7],m 3 8] [3],
 .reg [mv 4 (.nil 1)] [3,4],
 Q [.reg [mi 5 0] [3,4,5],
 .block 0 (.loop [3,4,5] (Q [Q [.reg [m 9 5,m 10 3,lq 11 10,bt 12 .lss 9 11] [3,4,5,12],
 C 12 (.skip) (.exit 0)],
 .block 1 (Q [.reg [m 15 3,m 16 5,ia 17 15 16 1,l1 18 17,m 6 18] [3,4,5,6],
 Q [.reg [m 19 6,o1 20 (.bin .eql (.t 19) (.v (.int .i32 10))),m 21 20,gt 21 (m 22 5),gt 21 (bi 23 .gtr 22 0),pa 24 21 23,m 25 24,gt 25 (m 26 3),gt 25 (m 27 5),gt 25 (bi 28 .sub 27 1),gt 25 (ia 29 26 28 1),gt 25 (l1 30 29),gt 25 (o1 31 (.bin .eql (.t 30) (.v (.int .i32 13)))),pa 32 25 31] [3,4,5,6,32],
 C 32 (.exit 1) (.skip)],
 Q [.reg [m 33 6,o1 34 (.bin .eql (.t 33) (.v (.int .i32 13)))] [3,4,5,6,34],
 C 34 (.reg [mv 6 (.int .i32 10)] [3,4,5,6]) (.skip)],
 Q [.reg [m 35 6,o1 36 (.bin .eql (.t 35) (.v (.int .i32 0)))] [3,4,5,6,36],
 C 36 (.reg [mv 6 (.int .i32 65533)] [3,4,5,6]) (.skip)],
 .reg [m 37 4,m 38 6,o1 39 (.lit 21 1 [.t 38]),o1 40 (.app (.t 37) (.t 39) 21 1 4),m 4 40] [3,4,5]]),
 .reg [m 13 5,bi 14 .add 13 1,m 5 14] [3,4,5]]))],
 .reg [m 41 4,ca 42 65 [41],m 2 42] [2],
 .ret]
theorem wK:aq Tryz.prog Tryz.f38 [[0],[3],[3,4],[3,4,5],[3,4,5],[3,4,5,12],[3,4,5,6],[3,4,5,6,32],[3,4,5,6,34],[3,4,5,6],[3,4,5,6,36],[3,4,5,6],[3,4,5],[3,4,5],[2]] 1=some (nG,[.t 2]):=by kernel_rfl

abbrev zD:Nat:=45
theorem Ap:Tryz.prog.funcs[45]?=some Tryz.f45:=Tryz.func45
def qt:AC:=
 Q [.reg [mv 2 (.str [])] [0],
 .reg [o1 7 (.lit 9 1 [.v (.str [97]),.v (.str [98]),.v (.str [112]),.v (.str [117,108]),.v (.str [108,105]),.v (.str [98,114]),.v (.str [105,109,103]),.v (.str [100,105,118]),.v (.str [115,99,114,105,112,116]),.v (.str [120,45,121])]),m 3 7] [0,3],
 .reg [mi 4 0] [0,3,4],
 Q [.reg [mi 5 0] [0,3,4,5],
 .block 0 (.loop [0,3,4,5] (Q [Q [.reg [m 8 5,m 9 0,ls 10 9,bt 11 .lss 8 10] [0,3,4,5,11],
 C 11 (.skip) (.exit 0)],
 .block 1 (.reg [m 14 4,m 15 0,m 16 5,ix 17 15 16,o1 18 (.cii .i64 (.t 17)),bt 19 .add 14 18,m 4 19] [0,3,4,5]),
 .reg [m 12 5,bi 13 .add 12 1,m 5 13] [0,3,4,5]]))],
 .reg [m 20 0,ca 21 41 [20],m 6 21] [0,3,4,6],
 Q [.reg [m 22 6] [0,3,4,22],
 C 22 (Q [.reg [m 23 0,m 2 23] [2],
 .ret]) (.skip)],
 .reg [m 24 3,m 25 4,m 26 3,lq 27 26,bt 28 .rem 25 27,ia 29 24 28 1,l1 30 29,m 2 30] [2],
 .ret]
theorem z8:aq Tryz.prog Tryz.f45 [[0],[0,3],[0,3,4],[0,3,4,5],[0,3,4,5],[0,3,4,5,11],[0,3,4,5],[0,3,4,5],[0,3,4,6],[0,3,4,22],[2],[2]] 1=some (qt,[.t 2]):=by kernel_rfl

abbrev D5:Nat:=105
theorem Es:Tryz.prog.funcs[105]?=some Tryz.f105:=Tryz.func105
def vu:AC:=
 Q [.reg [mb 2 false] [0],
 .reg [m 3 0,o1 4 (.s2b (.t 3)),ca 5 38 [4],m 6 0,bt 7 .eql 5 6,m 2 7] [2],
 .ret]
theorem El:aq Tryz.prog Tryz.f105 [[0],[2]] 1=some (vu,[.t 2]):=by kernel_rfl

abbrev oh:Nat:=74
theorem oB:Tryz.prog.funcs[74]?=some Tryz.f74:=Tryz.func74
def ip:AC:=
 Q [.reg [mb 2 false] [0],
 .reg [m 6 0,ca 7 105 [6],m 3 7] [0,3],
 Q [.reg [mi 4 0] [0,3,4],
 .block 0 (.loop [0,3,4] (Q [Q [.reg [m 8 4,m 9 0,ls 10 9,bt 11 .lss 8 10] [0,3,4,11],
 C 11 (.skip) (.exit 0)],
 .block 1 (Q [.reg [m 14 0,m 15 4,ix 16 14 15,m 5 16] [0,3,4,5],
 .reg [m 17 5,bu 18 .geq 17 65,m 19 18,gt 19 (m 20 5),gt 19 (bu 21 .leq 20 90),pa 22 19 21,m 23 22,gf 23 (m 24 5),gf 23 (bu 25 .eql 24 9),po 26 23 25,m 27 26,gf 27 (m 28 5),gf 27 (bu 29 .eql 28 10),po 30 27 29,m 31 30,gf 31 (m 32 5),gf 31 (bu 33 .eql 32 12),po 34 31 33,m 35 34,gf 35 (m 36 5),gf 35 (bu 37 .eql 36 32),po 38 35 37,m 39 38,gf 39 (m 40 5),gf 39 (bu 41 .eql 40 47),po 42 39 41,m 43 42,gf 43 (m 44 5),gf 43 (bu 45 .eql 44 62),po 46 43 45,m 47 46,gf 47 (m 48 5),gf 47 (bu 49 .eql 48 61),po 50 47 49] [0,3,4,50],
 C 50 (Q [.reg [mb 2 false] [2],
 .ret]) (.skip)]),
 .reg [m 12 4,bi 13 .add 12 1,m 4 13] [0,3,4]]))],
 .reg [m 51 3,m 52 51,gt 52 (m 53 0),gt 52 (ls 54 53),gt 52 (bi 55 .gtr 54 0),pa 56 52 55,m 2 56] [2],
 .ret]
theorem ov:aq Tryz.prog Tryz.f74 [[0],[0,3],[0,3,4],[0,3,4],[0,3,4,11],[0,3,4,5],[0,3,4,50],[2],[0,3,4],[2]] 1=some (ip,[.t 2]):=by kernel_rfl

abbrev pJ:Nat:=46
theorem p4:Tryz.prog.funcs[46]?=some Tryz.f46:=Tryz.func46
def iW:AC:=
 Q [.reg [mv 2 (.str [])] [0],
 .reg [m 5 0,ca 6 74 [5],m 3 6] [0,3],
 Q [.reg [m 7 3] [0,7],
 C 7 (Q [.reg [m 8 0,m 2 8] [2],
 .ret]) (.skip)],
 .reg [o1 9 (.lit 9 1 [.v (.str [105,100]),.v (.str [104,114,101,102]),.v (.str [116,105,116,108,101]),.v (.str [100,97,116,97,45,97]),.v (.str [111,110,99,108,105,99,107])]),m 4 9] [0,4],
 .reg [m 10 4,m 11 0,ls 12 11,m 13 4,lq 14 13,bt 15 .rem 12 14,ia 16 10 15 1,l1 17 16,m 2 17] [2],
 .ret]
theorem pU:aq Tryz.prog Tryz.f46 [[0],[0,3],[0,7],[2],[0,4],[2]] 1=some (iW,[.t 2]):=by kernel_rfl

abbrev vZ:Nat:=47
theorem xc:Tryz.prog.funcs[47]?=some Tryz.f47:=Tryz.func47
def nC:AC:=
 Q [.reg [bx 2 0,mv 4 (.str []),mb 5 false] [1,2],
 Q [.reg [mi 6 0] [1,2,6],
 .block 0 (.loop [1,2,6] (Q [Q [.reg [m 7 6,fa 8 2 2,l1 9 8,lq 10 9,bt 11 .lss 7 10] [1,2,6,11],
 C 11 (.skip) (.exit 0)],
 .block 1 (Q [.reg [fa 14 2 2,l1 15 14,m 16 6,ia 17 15 16 2,fa 18 17 0,l1 19 18,m 20 1,bt 21 .eql 19 20] [1,2,6,21],
 C 21 (Q [.reg [fa 22 2 2,l1 23 22,m 24 6,ia 25 23 24 2,fa 26 25 1,l1 27 26,m 4 27,mb 5 true] [4,5],
 .ret]) (.skip)]),
 .reg [m 12 6,bi 13 .add 12 1,m 6 13] [1,2,6]]))],
 .reg [mv 4 (.str []),mb 5 false] [4,5],
 .ret]
theorem wF:aq Tryz.prog Tryz.f47 [[1,2],[1,2,6],[1,2,6],[1,2,6,11],[1,2,6,21],[4,5],[1,2,6],[4,5]] 2=some (nC,[.t 4,.t 5]):=by kernel_rfl

abbrev v7:Nat:=48
theorem xe:Tryz.prog.funcs[48]?=some Tryz.f48:=Tryz.func48
def nD:AC:=
 Q [.reg [mv 2 (.nil 5)] [0],
 .reg [mv 3 (.nil 5)] [0,3],
 Q [.reg [mi 4 0] [0,3,4],
 .block 0 (.loop [0,3,4] (Q [Q [.reg [m 6 4,m 7 0,lq 8 7,bt 9 .lss 6 8] [0,3,4,9],
 C 9 (.skip) (.exit 0)],
 .block 1 (Q [.reg [m 12 3,lq 13 12,bi 14 .sub 13 1,m 5 14] [0,3,4,5],
 Q [.reg [m 15 0,m 16 4,ia 17 15 16 5,fa 18 17 0,l1 19 18,bi 20 .eql 19 2,m 21 20,gt 21 (m 22 0),gt 21 (m 23 4),gt 21 (ia 24 22 23 5),gt 21 (fa 25 24 3),gt 21 (l1 26 25),gt 21 (bs 27 .eql 26 []),pa 28 21 27] [0,3,4,5,28],
 C 28 (.exit 1) (.skip)],
 .reg [m 29 0,m 30 4,ia 31 29 30 5,fa 32 31 0,l1 33 32,bi 34 .eql 33 2,m 35 34,gt 35 (m 36 5),gt 35 (bi 37 .geq 36 0),pa 38 35 37,m 39 38,gt 39 (m 40 3),gt 39 (m 41 5),gt 39 (ia 42 40 41 5),gt 39 (fa 43 42 0),gt 39 (l1 44 43),gt 39 (bi 45 .eql 44 2),pa 46 39 45] [0,3,4,5,46],
 C 46 (.regD [m 47 3,m 48 5,m 49 3,m 50 5,ia 51 49 50 5,fa 52 51 3,l1 53 52,m 54 0,m 55 4,ia 56 54 55 5,fa 57 56 3,l1 58 57,bt 59 .add 53 58,ia 60 47 48 5,fa 61 60 3,st 1 61 59] [0,3,4]) (.reg [m 62 3,m 63 0,m 64 4,ia 65 63 64 5,la 66 65 5,o1 67 (.lit 41 5 [.t 66]),o1 68 (.app (.t 62) (.t 67) 41 5 88),m 3 68] [0,3,4])]),
 .reg [m 10 4,bi 11 .add 10 1,m 4 11] [0,3,4]]))],
 .reg [m 69 3,m 2 69] [2],
 .ret]
theorem wH:aq Tryz.prog Tryz.f48 [[0],[0,3],[0,3,4],[0,3,4],[0,3,4,9],[0,3,4,5],[0,3,4,5,28],[0,3,4,5,46],[0,0,0,0,0,12,28,60,0,0,384,896,1920,4092,8191,16383,32767],[0,1,2,3,4,5,6,7,8,9,10,11,12,13,14,15],[0,3,4],[0,3,4],[0,3,4],[2]] 1=some (nD,[.t 2]):=by kernel_rfl

abbrev gJ:Nat:=28
theorem Aq:Tryz.prog.funcs[28]?=some Tryz.f28:=Tryz.func28
def qu:AC:=
 Q [.reg [mv 2 (.nil 5)] [0],
 .reg [mv 3 (.nil 5)] [0,3],
 Q [.reg [mi 4 0] [0,3,4],
 .block 0 (.loop [0,3,4] (Q [Q [.reg [m 10 4,m 11 0,lq 12 11,bt 13 .lss 10 12] [0,3,4,13],
 C 13 (.skip) (.exit 0)],
 .block 1 (Q [.reg [m 16 0,m 17 4,ia 18 16 17 5,fa 19 18 0,l1 20 19,o1 21 (.bld [.int .i64 0,.str [],.nil 2,.str [],.nil 5] [(0,1,(.t 20))]),o1 5 (.alc [.int .i64 0,.str [],.nil 2,.str [],.nil 5]),st 5 5 21] [0,3,4,5],
 Q [.reg [fa 22 5 0,l1 23 22,bi 24 .lss 23 1,m 25 24,gf 25 (fa 26 5 0),gf 25 (l1 27 26),gf 25 (bi 28 .gtr 27 3),po 29 25 28] [0,3,4,5,29],
 C 29 (.reg [fa 30 5 0,o0 (.st 1 (.t 30) (.v (.int .i64 1)))] [0,3,4,5]) (.skip)],
 Q [.reg [fa 31 5 0,l1 32 31,bi 33 .neq 32 1] [0,3,4,5,33],
 C 33 (Q [.reg [m 34 0,m 35 4,ia 36 34 35 5,fa 37 36 3,l1 38 37,o1 39 (.s2b (.t 38)),ca 40 38 [39],fa 41 5 3,st 1 41 40] [0,3,4,5],
 .reg [m 42 3,la 43 5 5,o1 44 (.lit 41 5 [.t 43]),o1 45 (.app (.t 42) (.t 44) 41 5 88),m 3 45] [0,3,4],
 .exit 1]) (.skip)],
 .reg [m 46 0,m 47 4,ia 48 46 47 5,fa 49 48 1,l1 50 49,ca 51 45 [50],fa 52 5 1,st 1 52 51] [0,3,4,5],
 Q [.reg [mi 6 0] [0,3,4,5,6],
 .block 2 (.loop [0,3,4,5,6] (Q [Q [.reg [m 53 6,m 54 0,m 55 4,ia 56 54 55 5,fa 57 56 2,l1 58 57,lq 59 58,bt 60 .lss 53 59] [0,3,4,5,6,60],
 C 60 (.skip) (.exit 2)],
 .block 3 (Q [.regD [m 63 0,m 64 4,ia 65 63 64 5,fa 66 65 2,l1 67 66,m 68 6,ia 69 67 68 2,fa 70 69 0,l1 71 70,ca 72 46 [71],m 73 0,m 74 4,ia 75 73 74 5,fa 76 75 2,l1 77 76,m 78 6,ia 79 77 78 2,fa 80 79 1,l1 81 80,o1 82 (.s2b (.t 81)),ca 83 38 [82],o1 84 (.bld [.str [],.str []] [(0,1,(.t 72)),(1,1,(.t 83))]),o1 7 (.alc [.str [],.str []]),st 2 7 84] [0,3,4,5,6,7],
 .reg [la 86 5 5,fa 87 7 0,l1 88 87,ca 89 47 [86,88],m 85 89,ex 90 85 0,ex 91 85 1,m 8 90,m 9 91] [0,3,4,5,6,7,9],
 .reg [m 92 9,nt' 93 92] [0,3,4,5,6,7,93],
 C 93 (.reg [fa 94 5 2,l1 95 94,la 96 7 2,o1 97 (.lit 59 2 [.t 96]),o1 98 (.app (.t 95) (.t 97) 59 2 32),fa 99 5 2,st 1 99 98] [0,3,4,5,6]) (.skip)]),
 .reg [m 61 6,bi 62 .add 61 1,m 6 62] [0,3,4,5,6]]))],
 .reg [m 100 0,m 101 4,ia 102 100 101 5,fa 103 102 4,l1 104 103,ca 105 28 [104],fa 106 5 4,st 1 106 105] [0,3,4,5],
 .reg [m 107 3,la 108 5 5,o1 109 (.lit 41 5 [.t 108]),o1 110 (.app (.t 107) (.t 109) 41 5 88),m 3 110] [0,3,4]]),
 .reg [m 14 4,bi 15 .add 14 1,m 4 15] [0,3,4]]))],
 .reg [m 111 3,ca 112 48 [111],m 2 112] [2],
 .ret]
theorem Aa:aq Tryz.prog Tryz.f28 [[0],[0,3],[0,3,4],[0,3,4],[0,3,4,13],[0,3,4,5],[0,3,4,5,29],[0,3,4,5],[0,3,4,5,33],[0,3,4,5],[0,3,4],[0,3,4,5],[0,3,4,5,6],[0,3,4,5,6],[0,3,4,5,6,60],[0,0,0,3,7,15,0,63,127,255,511,0,0,3072,7168,15360,0,64512,130048,261120,523264,1048575,2097151,0,8388607],[0,1,2,3,4,5,6,7,8,9,10,11,12,13,14,15,16,17,18,19,20,21,22,23],[0,3,4,5,6,7],[0,3,4,5,6,7,9],[0,3,4,5,6,7,93],[0,3,4,5,6],[0,3,4,5,6],[0,3,4,5],[0,3,4],[0,3,4],[2]] 1=some (qu,[.t 2]):=by kernel_rfl

abbrev zE:Nat:=8
theorem Ar:Tryz.prog.funcs[8]?=some Tryz.f8:=Tryz.func8
def qv:AC:=
 Q [.reg [mv 2 (.nil 5)] [0],
 .reg [m 3 0,ca 4 29 [3],ca 5 28 [4],m 2 5] [2],
 .ret]
theorem Ab:aq Tryz.prog Tryz.f8 [[0],[2]] 1=some (qv,[.t 2]):=by kernel_rfl

abbrev cN:Nat:=118
theorem cR:Tryz.prog.funcs[118]?=some Tryz.f118:=Tryz.func118
def bz:AC:=
 Q [.reg [mi 4 0] [0,1],
 Q [.reg [m 6 0,lq 7 6,mi 8 0] [0,1,7,8],
 .block 0 (.loop [0,1,7,8] (Q [.reg [bt 9 .lss 8 7] [0,1,7,8,9],
 C 9 (.skip) (.exit 0),
 .block 1 (Q [.reg [m 10 8,m 5 10] [0,1,5,7,8],
 .reg [m 11 1,m 12 0,m 13 5,ia 14 12 13 1,l1 15 14,bt 16 .eql 11 15] [0,1,5,7,8,16],
 C 16 (Q [.reg [m 17 5,m 4 17] [4],
 .ret]) (.skip)]),
 .reg [bi 18 .add 8 1,m 8 18] [0,1,7,8]]))],
 .reg [mi 4 (-1)] [4],
 .ret]
theorem cQ:aq Tryz.prog Tryz.f118 [[0,1],[0,1,7,8],[0,1,7,8],[0,1,7,8,9],[0,1,5,7,8],[0,1,5,7,8,16],[4],[0,1,7,8],[4]] 2=some (bz,[.t 4]):=by kernel_rfl

abbrev b9:Nat:=87
theorem cg:Tryz.prog.funcs[87]?=some Tryz.f87:=Tryz.func87
def be:AC:=
 Q [.reg [mb 4 false] [0,1],
 .reg [m 5 0,m 6 1,ca 7 118 [5,6],bi 8 .geq 7 0,m 4 8] [4],
 .ret]
theorem ce:aq Tryz.prog Tryz.f87 [[0,1],[4]] 2=some (be,[.t 4]):=by kernel_rfl

abbrev cc:Nat:=186
theorem ci:Tryz.prog.funcs[186]?=some Tryz.f186:=Tryz.func186
def bf:AC:=
 Q [.reg [mb 4 false] [0,1],
 .reg [m 5 0,ls 6 5,m 7 1,ls 8 7,bt 9 .geq 6 8,m 10 9,gt 10 (m 11 0),gt 10 (m 12 1),gt 10 (ls 13 12),gt 10 (o1 14 (.sls (.t 11) none (some (.t 13)))),gt 10 (m 15 1),gt 10 (bt 16 .eql 14 15),pa 17 10 16,m 4 17] [4],
 .ret]
theorem cf:aq Tryz.prog Tryz.f186 [[0,1],[4]] 2=some (bf,[.t 4]):=by kernel_rfl

abbrev gp:Nat:=177
theorem gw:Tryz.prog.funcs[177]?=some Tryz.f177:=Tryz.func177
def dP:AC:=
 Q [.reg [mb 4 false] [0,1],
 .reg [m 5 0,m 6 1,ca 7 186 [5,6],m 4 7] [4],
 .ret]
theorem gu:aq Tryz.prog Tryz.f177 [[0,1],[4]] 2=some (dP,[.t 4]):=by kernel_rfl

abbrev bB:Nat:=154
abbrev dT:Nat:=158
end Go.Abs
