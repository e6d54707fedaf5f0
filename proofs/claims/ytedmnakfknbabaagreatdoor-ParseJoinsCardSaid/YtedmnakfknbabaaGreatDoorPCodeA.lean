/- The images of some of the program's functions, as. -/
import Derived.Test.YtedmnakfknbabaaGreatDoorPCodeD
set_option linter.all false
set_option maxHeartbeats 0
set_option maxRecDepth 100000
namespace Go.Abs
open Go.Proofs
abbrev zS:Nat:=71
theorem AI:Tryz.prog.funcs[71]?=some Tryz.f71:=Tryz.func71
def lR:AC:=
 Q [.reg [mb 2 false] [0],
 .reg [m 3 0,bu 4 .geq 3 97,m 5 4,gt 5 (m 6 0),gt 5 (bu 7 .leq 6 122),pa 8 5 7,m 2 8] [2],
 .ret]
theorem An:au Tryz.prog Tryz.f71 [[0],[2]] 1=some (lR,[.t 2]):=by kernel_rfl
abbrev zU:Nat:=39
theorem AK:Tryz.prog.funcs[39]?=some Tryz.f39:=Tryz.func39
def iH:AC:=
 Q [.reg [mb 2 false] [0],
 Q [.reg [m 6 0,ls 7 6,bi 8 .eql 7 0] [0,8],
 C 8 (Q [.reg [mb 2 false] [2],
 .ret]) (.skip)],
 .reg [m 9 0,o1 10 (.ixs (.t 9) (.v (.int .i64 0))),ca 11 71 [10],m 3 11] [0,3],
 Q [.reg [mi 4 0] [0,3,4],
 .block 0 (.loop [0,3,4] (Q [Q [.reg [m 12 4,m 13 0,ls 14 13,bt 15 .lss 12 14] [0,3,4,15],
 C 15 (.skip) (.exit 0)],
 .block 1 (Q [.reg [m 18 0,m 19 4,ix 20 18 19,ca 21 71 [20],m 5 21] [0,3,4,5],
 .reg [m 22 5,nt' 23 22,m 24 23,gt 24 (m 25 0),gt 24 (m 26 4),gt 24 (ix 27 25 26),gt 24 (bu 28 .lss 27 48),gt 24 (m 29 28),gf 29 (m 30 0),gf 29 (m 31 4),gf 29 (ix 32 30 31),gf 29 (bu 33 .gtr 32 57),gt 24 (po 34 29 33),pa 35 24 34,m 36 35,gt 36 (m 37 0),gt 36 (m 38 4),gt 36 (ix 39 37 38),gt 36 (bu 40 .neq 39 45),pa 41 36 40] [0,3,4,41],
 C 41 (Q [.reg [mb 2 false] [2],
 .ret]) (.skip)]),
 .reg [m 16 4,bi 17 .add 16 1,m 4 17] [0,3,4]]))],
 .reg [m 42 3,m 2 42] [2],
 .ret]
theorem Ap:au Tryz.prog Tryz.f39 [[0],[0,8],[2],[0,3],[0,3,4],[0,3,4],[0,3,4,15],[0,3,4,5],[0,3,4,41],[2],[0,3,4],[2]] 1=some (iH,[.t 2]):=by kernel_rfl
abbrev Dg:Nat:=68
theorem Ea:Tryz.prog.funcs[68]?=some Tryz.f68:=Tryz.func68
def ng:AC:=
 Q [.reg [mb 2 false] [0],
 .reg [m 3 0,bs 4 .eql 3 [98,114],m 5 4,gf 5 (m 6 0),gf 5 (bs 7 .eql 6 [104,114]),po 8 5 7,m 9 8,gf 9 (m 10 0),gf 9 (bs 11 .eql 10 [105,109,103]),po 12 9 11,m 13 12,gf 13 (m 14 0),gf 13 (bs 15 .eql 14 [105,110,112,117,116]),po 16 13 15,m 17 16,gf 17 (m 18 0),gf 17 (bs 19 .eql 18 [119,98,114]),po 20 17 19,m 2 20] [2],
 .ret]
theorem DO:au Tryz.prog Tryz.f68 [[0],[2]] 1=some (ng,[.t 2]):=by kernel_rfl
abbrev FY:Nat:=70
theorem GQ:Tryz.prog.funcs[70]?=some Tryz.f70:=Tryz.func70
def pc:AC:=
 Q [.reg [mb 2 false] [0],
 .reg [m 3 0,bs 4 .eql 3 [115,99,114,105,112,116],m 5 4,gf 5 (m 6 0),gf 5 (bs 7 .eql 6 [115,116,121,108,101]),po 8 5 7,m 2 8] [2],
 .ret]
theorem Gt:au Tryz.prog Tryz.f70 [[0],[2]] 1=some (pc,[.t 2]):=by kernel_rfl
abbrev yc:Nat:=73
theorem yG:Tryz.prog.funcs[73]?=some Tryz.f73:=Tryz.func73
def kG:AC:=
 Q [.reg [mb 4 false] [0,1],
 .reg [mv 5 (.nil 1)] [0,1,5],
 Q [.reg [m 7 0] [1,5,7],
 .block 0 (Q [.reg [bs 9 .eql 7 [112],m 8 9] [1,5,7,8],
 C 8 (.reg [o1 10 (.lit 9 1 [.v (.str [98,108,111,99,107,113,117,111,116,101]),.v (.str [100,105,118]),.v (.str [104,49]),.v (.str [104,50]),.v (.str [104,114]),.v (.str [108,105]),.v (.str [111,108]),.v (.str [112]),.v (.str [112,114,101]),.v (.str [116,97,98,108,101]),.v (.str [117,108])]),m 5 10] [1,5]) (Q [.reg [bs 12 .eql 7 [108,105],m 11 12] [1,5,7,11],
 C 11 (.reg [o1 13 (.lit 9 1 [.v (.str [108,105])]),m 5 13] [1,5]) (Q [Q [.reg [bs 15 .eql 7 [100,116],m 14 15] [1,5,7,14],
 C 14 (.skip) (.reg [bs 16 .eql 7 [100,100],m 14 16] [1,5,7,14])],
 C 14 (.reg [o1 17 (.lit 9 1 [.v (.str [100,100]),.v (.str [100,116])]),m 5 17] [1,5]) (Q [.reg [bs 19 .eql 7 [111,112,116,105,111,110],m 18 19] [1,5,7,18],
 C 18 (.reg [o1 20 (.lit 9 1 [.v (.str [111,112,116,105,111,110])]),m 5 20] [1,5]) (Q [.reg [bs 22 .eql 7 [116,100],m 21 22] [1,5,7,21],
 C 21 (.reg [o1 23 (.lit 9 1 [.v (.str [116,100]),.v (.str [116,114])]),m 5 23] [1,5]) (Q [.reg [bs 25 .eql 7 [116,114],m 24 25] [1,5,24],
 C 24 (.reg [o1 26 (.lit 9 1 [.v (.str [116,114])]),m 5 26] [1,5]) (.skip)])])])])])])],
 Q [.reg [mi 6 0] [1,5,6],
 .block 1 (.loop [1,5,6] (Q [Q [.reg [m 27 6,m 28 5,lq 29 28,bt 30 .lss 27 29] [1,5,6,30],
 C 30 (.skip) (.exit 1)],
 .block 2 (Q [.reg [m 33 5,m 34 6,ia 35 33 34 1,l1 36 35,m 37 1,bt 38 .eql 36 37] [1,5,6,38],
 C 38 (Q [.reg [mb 4 true] [4],
 .ret]) (.skip)]),
 .reg [m 31 6,bi 32 .add 31 1,m 6 32] [1,5,6]]))],
 .reg [mb 4 false] [4],
 .ret]
theorem yu:au Tryz.prog Tryz.f73 [[0,1],[0,1,5],[1,5,7],[1,5,7,8],[1,5],[1,5,7,11],[1,5],[1,5,7,14],[1,5,7,14],[1,5],[1,5,7,18],[1,5],[1,5,7,21],[1,5],[1,5,24],[1,5],[1,5,6],[1,5,6],[1,5,6,30],[1,5,6,38],[4],[1,5,6],[4]] 2=some (kG,[.t 4]):=by kernel_rfl
abbrev FX:Nat:=85
theorem GP:Tryz.prog.funcs[85]?=some Tryz.f85:=Tryz.func85
def v7:AC:=
 Q [.reg [mv 2 (.str [])] [0],
 Q [.reg [m 3 0,ls 4 3,bi 5 .gtr 4 30] [0,5],
 C 5 (Q [.reg [m 6 0,o1 7 (.sls (.t 6) none (some (.v (.int .i64 30)))),m 2 7] [2],
 .ret]) (.skip)],
 .reg [m 8 0,m 2 8] [2],
 .ret]
theorem Gs:au Tryz.prog Tryz.f85 [[0],[0,5],[2],[2]] 1=some (v7,[.t 2]):=by kernel_rfl
abbrev ll:Nat:=56
theorem GT:Tryz.prog.funcs[56]?=some Tryz.f56:=Tryz.func56
def wb:AC:=
 Q [.reg [mv 4 (.nil 5),mi 5 0] [0,1],
 .reg [mv 6 (.nil 5)] [0,1,6],
 Q [.reg [mi 7 0] [0,1,6,7],
 .block 0 (.loop [0,1,6,7] (Q [Q [.reg [m 11 7,m 12 0,lq 13 12,bt 14 .lss 11 13,m 15 14,gt 15 (m 16 1),gt 15 (bi 17 .gtr 16 0),pa 18 15 17] [0,1,6,7,18],
 C 18 (.skip) (.exit 0)],
 .block 1 (Q [.reg [m 21 0,m 22 7,ia 23 21 22 5,la 24 23 5,o1 8 (.alc [.int .i64 0,.str [],.nil 2,.str [],.nil 5]),st 5 8 24] [0,1,6,7,8],
 .reg [m 25 1,bi 26 .sub 25 1,m 1 26] [0,1,6,7,8],
 .reg [fa 27 8 1,l1 28 27,ca 29 85 [28],fa 30 8 1,st 1 30 29] [0,1,6,7,8],
 .reg [fa 31 8 3,l1 32 31,ca 33 85 [32],fa 34 8 3,st 1 34 33] [0,1,6,7,8],
 .reg [fa 36 8 4,l1 37 36,m 38 1,ca 39 56 [37,38],m 35 39,ex 40 35 0,ex 41 35 1,fa 42 8 4,st 1 42 40,m 1 41] [0,1,6,7,8],
 .reg [mv 9 (.nil 2)] [0,1,6,7,8,9],
 Q [.reg [mi 10 0] [0,1,6,7,8,9,10],
 .block 2 (.loop [0,1,6,7,8,9,10] (Q [Q [.reg [m 43 10,fa 44 8 2,l1 45 44,lq 46 45,bt 47 .lss 43 46,m 48 47,gt 48 (m 49 10),gt 48 (bi 50 .lss 49 5),pa 51 48 50] [0,1,6,7,8,9,10,51],
 C 51 (.skip) (.exit 2)],
 .block 3 (.regD [m 54 9,fa 55 8 2,l1 56 55,m 57 10,ia 58 56 57 2,fa 59 58 0,l1 60 59,ca 61 85 [60],fa 62 8 2,l1 63 62,m 64 10,ia 65 63 64 2,fa 66 65 1,l1 67 66,ca 68 85 [67],o1 69 (.bld [.str [],.str []] [(0,1,(.t 61)),(1,1,(.t 68))]),o1 70 (.lit 59 2 [.t 69]),o1 71 (.app (.t 54) (.t 70) 59 2 32),m 9 71] [0,1,6,7,8,9,10]),
 .reg [m 52 10,bi 53 .add 52 1,m 10 53] [0,1,6,7,8,9,10]]))],
 .reg [m 72 9,fa 73 8 2,st 1 73 72] [0,1,6,7,8],
 .reg [m 74 6,la 75 8 5,o1 76 (.lit 48 5 [.t 75]),o1 77 (.app (.t 74) (.t 76) 48 5 88),m 6 77] [0,1,6,7]]),
 .reg [m 19 7,bi 20 .add 19 1,m 7 20] [0,1,6,7]]))],
 .reg [m 78 6,m 79 1,m 4 78,m 5 79] [4,5],
 .ret]
theorem Gw:au Tryz.prog Tryz.f56 [[0,1],[0,1,6],[0,1,6,7],[0,1,6,7],[0,1,6,7,18],[0,1,6,7,8],[0,1,6,7,8],[0,1,6,7,8],[0,1,6,7,8],[0,1,6,7,8],[0,1,6,7,8,9],[0,1,6,7,8,9,10],[0,1,6,7,8,9,10],[0,1,6,7,8,9,10,51],[0,0,0,2,0,14,30,62,126,0,256,0,1792,3840,7936,16382,32766,65534,131071,262143],[0,1,2,3,4,5,6,7,8,9,10,11,12,13,14,15,16,17,18],[0,1,6,7,8,9,10],[0,1,6,7,8,9,10],[0,1,6,7,8],[0,1,6,7],[0,1,6,7],[4,5]] 2=some (wb,[.t 4,.t 5]):=by kernel_rfl
abbrev FZ:Nat:=31
theorem GS:Tryz.prog.funcs[31]?=some Tryz.f31:=Tryz.func31
def wa:AC:=
 Q [.reg [mv 2 (.nil 5)] [0],
 .reg [m 6 0,o1 7 (.call 56 [.t 6,.v (.int .i64 40)]),m 5 7,ex 8 5 0,ex 9 5 1,m 3 8,m 4 9] [3],
 .reg [m 10 3,m 2 10] [2],
 .ret]
theorem Gv:au Tryz.prog Tryz.f31 [[0],[3],[2]] 1=some (wa,[.t 2]):=by kernel_rfl
abbrev wz:Nat:=125
theorem wQ:Tryz.prog.funcs[125]?=some Tryz.f125:=Tryz.func125
def nE:AC:=
 Q [.reg [mb 2 false] [0],
 .reg [m 3 0,bu 4 .geq 3 128,m 5 4,gt 5 (m 6 0),gt 5 (bu 7 .lss 6 192),pa 8 5 7,m 2 8] [2],
 .ret]
theorem wI:au Tryz.prog Tryz.f125 [[0],[2]] 1=some (nE,[.t 2]):=by kernel_rfl
abbrev F0:Nat:=105
theorem GU:Tryz.prog.funcs[105]?=some Tryz.f105:=Tryz.func105
def wc:AC:=
 Q [.reg [mv 2 (.int .i32 0),mi 3 0] [0],
 .reg [m 10 0,o1 11 (.ia (.t 10) (.v (.int .i64 0)) 1),l1 12 11,o1 13 (.cii .i64 (.t 12)),m 4 13] [0,4],
 Q [.reg [m 14 4,bi 15 .lss 14 128] [0,4,15],
 C 15 (Q [.reg [m 16 4,o1 17 (.cii .i32 (.t 16)),m 2 17,mi 3 1] [2,3],
 .ret]) (.skip)],
 .reg [mi 5 0] [0,4],
 .reg [mi 6 0] [0,4],
 .reg [mi 7 0] [0,4],
 Q [.reg [m 18 4,bi 19 .geq 18 192,m 20 19,gt 20 (m 21 4),gt 20 (bi 22 .lss 21 224),pa 23 20 22] [0,4,23],
 C 23 (Q [.reg [mi 5 2] [0,4,5],
 .reg [m 24 4,bi 25 .sub 24 192,m 6 25] [0,5,6],
 .reg [mi 7 128] [0,5,6,7]]) (Q [.reg [m 26 4,bi 27 .geq 26 224,m 28 27,gt 28 (m 29 4),gt 28 (bi 30 .lss 29 240),pa 31 28 30] [0,4,31],
 C 31 (Q [.reg [mi 5 3] [0,4,5],
 .reg [m 32 4,bi 33 .sub 32 224,m 6 33] [0,5,6],
 .reg [mi 7 2048] [0,5,6,7]]) (Q [.reg [m 34 4,bi 35 .geq 34 240,m 36 35,gt 36 (m 37 4),gt 36 (bi 38 .lss 37 248),pa 39 36 38] [0,4,39],
 C 39 (Q [.reg [mi 5 4] [0,4,5],
 .reg [m 40 4,bi 41 .sub 40 240,m 6 41] [0,5,6],
 .reg [mi 7 65536] [0,5,6,7]]) (Q [.reg [mv 2 (.int .i32 65533),mi 3 1] [2,3],
 .ret])])])],
 Q [.reg [m 42 0,lq 43 42,m 44 5,bt 45 .lss 43 44] [0,5,6,7,45],
 C 45 (Q [.reg [mv 2 (.int .i32 65533),mi 3 1] [2,3],
 .ret]) (.skip)],
 Q [.reg [mi 8 1] [0,5,6,7,8],
 .block 0 (.loop [0,5,6,7,8] (Q [Q [.reg [m 46 8,m 47 5,bt 48 .lss 46 47] [0,5,6,7,8,48],
 C 48 (.skip) (.exit 0)],
 .block 1 (Q [.reg [m 51 0,m 52 8,ia 53 51 52 1,l1 54 53,ca 55 125 [54],m 9 55] [0,5,6,7,8,9],
 Q [.reg [m 56 9,nt' 57 56] [0,5,6,7,8,57],
 C 57 (Q [.reg [mv 2 (.int .i32 65533),mi 3 1] [2,3],
 .ret]) (.skip)],
 .reg [m 58 6,o1 59 (.bin .mul (.v (.int .i64 64)) (.t 58)),m 60 0,m 61 8,ia 62 60 61 1,l1 63 62,o1 64 (.cii .i64 (.t 63)),bt 65 .add 59 64,bi 66 .sub 65 128,m 6 66] [0,5,6,7,8]]),
 .reg [m 49 8,bi 50 .add 49 1,m 8 50] [0,5,6,7,8]]))],
 Q [.reg [m 67 6,m 68 7,bt 69 .lss 67 68,m 70 69,gf 70 (m 71 6),gf 70 (bi 72 .gtr 71 1114111),po 73 70 72,m 74 73,gf 74 (m 75 6),gf 74 (bi 76 .geq 75 55296),gf 74 (m 77 76),gt 77 (m 78 6),gt 77 (bi 79 .leq 78 57343),gf 74 (pa 80 77 79),po 81 74 80] [5,6,81],
 C 81 (Q [.reg [mv 2 (.int .i32 65533),mi 3 1] [2,3],
 .ret]) (.skip)],
 .reg [m 82 6,o1 83 (.cii .i32 (.t 82)),m 84 5,m 2 83,m 3 84] [2,3],
 .ret]
theorem Gx:au Tryz.prog Tryz.f105 [[0],[0,4],[0,4,15],[2,3],[0,4],[0,4],[0,4],[0,4,23],[0,4,5],[0,5,6],[0,5,6,7],[0,4,31],[0,4,5],[0,5,6],[0,5,6,7],[0,4,39],[0,4,5],[0,5,6],[0,5,6,7],[2,3],[0,5,6,7,45],[2,3],[0,5,6,7,8],[0,5,6,7,8],[0,5,6,7,8,48],[0,5,6,7,8,9],[0,5,6,7,8,57],[2,3],[0,5,6,7,8],[0,5,6,7,8],[5,6,81],[2,3],[2,3]] 1=some (wc,[.t 2,.t 3]):=by kernel_rfl
abbrev zX:Nat:=82
theorem AN:Tryz.prog.funcs[82]?=some Tryz.f82:=Tryz.func82
def qE:AC:=
 Q [.reg [mv 2 (.nil 1)] [0],
 .reg [mv 3 (.nil 1)] [0,3],
 Q [.reg [mi 4 0] [0,3,4],
 .block 0 (.loop [0,3,4] (Q [Q [.reg [m 7 4,m 8 0,lq 9 8,bt 10 .lss 7 9] [0,3,4,10],
 C 10 (.skip) (.exit 0)],
 .block 1 (Q [.reg [m 12 0,m 13 4,o1 14 (.slq (.t 12) (some (.t 13)) none 1),ca 15 105 [14],m 11 15,ex 16 11 0,ex 17 11 1,m 5 16,m 6 17] [0,3,4,5,6],
 .reg [m 18 3,m 19 5,o1 20 (.lit 21 1 [.t 19]),o1 21 (.app (.t 18) (.t 20) 21 1 4),m 3 21] [0,3,4,6],
 .reg [m 22 4,m 23 6,bt 24 .add 22 23,m 4 24] [0,3,4]])]))],
 .reg [m 25 3,m 2 25] [2],
 .ret]
theorem As:au Tryz.prog Tryz.f82 [[0],[0,3],[0,3,4],[0,3,4],[0,3,4,10],[0,3,4,5,6],[0,3,4,6],[0,3,4],[2]] 1=some (qE,[.t 2]):=by kernel_rfl
abbrev zW:Nat:=106
theorem AM:Tryz.prog.funcs[106]?=some Tryz.f106:=Tryz.func106
def qD:AC:=
 Q [.reg [mv 2 (.nil 1)] [0],
 .reg [m 4 0,o1 5 (.cii .i64 (.t 4)),m 3 5] [3],
 Q [.reg [m 6 3,bi 7 .lss 6 0,m 8 7,gf 8 (m 9 3),gf 8 (bi 10 .gtr 9 1114111),po 11 8 10,m 12 11,gf 12 (m 13 3),gf 12 (bi 14 .geq 13 55296),gf 12 (m 15 14),gt 15 (m 16 3),gt 15 (bi 17 .leq 16 57343),gf 12 (pa 18 15 17),po 19 12 18] [3,19],
 C 19 (.reg [mi 3 65533] [3]) (.skip)],
 Q [.reg [m 20 3,bi 21 .lss 20 128] [3,21],
 C 21 (Q [.reg [m 22 3,o1 23 (.cii .u8 (.t 22)),o1 24 (.lit 5 1 [.t 23]),m 2 24] [2],
 .ret]) (.skip)],
 Q [.reg [m 25 3,bi 26 .lss 25 2048] [3,26],
 C 26 (Q [.reg [m 27 3,bi 28 .quo 27 64,o1 29 (.bin .add (.v (.int .i64 192)) (.t 28)),o1 30 (.cii .u8 (.t 29)),m 31 3,bi 32 .rem 31 64,o1 33 (.bin .add (.v (.int .i64 128)) (.t 32)),o1 34 (.cii .u8 (.t 33)),o1 35 (.lit 5 1 [.t 30,.t 34]),m 2 35] [2],
 .ret]) (.skip)],
 Q [.reg [m 36 3,bi 37 .lss 36 65536] [3,37],
 C 37 (Q [.reg [m 38 3,bi 39 .quo 38 4096,o1 40 (.bin .add (.v (.int .i64 224)) (.t 39)),o1 41 (.cii .u8 (.t 40)),m 42 3,bi 43 .quo 42 64,bi 44 .rem 43 64,o1 45 (.bin .add (.v (.int .i64 128)) (.t 44)),o1 46 (.cii .u8 (.t 45)),m 47 3,bi 48 .rem 47 64,o1 49 (.bin .add (.v (.int .i64 128)) (.t 48)),o1 50 (.cii .u8 (.t 49)),o1 51 (.lit 5 1 [.t 41,.t 46,.t 50]),m 2 51] [2],
 .ret]) (.skip)],
 .reg [m 52 3,bi 53 .quo 52 262144,o1 54 (.bin .add (.v (.int .i64 240)) (.t 53)),o1 55 (.cii .u8 (.t 54)),m 56 3,bi 57 .quo 56 4096,bi 58 .rem 57 64,o1 59 (.bin .add (.v (.int .i64 128)) (.t 58)),o1 60 (.cii .u8 (.t 59)),m 61 3,bi 62 .quo 61 64,bi 63 .rem 62 64,o1 64 (.bin .add (.v (.int .i64 128)) (.t 63)),o1 65 (.cii .u8 (.t 64)),m 66 3,bi 67 .rem 66 64,o1 68 (.bin .add (.v (.int .i64 128)) (.t 67)),o1 69 (.cii .u8 (.t 68)),o1 70 (.lit 5 1 [.t 55,.t 60,.t 65,.t 69]),m 2 70] [2],
 .ret]
theorem Ar:au Tryz.prog Tryz.f106 [[0],[3],[3,19],[3],[3,21],[2],[3,26],[2],[3,37],[2],[2]] 1=some (qD,[.t 2]):=by kernel_rfl
abbrev Di:Nat:=83
theorem Ed:Tryz.prog.funcs[83]?=some Tryz.f83:=Tryz.func83
def tP:AC:=
 Q [.reg [mv 2 (.str [])] [0],
 .reg [mv 3 (.nil 1)] [0,3],
 Q [.reg [mi 4 0] [0,3,4],
 .block 0 (.loop [0,3,4] (Q [Q [.reg [m 5 4,m 6 0,lq 7 6,bt 8 .lss 5 7] [0,3,4,8],
 C 8 (.skip) (.exit 0)],
 .block 1 (.reg [m 11 3,m 12 0,m 13 4,ia 14 12 13 1,l1 15 14,ca 16 106 [15],o1 17 (.app (.t 11) (.t 16) 5 1 1),m 3 17] [0,3,4]),
 .reg [m 9 4,bi 10 .add 9 1,m 4 10] [0,3,4]]))],
 .reg [m 18 3,o1 19 (.b2s (.t 18)),m 2 19] [2],
 .ret]
theorem DR:au Tryz.prog Tryz.f83 [[0],[0,3],[0,3,4],[0,3,4],[0,3,4,8],[0,3,4],[0,3,4],[2]] 1=some (tP,[.t 2]):=by kernel_rfl
abbrev zY:Nat:=52
theorem AP:Tryz.prog.funcs[52]?=some Tryz.f52:=Tryz.func52
def qF:AC:=
 Q [.reg [mv 2 (.str [])] [0],
 .reg [m 7 0,ca 8 82 [7],m 3 8] [3],
 .reg [mv 4 (.nil 1)] [3,4],
 Q [.reg [mi 5 0] [3,4,5],
 .block 0 (.loop [3,4,5] (Q [Q [.reg [m 9 5,m 10 3,lq 11 10,bt 12 .lss 9 11] [3,4,5,12],
 C 12 (.skip) (.exit 0)],
 .block 1 (Q [.reg [m 15 3,m 16 5,ia 17 15 16 1,l1 18 17,m 6 18] [3,4,5,6],
 Q [.reg [m 19 6,o1 20 (.bin .eql (.t 19) (.v (.int .i32 10))),m 21 20,gt 21 (m 22 5),gt 21 (bi 23 .gtr 22 0),pa 24 21 23,m 25 24,gt 25 (m 26 3),gt 25 (m 27 5),gt 25 (bi 28 .sub 27 1),gt 25 (ia 29 26 28 1),gt 25 (l1 30 29),gt 25 (o1 31 (.bin .eql (.t 30) (.v (.int .i32 13)))),pa 32 25 31] [3,4,5,6,32],
 C 32 (.exit 1) (.skip)],
 Q [.reg [m 33 6,o1 34 (.bin .eql (.t 33) (.v (.int .i32 13)))] [3,4,5,6,34],
 C 34 (.reg [mv 6 (.int .i32 10)] [3,4,5,6]) (.skip)],
 Q [.reg [m 35 6,o1 36 (.bin .eql (.t 35) (.v (.int .i32 0)))] [3,4,5,6,36],
 C 36 (.reg [mv 6 (.int .i32 65533)] [3,4,5,6]) (.skip)],
 .reg [m 37 4,m 38 6,o1 39 (.lit 21 1 [.t 38]),o1 40 (.app (.t 37) (.t 39) 21 1 4),m 4 40] [3,4,5]]),
 .reg [m 13 5,bi 14 .add 13 1,m 5 14] [3,4,5]]))],
 .reg [m 41 4,ca 42 83 [41],m 2 42] [2],
 .ret]
theorem At:au Tryz.prog Tryz.f52 [[0],[3],[3,4],[3,4,5],[3,4,5],[3,4,5,12],[3,4,5,6],[3,4,5,6,32],[3,4,5,6,34],[3,4,5,6],[3,4,5,6,36],[3,4,5,6],[3,4,5],[3,4,5],[2]] 1=some (qF,[.t 2]):=by kernel_rfl
abbrev Df:Nat:=53
theorem D8:Tryz.prog.funcs[53]?=some Tryz.f53:=Tryz.func53
def tL:AC:=
 Q [.reg [mv 2 (.str [])] [0],
 .reg [o1 7 (.lit 9 1 [.v (.str [97]),.v (.str [98]),.v (.str [112]),.v (.str [117,108]),.v (.str [108,105]),.v (.str [98,114]),.v (.str [105,109,103]),.v (.str [100,105,118]),.v (.str [115,99,114,105,112,116]),.v (.str [120,45,121])]),m 3 7] [0,3],
 .reg [mi 4 0] [0,3,4],
 Q [.reg [mi 5 0] [0,3,4,5],
 .block 0 (.loop [0,3,4,5] (Q [Q [.reg [m 8 5,m 9 0,ls 10 9,bt 11 .lss 8 10] [0,3,4,5,11],
 C 11 (.skip) (.exit 0)],
 .block 1 (.reg [m 14 4,m 15 0,m 16 5,ix 17 15 16,o1 18 (.cii .i64 (.t 17)),bt 19 .add 14 18,m 4 19] [0,3,4,5]),
 .reg [m 12 5,bi 13 .add 12 1,m 5 13] [0,3,4,5]]))],
 .reg [m 20 0,ca 21 39 [20],m 6 21] [0,3,4,6],
 Q [.reg [m 22 6] [0,3,4,22],
 C 22 (Q [.reg [m 23 0,m 2 23] [2],
 .ret]) (.skip)],
 .reg [m 24 3,m 25 4,m 26 3,lq 27 26,bt 28 .rem 25 27,ia 29 24 28 1,l1 30 29,m 2 30] [2],
 .ret]
theorem DM:au Tryz.prog Tryz.f53 [[0],[0,3],[0,3,4],[0,3,4,5],[0,3,4,5],[0,3,4,5,11],[0,3,4,5],[0,3,4,5],[0,3,4,6],[0,3,4,22],[2],[2]] 1=some (tL,[.t 2]):=by kernel_rfl
abbrev IG:Nat:=66
theorem Jd:Tryz.prog.funcs[66]?=some Tryz.f66:=Tryz.func66
def zm:AC:=
 Q [.reg [mb 2 false] [0],
 .reg [m 3 0,o1 4 (.s2b (.t 3)),ca 5 52 [4],m 6 0,bt 7 .eql 5 6,m 2 7] [2],
 .ret]
theorem I6:au Tryz.prog Tryz.f66 [[0],[2]] 1=some (zm,[.t 2]):=by kernel_rfl
abbrev rc:Nat:=84
theorem rz:Tryz.prog.funcs[84]?=some Tryz.f84:=Tryz.func84
def kH:AC:=
 Q [.reg [mb 2 false] [0],
 .reg [m 6 0,ca 7 66 [6],m 3 7] [0,3],
 Q [.reg [mi 4 0] [0,3,4],
 .block 0 (.loop [0,3,4] (Q [Q [.reg [m 8 4,m 9 0,ls 10 9,bt 11 .lss 8 10] [0,3,4,11],
 C 11 (.skip) (.exit 0)],
 .block 1 (Q [.reg [m 14 0,m 15 4,ix 16 14 15,m 5 16] [0,3,4,5],
 .reg [m 17 5,bu 18 .geq 17 65,m 19 18,gt 19 (m 20 5),gt 19 (bu 21 .leq 20 90),pa 22 19 21,m 23 22,gf 23 (m 24 5),gf 23 (bu 25 .eql 24 9),po 26 23 25,m 27 26,gf 27 (m 28 5),gf 27 (bu 29 .eql 28 10),po 30 27 29,m 31 30,gf 31 (m 32 5),gf 31 (bu 33 .eql 32 12),po 34 31 33,m 35 34,gf 35 (m 36 5),gf 35 (bu 37 .eql 36 32),po 38 35 37,m 39 38,gf 39 (m 40 5),gf 39 (bu 41 .eql 40 47),po 42 39 41,m 43 42,gf 43 (m 44 5),gf 43 (bu 45 .eql 44 62),po 46 43 45,m 47 46,gf 47 (m 48 5),gf 47 (bu 49 .eql 48 61),po 50 47 49] [0,3,4,50],
 C 50 (Q [.reg [mb 2 false] [2],
 .ret]) (.skip)]),
 .reg [m 12 4,bi 13 .add 12 1,m 4 13] [0,3,4]]))],
 .reg [m 51 3,m 52 51,gt 52 (m 53 0),gt 52 (ls 54 53),gt 52 (bi 55 .gtr 54 0),pa 56 52 55,m 2 56] [2],
 .ret]
theorem ro:au Tryz.prog Tryz.f84 [[0],[0,3],[0,3,4],[0,3,4],[0,3,4,11],[0,3,4,5],[0,3,4,50],[2],[0,3,4],[2]] 1=some (kH,[.t 2]):=by kernel_rfl
abbrev sD:Nat:=54
theorem sU:Tryz.prog.funcs[54]?=some Tryz.f54:=Tryz.func54
def lC:AC:=
 Q [.reg [mv 2 (.str [])] [0],
 .reg [m 5 0,ca 6 84 [5],m 3 6] [0,3],
 Q [.reg [m 7 3] [0,7],
 C 7 (Q [.reg [m 8 0,m 2 8] [2],
 .ret]) (.skip)],
 .reg [o1 9 (.lit 9 1 [.v (.str [105,100]),.v (.str [104,114,101,102]),.v (.str [116,105,116,108,101]),.v (.str [100,97,116,97,45,97]),.v (.str [111,110,99,108,105,99,107])]),m 4 9] [0,4],
 .reg [m 10 4,m 11 0,ls 12 11,m 13 4,lq 14 13,bt 15 .rem 12 14,ia 16 10 15 1,l1 17 16,m 2 17] [2],
 .ret]
theorem sP:au Tryz.prog Tryz.f54 [[0],[0,3],[0,7],[2],[0,4],[2]] 1=some (lC,[.t 2]):=by kernel_rfl
abbrev zT:Nat:=55
theorem AJ:Tryz.prog.funcs[55]?=some Tryz.f55:=Tryz.func55
def qB:AC:=
 Q [.reg [bx 2 0,mv 4 (.str []),mb 5 false] [1,2],
 Q [.reg [mi 6 0] [1,2,6],
 .block 0 (.loop [1,2,6] (Q [Q [.reg [m 7 6,fa 8 2 2,l1 9 8,lq 10 9,bt 11 .lss 7 10] [1,2,6,11],
 C 11 (.skip) (.exit 0)],
 .block 1 (Q [.reg [fa 14 2 2,l1 15 14,m 16 6,ia 17 15 16 2,fa 18 17 0,l1 19 18,m 20 1,bt 21 .eql 19 20] [1,2,6,21],
 C 21 (Q [.reg [fa 22 2 2,l1 23 22,m 24 6,ia 25 23 24 2,fa 26 25 1,l1 27 26,m 4 27,mb 5 true] [4,5],
 .ret]) (.skip)]),
 .reg [m 12 6,bi 13 .add 12 1,m 6 13] [1,2,6]]))],
 .reg [mv 4 (.str []),mb 5 false] [4,5],
 .ret]
theorem Ao:au Tryz.prog Tryz.f55 [[1,2],[1,2,6],[1,2,6],[1,2,6,11],[1,2,6,21],[4,5],[1,2,6],[4,5]] 2=some (qB,[.t 4,.t 5]):=by kernel_rfl
abbrev zV:Nat:=45
theorem AL:Tryz.prog.funcs[45]?=some Tryz.f45:=Tryz.func45
def qC:AC:=
 Q [.reg [mv 2 (.nil 5)] [0],
 .reg [mv 3 (.nil 5)] [0,3],
 Q [.reg [mi 4 0] [0,3,4],
 .block 0 (.loop [0,3,4] (Q [Q [.reg [m 6 4,m 7 0,lq 8 7,bt 9 .lss 6 8] [0,3,4,9],
 C 9 (.skip) (.exit 0)],
 .block 1 (Q [.reg [m 12 3,lq 13 12,bi 14 .sub 13 1,m 5 14] [0,3,4,5],
 Q [.reg [m 15 0,m 16 4,ia 17 15 16 5,fa 18 17 0,l1 19 18,bi 20 .eql 19 2,m 21 20,gt 21 (m 22 0),gt 21 (m 23 4),gt 21 (ia 24 22 23 5),gt 21 (fa 25 24 3),gt 21 (l1 26 25),gt 21 (bs 27 .eql 26 []),pa 28 21 27] [0,3,4,5,28],
 C 28 (.exit 1) (.skip)],
 .reg [m 29 0,m 30 4,ia 31 29 30 5,fa 32 31 0,l1 33 32,bi 34 .eql 33 2,m 35 34,gt 35 (m 36 5),gt 35 (bi 37 .geq 36 0),pa 38 35 37,m 39 38,gt 39 (m 40 3),gt 39 (m 41 5),gt 39 (ia 42 40 41 5),gt 39 (fa 43 42 0),gt 39 (l1 44 43),gt 39 (bi 45 .eql 44 2),pa 46 39 45] [0,3,4,5,46],
 C 46 (.regD [m 47 3,m 48 5,m 49 3,m 50 5,ia 51 49 50 5,fa 52 51 3,l1 53 52,m 54 0,m 55 4,ia 56 54 55 5,fa 57 56 3,l1 58 57,bt 59 .add 53 58,ia 60 47 48 5,fa 61 60 3,st 1 61 59] [0,3,4]) (.reg [m 62 3,m 63 0,m 64 4,ia 65 63 64 5,la 66 65 5,o1 67 (.lit 48 5 [.t 66]),o1 68 (.app (.t 62) (.t 67) 48 5 88),m 3 68] [0,3,4])]),
 .reg [m 10 4,bi 11 .add 10 1,m 4 11] [0,3,4]]))],
 .reg [m 69 3,m 2 69] [2],
 .ret]
theorem Aq:au Tryz.prog Tryz.f45 [[0],[0,3],[0,3,4],[0,3,4],[0,3,4,9],[0,3,4,5],[0,3,4,5,28],[0,3,4,5,46],[0,0,0,0,0,12,28,60,0,0,384,896,1920,4092,8191,16383,32767],[0,1,2,3,4,5,6,7,8,9,10,11,12,13,14,15],[0,3,4],[0,3,4],[0,3,4],[2]] 1=some (qC,[.t 2]):=by kernel_rfl
abbrev jK:Nat:=30
theorem D9:Tryz.prog.funcs[30]?=some Tryz.f30:=Tryz.func30
def tM:AC:=
 Q [.reg [mv 2 (.nil 5)] [0],
 .reg [mv 3 (.nil 5)] [0,3],
 Q [.reg [mi 4 0] [0,3,4],
 .block 0 (.loop [0,3,4] (Q [Q [.reg [m 10 4,m 11 0,lq 12 11,bt 13 .lss 10 12] [0,3,4,13],
 C 13 (.skip) (.exit 0)],
 .block 1 (Q [.reg [m 16 0,m 17 4,ia 18 16 17 5,fa 19 18 0,l1 20 19,o1 21 (.bld [.int .i64 0,.str [],.nil 2,.str [],.nil 5] [(0,1,(.t 20))]),o1 5 (.alc [.int .i64 0,.str [],.nil 2,.str [],.nil 5]),st 5 5 21] [0,3,4,5],
 Q [.reg [fa 22 5 0,l1 23 22,bi 24 .lss 23 1,m 25 24,gf 25 (fa 26 5 0),gf 25 (l1 27 26),gf 25 (bi 28 .gtr 27 3),po 29 25 28] [0,3,4,5,29],
 C 29 (.reg [fa 30 5 0,o0 (.st 1 (.t 30) (.v (.int .i64 1)))] [0,3,4,5]) (.skip)],
 Q [.reg [fa 31 5 0,l1 32 31,bi 33 .neq 32 1] [0,3,4,5,33],
 C 33 (Q [.reg [m 34 0,m 35 4,ia 36 34 35 5,fa 37 36 3,l1 38 37,o1 39 (.s2b (.t 38)),ca 40 52 [39],fa 41 5 3,st 1 41 40] [0,3,4,5],
 .reg [m 42 3,la 43 5 5,o1 44 (.lit 48 5 [.t 43]),o1 45 (.app (.t 42) (.t 44) 48 5 88),m 3 45] [0,3,4],
 .exit 1]) (.skip)],
 .reg [m 46 0,m 47 4,ia 48 46 47 5,fa 49 48 1,l1 50 49,ca 51 53 [50],fa 52 5 1,st 1 52 51] [0,3,4,5],
 Q [.reg [mi 6 0] [0,3,4,5,6],
 .block 2 (.loop [0,3,4,5,6] (Q [Q [.reg [m 53 6,m 54 0,m 55 4,ia 56 54 55 5,fa 57 56 2,l1 58 57,lq 59 58,bt 60 .lss 53 59] [0,3,4,5,6,60],
 C 60 (.skip) (.exit 2)],
 .block 3 (Q [.regD [m 63 0,m 64 4,ia 65 63 64 5,fa 66 65 2,l1 67 66,m 68 6,ia 69 67 68 2,fa 70 69 0,l1 71 70,ca 72 54 [71],m 73 0,m 74 4,ia 75 73 74 5,fa 76 75 2,l1 77 76,m 78 6,ia 79 77 78 2,fa 80 79 1,l1 81 80,o1 82 (.s2b (.t 81)),ca 83 52 [82],o1 84 (.bld [.str [],.str []] [(0,1,(.t 72)),(1,1,(.t 83))]),o1 7 (.alc [.str [],.str []]),st 2 7 84] [0,3,4,5,6,7],
 .reg [la 86 5 5,fa 87 7 0,l1 88 87,ca 89 55 [86,88],m 85 89,ex 90 85 0,ex 91 85 1,m 8 90,m 9 91] [0,3,4,5,6,7,9],
 .reg [m 92 9,nt' 93 92] [0,3,4,5,6,7,93],
 C 93 (.reg [fa 94 5 2,l1 95 94,la 96 7 2,o1 97 (.lit 59 2 [.t 96]),o1 98 (.app (.t 95) (.t 97) 59 2 32),fa 99 5 2,st 1 99 98] [0,3,4,5,6]) (.skip)]),
 .reg [m 61 6,bi 62 .add 61 1,m 6 62] [0,3,4,5,6]]))],
 .reg [m 100 0,m 101 4,ia 102 100 101 5,fa 103 102 4,l1 104 103,ca 105 30 [104],fa 106 5 4,st 1 106 105] [0,3,4,5],
 .reg [m 107 3,la 108 5 5,o1 109 (.lit 48 5 [.t 108]),o1 110 (.app (.t 107) (.t 109) 48 5 88),m 3 110] [0,3,4]]),
 .reg [m 14 4,bi 15 .add 14 1,m 4 15] [0,3,4]]))],
 .reg [m 111 3,ca 112 45 [111],m 2 112] [2],
 .ret]
theorem DN:au Tryz.prog Tryz.f30 [[0],[0,3],[0,3,4],[0,3,4],[0,3,4,13],[0,3,4,5],[0,3,4,5,29],[0,3,4,5],[0,3,4,5,33],[0,3,4,5],[0,3,4],[0,3,4,5],[0,3,4,5,6],[0,3,4,5,6],[0,3,4,5,6,60],[0,0,0,3,7,15,0,63,127,255,511,0,0,3072,7168,15360,0,64512,130048,261120,523264,1048575,2097151,0,8388607],[0,1,2,3,4,5,6,7,8,9,10,11,12,13,14,15,16,17,18,19,20,21,22,23],[0,3,4,5,6,7],[0,3,4,5,6,7,9],[0,3,4,5,6,7,93],[0,3,4,5,6],[0,3,4,5,6],[0,3,4,5],[0,3,4],[0,3,4],[2]] 1=some (tM,[.t 2]):=by kernel_rfl
abbrev Dh:Nat:=11
theorem Ec:Tryz.prog.funcs[11]?=some Tryz.f11:=Tryz.func11
def tO:AC:=
 Q [.reg [mv 2 (.nil 5)] [0],
 .reg [m 3 0,ca 4 31 [3],ca 5 30 [4],m 2 5] [2],
 .ret]
theorem DQ:au Tryz.prog Tryz.f11 [[0],[2]] 1=some (tO,[.t 2]):=by kernel_rfl
abbrev FW:Nat:=43
theorem GK:Tryz.prog.funcs[43]?=some Tryz.f43:=Tryz.func43
def vX:AC:=
 Q [.reg [mb 4 false] [0,1],
 Q [.reg [mi 5 0] [0,1,5],
 .block 0 (.loop [0,1,5] (Q [Q [.reg [m 6 5,m 7 1,ls 8 7,bt 9 .add 6 8,m 10 0,ls 11 10,bt 12 .leq 9 11] [0,1,5,12],
 C 12 (.skip) (.exit 0)],
 .block 1 (Q [.reg [m 15 0,m 16 5,m 17 5,m 18 1,ls 19 18,bt 20 .add 17 19,o1 21 (.sls (.t 15) (some (.t 16)) (some (.t 20))),m 22 1,bt 23 .eql 21 22] [0,1,5,23],
 C 23 (Q [.reg [mb 4 true] [4],
 .ret]) (.skip)]),
 .reg [m 13 5,bi 14 .add 13 1,m 5 14] [0,1,5]]))],
 .reg [mb 4 false] [4],
 .ret]
theorem Go:au Tryz.prog Tryz.f43 [[0,1],[0,1,5],[0,1,5],[0,1,5,12],[0,1,5,23],[4],[0,1,5],[4]] 2=some (vX,[.t 4]):=by kernel_rfl
abbrev Dj:Nat:=111
theorem Ee:Tryz.prog.funcs[111]?=some Tryz.f111:=Tryz.func111
def tQ:AC:=
 Q [.reg [mv 2 (.str [])] [0],
 .reg [mv 3 (.nil 1)] [0,3],
 Q [.reg [mi 4 0] [0,3,4],
 .block 0 (.loop [0,3,4] (Q [Q [.reg [m 6 4,m 7 0,ls 8 7,bt 9 .lss 6 8] [0,3,4,9],
 C 9 (.skip) (.exit 0)],
 .block 1 (Q [.reg [m 12 0,m 13 4,ix 14 12 13,m 5 14] [0,3,4,5],
 Q [.reg [m 15 5,bu 16 .geq 15 65,m 17 16,gt 17 (m 18 5),gt 17 (bu 19 .leq 18 90),pa 20 17 19] [0,3,4,5,20],
 C 20 (.reg [m 21 5,bu 22 .add 21 32,m 5 22] [0,3,4,5]) (.skip)],
 .reg [m 23 3,m 24 5,o1 25 (.lit 5 1 [.t 24]),o1 26 (.app (.t 23) (.t 25) 5 1 1),m 3 26] [0,3,4]]),
 .reg [m 10 4,bi 11 .add 10 1,m 4 11] [0,3,4]]))],
 .reg [m 27 3,o1 28 (.b2s (.t 27)),m 2 28] [2],
 .ret]
theorem DS:au Tryz.prog Tryz.f111 [[0],[0,3],[0,3,4],[0,3,4],[0,3,4,9],[0,3,4,5],[0,3,4,5,20],[0,3,4,5],[0,3,4],[0,3,4],[2]] 1=some (tQ,[.t 2]):=by kernel_rfl
abbrev zR:Nat:=112
theorem AH:Tryz.prog.funcs[112]?=some Tryz.f112:=Tryz.func112
def qA:AC:=
 Q [.reg [mb 2 false] [0],
 .reg [m 3 0,bu 4 .eql 3 9,m 5 4,gf 5 (m 6 0),gf 5 (bu 7 .eql 6 10),po 8 5 7,m 9 8,gf 9 (m 10 0),gf 9 (bu 11 .eql 10 12),po 12 9 11,m 13 12,gf 13 (m 14 0),gf 13 (bu 15 .eql 14 32),po 16 13 15,m 2 16] [2],
 .ret]
theorem Am:au Tryz.prog Tryz.f112 [[0],[2]] 1=some (qA,[.t 2]):=by kernel_rfl
abbrev Dc:Nat:=90
theorem D5:Tryz.prog.funcs[90]?=some Tryz.f90:=Tryz.func90
def tI:AC:=
 Q [.reg [mi 4 0] [0,1],
 .reg [m 8 1,ls 9 8,o1 10 (.bin .add (.v (.int .i64 2)) (.t 9)),m 5 10] [0,1,5],
 Q [.reg [mi 6 0] [0,1,5,6],
 .block 0 (.loop [0,1,5,6] (Q [Q [.reg [m 11 6,m 12 5,bt 13 .add 11 12,m 14 0,ls 15 14,bt 16 .lss 13 15] [0,1,5,6,16],
 C 16 (.skip) (.exit 0)],
 .block 1 (Q [.reg [m 19 0,m 20 6,m 21 5,bt 22 .add 20 21,ix 23 19 22,m 7 23] [0,1,5,6,7],
 .reg [m 24 0,m 25 6,m 26 6,m 27 5,bt 28 .add 26 27,o1 29 (.sls (.t 24) (some (.t 25)) (some (.t 28))),ca 30 111 [29],m 31 1,o1 32 (.bin .add (.v (.str [60,47])) (.t 31)),bt 33 .eql 30 32,m 34 33,gt 34 (m 35 7),gt 34 (ca 36 112 [35]),gt 34 (m 37 36),gf 37 (m 38 7),gf 37 (bu 39 .eql 38 47),gt 34 (po 40 37 39),gt 34 (m 41 40),gf 41 (m 42 7),gf 41 (bu 43 .eql 42 62),gt 34 (po 44 41 43),pa 45 34 44] [0,1,5,6,45],
 C 45 (Q [.reg [m 46 6,m 4 46] [4],
 .ret]) (.skip)]),
 .reg [m 17 6,bi 18 .add 17 1,m 6 18] [0,1,5,6]]))],
 .reg [mi 4 (-1)] [4],
 .ret]
theorem DJ:au Tryz.prog Tryz.f90 [[0,1],[0,1,5],[0,1,5,6],[0,1,5,6],[0,1,5,6,16],[0,1,5,6,7],[0,1,5,6,45],[4],[0,1,5,6],[4]] 2=some (tI,[.t 4]):=by kernel_rfl
abbrev Db:Nat:=60
theorem D4:Tryz.prog.funcs[60]?=some Tryz.f60:=Tryz.func60
def tH:AC:=
 Q [.reg [bx 3 1,mb 4 false] [0,3],
 .reg [m 8 0,ca 9 68 [8],m 5 9] [0,3,5],
 .reg [m 10 0,ca 11 70 [10],m 6 11] [0,3,5,6],
 Q [.reg [m 12 5] [0,3,6,12],
 C 12 (Q [.reg [mb 4 false] [4],
 .ret]) (.skip)],
 Q [.reg [m 13 6] [0,3,13],
 C 13 (Q [.regD [fa 14 3 0,l1 15 14,bi 16 .eql 15 2,m 17 16,gt 17 (fa 18 3 3),gt 17 (l1 19 18),gt 17 (bs 20 .add 19 [60,47]),gt 17 (m 21 0),gt 17 (bt 22 .add 20 21),gt 17 (bs 23 .add 22 [62]),gt 17 (m 24 0),gt 17 (ca 25 90 [23,24]),gt 17 (fa 26 3 3),gt 17 (l1 27 26),gt 17 (ls 28 27),gt 17 (bt 29 .eql 25 28),pa 30 17 29,m 4 30] [4],
 .ret]) (.skip)],
 .reg [m 31 0,fa 32 3 1,l1 33 32,ca 34 73 [31,33],m 7 34] [3,7],
 .reg [fa 35 3 0,l1 36 35,bi 37 .neq 36 1,m 38 37,gf 38 (m 39 7),gf 38 (nt' 40 39),po 41 38 40,m 4 41] [4],
 .ret]
theorem DI:au Tryz.prog Tryz.f60 [[0,3],[0,3,5],[0,3,5,6],[0,3,6,12],[4],[0,3,13],[0,0,1,3,7,15,31,63,15,255,511,15,2047,15,4111,12303,32767,65535,131071],[0,1,2,3,4,5,6,7,8,9,10,11,12,13,14,15,16,17],[4],[3,7],[4]] 2=some (tH,[.t 4]):=by kernel_rfl
abbrev wx:Nat:=44
theorem wO:Tryz.prog.funcs[44]?=some Tryz.f44:=Tryz.func44
def nC:AC:=
 Q [.reg [mv 4 (.nil 5)] [0,1],
 .reg [mv 5 (.nil 5)] [0,1,5],
 Q [.reg [mi 6 0] [0,1,5,6],
 .block 0 (.loop [0,1,5,6] (Q [Q [.reg [m 8 6,m 9 1,lq 10 9,bt 11 .lss 8 10] [0,1,5,6,11],
 C 11 (.skip) (.exit 0)],
 .block 1 (Q [.reg [m 14 0,m 15 1,m 16 6,ia 17 15 16 5,la 18 17 5,ca 19 60 [14,18],m 7 19] [0,1,5,6,7],
 .reg [m 20 7] [0,1,5,6,20],
 C 20 (.reg [m 21 5,m 22 1,m 23 6,ia 24 22 23 5,la 25 24 5,o1 26 (.lit 48 5 [.t 25]),o1 27 (.app (.t 21) (.t 26) 48 5 88),m 5 27] [0,1,5,6]) (.skip)]),
 .reg [m 12 6,bi 13 .add 12 1,m 6 13] [0,1,5,6]]))],
 .reg [m 28 5,m 4 28] [4],
 .ret]
theorem wG:au Tryz.prog Tryz.f44 [[0,1],[0,1,5],[0,1,5,6],[0,1,5,6],[0,1,5,6,11],[0,1,5,6,7],[0,1,5,6,20],[0,1,5,6],[0,1,5,6],[4]] 2=some (nC,[.t 4]):=by kernel_rfl
abbrev gx:Nat:=27
theorem yE:Tryz.prog.funcs[27]?=some Tryz.f27:=Tryz.func27
def o9:AC:=
 Q [.reg [mv 2 (.nil 5)] [0],
 .reg [mv 3 (.nil 5)] [0,3],
 Q [.reg [mi 4 0] [0,3,4],
 .block 0 (.loop [0,3,4] (Q [Q [.reg [m 6 4,m 7 0,lq 8 7,bt 9 .lss 6 8] [0,3,4,9],
 C 9 (.skip) (.exit 0)],
 .block 1 (Q [.reg [m 12 0,m 13 4,ia 14 12 13 5,la 15 14 5,o1 5 (.alc [.int .i64 0,.str [],.nil 2,.str [],.nil 5]),st 5 5 15] [0,3,4,5],
 Q [.reg [fa 16 5 0,l1 17 16,bi 18 .eql 17 3,m 19 18,gt 19 (fa 20 5 3),gt 19 (l1 21 20),gt 19 (o1 22 (.call 43 [.t 21,.v (.str [45,45,62])])),pa 23 19 22] [0,3,4,5,23],
 C 23 (.exit 1) (.skip)],
 Q [.reg [fa 24 5 0,l1 25 24,bi 26 .eql 25 1] [0,3,4,5,26],
 C 26 (.regD [fa 27 5 1,l1 28 27,fa 29 5 1,l1 30 29,fa 31 5 4,l1 32 31,ca 33 44 [30,32],ca 34 27 [33],ca 35 44 [28,34],fa 36 5 4,st 1 36 35] [0,3,4,5]) (.skip)],
 .reg [m 37 3,la 38 5 5,o1 39 (.lit 48 5 [.t 38]),o1 40 (.app (.t 37) (.t 39) 48 5 88),m 3 40] [0,3,4]]),
 .reg [m 10 4,bi 11 .add 10 1,m 4 11] [0,3,4]]))],
 .reg [m 41 3,ca 42 45 [41],m 2 42] [2],
 .ret]
theorem yq:au Tryz.prog Tryz.f27 [[0],[0,3],[0,3,4],[0,3,4],[0,3,4,9],[0,3,4,5],[0,3,4,5,23],[0,3,4,5,26],[0,0,1,0,4,0,16,60,124,255,511,1023],[0,1,2,3,4,5,6,7,8,9,10],[0,3,4,5],[0,3,4],[0,3,4],[2]] 1=some (o9,[.t 2]):=by kernel_rfl
abbrev Da:Nat:=8
theorem D3:Tryz.prog.funcs[8]?=some Tryz.f8:=Tryz.func8
def tG:AC:=
 Q [.reg [mv 2 (.nil 5)] [0],
 .reg [m 3 0,ca 4 11 [3],ca 5 27 [4],m 2 5] [2],
 .ret]
theorem DH:au Tryz.prog Tryz.f8 [[0],[2]] 1=some (tG,[.t 2]):=by kernel_rfl
abbrev wy:Nat:=65
theorem wP:Tryz.prog.funcs[65]?=some Tryz.f65:=Tryz.func65
def nD:AC:=
 Q [.reg [bx 1 0,mi 2 0] [1],
 .reg [fa 9 1 1,l1 10 9,ca 11 39 [10],m 3 11] [1,3],
 Q [.reg [fa 12 1 3,l1 13 12,bs 14 .neq 13 []] [1,3,14],
 C 14 (Q [.reg [mi 2 7] [2],
 .ret]) (.skip)],
 Q [.reg [m 15 3,nt' 16 15] [1,16],
 C 16 (Q [.reg [mi 2 4] [2],
 .ret]) (.skip)],
 Q [.reg [mi 4 0] [1,4],
 .block 0 (.loop [1,4] (Q [Q [.reg [m 17 4,fa 18 1 2,l1 19 18,lq 20 19,bt 21 .lss 17 20] [1,4,21],
 C 21 (.skip) (.exit 0)],
 .block 1 (Q [.reg [fa 24 1 2,l1 25 24,m 26 4,ia 27 25 26 2,fa 28 27 0,l1 29 28,ca 30 84 [29],m 5 30] [1,4,5],
 Q [.reg [m 31 5,nt' 32 31] [1,4,32],
 C 32 (Q [.reg [mi 2 4] [2],
 .ret]) (.skip)],
 .reg [mi 6 0] [1,4,6],
 .block 2 (.loop [1,4,6] (Q [Q [.reg [m 33 6,m 34 4,bt 35 .lss 33 34] [1,4,6,35],
 C 35 (.skip) (.exit 2)],
 .block 3 (Q [.regD [fa 38 1 2,l1 39 38,m 40 6,ia 41 39 40 2,fa 42 41 0,l1 43 42,fa 44 1 2,l1 45 44,m 46 4,ia 47 45 46 2,fa 48 47 0,l1 49 48,bt 50 .eql 43 49] [1,4,6,50],
 C 50 (Q [.reg [mi 2 5] [2],
 .ret]) (.skip)]),
 .reg [m 36 6,bi 37 .add 36 1,m 6 37] [1,4,6]]))]),
 .reg [m 22 4,bi 23 .add 22 1,m 4 23] [1,4]]))],
 Q [.reg [mi 7 0] [1,7],
 .block 4 (.loop [1,7] (Q [Q [.reg [m 51 7,fa 52 1 2,l1 53 52,lq 54 53,bt 55 .lss 51 54] [1,7,55],
 C 55 (.skip) (.exit 4)],
 .block 5 (Q [.reg [fa 58 1 2,l1 59 58,m 60 7,ia 61 59 60 2,fa 62 61 1,l1 63 62,ca 64 66 [63],m 8 64] [1,7,8],
 .reg [m 65 8,nt' 66 65] [1,7,66],
 C 66 (Q [.reg [mi 2 2] [2],
 .ret]) (.skip)]),
 .reg [m 56 7,bi 57 .add 56 1,m 7 57] [1,7]]))],
 .reg [mi 2 0] [2],
 .ret]
theorem wH:au Tryz.prog Tryz.f65 [[1],[1,3],[1,3,14],[2],[1,16],[2],[1,4],[1,4],[1,4,21],[1,4,5],[1,4,32],[2],[1,4,6],[1,4,6],[1,4,6,35],[0,0,1,0,7,15,31,0,64,0,448,960,1984,4095],[0,1,2,3,4,5,6,7,8,9,10,11,12],[1,4,6,50],[2],[1,4,6],[1,4],[1,7],[1,7],[1,7,55],[1,7,8],[1,7,66],[2],[1,7],[2]] 1=some (nD,[.t 2]):=by kernel_rfl
abbrev vC:Nat:=37
theorem GO:Tryz.prog.funcs[37]?=some Tryz.f37:=Tryz.func37
def v6:AC:=
 Q [.reg [bx 2 0,mi 4 0] [1,2],
 Q [.reg [fa 6 2 0,l1 7 6,bi 8 .eql 7 1] [1,2,8],
 C 8 (Q [.reg [la 9 2 5,ca 10 65 [9],m 4 10] [4],
 .ret]) (.skip)],
 Q [.reg [fa 11 2 0,l1 12 11,bi 13 .neq 12 2,m 14 13,gt 14 (fa 15 2 0),gt 14 (l1 16 15),gt 14 (bi 17 .neq 16 3),pa 18 14 17] [1,2,18],
 C 18 (Q [.reg [mi 4 7] [4],
 .ret]) (.skip)],
 Q [.reg [fa 19 2 1,l1 20 19,bs 21 .neq 20 [],m 22 21,gf 22 (fa 23 2 2),gf 22 (l1 24 23),gf 22 (lq 25 24),gf 22 (bi 26 .gtr 25 0),po 27 22 26,m 28 27,gf 28 (fa 29 2 4),gf 28 (l1 30 29),gf 28 (lq 31 30),gf 28 (bi 32 .gtr 31 0),po 33 28 32] [1,2,33],
 C 33 (Q [.reg [mi 4 7] [4],
 .ret]) (.skip)],
 .reg [fa 34 2 3,l1 35 34,ca 36 66 [35],m 5 36] [1,2,5],
 Q [.reg [m 37 5,nt' 38 37,m 39 38,gf 39 (fa 40 2 0),gf 39 (l1 41 40),gf 39 (bi 42 .eql 41 2),gf 39 (m 43 42),gt 43 (fa 44 2 3),gt 43 (l1 45 44),gt 43 (bs 46 .eql 45 []),gt 43 (m 47 46),gf 47 (m 48 1),gt 43 (po 49 47 48),gf 39 (pa 50 43 49),po 51 39 50] [51],
 C 51 (Q [.reg [mi 4 2] [4],
 .ret]) (.skip)],
 .reg [mi 4 0] [4],
 .ret]
theorem Gr:au Tryz.prog Tryz.f37 [[1,2],[1,2,8],[4],[1,2,18],[4],[1,2,33],[4],[1,2,5],[51],[4],[4]] 2=some (v6,[.t 4]):=by kernel_rfl
abbrev lj:Nat:=19
theorem GR:Tryz.prog.funcs[19]?=some Tryz.f19:=Tryz.func19
def v8:AC:=
 Q [.reg [mi 2 0] [0],
 Q [.reg [mi 3 0] [0,3],
 .block 0 (.loop [0,3] (Q [Q [.reg [m 5 3,m 6 0,lq 7 6,bt 8 .lss 5 7] [0,3,8],
 C 8 (.skip) (.exit 0)],
 .block 1 (Q [.regD [m 11 0,m 12 3,ia 13 11 12 5,la 14 13 5,m 15 3,bi 16 .gtr 15 0,m 17 16,gt 17 (m 18 0),gt 17 (m 19 3),gt 17 (bi 20 .sub 19 1),gt 17 (ia 21 18 20 5),gt 17 (fa 22 21 0),gt 17 (l1 23 22),gt 17 (bi 24 .eql 23 2),pa 25 17 24,ca 26 37 [14,25],m 4 26] [0,3,4],
 Q [.reg [m 27 4,bi 28 .neq 27 0] [0,3,4,28],
 C 28 (Q [.reg [m 29 4,m 2 29] [2],
 .ret]) (.skip)],
 .reg [m 30 0,m 31 3,ia 32 30 31 5,fa 33 32 4,l1 34 33,ca 35 19 [34],m 4 35] [0,3,4],
 .reg [m 36 4,bi 37 .neq 36 0] [0,3,4,37],
 C 37 (Q [.reg [m 38 4,m 2 38] [2],
 .ret]) (.skip)]),
 .reg [m 9 3,bi 10 .add 9 1,m 3 10] [0,3]]))],
 .reg [mi 2 0] [2],
 .ret]
theorem Gu:au Tryz.prog Tryz.f19 [[0],[0,3],[0,3],[0,3,8],[0,0,0,3,7,0,16,48,112,112,368,1008,2032,4080,8176,16368,32767,65535],[0,1,2,3,4,5,6,7,8,9,10,11,12,13,14,15,16],[0,3,4],[0,3,4,28],[2],[0,3,4],[0,3,4,37],[2],[0,3],[2]] 1=some (v8,[.t 2]):=by kernel_rfl
abbrev lh:Nat:=34
theorem GM:Tryz.prog.funcs[34]?=some Tryz.f34:=Tryz.func34
def vY:AC:=
 Q [.reg [mb 2 false] [0],
 Q [.reg [mi 3 0] [0,3],
 .block 0 (.loop [0,3] (Q [Q [.reg [m 7 3,m 8 0,lq 9 8,bt 10 .lss 7 9] [0,3,10],
 C 10 (.skip) (.exit 0)],
 .block 1 (Q [Q [.reg [m 13 0,m 14 3,ia 15 13 14 5,fa 16 15 0,l1 17 16,bi 18 .eql 17 3,m 19 18,gt 19 (m 20 0),gt 19 (m 21 3),gt 19 (ia 22 20 21 5),gt 19 (fa 23 22 3),gt 19 (l1 24 23),gt 19 (o1 25 (.call 43 [.t 24,.v (.str [45,45,62])])),pa 26 19 25] [0,3,26],
 C 26 (Q [.reg [mb 2 false] [2],
 .ret]) (.skip)],
 Q [.reg [mi 4 0] [0,3,4],
 .block 2 (.loop [0,3,4] (Q [Q [.reg [m 27 4,m 28 0,m 29 3,ia 30 28 29 5,fa 31 30 4,l1 32 31,lq 33 32,bt 34 .lss 27 33] [0,3,4,34],
 C 34 (.skip) (.exit 2)],
 .block 3 (Q [.regD [m 37 0,m 38 3,ia 39 37 38 5,fa 40 39 1,l1 41 40,m 42 0,m 43 3,ia 44 42 43 5,fa 45 44 4,l1 46 45,m 47 4,ia 48 46 47 5,la 49 48 5,ca 50 60 [41,49],m 5 50] [0,3,4,5],
 .reg [m 51 5,nt' 52 51] [0,3,4,52],
 C 52 (Q [.reg [mb 2 false] [2],
 .ret]) (.skip)]),
 .reg [m 35 4,bi 36 .add 35 1,m 4 36] [0,3,4]]))],
 .reg [m 53 0,m 54 3,ia 55 53 54 5,fa 56 55 4,l1 57 56,ca 58 34 [57],m 6 58] [0,3,6],
 .reg [m 59 6,nt' 60 59] [0,3,60],
 C 60 (Q [.reg [mb 2 false] [2],
 .ret]) (.skip)]),
 .reg [m 11 3,bi 12 .add 11 1,m 3 12] [0,3]]))],
 .reg [mb 2 true] [2],
 .ret]
theorem Gp:au Tryz.prog Tryz.f34 [[0],[0,3],[0,3],[0,3,10],[0,3,26],[2],[0,3,4],[0,3,4],[0,3,4,34],[0,0,0,3,7,15,0,0,96,224,480,0,2016,4064,8191,16383],[0,1,2,3,4,5,6,7,8,9,10,11,12,13,14],[0,3,4,5],[0,3,4,52],[2],[0,3,4],[0,3,6],[0,3,60],[2],[0,3],[2]] 1=some (vY,[.t 2]):=by kernel_rfl
abbrev yb:Nat:=13
theorem yF:Tryz.prog.funcs[13]?=some Tryz.f13:=Tryz.func13
def pb:AC:=
 Q [.reg [mb 2 false] [0],
 .reg [m 3 0,ca 4 19 [3],bi 5 .eql 4 0,m 6 5,gt 6 (m 7 0),gt 6 (ca 8 34 [7]),pa 9 6 8,m 2 9] [2],
 .ret]
theorem yr:au Tryz.prog Tryz.f13 [[0],[2]] 1=some (pb,[.t 2]):=by kernel_rfl
abbrev iQ:Nat:=119
theorem iX:Tryz.prog.funcs[119]?=some Tryz.f119:=Tryz.func119
def dH:AC:=
 Q [.reg [mi 4 0] [0,1],
 Q [.reg [m 6 0,lq 7 6,mi 8 0] [0,1,7,8],
 .block 0 (.loop [0,1,7,8] (Q [.reg [bt 9 .lss 8 7] [0,1,7,8,9],
 C 9 (.skip) (.exit 0),
 .block 1 (Q [.reg [m 10 8,m 5 10] [0,1,5,7,8],
 .reg [m 11 1,m 12 0,m 13 5,ia 14 12 13 1,l1 15 14,bt 16 .eql 11 15] [0,1,5,7,8,16],
 C 16 (Q [.reg [m 17 5,m 4 17] [4],
 .ret]) (.skip)]),
 .reg [bi 18 .add 8 1,m 8 18] [0,1,7,8]]))],
 .reg [mi 4 (-1)] [4],
 .ret]
theorem iU:au Tryz.prog Tryz.f119 [[0,1],[0,1,7,8],[0,1,7,8],[0,1,7,8,9],[0,1,5,7,8],[0,1,5,7,8,16],[4],[0,1,7,8],[4]] 2=some (dH,[.t 4]):=by kernel_rfl
abbrev gw:Nat:=101
theorem gG:Tryz.prog.funcs[101]?=some Tryz.f101:=Tryz.func101
def c7:AC:=
 Q [.reg [mb 4 false] [0,1],
 .reg [m 5 0,m 6 1,ca 7 119 [5,6],bi 8 .geq 7 0,m 4 8] [4],
 .ret]
theorem gC:au Tryz.prog Tryz.f101 [[0,1],[4]] 2=some (c7,[.t 4]):=by kernel_rfl
abbrev gz:Nat:=142
theorem gI:Tryz.prog.funcs[142]?=some Tryz.f142:=Tryz.func142
def c9:AC:=
 Q [.reg [mb 4 false] [0,1],
 .reg [m 5 0,ls 6 5,m 7 1,ls 8 7,bt 9 .geq 6 8,m 10 9,gt 10 (m 11 0),gt 10 (m 12 1),gt 10 (ls 13 12),gt 10 (o1 14 (.sls (.t 11) none (some (.t 13)))),gt 10 (m 15 1),gt 10 (bt 16 .eql 14 15),pa 17 10 16,m 4 17] [4],
 .ret]
theorem gF:au Tryz.prog Tryz.f142 [[0,1],[4]] 2=some (c9,[.t 4]):=by kernel_rfl
abbrev pO:Nat:=133
theorem p3:Tryz.prog.funcs[133]?=some Tryz.f133:=Tryz.func133
def jC:AC:=
 Q [.reg [mb 4 false] [0,1],
 .reg [m 5 0,m 6 1,ca 7 142 [5,6],m 4 7] [4],
 .ret]
theorem pU:au Tryz.prog Tryz.f133 [[0,1],[4]] 2=some (jC,[.t 4]):=by kernel_rfl
abbrev co:Nat:=118
end Go.Abs
