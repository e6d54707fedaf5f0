/-
  The images of some of the program's functions,as the kernel reckons them. Made by program. No condition.
-/
import Derived.Test.YtkeanhihgfnkoaaGreatDoorXCodeD
set_option linter.unusedVariables false
set_option linter.unusedSimpArgs false
set_option linter.unusedSectionVars false
set_option maxRecDepth 100000
namespace Go.Abs
open Go.Proofs

abbrev n_ref12_scheme : Nat := 37
theorem h_ref12_scheme : Tryz.prog.funcs[37]? = some Tryz.f37 := Tryz.func37
def c_ref12_scheme : AC :=
 Q [.reg [mb 2 false] [0],
 Q [.reg [mi 3 0] [0,3],
 .block 0 (.loop [0,3] (Q [Q [.reg [m 4 3,m 5 0,ls 6 5,bt 7 .lss 4 6] [0,3,7],
 C 7 (.skip) (.exit 0)],
 .block 1 (Q [.reg [m 10 0,m 11 3,ix 12 10 11,bu 13 .lss 12 97,m 14 13,gf 14 (m 15 0),gf 14 (m 16 3),gf 14 (ix 17 15 16),gf 14 (bu 18 .gtr 17 122),po 19 14 18] [0,3,19],
 C 19 (Q [.reg [mb 2 false] [2],
 .ret]) (.skip)]),
 .reg [m 8 3,bi 9 .add 8 1,m 3 9] [0,3]]))],
 .reg [m 20 0,ls 21 20,bi 22 .geq 21 1,m 23 22,gt 23 (m 24 0),gt 23 (ls 25 24),gt 23 (bi 26 .leq 25 16),pa 27 23 26,m 2 27] [2],
 .ret]
theorem i_ref12_scheme : image Tryz.prog Tryz.f37 [[0],[0,3],[0,3],[0,3,7],[0,3,19],[2],[0,3],[2]] 1 = some (c_ref12_scheme,[.t 2]) := by kernel_rfl

abbrev n_ref12_signs : Nat := 25
theorem h_ref12_signs : Tryz.prog.funcs[25]? = some Tryz.f25 := Tryz.func25
def c_ref12_signs : AC :=
 Q [.reg [mb 2 false] [0],
 Q [.reg [mi 3 0] [0,3],
 .block 0 (.loop [0,3] (Q [Q [.reg [m 4 3,m 5 0,ls 6 5,bt 7 .lss 4 6] [0,3,7],
 C 7 (.skip) (.exit 0)],
 .block 1 (Q [.reg [m 10 0,m 11 3,ix 12 10 11,bu 13 .lss 12 32,m 14 13,gf 14 (m 15 0),gf 14 (m 16 3),gf 14 (ix 17 15 16),gf 14 (bu 18 .gtr 17 126),po 19 14 18] [0,3,19],
 C 19 (Q [.reg [mb 2 false] [2],
 .ret]) (.skip)]),
 .reg [m 8 3,bi 9 .add 8 1,m 3 9] [0,3]]))],
 .reg [mb 2 true] [2],
 .ret]
theorem i_ref12_signs : image Tryz.prog Tryz.f25 [[0],[0,3],[0,3],[0,3,7],[0,3,19],[2],[0,3],[2]] 1 = some (c_ref12_signs,[.t 2]) := by kernel_rfl

abbrev n_ref12_words : Nat := 20
theorem h_ref12_words : Tryz.prog.funcs[20]? = some Tryz.f20 := Tryz.func20
def c_ref12_words : AC :=
 Q [.reg [mb 4 false] [0,1],
 Q [.reg [mi 5 0] [0,1,5],
 .block 0 (.loop [0,1,5] (Q [Q [.reg [m 9 5,m 10 0,lq 11 10,bt 12 .lss 9 11] [0,1,5,12],
 C 12 (.skip) (.exit 0)],
 .block 1 (Q [.reg [m 15 0,m 16 5,ia 17 15 16 1,l1 18 17,ca 19 37 [18],m 6 19] [0,1,5,6],
 .reg [m 20 0,m 21 5,ia 22 20 21 1,l1 23 22,ca 24 25 [23],m 7 24] [0,1,5,6,7],
 Q [.reg [m 25 1,m 26 25,gt 26 (m 27 6),gt 26 (nt' 28 27),pa 29 26 28,m 30 29,gf 30 (m 31 1),gf 30 (nt' 32 31),gf 30 (m 33 32),gt 33 (m 34 7),gt 33 (nt' 35 34),gt 33 (m 36 35),gf 36 (m 37 0),gf 36 (m 38 5),gf 36 (ia 39 37 38 1),gf 36 (l1 40 39),gf 36 (ls 41 40),gf 36 (bi 42 .gtr 41 40),gt 33 (po 43 36 42),gf 30 (pa 44 33 43),po 45 30 44] [0,1,5,45],
 C 45 (Q [.reg [mb 4 false] [4],
 .ret]) (.skip)],
 .reg [mi 8 0] [0,1,5,8],
 .block 2 (.loop [0,1,5,8] (Q [Q [.reg [m 46 8,m 47 5,bt 48 .lss 46 47] [0,1,5,8,48],
 C 48 (.skip) (.exit 2)],
 .block 3 (Q [.regD [m 51 0,m 52 8,ia 53 51 52 1,l1 54 53,m 55 0,m 56 5,ia 57 55 56 1,l1 58 57,bt 59 .eql 54 58] [0,1,5,8,59],
 C 59 (Q [.reg [mb 4 false] [4],
 .ret]) (.skip)]),
 .reg [m 49 8,bi 50 .add 49 1,m 8 50] [0,1,5,8]]))]),
 .reg [m 13 5,bi 14 .add 13 1,m 5 14] [0,1,5]]))],
 .reg [m 60 0,lq 61 60,bi 62 .leq 61 8,m 4 62] [4],
 .ret]
theorem i_ref12_words : image Tryz.prog Tryz.f20 [[0,1],[0,1,5],[0,1,5],[0,1,5,12],[0,1,5,6],[0,1,5,6,7],[0,1,5,45],[4],[0,1,5,8],[0,1,5,8],[0,1,5,8,48],[0,0,0,3,7,0,0,48,112,255],[0,1,2,3,4,5,6,7,8],[0,1,5,8,59],[4],[0,1,5,8],[0,1,5],[4]] 2 = some (c_ref12_words,[.t 4]) := by kernel_rfl

abbrev n_ref12_Good : Nat := 7
theorem h_ref12_Good : Tryz.prog.funcs[7]? = some Tryz.f7 := Tryz.func7
def c_ref12_Good : AC :=
 Q [.reg [bx 1 0,o1 2 (.alc [.int .i64 0,.nil 1,.str []])] [1,2],
 .reg [fa 12 1 0,l1 13 12,m 3 13] [1,2,3],
 Q [.reg [m 14 3,bi 15 .lss 14 0] [1,2,3,15],
 C 15 (.reg [m 16 3,bi 17 .add 16 1,o1 18 (.un .neg (.t 17)),m 3 18] [1,2,3]) (.skip)],
 .reg [m 19 3,bi 20 .rem 19 4,o1 21 (.bin .add (.v (.int .i64 1)) (.t 20)),o1 22 (.bld [.int .i64 0,.nil 1,.str []] [(0,1,(.t 21))]),o1 4 (.alc [.int .i64 0,.nil 1,.str []]),st 3 4 22] [1,2,4],
 Q [.reg [fa 23 4 0,l1 24 23,bi 25 .eql 24 4] [1,2,4,25],
 C 25 (Q [.reg [o1 26 (.lit 9 1 [.v (.str [97,42]),.v (.str [40,97,124,98,41,43]),.v (.str [91,48,45,57,93,43]),.v (.str [120,46,121]),.v (.str [91,94,97,93,42]),.v (.str []),.v (.str [97,124,98,98,124,99])]),m 5 26] [1,2,4,5],
 .reg [mi 6 0] [1,2,4,5,6],
 Q [.reg [mi 7 0] [1,2,4,5,6,7],
 .block 0 (.loop [1,2,4,5,6,7] (Q [Q [.reg [m 27 7,fa 28 1 2,l1 29 28,ls 30 29,bt 31 .lss 27 30] [1,2,4,5,6,7,31],
 C 31 (.skip) (.exit 0)],
 .block 1 (.reg [m 34 6,fa 35 1 2,l1 36 35,m 37 7,ix 38 36 37,o1 39 (.cii .i64 (.t 38)),bt 40 .add 34 39,m 6 40] [1,2,4,5,6,7]),
 .reg [m 32 7,bi 33 .add 32 1,m 7 33] [1,2,4,5,6,7]]))],
 .reg [m 41 5,m 42 6,m 43 5,lq 44 43,bt 45 .rem 42 44,ia 46 41 45 1,l1 47 46,fa 48 4 2,st 1 48 47] [2,4],
 .reg [la 49 4 3,st 3 2 49] [2],
 .ret]) (.skip)],
 Q [.reg [mi 8 0] [1,2,4,8],
 .block 2 (.loop [1,2,4,8] (Q [Q [.reg [m 50 8,fa 51 1 1,l1 52 51,lq 53 52,bt 54 .lss 50 53,m 55 54,gt 55 (m 56 8),gt 55 (bi 57 .lss 56 4),pa 58 55 57,m 59 58,gt 59 (fa 60 4 0),gt 59 (l1 61 60),gt 59 (bi 62 .neq 61 1),pa 63 59 62] [1,2,4,8,63],
 C 63 (.skip) (.exit 2)],
 .block 3 (Q [.reg [fa 66 1 1,l1 67 66,m 68 8,ia 69 67 68 1,l1 70 69,m 9 70] [1,2,4,8,9],
 .reg [fa 71 4 1,l1 72 71,o1 73 (.app (.v (.nil 1)) (.t 72) 9 1 16),m 74 9,o1 75 (.lit 9 1 [.t 74]),o1 76 (.app (.t 73) (.t 75) 9 1 16),m 10 76] [1,2,4,8,10],
 .reg [m 77 10,fa 78 4 0,l1 79 78,bi 80 .eql 79 3,ca 81 20 [77,80],m 11 81] [1,2,4,8,10,11],
 .reg [m 82 11] [1,2,4,8,10,82],
 C 82 (.reg [m 83 10,fa 84 4 1,st 1 84 83] [1,2,4,8]) (.skip)]),
 .reg [m 64 8,bi 65 .add 64 1,m 8 65] [1,2,4,8]]))],
 Q [.reg [fa 85 4 0,l1 86 85,bi 87 .eql 86 2,m 88 87,gt 88 (fa 89 4 1),gt 88 (l1 90 89),gt 88 (lq 91 90),gt 88 (bi 92 .eql 91 0),pa 93 88 92] [2,4,93],
 C 93 (.reg [o1 94 (.lit 9 1 [.v (.str [120])]),fa 95 4 1,st 1 95 94] [2,4]) (.skip)],
 .reg [la 96 4 3,st 3 2 96] [2],
 .ret]
theorem i_ref12_Good : image Tryz.prog Tryz.f7 [[1,2],[1,2,3],[1,2,3,15],[1,2,3],[1,2,4],[1,2,4,25],[1,2,4,5],[1,2,4,5,6],[1,2,4,5,6,7],[1,2,4,5,6,7],[1,2,4,5,6,7,31],[1,2,4,5,6,7],[1,2,4,5,6,7],[2,4],[2],[1,2,4,8],[1,2,4,8],[1,2,4,8,63],[1,2,4,8,9],[1,2,4,8,10],[1,2,4,8,10,11],[1,2,4,8,10,82],[1,2,4,8],[1,2,4,8],[2,4,93],[2,4],[2]] 1 = some (c_ref12_Good,[.c 2 3 true]) := by kernel_rfl

abbrev n_ref09_among : Nat := 87
theorem h_ref09_among : Tryz.prog.funcs[87]? = some Tryz.f87 := Tryz.func87
def c_ref09_among : AC :=
 Q [.reg [mb 4 false] [0,1],
 Q [.reg [mi 5 0] [0,1,5],
 .block 0 (.loop [0,1,5] (Q [Q [.reg [m 6 5,m 7 1,ls 8 7,bt 9 .lss 6 8] [0,1,5,9],
 C 9 (.skip) (.exit 0)],
 .block 1 (Q [.reg [m 12 1,m 13 5,ix 14 12 13,m 15 0,bt 16 .eql 14 15] [0,1,5,16],
 C 16 (Q [.reg [mb 4 true] [4],
 .ret]) (.skip)]),
 .reg [m 10 5,bi 11 .add 10 1,m 5 11] [0,1,5]]))],
 .reg [mb 4 false] [4],
 .ret]
theorem i_ref09_among : image Tryz.prog Tryz.f87 [[0,1],[0,1,5],[0,1,5],[0,1,5,9],[0,1,5,16],[4],[0,1,5],[4]] 2 = some (c_ref09_among,[.t 4]) := by kernel_rfl

abbrev n_ref09_is : Nat := 90
theorem h_ref09_is : Tryz.prog.funcs[90]? = some Tryz.f90 := Tryz.func90
def c_ref09_is : AC :=
 Q [.reg [bx 2 0,mb 4 false] [1,2],
 .reg [fa 5 2 2,l1 6 5,fa 7 2 1,l1 8 7,ls 9 8,bt 10 .lss 6 9,m 11 10,gt 11 (fa 12 2 1),gt 11 (l1 13 12),gt 11 (fa 14 2 2),gt 11 (l1 15 14),gt 11 (ix 16 13 15),gt 11 (m 17 1),gt 11 (bt 18 .eql 16 17),pa 19 11 18,m 4 19] [4],
 .ret]
theorem i_ref09_is : image Tryz.prog Tryz.f90 [[1,2],[4]] 2 = some (c_ref09_is,[.t 4]) := by kernel_rfl

abbrev n_ref09_signs : Nat := 124
theorem h_ref09_signs : Tryz.prog.funcs[124]? = some Tryz.f124 := Tryz.func124
def c_ref09_signs : AC :=
 Q [.reg [mv 6 (.nil 1)] [0,1,2],
 .reg [o1 9 (.mks 4 1 1 (.bool false) (.v (.int .i64 95))),m 7 9] [0,1,2,7],
 Q [.reg [mi 8 0] [0,1,2,7,8],
 .block 0 (.loop [0,1,2,7,8] (Q [Q [.reg [m 10 8,bi 11 .lss 10 95] [0,1,2,7,8,11],
 C 11 (.skip) (.exit 0)],
 .block 1 (.reg [m 14 7,m 15 8,m 16 8,m 17 0,lq 18 17,bt 19 .lss 16 18,m 20 19,gt 20 (m 21 0),gt 20 (m 22 8),gt 20 (ia 23 21 22 1),gt 20 (l1 24 23),pa 25 20 24,m 26 25,gf 26 (m 27 8),gf 26 (bi 28 .add 27 32),gf 26 (m 29 1),gf 26 (o1 30 (.cii .i64 (.t 29))),gf 26 (bt 31 .geq 28 30),gf 26 (m 32 31),gt 32 (m 33 8),gt 32 (bi 34 .add 33 32),gt 32 (m 35 2),gt 32 (o1 36 (.cii .i64 (.t 35))),gt 32 (bt 37 .leq 34 36),gf 26 (pa 38 32 37),po 39 26 38,ia 40 14 15 1,st 1 40 39] [0,1,2,7,8]),
 .reg [m 12 8,bi 13 .add 12 1,m 8 13] [0,1,2,7,8]]))],
 .reg [m 41 7,m 6 41] [6],
 .ret]
theorem i_ref09_signs : image Tryz.prog Tryz.f124 [[0,1,2],[0,1,2,7],[0,1,2,7,8],[0,1,2,7,8],[0,1,2,7,8,11],[0,1,2,7,8],[0,1,2,7,8],[6]] 3 = some (c_ref09_signs,[.t 6]) := by kernel_rfl

abbrev n_ref09_add : Nat := 89
theorem h_ref09_add : Tryz.prog.funcs[89]? = some Tryz.f89 := Tryz.func89
def c_ref09_add : AC :=
 Q [.reg [bx 2 0,bx 3 1,o1 4 (.alc [.nil 3,.str [],.int .i64 0,.bool false]),mi 5 0] [2,3,4],
 .reg [mv 6 (.nil 3)] [2,3,4,6],
 .reg [m 7 6,fa 8 2 0,l1 9 8,o1 10 (.app (.t 7) (.t 9) 152 3 56),m 6 10] [2,3,4,6],
 .reg [m 11 6,la 12 3 3,o1 13 (.lit 152 3 [.t 12]),o1 14 (.app (.t 11) (.t 13) 152 3 56),fa 15 2 0,st 1 15 14] [2,4],
 .regF (OQ [la 16 2 4] (.both
 (OQ [fa 17 2 0] (.both
 (OQ [l1 18 17] (.both
 (OQ [lq 19 18,bi 20 .sub 19 1,st 4 4 16,m 5 20] .nil)
 (OQ [st 4 4 16,lq 19 18,bi 20 .sub 19 1,m 5 20] .nil)))
 (OQ [st 4 4 16,l1 18 17,lq 19 18,bi 20 .sub 19 1,m 5 20] .nil)))
 (OQ [st 4 4 16,fa 17 2 0,l1 18 17,lq 19 18,bi 20 .sub 19 1,m 5 20] .nil))) [4,5],
 .ret]
theorem i_ref09_add : image Tryz.prog Tryz.f89 [[2,3,4],[2,3,4,6],[2,3,4,6],[2,4],[1,0,0,2,6,14,1,63],[4,5]] 2 = some (c_ref09_add,[.c 4 4 true,.t 5]) := by kernel_rfl

abbrev n_ref09_sign : Nat := 91
theorem h_ref09_sign : Tryz.prog.funcs[91]? = some Tryz.f91 := Tryz.func91
def c_ref09_sign : AC :=
 Q [.reg [mb 2 false] [0],
 .reg [m 3 0,bu 4 .geq 3 32,m 5 4,gt 5 (m 6 0),gt 5 (bu 7 .leq 6 126),pa 8 5 7,m 2 8] [2],
 .ret]
theorem i_ref09_sign : image Tryz.prog Tryz.f91 [[0],[2]] 1 = some (c_ref09_sign,[.t 2]) := by kernel_rfl

abbrev n_ref09_plain : Nat := 126
theorem h_ref09_plain : Tryz.prog.funcs[126]? = some Tryz.f126 := Tryz.func126
def c_ref09_plain : AC :=
 Q [.reg [bx 2 0,o1 4 (.alc [.nil 3,.str [],.int .i64 0,.bool false]),mv 5 (.int .u8 0)] [1,2,4],
 .reg [la 8 2 4,o1 9 (.call 90 [.t 8,.v (.int .u8 92)]),m 6 9] [1,2,4,6],
 Q [.reg [m 10 6] [1,2,4,6,10],
 C 10 (.reg [fa 11 2 2,l1 12 11,bi 13 .add 12 1,fa 14 2 2,st 1 14 13] [1,2,4,6]) (.skip)],
 Q [.reg [fa 15 2 2,l1 16 15,fa 17 2 1,l1 18 17,ls 19 18,bt 20 .geq 16 19,m 21 20,gf 21 (fa 22 2 1),gf 21 (l1 23 22),gf 21 (fa 24 2 2),gf 21 (l1 25 24),gf 21 (ix 26 23 25),gf 21 (ca 27 91 [26]),gf 21 (nt' 28 27),po 29 21 28,m 30 29,gf 30 (m 31 6),gf 30 (nt' 32 31),gf 30 (m 33 32),gt 33 (fa 34 2 1),gt 33 (l1 35 34),gt 33 (fa 36 2 2),gt 33 (l1 37 36),gt 33 (ix 38 35 37),gt 33 (m 39 1),gt 33 (ca 40 87 [38,39]),gf 30 (pa 41 33 40),po 42 30 41] [2,4,42],
 C 42 (Q [.reg [fa 43 2 3,o0 (.st 1 (.t 43) (.v (.bool true)))] [2,4],
 .reg [la 44 2 4,st 4 4 44,mv 5 (.int .u8 32)] [4,5],
 .ret]) (.skip)],
 .reg [fa 45 2 1,l1 46 45,fa 47 2 2,l1 48 47,ix 49 46 48,m 7 49] [2,4,7],
 .reg [fa 50 2 2,l1 51 50,bi 52 .add 51 1,fa 53 2 2,st 1 53 52] [2,4,7],
 .reg [la 54 2 4,m 55 7,st 4 4 54,m 5 55] [4,5],
 .ret]
theorem i_ref09_plain : image Tryz.prog Tryz.f126 [[1,2,4],[1,2,4,6],[1,2,4,6,10],[1,2,4,6],[2,4,42],[2,4],[4,5],[2,4,7],[2,4,7],[4,5]] 2 = some (c_ref09_plain,[.c 4 4 true,.t 5]) := by kernel_rfl

abbrev n_ref09_class : Nat := 125
theorem h_ref09_class : Tryz.prog.funcs[125]? = some Tryz.f125 := Tryz.func125
def c_ref09_class : AC :=
 Q [.reg [bx 1 0,o1 2 (.alc [.nil 3,.str [],.int .i64 0,.bool false]),mi 3 0] [1,2],
 .reg [la 14 1 4,o1 15 (.call 90 [.t 14,.v (.int .u8 94)]),m 4 15] [1,2,4],
 Q [.reg [m 16 4] [1,2,4,16],
 C 16 (.reg [fa 17 1 2,l1 18 17,bi 19 .add 18 1,fa 20 1 2,st 1 20 19] [1,2,4]) (.skip)],
 .reg [mv 5 (.nil 1)] [1,2,4,5],
 .reg [mi 6 0] [1,2,4,5,6],
 .block 0 (.loop [1,2,4,5,6] (Q [Q [.reg [fa 21 1 3,l1 22 21,nt' 23 22,m 24 23,gt 24 (m 25 6),gt 24 (bi 26 .eql 25 0),gt 24 (m 27 26),gf 27 (la 28 1 4),gf 27 (o1 29 (.call 90 [.t 28,.v (.int .u8 93)])),gf 27 (nt' 30 29),gt 24 (po 31 27 30),pa 32 24 31] [1,2,4,5,6,32],
 C 32 (.skip) (.exit 0)],
 .block 1 (Q [.reg [m 33 6,bi 34 .add 33 1,m 6 34] [1,2,4,5,6],
 .reg [mv 7 (.int .u8 0)] [1,2,4,5,6],
 .reg [la 36 1 4,o1 37 (.call 126 [.t 36,.v (.str [92,93,45,94])]),m 35 37,ex 38 35 0,ex 39 35 1,st 4 1 38,m 7 39] [1,2,4,5,6,7],
 .reg [m 40 7,m 8 40] [1,2,4,5,6,7,8],
 .reg [la 41 1 4,o1 42 (.call 90 [.t 41,.v (.int .u8 45)]),m 9 42] [1,2,4,5,6,7,8,9],
 Q [.reg [m 43 9] [1,2,4,5,6,7,8,43],
 C 43 (Q [.reg [fa 44 1 2,l1 45 44,bi 46 .add 45 1,fa 47 1 2,st 1 47 46] [1,2,4,5,6,7],
 .reg [la 49 1 4,o1 50 (.call 126 [.t 49,.v (.str [92,93,45,94])]),m 48 50,ex 51 48 0,ex 52 48 1,st 4 1 51,m 8 52] [1,2,4,5,6,7,8]]) (.skip)],
 Q [.reg [m 53 7,m 54 8,bt 55 .gtr 53 54] [1,2,4,5,6,7,8,55],
 C 55 (.reg [fa 56 1 3,o0 (.st 1 (.t 56) (.v (.bool true)))] [1,2,4,5,6,7,8]) (.skip)],
 .reg [fa 57 1 3,l1 58 57,nt' 59 58] [1,2,4,5,6,7,8,59],
 C 59 (.reg [m 60 5,m 61 7,m 62 8,ca 63 124 [60,61,62],m 5 63] [1,2,4,5,6]) (.skip)])])),
 .reg [la 64 1 4,o1 65 (.call 90 [.t 64,.v (.int .u8 93)]),m 10 65] [1,2,4,5,10],
 Q [.reg [m 66 10,nt' 67 66] [1,2,4,5,67],
 C 67 (.reg [fa 68 1 3,o0 (.st 1 (.t 68) (.v (.bool true)))] [1,2,4,5]) (.skip)],
 .reg [fa 69 1 2,l1 70 69,bi 71 .add 70 1,fa 72 1 2,st 1 72 71] [1,2,4,5],
 .reg [o1 73 (.mks 4 1 1 (.bool false) (.v (.int .i64 95))),m 11 73] [1,2,4,5,11],
 Q [.reg [mi 12 0] [1,2,4,5,11,12],
 .block 2 (.loop [1,2,4,5,11,12] (Q [Q [.reg [m 74 12,bi 75 .lss 74 95] [1,2,4,5,11,12,75],
 C 75 (.skip) (.exit 2)],
 .block 3 (Q [.reg [m 78 12,m 79 5,lq 80 79,bt 81 .lss 78 80,m 82 81,gt 82 (m 83 5),gt 82 (m 84 12),gt 82 (ia 85 83 84 1),gt 82 (l1 86 85),pa 87 82 86,m 13 87] [1,2,4,5,11,12,13],
 .reg [m 88 11,m 89 12,m 90 13,m 91 4,o1 92 (.beq true (.t 90) (.t 91)),ia 93 88 89 1,st 1 93 92] [1,2,4,5,11,12]]),
 .reg [m 76 12,bi 77 .add 76 1,m 12 77] [1,2,4,5,11,12]]))],
 .reg [la 94 1 4,m 95 11,o1 96 (.bld [.int .u8 0,.nil 1,.nil 1] [(0,1,(.v (.int .u8 115))),(1,1,(.t 95))]),ca 97 89 [94,96],ex 98 97 0,ex 99 97 1,st 4 2 98,m 3 99] [2,3],
 .ret]
theorem i_ref09_class : image Tryz.prog Tryz.f125 [[1,2],[1,2,4],[1,2,4,16],[1,2,4],[1,2,4,5],[1,2,4,5,6],[1,2,4,5,6],[1,2,4,5,6,32],[1,2,4,5,6],[1,2,4,5,6],[1,2,4,5,6,7],[1,2,4,5,6,7,8],[1,2,4,5,6,7,8,9],[1,2,4,5,6,7,8,43],[1,2,4,5,6,7],[1,2,4,5,6,7,8],[1,2,4,5,6,7,8,55],[1,2,4,5,6,7,8],[1,2,4,5,6,7,8,59],[1,2,4,5,6],[1,2,4,5,10],[1,2,4,5,67],[1,2,4,5],[1,2,4,5],[1,2,4,5,11],[1,2,4,5,11,12],[1,2,4,5,11,12],[1,2,4,5,11,12,75],[1,2,4,5,11,12,13],[1,2,4,5,11,12],[1,2,4,5,11,12],[2,3]] 1 = some (c_ref09_class,[.c 2 4 true,.t 3]) := by kernel_rfl

abbrev n_ref09_atom : Nat := 111
theorem h_ref09_atom : Tryz.prog.funcs[111]? = some Tryz.f111 := Tryz.func111
def c_ref09_atom : AC :=
 Q [.reg [bx 1 0,o1 2 (.alc [.nil 3,.str [],.int .i64 0,.bool false]),mi 3 0] [1,2],
 .reg [la 12 1 4,o1 13 (.call 90 [.t 12,.v (.int .u8 40)]),m 4 13] [1,2,4],
 Q [.reg [m 14 4] [1,2,14],
 C 14 (Q [.reg [fa 15 1 2,l1 16 15,bi 17 .add 16 1,fa 18 1 2,st 1 18 17] [1,2],
 .reg [la 20 1 4,ca 21 58 [20],m 19 21,ex 22 19 0,ex 23 19 1,o1 5 (.alc [.nil 3,.str [],.int .i64 0,.bool false]),st 4 5 22,m 6 23] [2,5,6],
 .reg [la 24 5 4,o1 25 (.call 90 [.t 24,.v (.int .u8 41)]),m 7 25] [2,5,6,7],
 Q [.reg [m 26 7,nt' 27 26] [2,5,6,27],
 C 27 (.reg [fa 28 5 3,o0 (.st 1 (.t 28) (.v (.bool true)))] [2,5,6]) (.skip)],
 .reg [fa 29 5 2,l1 30 29,bi 31 .add 30 1,fa 32 5 2,st 1 32 31] [2,5,6],
 .reg [la 33 5 4,m 34 6,st 4 2 33,m 3 34] [2,3],
 .ret]) (.skip)],
 .reg [la 35 1 4,o1 36 (.call 90 [.t 35,.v (.int .u8 46)]),m 8 36] [1,2,8],
 Q [.reg [m 37 8] [1,2,37],
 C 37 (Q [.reg [fa 38 1 2,l1 39 38,bi 40 .add 39 1,fa 41 1 2,st 1 41 40] [1,2],
 .regD [la 42 1 4,o1 43 (.call 124 [.v (.nil 1),.v (.int .u8 32),.v (.int .u8 126)]),o1 44 (.bld [.int .u8 0,.nil 1,.nil 1] [(0,1,(.v (.int .u8 115))),(1,1,(.t 43))]),ca 45 89 [42,44],ex 46 45 0,ex 47 45 1,st 4 2 46,m 3 47] [2,3],
 .ret]) (.skip)],
 .reg [la 48 1 4,o1 49 (.call 90 [.t 48,.v (.int .u8 91)]),m 9 49] [1,2,9],
 Q [.reg [m 50 9] [1,2,50],
 C 50 (Q [.reg [fa 51 1 2,l1 52 51,bi 53 .add 52 1,fa 54 1 2,st 1 54 53] [1,2],
 .reg [la 55 1 4,ca 56 125 [55],ex 57 56 0,ex 58 56 1,st 4 2 57,m 3 58] [2,3],
 .ret]) (.skip)],
 .reg [la 60 1 4,o1 61 (.call 126 [.t 60,.v (.str [92,40,41,91,93,124,42,43,63,46])]),m 59 61,ex 62 59 0,ex 63 59 1,o1 10 (.alc [.nil 3,.str [],.int .i64 0,.bool false]),st 4 10 62,m 11 63] [2,10,11],
 .regD [la 64 10 4,m 65 11,m 66 11,o1 67 (.call 124 [.v (.nil 1),.t 65,.t 66]),o1 68 (.bld [.int .u8 0,.nil 1,.nil 1] [(0,1,(.v (.int .u8 115))),(1,1,(.t 67))]),ca 69 89 [64,68],ex 70 69 0,ex 71 69 1,st 4 2 70,m 3 71] [2,3],
 .ret]
theorem i_ref09_atom : image Tryz.prog Tryz.f111 [[1,2],[1,2,4],[1,2,14],[1,2],[2,5,6],[2,5,6,7],[2,5,6,27],[2,5,6],[2,5,6],[2,3],[1,2,8],[1,2,37],[1,2],[0,0,0,2,7,15,15,63,127],[0,1,2,3,4,5,6,7],[2,3],[1,2,9],[1,2,50],[1,2],[2,3],[2,10,11],[0,0,0,0,6,14,31,63,63,255,511],[0,1,2,3,4,5,6,7,8,9],[2,3]] 1 = some (c_ref09_atom,[.c 2 4 true,.t 3]) := by kernel_rfl

abbrev n_ref09_piece : Nat := 88
theorem h_ref09_piece : Tryz.prog.funcs[88]? = some Tryz.f88 := Tryz.func88
def c_ref09_piece : AC :=
 Q [.reg [bx 1 0,o1 2 (.alc [.nil 3,.str [],.int .i64 0,.bool false]),mi 3 0] [1,2],
 .reg [la 10 1 4,ca 11 111 [10],m 9 11,ex 12 9 0,ex 13 9 1,st 4 1 12,m 4 13] [1,2,4],
 .block 0 (.loop [1,2,4] (Q [Q [.reg [fa 14 1 3,l1 15 14,nt' 16 15] [1,2,4,16],
 C 16 (.skip) (.exit 0)],
 .block 1 (Q [.reg [la 17 1 4,o1 18 (.call 90 [.t 17,.v (.int .u8 42)]),m 5 18] [1,2,4,5],
 .reg [la 19 1 4,o1 20 (.call 90 [.t 19,.v (.int .u8 43)]),m 6 20] [1,2,4,5,6],
 .reg [la 21 1 4,o1 22 (.call 90 [.t 21,.v (.int .u8 63)]),m 7 22] [1,2,4,5,6,7],
 Q [.reg [m 23 5,nt' 24 23,m 25 24,gt 25 (m 26 6),gt 25 (nt' 27 26),pa 28 25 27,m 29 28,gt 29 (m 30 7),gt 29 (nt' 31 30),pa 32 29 31] [1,2,4,6,7,32],
 C 32 (Q [.reg [la 33 1 4,m 34 4,st 4 2 33,m 3 34] [2,3],
 .ret]) (.skip)],
 .reg [fa 35 1 2,l1 36 35,bi 37 .add 36 1,fa 38 1 2,st 1 38 37] [1,2,4,6,7],
 .reg [mi 8 0] [1,2,4,6,7],
 Q [.reg [m 39 7] [1,2,4,6,39],
 C 39 (Q [.reg [la 41 1 4,o1 42 (.bld [.int .u8 0,.nil 1,.nil 1] [(0,1,(.v (.int .u8 116)))]),ca 43 89 [41,42],m 40 43,ex 44 40 0,ex 45 40 1,st 4 1 44,m 8 45] [1,2,4,8],
 .reg [la 47 1 4,m 48 4,m 49 8,o1 50 (.lit 3 1 [.t 48,.t 49]),o1 51 (.bld [.int .u8 0,.nil 1,.nil 1] [(0,1,(.v (.int .u8 111))),(2,1,(.t 50))]),ca 52 89 [47,51],m 46 52,ex 53 46 0,ex 54 46 1,st 4 1 53,m 4 54] [1,2,4],
 .exit 1]) (.skip)],
 .reg [la 56 1 4,m 57 4,o1 58 (.lit 3 1 [.t 57]),o1 59 (.bld [.int .u8 0,.nil 1,.nil 1] [(0,1,(.v (.int .u8 109))),(2,1,(.t 58))]),ca 60 89 [56,59],m 55 60,ex 61 55 0,ex 62 55 1,st 4 1 61,m 8 62] [1,2,4,6,8],
 Q [.reg [m 63 6] [1,2,4,8,63],
 C 63 (.reg [la 65 1 4,m 66 4,m 67 8,o1 68 (.lit 3 1 [.t 66,.t 67]),o1 69 (.bld [.int .u8 0,.nil 1,.nil 1] [(0,1,(.v (.int .u8 116))),(2,1,(.t 68))]),ca 70 89 [65,69],m 64 70,ex 71 64 0,ex 72 64 1,st 4 1 71,m 8 72] [1,2,8]) (.skip)],
 .reg [m 73 8,m 4 73] [1,2,4]])])),
 .reg [la 74 1 4,m 75 4,st 4 2 74,m 3 75] [2,3],
 .ret]
theorem i_ref09_piece : image Tryz.prog Tryz.f88 [[1,2],[1,2,4],[1,2,4],[1,2,4,16],[1,2,4,5],[1,2,4,5,6],[1,2,4,5,6,7],[1,2,4,6,7,32],[2,3],[1,2,4,6,7],[1,2,4,6,7],[1,2,4,6,39],[1,2,4,8],[1,2,4],[1,2,4,6,8],[1,2,4,8,63],[1,2,8],[1,2,4],[2,3]] 1 = some (c_ref09_piece,[.c 2 4 true,.t 3]) := by kernel_rfl

abbrev n_ref09_branches : Nat := 58
theorem h_ref09_branches : Tryz.prog.funcs[58]? = some Tryz.f58 := Tryz.func58
def c_ref09_branches : AC :=
 Q [.reg [bx 1 0,o1 2 (.alc [.nil 3,.str [],.int .i64 0,.bool false]),mi 3 0] [1,2],
 .reg [mv 4 (.nil 1)] [1,2,4],
 .block 0 (.loop [1,2,4] (.block 1 (Q [.reg [mv 5 (.nil 1)] [1,2,4,5],
 .block 2 (.loop [1,2,4,5] (Q [Q [.reg [fa 9 1 3,l1 10 9,nt' 11 10,m 12 11,gt 12 (fa 13 1 2),gt 12 (l1 14 13),gt 12 (fa 15 1 1),gt 12 (l1 16 15),gt 12 (ls 17 16),gt 12 (bt 18 .lss 14 17),pa 19 12 18,m 20 19,gt 20 (fa 21 1 1),gt 20 (l1 22 21),gt 20 (fa 23 1 2),gt 20 (l1 24 23),gt 20 (ix 25 22 24),gt 20 (o1 26 (.call 87 [.t 25,.v (.str [124,41])])),gt 20 (nt' 27 26),pa 28 20 27] [1,2,4,5,28],
 C 28 (.skip) (.exit 2)],
 .block 3 (Q [.reg [mi 6 0] [1,2,4,5],
 .reg [la 30 1 4,ca 31 88 [30],m 29 31,ex 32 29 0,ex 33 29 1,st 4 1 32,m 6 33] [1,2,4,5,6],
 .reg [m 34 5,m 35 6,o1 36 (.lit 3 1 [.t 35]),o1 37 (.app (.t 34) (.t 36) 3 1 8),m 5 37] [1,2,4,5]])])),
 .reg [mi 7 0] [1,2,4,5],
 .reg [la 39 1 4,m 40 5,o1 41 (.bld [.int .u8 0,.nil 1,.nil 1] [(0,1,(.v (.int .u8 116))),(2,1,(.t 40))]),ca 42 89 [39,41],m 38 42,ex 43 38 0,ex 44 38 1,st 4 1 43,m 7 44] [1,2,4,7],
 .reg [m 45 4,m 46 7,o1 47 (.lit 3 1 [.t 46]),o1 48 (.app (.t 45) (.t 47) 3 1 8),m 4 48] [1,2,4],
 .reg [fa 49 1 3,l1 50 49,nt' 51 50,m 52 51,gt 52 (la 53 1 4),gt 52 (o1 54 (.call 90 [.t 53,.v (.int .u8 124)])),pa 55 52 54,m 8 55] [1,2,4,8],
 Q [.reg [m 56 8,nt' 57 56] [1,2,4,57],
 C 57 (Q [.reg [la 58 1 4,m 59 4,o1 60 (.bld [.int .u8 0,.nil 1,.nil 1] [(0,1,(.v (.int .u8 111))),(2,1,(.t 59))]),ca 61 89 [58,60],ex 62 61 0,ex 63 61 1,st 4 2 62,m 3 63] [2,3],
 .ret]) (.skip)],
 .reg [fa 64 1 2,l1 65 64,bi 66 .add 65 1,fa 67 1 2,st 1 67 66] [1,2,4]])))]
theorem i_ref09_branches : image Tryz.prog Tryz.f58 [[1,2],[1,2,4],[1,2,4],[1,2,4,5],[1,2,4,5],[1,2,4,5,28],[1,2,4,5],[1,2,4,5,6],[1,2,4,5],[1,2,4,5],[1,2,4,7],[1,2,4],[1,2,4,8],[1,2,4,57],[2,3],[1,2,4]] 1 = some (c_ref09_branches,[.c 2 4 true,.t 3]) := by kernel_rfl

abbrev n_ref09_Parse : Nat := 26
theorem h_ref09_Parse : Tryz.prog.funcs[26]? = some Tryz.f26 := Tryz.func26
def c_ref09_Parse : AC :=
 Q [.reg [mv 2 (.nil 3),mi 3 0,mi 4 0] [0],
 Q [.reg [m 7 0,ls 8 7,bi 9 .gtr 8 60] [0,9],
 C 9 (Q [.reg [mv 2 (.nil 3),mi 3 0,mi 4 3] [2,3,4],
 .ret]) (.skip)],
 .reg [m 11 0,o1 12 (.bld [.nil 3,.str [],.int .i64 0,.bool false] [(1,1,(.t 11))]),ca 13 58 [12],m 10 13,ex 14 10 0,ex 15 10 1,o1 5 (.alc [.nil 3,.str [],.int .i64 0,.bool false]),st 4 5 14,m 6 15] [0,5,6],
 Q [.reg [fa 16 5 3,l1 17 16,m 18 17,gf 18 (fa 19 5 2),gf 18 (l1 20 19),gf 18 (m 21 0),gf 18 (ls 22 21),gf 18 (bt 23 .neq 20 22),po 24 18 23] [5,6,24],
 C 24 (Q [.reg [mv 2 (.nil 3),mi 3 0,mi 4 2] [2,3,4],
 .ret]) (.skip)],
 .reg [fa 25 5 0,l1 26 25,m 27 6,m 2 26,m 3 27,mi 4 0] [2,3,4],
 .ret]
theorem i_ref09_Parse : image Tryz.prog Tryz.f26 [[0],[0,9],[2,3,4],[0,5,6],[5,6,24],[2,3,4],[2,3,4]] 1 = some (c_ref09_Parse,[.t 2,.t 3,.t 4]) := by kernel_rfl

abbrev n_ref09_both : Nat := 92
theorem h_ref09_both : Tryz.prog.funcs[92]? = some Tryz.f92 := Tryz.func92
def c_ref09_both : AC :=
 Q [.reg [mv 4 (.nil 1)] [0,1],
 .reg [m 8 0,lq 9 8,o1 10 (.mkm 28 24 4 1 (.t 9)),m 5 10] [0,1,5],
 Q [.reg [mi 6 0] [0,1,5,6],
 .block 0 (.loop [0,1,5,6] (Q [Q [.reg [m 11 6,m 12 0,lq 13 12,bt 14 .lss 11 13] [0,1,5,6,14],
 C 14 (.skip) (.exit 0)],
 .block 1 (Q [.reg [m 17 5,m 18 6,m 19 0,lq 20 19,o1 21 (.mks 4 1 1 (.bool false) (.t 20)),ia 22 17 18 1,st 1 22 21] [0,1,5,6],
 .reg [mi 7 0] [0,1,5,6,7],
 .block 2 (.loop [0,1,5,6,7] (Q [Q [.reg [m 23 7,m 24 0,lq 25 24,bt 26 .lss 23 25] [0,1,5,6,7,26],
 C 26 (.skip) (.exit 2)],
 .block 3 (.regD [m 29 5,m 30 6,ia 31 29 30 1,l1 32 31,m 33 7,m 34 0,m 35 6,ia 36 34 35 1,l1 37 36,m 38 7,ia 39 37 38 1,l1 40 39,m 41 40,gf 41 (m 42 1),gf 41 (m 43 6),gf 41 (ia 44 42 43 1),gf 41 (l1 45 44),gf 41 (m 46 7),gf 41 (ia 47 45 46 1),gf 41 (l1 48 47),po 49 41 48,ia 50 32 33 1,st 1 50 49] [0,1,5,6,7]),
 .reg [m 27 7,bi 28 .add 27 1,m 7 28] [0,1,5,6,7]]))]),
 .reg [m 15 6,bi 16 .add 15 1,m 6 16] [0,1,5,6]]))],
 .reg [m 51 5,m 4 51] [4],
 .ret]
theorem i_ref09_both : image Tryz.prog Tryz.f92 [[0,1],[0,1,5],[0,1,5,6],[0,1,5,6],[0,1,5,6,14],[0,1,5,6],[0,1,5,6,7],[0,1,5,6,7],[0,1,5,6,7,26],[0,0,0,3,7,0,0,0,96,224,0,992,2016,4064,8160,8160,32736,65504,8160,262112,524256,1048544,2097151,4194303],[0,1,2,3,4,5,6,7,8,9,10,11,12,13,14,15,16,17,18,19,20,21,22],[0,1,5,6,7],[0,1,5,6,7],[0,1,5,6],[4]] 2 = some (c_ref09_both,[.t 4]) := by kernel_rfl

abbrev n_ref09_joined : Nat := 93
theorem h_ref09_joined : Tryz.prog.funcs[93]? = some Tryz.f93 := Tryz.func93
def c_ref09_joined : AC :=
 Q [.reg [mv 4 (.nil 1)] [0,1],
 .reg [m 9 0,lq 10 9,o1 11 (.mkm 28 24 4 1 (.t 10)),m 5 11] [0,1,5],
 Q [.reg [mi 6 0] [0,1,5,6],
 .block 0 (.loop [0,1,5,6] (Q [Q [.reg [m 12 6,m 13 0,lq 14 13,bt 15 .lss 12 14] [0,1,5,6,15],
 C 15 (.skip) (.exit 0)],
 .block 1 (Q [.reg [m 18 5,m 19 6,m 20 0,lq 21 20,o1 22 (.mks 4 1 1 (.bool false) (.t 21)),ia 23 18 19 1,st 1 23 22] [0,1,5,6],
 .reg [mi 7 0] [0,1,5,6,7],
 .block 2 (.loop [0,1,5,6,7] (Q [Q [.reg [m 24 7,m 25 0,lq 26 25,bt 27 .lss 24 26] [0,1,5,6,7,27],
 C 27 (.skip) (.exit 2)],
 .block 3 (Q [.reg [m 30 7,m 8 30] [0,1,5,6,7,8],
 .block 4 (.loop [0,1,5,6,7,8] (Q [Q [.reg [m 31 8,m 32 0,lq 33 32,bt 34 .lss 31 33,m 35 34,gt 35 (m 36 0),gt 35 (m 37 6),gt 35 (ia 38 36 37 1),gt 35 (l1 39 38),gt 35 (m 40 7),gt 35 (ia 41 39 40 1),gt 35 (l1 42 41),pa 43 35 42] [0,1,5,6,7,8,43],
 C 43 (.skip) (.exit 4)],
 .block 5 (.regD [m 46 5,m 47 6,ia 48 46 47 1,l1 49 48,m 50 8,m 51 5,m 52 6,ia 53 51 52 1,l1 54 53,m 55 8,ia 56 54 55 1,l1 57 56,m 58 57,gf 58 (m 59 1),gf 58 (m 60 7),gf 58 (ia 61 59 60 1),gf 58 (l1 62 61),gf 58 (m 63 8),gf 58 (ia 64 62 63 1),gf 58 (l1 65 64),po 66 58 65,ia 67 49 50 1,st 1 67 66] [0,1,5,6,7,8]),
 .reg [m 44 8,bi 45 .add 44 1,m 8 45] [0,1,5,6,7,8]]))]),
 .reg [m 28 7,bi 29 .add 28 1,m 7 29] [0,1,5,6,7]]))]),
 .reg [m 16 6,bi 17 .add 16 1,m 6 17] [0,1,5,6]]))],
 .reg [m 68 5,m 4 68] [4],
 .ret]
theorem i_ref09_joined : image Tryz.prog Tryz.f93 [[0,1],[0,1,5],[0,1,5,6],[0,1,5,6],[0,1,5,6,15],[0,1,5,6],[0,1,5,6,7],[0,1,5,6,7],[0,1,5,6,7,27],[0,1,5,6,7,8],[0,1,5,6,7,8],[0,1,5,6,7,8,43],[0,0,0,3,7,0,0,0,96,224,0,992,2016,4064,8160,8160,32736,65504,8160,262112,524256,1048544,2097151,4194303],[0,1,2,3,4,5,6,7,8,9,10,11,12,13,14,15,16,17,18,19,20,21,22],[0,1,5,6,7,8],[0,1,5,6,7,8],[0,1,5,6,7],[0,1,5,6],[4]] 2 = some (c_ref09_joined,[.t 4]) := by kernel_rfl

abbrev n_ref09_step : Nat := 59
theorem h_ref09_step : Tryz.prog.funcs[59]? = some Tryz.f59 := Tryz.func59
def c_ref09_step : AC :=
 Q [.reg [mv 8 (.nil 1)] [0,1,2,3],
 .reg [m 15 2,ls 16 15,bi 17 .add 16 1,m 9 17] [0,1,2,3,9],
 .reg [m 18 9,o1 19 (.mkm 28 24 4 1 (.t 18)),m 10 19] [0,1,2,3,9,10],
 Q [.reg [mi 11 0] [0,1,2,3,9,10,11],
 .block 0 (.loop [0,1,2,3,9,10,11] (Q [Q [.reg [m 20 11,m 21 9,bt 22 .lss 20 21] [0,1,2,3,9,10,11,22],
 C 22 (.skip) (.exit 0)],
 .block 1 (Q [.reg [m 25 10,m 26 11,m 27 9,o1 28 (.mks 4 1 1 (.bool false) (.t 27)),ia 29 25 26 1,st 1 29 28] [0,1,2,3,9,10,11],
 .regD [m 30 10,m 31 11,ia 32 30 31 1,l1 33 32,m 34 11,m 35 0,m 36 1,ia 37 35 36 3,fa 38 37 0,l1 39 38,bu 40 .eql 39 116,m 41 40,gf 41 (m 42 0),gf 41 (m 43 1),gf 41 (ia 44 42 43 3),gf 41 (fa 45 44 0),gf 41 (l1 46 45),gf 41 (bu 47 .eql 46 109),po 48 41 47,ia 49 33 34 1,st 1 49 48] [0,1,2,3,9,10,11],
 .reg [m 50 0,m 51 1,ia 52 50 51 3,fa 53 52 0,l1 54 53,bu 55 .eql 54 115,m 56 55,gt 56 (m 57 11),gt 56 (m 58 2),gt 56 (ls 59 58),gt 56 (bt 60 .lss 57 59),pa 61 56 60,m 62 61,gt 62 (m 63 2),gt 62 (m 64 11),gt 62 (ix 65 63 64),gt 62 (ca 66 91 [65]),pa 67 62 66] [0,1,2,3,9,10,11,67],
 C 67 (.regD [m 68 10,m 69 11,ia 70 68 69 1,l1 71 70,m 72 11,bi 73 .add 72 1,m 74 0,m 75 1,ia 76 74 75 3,fa 77 76 1,l1 78 77,m 79 2,m 80 11,ix 81 79 80,o1 82 (.cii .i64 (.t 81)),bi 83 .sub 82 32,ia 84 78 83 1,l1 85 84,ia 86 71 73 1,st 1 86 85] [0,1,2,3,9,10,11]) (.skip)]),
 .reg [m 23 11,bi 24 .add 23 1,m 11 24] [0,1,2,3,9,10,11]]))],
 Q [.reg [mi 12 0] [0,1,3,9,10,12],
 .block 2 (.loop [0,1,3,9,10,12] (Q [Q [.reg [m 87 12,m 88 0,m 89 1,ia 90 88 89 3,fa 91 90 2,l1 92 91,lq 93 92,bt 94 .lss 87 93] [0,1,3,9,10,12,94],
 C 94 (.skip) (.exit 2)],
 .block 3 (Q [.reg [m 97 3,m 98 0,m 99 1,ia 100 98 99 3,fa 101 100 2,l1 102 101,m 103 12,ia 104 102 103 1,l1 105 104,ia 106 97 105 1,l1 107 106,m 13 107] [0,1,3,9,10,12,13],
 .reg [m 108 0,m 109 1,ia 110 108 109 3,fa 111 110 0,l1 112 111] [0,1,3,9,10,12,13,112],
 .block 4 (Q [.reg [bu 114 .eql 112 111,m 113 114] [0,1,3,9,10,12,13,112,113],
 C 113 (.reg [m 115 10,m 116 13,ca 117 92 [115,116],m 10 117] [0,1,3,9,10,12]) (Q [.reg [bu 119 .eql 112 116,m 118 119] [0,1,3,9,10,12,13,112,118],
 C 118 (.reg [m 120 10,m 121 13,ca 122 93 [120,121],m 10 122] [0,1,3,9,10,12]) (Q [.reg [bu 124 .eql 112 109,m 123 124] [0,1,3,9,10,12,13,123],
 C 123 (Q [.reg [mi 14 0] [0,1,3,9,10,12,13,14],
 .block 5 (.loop [0,1,3,9,10,12,13,14] (Q [Q [.reg [m 125 14,m 126 9,bt 127 .lss 125 126] [0,1,3,9,10,12,13,14,127],
 C 127 (.skip) (.exit 5)],
 .block 6 (.reg [m 130 10,m 131 10,m 132 13,ca 133 93 [131,132],ca 134 92 [130,133],m 10 134] [0,1,3,9,10,12,13,14]),
 .reg [m 128 14,bi 129 .add 128 1,m 14 129] [0,1,3,9,10,12,13,14]]))]) (.skip)])])])]),
 .reg [m 95 12,bi 96 .add 95 1,m 12 96] [0,1,3,9,10,12]]))],
 .reg [m 135 10,m 8 135] [8],
 .ret]
theorem i_ref09_step : image Tryz.prog Tryz.f59 [[0,1,2,3],[0,1,2,3,9],[0,1,2,3,9,10],[0,1,2,3,9,10,11],[0,1,2,3,9,10,11],[0,1,2,3,9,10,11,22],[0,1,2,3,9,10,11],[0,0,0,3,7,0,0,0,96,224,480,992,2016,4064,4064,16352,32736,65504,131040,262112,524287,1048575],[0,1,2,3,4,5,6,7,8,9,10,11,12,13,14,15,16,17,18,19,20],[0,1,2,3,9,10,11],[0,1,2,3,9,10,11,67],[0,0,0,3,7,0,16,0,0,192,448,960,0,0,6144,14336,30720,65472,131008,262143,524287],[0,1,2,3,4,5,6,7,8,9,10,11,12,13,14,15,16,17,18,19],[0,1,2,3,9,10,11],[0,1,2,3,9,10,11],[0,1,3,9,10,12],[0,1,3,9,10,12],[0,1,3,9,10,12,94],[0,1,3,9,10,12,13],[0,1,3,9,10,12,13,112],[0,1,3,9,10,12,13,112,113],[0,1,3,9,10,12],[0,1,3,9,10,12,13,112,118],[0,1,3,9,10,12],[0,1,3,9,10,12,13,123],[0,1,3,9,10,12,13,14],[0,1,3,9,10,12,13,14],[0,1,3,9,10,12,13,14,127],[0,1,3,9,10,12,13,14],[0,1,3,9,10,12,13,14],[0,1,3,9,10,12],[8]] 4 = some (c_ref09_step,[.t 8]) := by kernel_rfl

abbrev n_ref09_Match : Nat := 27
theorem h_ref09_Match : Tryz.prog.funcs[27]? = some Tryz.f27 := Tryz.func27
def c_ref09_Match : AC :=
 Q [.reg [mb 6 false] [0,1,2],
 .reg [mv 7 (.nil 1)] [0,1,2,7],
 Q [.reg [mi 8 0] [0,1,2,7,8],
 .block 0 (.loop [0,1,2,7,8] (Q [Q [.reg [m 9 8,m 10 1,bt 11 .leq 9 10] [0,1,2,7,8,11],
 C 11 (.skip) (.exit 0)],
 .block 1 (.reg [m 14 7,m 15 0,m 16 8,m 17 2,m 18 7,ca 19 59 [15,16,17,18],o1 20 (.lit 108 1 [.t 19]),o1 21 (.app (.t 14) (.t 20) 108 1 24),m 7 21] [0,1,2,7,8]),
 .reg [m 12 8,bi 13 .add 12 1,m 8 13] [0,1,2,7,8]]))],
 .reg [m 22 7,m 23 1,ia 24 22 23 1,l1 25 24,o1 26 (.ia (.t 25) (.v (.int .i64 0)) 1),l1 27 26,m 28 2,ls 29 28,ia 30 27 29 1,l1 31 30,m 6 31] [6],
 .ret]
theorem i_ref09_Match : image Tryz.prog Tryz.f27 [[0,1,2],[0,1,2,7],[0,1,2,7,8],[0,1,2,7,8],[0,1,2,7,8,11],[0,1,2,7,8],[0,1,2,7,8],[6]] 3 = some (c_ref09_Match,[.t 6]) := by kernel_rfl

abbrev n_ref12_Allows : Nat := 12
theorem h_ref12_Allows : Tryz.prog.funcs[12]? = some Tryz.f12 := Tryz.func12
def c_ref12_Allows : AC :=
 Q [.reg [bx 2 0,mb 4 false] [1,2],
 .reg [m 13 1,ca 14 25 [13],m 5 14] [1,2,5],
 Q [.reg [m 15 5,nt' 16 15] [1,2,16],
 C 16 (Q [.reg [mb 4 false] [4],
 .ret]) (.skip)],
 Q [.reg [fa 17 2 0,l1 18 17] [1,2,18],
 .block 0 (Q [.reg [bi 20 .eql 18 1,m 19 20] [1,2,18,19],
 C 19 (Q [.reg [mb 4 true] [4],
 .ret]) (Q [.reg [bi 22 .eql 18 2,m 21 22] [1,2,18,21],
 C 21 (Q [Q [.reg [mi 6 0] [1,2,6],
 .block 1 (.loop [1,2,6] (Q [Q [.reg [m 23 6,fa 24 2 1,l1 25 24,lq 26 25,bt 27 .lss 23 26] [1,2,6,27],
 C 27 (.skip) (.exit 1)],
 .block 2 (Q [.reg [fa 30 2 1,l1 31 30,m 32 6,ia 33 31 32 1,l1 34 33,m 35 1,bt 36 .eql 34 35] [1,2,6,36],
 C 36 (Q [.reg [mb 4 true] [4],
 .ret]) (.skip)]),
 .reg [m 28 6,bi 29 .add 28 1,m 6 29] [1,2,6]]))],
 .reg [mb 4 false] [4],
 .ret]) (Q [.reg [bi 38 .eql 18 3,m 37 38] [1,2,37],
 C 37 (Q [.reg [mi 7 (-1)] [1,2,7],
 Q [.reg [mi 8 0] [1,2,7,8],
 .block 3 (.loop [1,2,7,8] (Q [Q [.reg [m 39 8,m 40 1,ls 41 40,bt 42 .lss 39 41,m 43 42,gt 43 (m 44 7),gt 43 (bi 45 .lss 44 0),pa 46 43 45] [1,2,7,8,46],
 C 46 (.skip) (.exit 3)],
 .block 4 (Q [.reg [m 49 1,m 50 8,ix 51 49 50,bu 52 .eql 51 58] [1,2,7,8,52],
 C 52 (.reg [m 53 8,m 7 53] [1,2,7,8]) (.skip)]),
 .reg [m 47 8,bi 48 .add 47 1,m 8 48] [1,2,7,8]]))],
 Q [.reg [m 54 7,bi 55 .lss 54 0] [1,2,7,55],
 C 55 (Q [.reg [mb 4 true] [4],
 .ret]) (.skip)],
 Q [.reg [mi 9 0] [1,2,7,9],
 .block 5 (.loop [1,2,7,9] (Q [Q [.reg [m 56 9,fa 57 2 1,l1 58 57,lq 59 58,bt 60 .lss 56 59] [1,2,7,9,60],
 C 60 (.skip) (.exit 5)],
 .block 6 (Q [.regD [fa 63 2 1,l1 64 63,m 65 9,ia 66 64 65 1,l1 67 66,m 68 1,m 69 7,o1 70 (.sls (.t 68) none (some (.t 69))),bt 71 .eql 67 70] [1,2,7,9,71],
 C 71 (Q [.reg [mb 4 true] [4],
 .ret]) (.skip)]),
 .reg [m 61 9,bi 62 .add 61 1,m 9 62] [1,2,7,9]]))],
 .reg [mb 4 false] [4],
 .ret]) (.skip)])])])],
 .reg [fa 73 2 2,l1 74 73,ca 75 26 [74],m 72 75,ex 76 72 0,ex 77 72 1,ex 78 72 2,m 10 76,m 11 77,m 12 78] [1,10,11],
 .reg [m 79 10,m 80 11,m 81 1,ca 82 27 [79,80,81],m 4 82] [4],
 .ret]
theorem i_ref12_Allows : image Tryz.prog Tryz.f12 [[1,2],[1,2,5],[1,2,16],[4],[1,2,18],[1,2,18,19],[4],[1,2,18,21],[1,2,6],[1,2,6],[1,2,6,27],[1,2,6,36],[4],[1,2,6],[4],[1,2,37],[1,2,7],[1,2,7,8],[1,2,7,8],[1,2,7,8,46],[1,2,7,8,52],[1,2,7,8],[1,2,7,8],[1,2,7,55],[4],[1,2,7,9],[1,2,7,9],[1,2,7,9,60],[0,0,1,0,7,15,0,0,96,255],[0,1,2,3,4,5,6,7,8],[1,2,7,9,71],[4],[1,2,7,9],[4],[1,10,11],[4]] 2 = some (c_ref12_Allows,[.t 4]) := by kernel_rfl

abbrev n_slices_IndexIIstring_string : Nat := 60
theorem h_slices_IndexIIstring_string : Tryz.prog.funcs[60]? = some Tryz.f60 := Tryz.func60
def c_slices_IndexIIstring_string : AC :=
 Q [.reg [mi 4 0] [0,1],
 Q [.reg [m 6 0,lq 7 6,mi 8 0] [0,1,7,8],
 .block 0 (.loop [0,1,7,8] (Q [.reg [bt 9 .lss 8 7] [0,1,7,8,9],
 C 9 (.skip) (.exit 0),
 .block 1 (Q [.reg [m 10 8,m 5 10] [0,1,5,7,8],
 .reg [m 11 1,m 12 0,m 13 5,ia 14 12 13 1,l1 15 14,bt 16 .eql 11 15] [0,1,5,7,8,16],
 C 16 (Q [.reg [m 17 5,m 4 17] [4],
 .ret]) (.skip)]),
 .reg [bi 18 .add 8 1,m 8 18] [0,1,7,8]]))],
 .reg [mi 4 (-1)] [4],
 .ret]
theorem i_slices_IndexIIstring_string : image Tryz.prog Tryz.f60 [[0,1],[0,1,7,8],[0,1,7,8],[0,1,7,8,9],[0,1,5,7,8],[0,1,5,7,8,16],[4],[0,1,7,8],[4]] 2 = some (c_slices_IndexIIstring_string,[.t 4]) := by kernel_rfl

abbrev n_slices_ContainsIIstring_string : Nat := 29
theorem h_slices_ContainsIIstring_string : Tryz.prog.funcs[29]? = some Tryz.f29 := Tryz.func29
def c_slices_ContainsIIstring_string : AC :=
 Q [.reg [mb 4 false] [0,1],
 .reg [m 5 0,m 6 1,ca 7 60 [5,6],bi 8 .geq 7 0,m 4 8] [4],
 .ret]
theorem i_slices_ContainsIIstring_string : image Tryz.prog Tryz.f29 [[0,1],[4]] 2 = some (c_slices_ContainsIIstring_string,[.t 4]) := by kernel_rfl

abbrev n_lang_isValue : Nat := 28
theorem h_lang_isValue : Tryz.prog.funcs[28]? = some Tryz.f28 := Tryz.func28
def c_lang_isValue : AC :=
 Q [.reg [mb 2 false] [0],
 Q [.reg [mi 3 0] [0,3],
 .block 0 (.loop [0,3] (Q [Q [.reg [m 4 3,m 5 0,ls 6 5,bt 7 .lss 4 6] [0,3,7],
 C 7 (.skip) (.exit 0)],
 .block 1 (Q [.reg [m 10 0,m 11 3,ix 12 10 11,bu 13 .lss 12 32,m 14 13,gf 14 (m 15 0),gf 14 (m 16 3),gf 14 (ix 17 15 16),gf 14 (bu 18 .gtr 17 126),po 19 14 18] [0,3,19],
 C 19 (Q [.reg [mb 2 false] [2],
 .ret]) (.skip)]),
 .reg [m 8 3,bi 9 .add 8 1,m 3 9] [0,3]]))],
 .reg [mb 2 true] [2],
 .ret]
theorem i_lang_isValue : image Tryz.prog Tryz.f28 [[0],[0,3],[0,3],[0,3,7],[0,3,19],[2],[0,3],[2]] 1 = some (c_lang_isValue,[.t 2]) := by kernel_rfl

abbrev n_internal_stringslite_Index : Nat := 94
theorem h_internal_stringslite_Index : Tryz.prog.funcs[94]? = some Tryz.f94 := Tryz.func94
def c_internal_stringslite_Index : AC :=
 Q [.reg [mi 4 0] [0,1],
 .reg [m 14 1,ls 15 14,m 5 15] [0,1,5],
 .block 0 (Q [.reg [m 17 5,bi 18 .eql 17 0,m 19 18,gf 19 (m 20 1),gf 19 (m 21 0),gf 19 (bt 22 .eql 20 21),po 23 19 22,m 16 23] [0,1,5,16],
 C 16 (Q [.reg [mi 4 0] [4],
 .ret]) (Q [.reg [m 25 5,bi 26 .eql 25 1,m 24 26] [0,1,5,24],
 C 24 (Q [.reg [m 27 0,m 28 1,o1 29 (.ixs (.t 28) (.v (.int .i64 0))),ca 30 112 [27,29],m 4 30] [4],
 .ret]) (Q [.reg [m 32 5,m 33 0,ls 34 33,bt 35 .geq 32 34,m 31 35] [0,1,5,31],
 C 31 (Q [.reg [mi 4 (-1)] [4],
 .ret]) (Q [.reg [m 37 5,o1 38 (.bad),bt 39 .leq 37 38,m 40 39,gt 40 (m 41 0),gt 40 (ls 42 41),gt 40 (bi 43 .leq 42 64),pa 44 40 43,m 36 44] [0,1,5,36],
 C 36 (Q [.reg [m 45 0,m 46 1,ca 47 113 [45,46],m 4 47] [4],
 .ret]) (.skip)])])])]),
 .reg [m 48 1,o1 49 (.ixs (.t 48) (.v (.int .i64 0))),m 6 49] [0,1,5,6],
 .reg [m 50 1,o1 51 (.ixs (.t 50) (.v (.int .i64 1))),m 7 51] [0,1,5,6,7],
 .reg [mi 8 0] [0,1,5,6,7,8],
 .reg [m 52 0,ls 53 52,m 54 5,bt 55 .sub 53 54,bi 56 .add 55 1,m 9 56] [0,1,5,6,7,8,9],
 .reg [mi 10 0] [0,1,5,6,7,8,9,10],
 .block 1 (.loop [0,1,5,6,7,8,9,10] (Q [Q [.reg [m 57 8,m 58 9,bt 59 .lss 57 58] [0,1,5,6,7,8,9,10,59],
 C 59 (.skip) (.exit 1)],
 .block 2 (Q [Q [.reg [m 60 0,m 61 8,ix 62 60 61,m 63 6,bt 64 .neq 62 63] [0,1,5,6,7,8,9,10,64],
 C 64 (Q [.reg [m 65 0,m 66 8,bi 67 .add 66 1,m 68 9,o1 69 (.sls (.t 65) (some (.t 67)) (some (.t 68))),m 70 6,ca 71 112 [69,70],m 11 71] [0,1,5,6,7,8,9,10,11],
 Q [.reg [m 72 11,bi 73 .lss 72 0] [0,1,5,6,7,8,9,10,11,73],
 C 73 (Q [.reg [mi 4 (-1)] [4],
 .ret]) (.skip)],
 .reg [m 74 8,m 75 11,bi 76 .add 75 1,bt 77 .add 74 76,m 8 77] [0,1,5,6,7,8,9,10]]) (.skip)],
 Q [.reg [m 78 0,m 79 8,bi 80 .add 79 1,ix 81 78 80,m 82 7,bt 83 .eql 81 82,m 84 83,gt 84 (m 85 0),gt 84 (m 86 8),gt 84 (m 87 8),gt 84 (m 88 5),gt 84 (bt 89 .add 87 88),gt 84 (o1 90 (.sls (.t 85) (some (.t 86)) (some (.t 89)))),gt 84 (m 91 1),gt 84 (bt 92 .eql 90 91),pa 93 84 92] [0,1,5,6,7,8,9,10,93],
 C 93 (Q [.reg [m 94 8,m 4 94] [4],
 .ret]) (.skip)],
 .reg [m 95 8,bi 96 .add 95 1,m 8 96] [0,1,5,6,7,8,9,10],
 .reg [m 97 10,bi 98 .add 97 1,m 10 98] [0,1,5,6,7,8,9,10],
 .reg [m 99 5,o1 100 (.bad),bt 101 .leq 99 100,m 102 101,gt 102 (m 103 10),gt 102 (m 104 8),gt 102 (ca 105 114 [104]),gt 102 (bt 106 .gtr 103 105),pa 107 102 106] [0,1,5,6,7,8,9,10,107],
 C 107 (Q [.reg [m 108 0,m 109 8,o1 110 (.sls (.t 108) (some (.t 109)) none),m 111 1,ca 112 113 [110,111],m 12 112] [8,12],
 Q [.reg [m 113 12,bi 114 .geq 113 0] [8,12,114],
 C 114 (Q [.reg [m 115 12,m 116 8,bt 117 .add 115 116,m 4 117] [4],
 .ret]) (.skip)],
 .reg [mi 4 (-1)] [4],
 .ret]) (Q [.reg [m 118 5,o1 119 (.bad),bt 120 .gtr 118 119,m 121 120,gt 121 (m 122 10),gt 121 (m 123 8),gt 121 (o1 124 (.bin .shr (.t 123) (.v (.int .u64 4)))),gt 121 (o1 125 (.bin .add (.v (.int .i64 4)) (.t 124))),gt 121 (bt 126 .geq 122 125),pa 127 121 126,m 128 127,gt 128 (m 129 8),gt 128 (m 130 9),gt 128 (bt 131 .lss 129 130),pa 132 128 131] [0,1,5,6,7,8,9,10,132],
 C 132 (Q [.reg [m 133 0,m 134 8,o1 135 (.sls (.t 133) (some (.t 134)) none),m 136 1,ca 137 115 [135,136],m 13 137] [8,13],
 Q [.reg [m 138 13,bi 139 .lss 138 0] [8,13,139],
 C 139 (Q [.reg [mi 4 (-1)] [4],
 .ret]) (.skip)],
 .reg [m 140 8,m 141 13,bt 142 .add 140 141,m 4 142] [4],
 .ret]) (.skip)])])])),
 .reg [mi 4 (-1)] [4],
 .ret]
theorem i_internal_stringslite_Index : image Tryz.prog Tryz.f94 [[0,1],[0,1,5],[0,1,5,16],[4],[0,1,5,24],[4],[0,1,5,31],[4],[0,1,5,36],[4],[0,1,5,6],[0,1,5,6,7],[0,1,5,6,7,8],[0,1,5,6,7,8,9],[0,1,5,6,7,8,9,10],[0,1,5,6,7,8,9,10],[0,1,5,6,7,8,9,10,59],[0,1,5,6,7,8,9,10,64],[0,1,5,6,7,8,9,10,11],[0,1,5,6,7,8,9,10,11,73],[4],[0,1,5,6,7,8,9,10],[0,1,5,6,7,8,9,10,93],[4],[0,1,5,6,7,8,9,10],[0,1,5,6,7,8,9,10],[0,1,5,6,7,8,9,10,107],[8,12],[8,12,114],[4],[4],[0,1,5,6,7,8,9,10,132],[8,13],[8,13,139],[4],[4],[4]] 2 = some (c_internal_stringslite_Index,[.t 4]) := by kernel_rfl

abbrev n_internal_stringslite_Cut : Nat := 61
theorem h_internal_stringslite_Cut : Tryz.prog.funcs[61]? = some Tryz.f61 := Tryz.func61
def c_internal_stringslite_Cut : AC :=
 Q [.reg [mv 4 (.str []),mv 5 (.str []),mb 6 false] [0,1],
 Q [.reg [m 8 0,m 9 1,ca 10 94 [8,9],m 7 10] [0,1,7],
 .reg [m 11 7,bi 12 .geq 11 0] [0,1,7,12],
 C 12 (Q [.regD [m 13 0,m 14 7,o1 15 (.sls (.t 13) none (some (.t 14))),m 16 0,m 17 7,m 18 1,ls 19 18,bt 20 .add 17 19,o1 21 (.sls (.t 16) (some (.t 20)) none),m 4 15,m 5 21,mb 6 true] [4,5,6],
 .ret]) (.skip)],
 .reg [m 22 0,m 4 22,mv 5 (.str []),mb 6 false] [4,5,6],
 .ret]
theorem i_internal_stringslite_Cut : image Tryz.prog Tryz.f61 [[0,1],[0,1,7],[0,1,7,12],[0,0,0,3,0,0,0,32,112,248,7,1023,2047],[0,1,2,3,4,5,6,7,8,9,10,11],[4,5,6],[4,5,6]] 2 = some (c_internal_stringslite_Cut,[.t 4,.t 5,.t 6]) := by kernel_rfl

abbrev n_strings_Cut : Nat := 30
theorem h_strings_Cut : Tryz.prog.funcs[30]? = some Tryz.f30 := Tryz.func30
def c_strings_Cut : AC :=
 Q [.reg [mv 4 (.str []),mv 5 (.str []),mb 6 false] [0,1],
 .reg [m 7 0,m 8 1,ca 9 61 [7,8],ex 10 9 0,ex 11 9 1,ex 12 9 2,m 4 10,m 5 11,m 6 12] [4,5,6],
 .ret]
theorem i_strings_Cut : image Tryz.prog Tryz.f30 [[0,1],[4,5,6]] 2 = some (c_strings_Cut,[.t 4,.t 5,.t 6]) := by kernel_rfl

abbrev n_lang_Allows : Nat := 13
theorem h_lang_Allows : Tryz.prog.funcs[13]? = some Tryz.f13 := Tryz.func13
def c_lang_Allows : AC :=
 Q [.reg [bx 2 0,mb 4 false] [1,2],
 Q [.reg [m 10 1,ca 11 28 [10],nt' 12 11] [1,2,12],
 C 12 (Q [.reg [mb 4 false] [4],
 .ret]) (.skip)],
 Q [.reg [fa 13 2 0,l1 14 13] [1,2,14],
 .block 0 (Q [.reg [bi 16 .eql 14 1,m 15 16] [1,2,14,15],
 C 15 (Q [.reg [mb 4 true] [4],
 .ret]) (Q [.reg [bi 18 .eql 14 2,m 17 18] [1,2,14,17],
 C 17 (Q [.reg [fa 19 2 1,l1 20 19,m 21 1,ca 22 29 [20,21],m 4 22] [4],
 .ret]) (Q [.reg [bi 24 .eql 14 3,m 23 24] [1,2,14,23],
 C 23 (Q [.reg [m 26 1,o1 27 (.call 30 [.t 26,.v (.str [58])]),m 25 27,ex 28 25 0,ex 29 25 1,ex 30 25 2,m 5 28,m 6 29,m 7 30] [2,5,7],
 .reg [m 31 7,nt' 32 31,m 33 32,gf 33 (fa 34 2 1),gf 33 (l1 35 34),gf 33 (m 36 5),gf 33 (ca 37 29 [35,36]),po 38 33 37,m 4 38] [4],
 .ret]) (Q [.reg [bi 40 .eql 14 4,m 39 40] [1,2,39],
 C 39 (Q [.reg [fa 42 2 2,l1 43 42,ca 44 31 [43],m 41 44,ex 45 41 0,ex 46 41 1,m 8 45,m 9 46] [1,8,9],
 .reg [m 47 9,bi 48 .eql 47 0,m 49 48,gt 49 (m 50 8),gt 49 (m 51 1),gt 49 (ca 52 32 [50,51]),pa 53 49 52,m 4 53] [4],
 .ret]) (.skip)])])])])],
 .reg [mb 4 false] [4],
 .ret]
theorem i_lang_Allows : image Tryz.prog Tryz.f13 [[1,2],[1,2,12],[4],[1,2,14],[1,2,14,15],[4],[1,2,14,17],[4],[1,2,14,23],[2,5,7],[4],[1,2,39],[1,8,9],[4],[4]] 2 = some (c_lang_Allows,[.t 4]) := by kernel_rfl

abbrev n_regex_Literal : Nat := 109
theorem h_regex_Literal : Tryz.prog.funcs[109]? = some Tryz.f109 := Tryz.func109
def c_regex_Literal : AC :=
 Q [.reg [mv 2 (.nilptr)] [0],
 .reg [m 5 0,ls 6 5,o1 7 (.mk0 98 1 16 (.t 6)),m 3 7] [0,3],
 Q [.reg [mi 4 0] [0,3,4],
 .block 0 (.loop [0,3,4] (Q [Q [.reg [m 8 4,m 9 0,ls 10 9,bt 11 .lss 8 10] [0,3,4,11],
 C 11 (.skip) (.exit 0)],
 .block 1 (Q [Q [.reg [m 14 0,m 15 4,ix 16 14 15,ca 17 122 [16],nt' 18 17] [0,3,4,18],
 C 18 (Q [.reg [o1 19 (.bld (zs 95 (.bool false)) []),o1 20 (.mki 148 (.t 19)),o1 21 (.bld [.niliface] [(0,1,(.t 20))]),bx 22 21,m 2 22] [2],
 .ret]) (.skip)],
 .reg [m 23 3,m 24 0,m 25 4,ix 26 24 25,ca 27 123 [26],o1 28 (.mki 148 (.t 27)),o1 29 (.lit 98 1 [.t 28]),o1 30 (.app (.t 23) (.t 29) 98 1 16),m 3 30] [0,3,4]]),
 .reg [m 12 4,bi 13 .add 12 1,m 4 13] [0,3,4]]))],
 .reg [m 31 3,ca 32 110 [31],o1 33 (.bld [.niliface] [(0,1,(.t 32))]),bx 34 33,m 2 34] [2],
 .ret]
theorem i_regex_Literal : imageE Tryz.prog Tryz.f109 [] [9999999] [[0],[0,3],[0,3,4],[0,3,4],[0,3,4,11],[0,3,4,18],[2],[0,3,4],[0,3,4],[2]] 1 = some (c_regex_Literal,[.t 2]) := by kernel_rfl

abbrev n_regex_parts : Nat := 108
theorem h_regex_parts : Tryz.prog.funcs[108]? = some Tryz.f108 := Tryz.func108
def c_regex_parts : AC :=
 Q [.reg [mv 2 (.nil 1)] [0],
 .reg [m 6 0,lq 7 6,o1 8 (.mk0 98 1 16 (.t 7)),m 3 8] [0,3],
 Q [.reg [m 9 0,lq 10 9,mi 11 0] [3,9,10,11],
 .block 0 (.loop [3,9,10,11] (Q [.reg [bt 12 .lss 11 10] [3,9,10,11,12],
 C 12 (.skip) (.exit 0),
 .block 1 (Q [.reg [ia 13 9 11 1,l1 14 13,m 5 14] [3,5,9,10,11],
 .reg [m 15 3,m 16 5,ca 17 57 [16],o1 18 (.lit 98 1 [.t 17]),o1 19 (.app (.t 15) (.t 18) 98 1 16),m 3 19] [3,9,10,11]]),
 .reg [bi 20 .add 11 1,m 11 20] [3,9,10,11]]))],
 .reg [m 21 3,m 2 21] [2],
 .ret]
theorem i_regex_parts : image Tryz.prog Tryz.f108 [[0],[0,3],[3,9,10,11],[3,9,10,11],[3,9,10,11,12],[3,5,9,10,11],[3,9,10,11],[3,9,10,11],[2]] 1 = some (c_regex_parts,[.t 2]) := by kernel_rfl

abbrev n_regex_Or : Nat := 84
theorem h_regex_Or : Tryz.prog.funcs[84]? = some Tryz.f84 := Tryz.func84
def c_regex_Or : AC :=
 Q [.reg [mv 2 (.nilptr)] [0],
 .reg [m 3 0,ca 4 108 [3],ca 5 97 [4],o1 6 (.bld [.niliface] [(0,1,(.t 5))]),bx 7 6,m 2 7] [2],
 .ret]
theorem i_regex_Or : imageE Tryz.prog Tryz.f84 [] [9999999] [[0],[2]] 1 = some (c_regex_Or,[.t 2]) := by kernel_rfl

abbrev n_regex_Then : Nat := 86
theorem h_regex_Then : Tryz.prog.funcs[86]? = some Tryz.f86 := Tryz.func86
def c_regex_Then : AC :=
 Q [.reg [mv 2 (.nilptr)] [0],
 .reg [m 3 0,ca 4 108 [3],ca 5 110 [4],o1 6 (.bld [.niliface] [(0,1,(.t 5))]),bx 7 6,m 2 7] [2],
 .ret]
theorem i_regex_Then : imageE Tryz.prog Tryz.f86 [] [9999999] [[0],[2]] 1 = some (c_regex_Then,[.t 2]) := by kernel_rfl

abbrev n_pregex_Regex_Match : Nat := 32
theorem h_pregex_Regex_Match : Tryz.prog.funcs[32]? = some Tryz.f32 := Tryz.func32
def c_pregex_Regex_Match : AC :=
 Q [.reg [mb 4 false] [0,1],
 .reg [m 18 0,ca 19 24 [18],o1 5 (.alc [.int .i64 0,.int .i64 0,.int .i64 0,.nil 4]),st 4 5 19] [1,5],
 .reg [fa 20 5 0,l1 21 20,o1 22 (.mkm 48 24 120 4 (.t 21)),m 6 22] [1,5,6],
 Q [.reg [fa 23 5 3,l1 24 23,lq 25 24,mi 26 0] [1,5,6,24,25,26],
 .block 0 (.loop [1,5,6,24,25,26] (Q [.reg [bt 27 .lss 26 25] [1,5,6,24,25,26,27],
 C 27 (.skip) (.exit 0),
 .block 1 (Q [.reg [ia 28 24 26 4,la 29 28 4,o1 8 (.alc [.int .i64 0,.int .i64 0,.int .u8 0,.int .u8 0]),st 4 8 29] [1,5,6,8,24,25,26],
 .regF (OQ [m 30 6,m 33 6,fa 34 8 0,l1 35 34,ia 36 33 35 1,l1 37 36,la 38 8 4,o1 39 (.lit 120 4 [.t 38])] (.both
 (OQ [fa 31 8 0] (.both
 (OQ [l1 32 31,o1 40 (.app (.t 37) (.t 39) 120 4 24),ia 41 30 32 1,st 1 41 40] .nil)
 (OQ [o1 40 (.app (.t 37) (.t 39) 120 4 24),l1 32 31,ia 41 30 32 1,st 1 41 40] .nil)))
 (OQ [o1 40 (.app (.t 37) (.t 39) 120 4 24),fa 31 8 0,l1 32 31,ia 41 30 32 1,st 1 41 40] .nil))) [1,5,6,24,25,26]]),
 .reg [bi 42 .add 26 1,m 26 42] [1,5,6,24,25,26]]))],
 .reg [fa 43 5 0,l1 44 43,o1 45 (.mks 3 1 8 (.int .i64 0) (.t 44)),m 9 45] [1,5,6,9],
 .reg [m 46 9,fa 47 5 1,l1 48 47,ia 49 46 48 1,o0 (.st 1 (.t 49) (.v (.int .i64 1)))] [1,5,6,9],
 .reg [m 50 6,m 51 9,fa 52 5 1,l1 53 52,o1 54 (.ltr 3 1 [.t 53]),o1 55 (.callH 63 [.t 50,.t 51,.v (.int .i64 1),.t 54]),m 10 55] [1,5,6,9,10],
 .reg [mv 11 (.nil 1)] [1,5,6,9,10,11],
 Q [.reg [mi 12 0] [1,5,6,9,10,11,12],
 .block 2 (.loop [1,5,6,9,10,11,12] (Q [Q [.reg [m 56 12,m 57 1,ls 58 57,bt 59 .lss 56 58] [1,5,6,9,10,11,12,59],
 C 59 (.skip) (.exit 2)],
 .block 3 (Q [Q [.reg [m 62 10,lq 63 62,bi 64 .eql 63 0] [1,5,6,9,10,11,12,64],
 C 64 (Q [.reg [mb 4 false] [4],
 .ret]) (.skip)],
 .reg [m 65 12,bi 66 .add 65 2,m 13 66] [1,5,6,9,10,11,12,13],
 .reg [m 67 11,o1 68 (.trc (.t 67) (.v (.int .i64 0)) 1),m 11 68] [1,5,6,9,10,11,12,13],
 Q [.reg [m 69 10,lq 70 69,mi 71 0] [1,5,6,9,10,11,12,13,69,70,71],
 .block 4 (.loop [1,5,6,9,10,11,12,13,69,70,71] (Q [.reg [bt 72 .lss 71 70] [1,5,6,9,10,11,12,13,69,70,71,72],
 C 72 (.skip) (.exit 4),
 .block 5 (Q [.reg [ia 73 69 71 1,l1 74 73,m 15 74] [1,5,6,9,10,11,12,13,15,69,70,71],
 .reg [m 75 6,m 76 15,ia 77 75 76 1,l1 78 77,lq 79 78,mi 80 0] [1,5,6,9,10,11,12,13,69,70,71,78,79,80],
 .block 6 (.loop [1,5,6,9,10,11,12,13,69,70,71,78,79,80] (Q [.reg [bt 81 .lss 80 79] [1,5,6,9,10,11,12,13,69,70,71,78,79,80,81],
 C 81 (.skip) (.exit 6),
 .block 7 (Q [.reg [ia 82 78 80 4,la 83 82 4,o1 17 (.alc [.int .i64 0,.int .i64 0,.int .u8 0,.int .u8 0]),st 4 17 83] [1,5,6,9,10,11,12,13,17,69,70,71,78,79,80],
 .regD [fa 84 17 2,l1 85 84,m 86 1,m 87 12,ix 88 86 87,bt 89 .leq 85 88,m 90 89,gt 90 (m 91 1),gt 90 (m 92 12),gt 90 (ix 93 91 92),gt 90 (fa 94 17 3),gt 90 (l1 95 94),gt 90 (bt 96 .leq 93 95),pa 97 90 96,m 98 97,gt 98 (m 99 9),gt 98 (fa 100 17 1),gt 98 (l1 101 100),gt 98 (ia 102 99 101 1),gt 98 (l1 103 102),gt 98 (m 104 13),gt 98 (bt 105 .neq 103 104),pa 106 98 105] [1,5,6,9,10,11,12,13,17,69,70,71,78,79,80,106],
 C 106 (Q [.reg [m 107 9,fa 108 17 1,l1 109 108,m 110 13,ia 111 107 109 1,st 1 111 110] [1,5,6,9,10,11,12,13,17,69,70,71,78,79,80],
 .reg [m 112 11,fa 113 17 1,l1 114 113,o1 115 (.ltr 3 1 [.t 114]),o1 116 (.app (.t 112) (.t 115) 3 1 8),m 11 116] [1,5,6,9,10,11,12,13,69,70,71,78,79,80]]) (.skip)]),
 .reg [bi 117 .add 80 1,m 80 117] [1,5,6,9,10,11,12,13,69,70,71,78,79,80]]))]),
 .reg [bi 118 .add 71 1,m 71 118] [1,5,6,9,10,11,12,13,69,70,71]]))],
 .reg [m 119 6,m 120 9,m 121 13,m 122 11,ch 123 63 [119,120,121,122],m 124 10,m 10 123,m 11 124] [1,5,6,9,10,11,12]]),
 .reg [m 60 12,bi 61 .add 60 1,m 12 61] [1,5,6,9,10,11,12]]))],
 .reg [m 125 9,fa 126 5 2,l1 127 126,ia 128 125 127 1,l1 129 128,m 130 1,ls 131 130,bi 132 .add 131 1,bt 133 .eql 129 132,m 4 133] [4],
 .ret]
theorem i_pregex_Regex_Match : imageE Tryz.prog Tryz.f32 [] [63,1000000,2000003] [[0,1],[1,5],[1,5,6],[1,5,6,24,25,26],[1,5,6,24,25,26],[1,5,6,24,25,26,27],[1,5,6,8,24,25,26],[1,0,0,2,0,0,16,56,120,0,256,1016,2047,4095],[1,5,6,24,25,26],[1,5,6,24,25,26],[1,5,6,9],[1,5,6,9],[1,5,6,9,10],[1,5,6,9,10,11],[1,5,6,9,10,11,12],[1,5,6,9,10,11,12],[1,5,6,9,10,11,12,59],[1,5,6,9,10,11,12,64],[4],[1,5,6,9,10,11,12,13],[1,5,6,9,10,11,12,13],[1,5,6,9,10,11,12,13,69,70,71],[1,5,6,9,10,11,12,13,69,70,71],[1,5,6,9,10,11,12,13,69,70,71,72],[1,5,6,9,10,11,12,13,15,69,70,71],[1,5,6,9,10,11,12,13,69,70,71,78,79,80],[1,5,6,9,10,11,12,13,69,70,71,78,79,80],[1,5,6,9,10,11,12,13,69,70,71,78,79,80,81],[1,5,6,9,10,11,12,13,17,69,70,71,78,79,80],[0,0,1,0,0,12,31,63,127,127,511,127,1151,4095,8191,16383,32767,32767,98303,262143,524287,32767,2097151,4194303],[0,1,2,3,4,5,6,7,8,9,10,11,12,13,14,15,16,17,18,19,20,21,22],[1,5,6,9,10,11,12,13,17,69,70,71,78,79,80,106],[1,5,6,9,10,11,12,13,17,69,70,71,78,79,80],[1,5,6,9,10,11,12,13,69,70,71,78,79,80],[1,5,6,9,10,11,12,13,69,70,71,78,79,80],[1,5,6,9,10,11,12,13,69,70,71],[1,5,6,9,10,11,12],[1,5,6,9,10,11,12],[4]] 2 = some (c_pregex_Regex_Match,[.t 4]) := by kernel_rfl

abbrev n_regex_closed : Nat := 63
theorem h_regex_closed : Tryz.prog.funcs[63]? = some Tryz.f63 := Tryz.func63
def c_regex_closed : AC :=
 Q [.reg [mv 8 (.nil 1)] [0,1,2,3],
 Q [.reg [mi 9 0] [0,1,2,3,9],
 .block 0 (.loop [0,1,2,3,9] (Q [Q [.reg [m 12 9,m 13 3,lq 14 13,bt 15 .lss 12 14] [0,1,2,3,9,15],
 C 15 (.skip) (.exit 0)],
 .block 1 (Q [.reg [m 18 0,m 19 3,m 20 9,ia 21 19 20 1,l1 22 21,ia 23 18 22 1,l1 24 23,lq 25 24,mi 26 0] [0,1,2,3,9,24,25,26],
 .block 2 (.loop [0,1,2,3,9,24,25,26] (Q [.reg [bt 27 .lss 26 25] [0,1,2,3,9,24,25,26,27],
 C 27 (.skip) (.exit 2),
 .block 3 (Q [.reg [ia 28 24 26 4,la 29 28 4,o1 11 (.alc [.int .i64 0,.int .i64 0,.int .u8 0,.int .u8 0]),st 4 11 29] [0,1,2,3,9,11,24,25,26],
 .reg [fa 30 11 2,l1 31 30,fa 32 11 3,l1 33 32,bt 34 .gtr 31 33,m 35 34,gt 35 (m 36 1),gt 35 (fa 37 11 1),gt 35 (l1 38 37),gt 35 (ia 39 36 38 1),gt 35 (l1 40 39),gt 35 (m 41 2),gt 35 (bt 42 .neq 40 41),pa 43 35 42] [0,1,2,3,9,11,24,25,26,43],
 C 43 (Q [.reg [m 44 1,fa 45 11 1,l1 46 45,m 47 2,ia 48 44 46 1,st 1 48 47] [0,1,2,3,9,11,24,25,26],
 .reg [m 49 3,fa 50 11 1,l1 51 50,o1 52 (.lit 3 1 [.t 51]),o1 53 (.app (.t 49) (.t 52) 3 1 8),m 3 53] [0,1,2,3,9,24,25,26]]) (.skip)]),
 .reg [bi 54 .add 26 1,m 26 54] [0,1,2,3,9,24,25,26]]))]),
 .reg [m 16 9,bi 17 .add 16 1,m 9 17] [0,1,2,3,9]]))],
 .reg [m 55 3,m 8 55] [1,8],
 .ret]
theorem i_regex_closed : imageE Tryz.prog Tryz.f63 [1] [] [[0,1,2,3],[0,1,2,3,9],[0,1,2,3,9],[0,1,2,3,9,15],[0,1,2,3,9,24,25,26],[0,1,2,3,9,24,25,26],[0,1,2,3,9,24,25,26,27],[0,1,2,3,9,11,24,25,26],[0,1,2,3,9,11,24,25,26,43],[0,1,2,3,9,11,24,25,26],[0,1,2,3,9,24,25,26],[0,1,2,3,9,24,25,26],[0,1,2,3,9],[1,8]] 4 = some (c_regex_closed,[.t 8]) := by kernel_rfl

abbrev n_lang_Auto : Nat := 10
theorem h_lang_Auto : Tryz.prog.funcs[10]? = some Tryz.f10 := Tryz.func10
def c_lang_Auto : AC :=
 Q [.reg [bx 1 0,o1 2 (.alc [.nil 1,.nil 1])] [1,2],
 Q [.reg [la 5 1 3,ca 6 21 [5],bi 7 .neq 6 0] [1,2,7],
 C 7 (Q [.reg [o1 8 (.bld [.nil 1,.nil 1] []),st 2 2 8] [2],
 .ret]) (.skip)],
 .regF ((.both
 (OQ [ch 10 23 [],fa 11 1 0,l1 12 11,o1 13 (.lkp ⟨false,[.i .i64]⟩ (.nilfn) false (.t 10) (.t 12)),la 14 1 3,cv 15 13 [14],ca 16 24 [15],ca 17 22 [16],m 9 17,ex 18 9 0,ex 19 9 1,o1 3 (.alc [.nil 1,.nil 1]),st 2 3 18,m 4 19] .nil)
 ((.both
 (OQ [fa 11 1 0] (.both
 (OQ [ch 10 23 [],l1 12 11,o1 13 (.lkp ⟨false,[.i .i64]⟩ (.nilfn) false (.t 10) (.t 12)),la 14 1 3,cv 15 13 [14],ca 16 24 [15],ca 17 22 [16],m 9 17,ex 18 9 0,ex 19 9 1,o1 3 (.alc [.nil 1,.nil 1]),st 2 3 18,m 4 19] .nil)
 ((.both
 (OQ [l1 12 11] (.both
 (OQ [ch 10 23 [],o1 13 (.lkp ⟨false,[.i .i64]⟩ (.nilfn) false (.t 10) (.t 12)),la 14 1 3,cv 15 13 [14],ca 16 24 [15],ca 17 22 [16],m 9 17,ex 18 9 0,ex 19 9 1,o1 3 (.alc [.nil 1,.nil 1]),st 2 3 18,m 4 19] .nil)
 ((.both
 (OQ [la 14 1 3] (.both
 (OQ [ch 10 23 [],o1 13 (.lkp ⟨false,[.i .i64]⟩ (.nilfn) false (.t 10) (.t 12)),cv 15 13 [14],ca 16 24 [15],ca 17 22 [16],m 9 17,ex 18 9 0,ex 19 9 1,o1 3 (.alc [.nil 1,.nil 1]),st 2 3 18,m 4 19] .nil)
 (OQ [o1 3 (.alc [.nil 1,.nil 1]),ch 10 23 [],o1 13 (.lkp ⟨false,[.i .i64]⟩ (.nilfn) false (.t 10) (.t 12)),cv 15 13 [14],ca 16 24 [15],ca 17 22 [16],m 9 17,ex 18 9 0,ex 19 9 1,st 2 3 18,m 4 19] .nil)))
 (OQ [o1 3 (.alc [.nil 1,.nil 1])] (.both
 (OQ [ch 10 23 [],o1 13 (.lkp ⟨false,[.i .i64]⟩ (.nilfn) false (.t 10) (.t 12)),la 14 1 3,cv 15 13 [14],ca 16 24 [15],ca 17 22 [16],m 9 17,ex 18 9 0,ex 19 9 1,st 2 3 18,m 4 19] .nil)
 (OQ [la 14 1 3,ch 10 23 [],o1 13 (.lkp ⟨false,[.i .i64]⟩ (.nilfn) false (.t 10) (.t 12)),cv 15 13 [14],ca 16 24 [15],ca 17 22 [16],m 9 17,ex 18 9 0,ex 19 9 1,st 2 3 18,m 4 19] .nil)))))))
 ((.both
 (OQ [la 14 1 3] (.both
 (OQ [ch 10 23 [],l1 12 11,o1 13 (.lkp ⟨false,[.i .i64]⟩ (.nilfn) false (.t 10) (.t 12)),cv 15 13 [14],ca 16 24 [15],ca 17 22 [16],m 9 17,ex 18 9 0,ex 19 9 1,o1 3 (.alc [.nil 1,.nil 1]),st 2 3 18,m 4 19] .nil)
 ((.both
 (OQ [l1 12 11] (.both
 (OQ [ch 10 23 [],o1 13 (.lkp ⟨false,[.i .i64]⟩ (.nilfn) false (.t 10) (.t 12)),cv 15 13 [14],ca 16 24 [15],ca 17 22 [16],m 9 17,ex 18 9 0,ex 19 9 1,o1 3 (.alc [.nil 1,.nil 1]),st 2 3 18,m 4 19] .nil)
 (OQ [o1 3 (.alc [.nil 1,.nil 1]),ch 10 23 [],o1 13 (.lkp ⟨false,[.i .i64]⟩ (.nilfn) false (.t 10) (.t 12)),cv 15 13 [14],ca 16 24 [15],ca 17 22 [16],m 9 17,ex 18 9 0,ex 19 9 1,st 2 3 18,m 4 19] .nil)))
 (OQ [o1 3 (.alc [.nil 1,.nil 1])] (.both
 (OQ [ch 10 23 [],l1 12 11,o1 13 (.lkp ⟨false,[.i .i64]⟩ (.nilfn) false (.t 10) (.t 12)),cv 15 13 [14],ca 16 24 [15],ca 17 22 [16],m 9 17,ex 18 9 0,ex 19 9 1,st 2 3 18,m 4 19] .nil)
 (OQ [l1 12 11,ch 10 23 [],o1 13 (.lkp ⟨false,[.i .i64]⟩ (.nilfn) false (.t 10) (.t 12)),cv 15 13 [14],ca 16 24 [15],ca 17 22 [16],m 9 17,ex 18 9 0,ex 19 9 1,st 2 3 18,m 4 19] .nil)))))))
 (OQ [o1 3 (.alc [.nil 1,.nil 1])] (.both
 (OQ [ch 10 23 [],l1 12 11,o1 13 (.lkp ⟨false,[.i .i64]⟩ (.nilfn) false (.t 10) (.t 12)),la 14 1 3,cv 15 13 [14],ca 16 24 [15],ca 17 22 [16],m 9 17,ex 18 9 0,ex 19 9 1,st 2 3 18,m 4 19] .nil)
 ((.both
 (OQ [l1 12 11] (.both
 (OQ [ch 10 23 [],o1 13 (.lkp ⟨false,[.i .i64]⟩ (.nilfn) false (.t 10) (.t 12)),la 14 1 3,cv 15 13 [14],ca 16 24 [15],ca 17 22 [16],m 9 17,ex 18 9 0,ex 19 9 1,st 2 3 18,m 4 19] .nil)
 (OQ [la 14 1 3,ch 10 23 [],o1 13 (.lkp ⟨false,[.i .i64]⟩ (.nilfn) false (.t 10) (.t 12)),cv 15 13 [14],ca 16 24 [15],ca 17 22 [16],m 9 17,ex 18 9 0,ex 19 9 1,st 2 3 18,m 4 19] .nil)))
 (OQ [la 14 1 3] (.both
 (OQ [ch 10 23 [],l1 12 11,o1 13 (.lkp ⟨false,[.i .i64]⟩ (.nilfn) false (.t 10) (.t 12)),cv 15 13 [14],ca 16 24 [15],ca 17 22 [16],m 9 17,ex 18 9 0,ex 19 9 1,st 2 3 18,m 4 19] .nil)
 (OQ [l1 12 11,ch 10 23 [],o1 13 (.lkp ⟨false,[.i .i64]⟩ (.nilfn) false (.t 10) (.t 12)),cv 15 13 [14],ca 16 24 [15],ca 17 22 [16],m 9 17,ex 18 9 0,ex 19 9 1,st 2 3 18,m 4 19] .nil)))))))))))))
 ((.both
 (OQ [la 14 1 3] (.both
 (OQ [ch 10 23 [],fa 11 1 0,l1 12 11,o1 13 (.lkp ⟨false,[.i .i64]⟩ (.nilfn) false (.t 10) (.t 12)),cv 15 13 [14],ca 16 24 [15],ca 17 22 [16],m 9 17,ex 18 9 0,ex 19 9 1,o1 3 (.alc [.nil 1,.nil 1]),st 2 3 18,m 4 19] .nil)
 ((.both
 (OQ [fa 11 1 0] (.both
 (OQ [ch 10 23 [],l1 12 11,o1 13 (.lkp ⟨false,[.i .i64]⟩ (.nilfn) false (.t 10) (.t 12)),cv 15 13 [14],ca 16 24 [15],ca 17 22 [16],m 9 17,ex 18 9 0,ex 19 9 1,o1 3 (.alc [.nil 1,.nil 1]),st 2 3 18,m 4 19] .nil)
 ((.both
 (OQ [l1 12 11] (.both
 (OQ [ch 10 23 [],o1 13 (.lkp ⟨false,[.i .i64]⟩ (.nilfn) false (.t 10) (.t 12)),cv 15 13 [14],ca 16 24 [15],ca 17 22 [16],m 9 17,ex 18 9 0,ex 19 9 1,o1 3 (.alc [.nil 1,.nil 1]),st 2 3 18,m 4 19] .nil)
 (OQ [o1 3 (.alc [.nil 1,.nil 1]),ch 10 23 [],o1 13 (.lkp ⟨false,[.i .i64]⟩ (.nilfn) false (.t 10) (.t 12)),cv 15 13 [14],ca 16 24 [15],ca 17 22 [16],m 9 17,ex 18 9 0,ex 19 9 1,st 2 3 18,m 4 19] .nil)))
 (OQ [o1 3 (.alc [.nil 1,.nil 1])] (.both
 (OQ [ch 10 23 [],l1 12 11,o1 13 (.lkp ⟨false,[.i .i64]⟩ (.nilfn) false (.t 10) (.t 12)),cv 15 13 [14],ca 16 24 [15],ca 17 22 [16],m 9 17,ex 18 9 0,ex 19 9 1,st 2 3 18,m 4 19] .nil)
 (OQ [l1 12 11,ch 10 23 [],o1 13 (.lkp ⟨false,[.i .i64]⟩ (.nilfn) false (.t 10) (.t 12)),cv 15 13 [14],ca 16 24 [15],ca 17 22 [16],m 9 17,ex 18 9 0,ex 19 9 1,st 2 3 18,m 4 19] .nil)))))))
 (OQ [o1 3 (.alc [.nil 1,.nil 1])] (.both
 (OQ [ch 10 23 [],fa 11 1 0,l1 12 11,o1 13 (.lkp ⟨false,[.i .i64]⟩ (.nilfn) false (.t 10) (.t 12)),cv 15 13 [14],ca 16 24 [15],ca 17 22 [16],m 9 17,ex 18 9 0,ex 19 9 1,st 2 3 18,m 4 19] .nil)
 (OQ [fa 11 1 0] (.both
 (OQ [ch 10 23 [],l1 12 11,o1 13 (.lkp ⟨false,[.i .i64]⟩ (.nilfn) false (.t 10) (.t 12)),cv 15 13 [14],ca 16 24 [15],ca 17 22 [16],m 9 17,ex 18 9 0,ex 19 9 1,st 2 3 18,m 4 19] .nil)
 (OQ [l1 12 11,ch 10 23 [],o1 13 (.lkp ⟨false,[.i .i64]⟩ (.nilfn) false (.t 10) (.t 12)),cv 15 13 [14],ca 16 24 [15],ca 17 22 [16],m 9 17,ex 18 9 0,ex 19 9 1,st 2 3 18,m 4 19] .nil)))))))))
 (OQ [o1 3 (.alc [.nil 1,.nil 1])] (.both
 (OQ [ch 10 23 [],fa 11 1 0,l1 12 11,o1 13 (.lkp ⟨false,[.i .i64]⟩ (.nilfn) false (.t 10) (.t 12)),la 14 1 3,cv 15 13 [14],ca 16 24 [15],ca 17 22 [16],m 9 17,ex 18 9 0,ex 19 9 1,st 2 3 18,m 4 19] .nil)
 ((.both
 (OQ [fa 11 1 0] (.both
 (OQ [ch 10 23 [],l1 12 11,o1 13 (.lkp ⟨false,[.i .i64]⟩ (.nilfn) false (.t 10) (.t 12)),la 14 1 3,cv 15 13 [14],ca 16 24 [15],ca 17 22 [16],m 9 17,ex 18 9 0,ex 19 9 1,st 2 3 18,m 4 19] .nil)
 ((.both
 (OQ [l1 12 11] (.both
 (OQ [ch 10 23 [],o1 13 (.lkp ⟨false,[.i .i64]⟩ (.nilfn) false (.t 10) (.t 12)),la 14 1 3,cv 15 13 [14],ca 16 24 [15],ca 17 22 [16],m 9 17,ex 18 9 0,ex 19 9 1,st 2 3 18,m 4 19] .nil)
 (OQ [la 14 1 3,ch 10 23 [],o1 13 (.lkp ⟨false,[.i .i64]⟩ (.nilfn) false (.t 10) (.t 12)),cv 15 13 [14],ca 16 24 [15],ca 17 22 [16],m 9 17,ex 18 9 0,ex 19 9 1,st 2 3 18,m 4 19] .nil)))
 (OQ [la 14 1 3] (.both
 (OQ [ch 10 23 [],l1 12 11,o1 13 (.lkp ⟨false,[.i .i64]⟩ (.nilfn) false (.t 10) (.t 12)),cv 15 13 [14],ca 16 24 [15],ca 17 22 [16],m 9 17,ex 18 9 0,ex 19 9 1,st 2 3 18,m 4 19] .nil)
 (OQ [l1 12 11,ch 10 23 [],o1 13 (.lkp ⟨false,[.i .i64]⟩ (.nilfn) false (.t 10) (.t 12)),cv 15 13 [14],ca 16 24 [15],ca 17 22 [16],m 9 17,ex 18 9 0,ex 19 9 1,st 2 3 18,m 4 19] .nil)))))))
 (OQ [la 14 1 3] (.both
 (OQ [ch 10 23 [],fa 11 1 0,l1 12 11,o1 13 (.lkp ⟨false,[.i .i64]⟩ (.nilfn) false (.t 10) (.t 12)),cv 15 13 [14],ca 16 24 [15],ca 17 22 [16],m 9 17,ex 18 9 0,ex 19 9 1,st 2 3 18,m 4 19] .nil)
 (OQ [fa 11 1 0] (.both
 (OQ [ch 10 23 [],l1 12 11,o1 13 (.lkp ⟨false,[.i .i64]⟩ (.nilfn) false (.t 10) (.t 12)),cv 15 13 [14],ca 16 24 [15],ca 17 22 [16],m 9 17,ex 18 9 0,ex 19 9 1,st 2 3 18,m 4 19] .nil)
 (OQ [l1 12 11,ch 10 23 [],o1 13 (.lkp ⟨false,[.i .i64]⟩ (.nilfn) false (.t 10) (.t 12)),cv 15 13 [14],ca 16 24 [15],ca 17 22 [16],m 9 17,ex 18 9 0,ex 19 9 1,st 2 3 18,m 4 19] .nil))))))))))))))) [2,3],
 .reg [la 20 3 2,st 2 2 20] [2],
 .ret]
theorem i_lang_Auto : imageE Tryz.prog Tryz.f10 [] [23] [[1,2],[1,2,7],[2],[1,0,0,2,7,0,31,63,127,255,511,511,0,3071,8191],[2,3],[2]] 1 = some (c_lang_Auto,[.c 2 2 true]) := by kernel_rfl

abbrev n_lang_makers : Nat := 23
theorem h_lang_makers : Tryz.prog.funcs[23]? = some Tryz.f23 := Tryz.func23
def c_lang_makers : AC :=
 Q [.reg [mv 0 (.junk)] [],
 .reg [o1 1 (.mkp ⟨false,[.i .i64]⟩),o0 (.mup ⟨false,[.i .i64]⟩ (.t 1) (.v (.int .i64 1)) (.v (.fn (.func 52) [] []))),o0 (.mup ⟨false,[.i .i64]⟩ (.t 1) (.v (.int .i64 2)) (.v (.fn (.func 53) [] []))),o0 (.mup ⟨false,[.i .i64]⟩ (.t 1) (.v (.int .i64 3)) (.v (.fn (.func 54) [] []))),o0 (.mup ⟨false,[.i .i64]⟩ (.t 1) (.v (.int .i64 4)) (.v (.fn (.func 55) [] []))),m 2 1,m 0 2] [0],
 .ret]
theorem i_lang_makers : imageE Tryz.prog Tryz.f23 [] [9999999] [[],[0]] 0 = some (c_lang_makers,[.t 0]) := by kernel_rfl

abbrev n_lang_May : Nat := 21
theorem h_lang_May : Tryz.prog.funcs[21]? = some Tryz.f21 := Tryz.func21
def c_lang_May : AC :=
 Q [.reg [bx 1 0,mi 2 0] [1],
 .reg [mb 3 false] [1,3],
 Q [.reg [fa 4 1 0,l1 5 4] [1,3,5],
 .block 0 (Q [.reg [bi 7 .eql 5 1,m 6 7] [1,3,5,6],
 C 6 (.reg [fa 8 1 1,l1 9 8,lq 10 9,bi 11 .eql 10 0,m 12 11,gt 12 (fa 13 1 2),gt 12 (l1 14 13),gt 12 (bs 15 .eql 14 []),pa 16 12 15,m 3 16] [3]) (Q [.reg [bi 18 .eql 5 2,m 17 18] [1,3,5,17],
 C 17 (.reg [fa 19 1 1,l1 20 19,lq 21 20,bi 22 .gtr 21 0,m 23 22,gt 23 (fa 24 1 1),gt 23 (l1 25 24),gt 23 (o1 26 (.call 38 [.t 25,.v (.fn (.func 39) [] [])])),pa 27 23 26,m 28 27,gt 28 (fa 29 1 2),gt 28 (l1 30 29),gt 28 (bs 31 .eql 30 []),pa 32 28 31,m 3 32] [3]) (Q [.reg [bi 34 .eql 5 3,m 33 34] [1,3,5,33],
 C 33 (.reg [fa 35 1 1,l1 36 35,o1 37 (.call 38 [.t 36,.v (.fn (.func 40) [] [])]),m 38 37,gt 38 (fa 39 1 2),gt 38 (l1 40 39),gt 38 (bs 41 .eql 40 []),pa 42 38 41,m 3 42] [3]) (Q [.reg [bi 44 .eql 5 4,m 43 44] [1,3,43],
 C 43 (.reg [fa 45 1 1,l1 46 45,lq 47 46,bi 48 .eql 47 0,m 49 48,gt 49 (fa 50 1 2),gt 49 (l1 51 50),gt 49 (ca 52 41 [51]),pa 53 49 52,m 3 53] [3]) (.skip)])])])])],
 Q [.reg [m 54 3,nt' 55 54] [55],
 C 55 (Q [.reg [mi 2 10] [2],
 .ret]) (.skip)],
 .reg [mi 2 0] [2],
 .ret]
theorem i_lang_May : image Tryz.prog Tryz.f21 [[1],[1,3],[1,3,5],[1,3,5,6],[3],[1,3,5,17],[3],[1,3,5,33],[3],[1,3,43],[3],[55],[2],[2]] 1 = some (c_lang_May,[.t 2]) := by kernel_rfl

abbrev n_lang_words : Nat := 38
theorem h_lang_words : Tryz.prog.funcs[38]? = some Tryz.f38 := Tryz.func38
def c_lang_words : AC :=
 Q [.reg [mb 4 false] [0,1],
 Q [.reg [m 7 0,lq 8 7,bi 9 .gtr 8 8] [0,1,9],
 C 9 (Q [.reg [mb 4 false] [4],
 .ret]) (.skip)],
 Q [.reg [m 10 0,lq 11 10,mi 12 0] [0,1,10,11,12],
 .block 0 (.loop [0,1,10,11,12] (Q [.reg [bt 13 .lss 12 11] [0,1,10,11,12,13],
 C 13 (.skip) (.exit 0),
 .block 1 (Q [.reg [m 14 12,ia 15 10 12 1,l1 16 15,m 5 14,m 6 16] [0,1,5,6,10,11,12],
 .reg [m 17 1,m 18 6,cv 19 17 [18],nt' 20 19,m 21 20,gf 21 (m 22 0),gf 21 (m 23 5),gf 21 (o1 24 (.slq (.t 22) none (some (.t 23)) 1)),gf 21 (m 25 6),gf 21 (ca 26 29 [24,25]),po 27 21 26] [0,1,10,11,12,27],
 C 27 (Q [.reg [mb 4 false] [4],
 .ret]) (.skip)]),
 .reg [bi 28 .add 12 1,m 12 28] [0,1,10,11,12]]))],
 .reg [mb 4 true] [4],
 .ret]
theorem i_lang_words : image Tryz.prog Tryz.f38 [[0,1],[0,1,9],[4],[0,1,10,11,12],[0,1,10,11,12],[0,1,10,11,12,13],[0,1,5,6,10,11,12],[0,1,10,11,12,27],[4],[0,1,10,11,12],[4]] 2 = some (c_lang_words,[.t 4]) := by kernel_rfl

abbrev n_lang_isWord : Nat := 39
theorem h_lang_isWord : Tryz.prog.funcs[39]? = some Tryz.f39 := Tryz.func39
def c_lang_isWord : AC :=
 Q [.reg [mb 2 false] [0],
 .reg [m 3 0,ls 4 3,bi 5 .leq 4 40,m 6 5,gt 6 (m 7 0),gt 6 (ca 8 28 [7]),pa 9 6 8,m 2 9] [2],
 .ret]
theorem i_lang_isWord : image Tryz.prog Tryz.f39 [[0],[2]] 1 = some (c_lang_isWord,[.t 2]) := by kernel_rfl

abbrev n_lang_isScheme : Nat := 40
theorem h_lang_isScheme : Tryz.prog.funcs[40]? = some Tryz.f40 := Tryz.func40
def c_lang_isScheme : AC :=
 Q [.reg [mb 2 false] [0],
 Q [.reg [mi 3 0] [0,3],
 .block 0 (.loop [0,3] (Q [Q [.reg [m 4 3,m 5 0,ls 6 5,bt 7 .lss 4 6] [0,3,7],
 C 7 (.skip) (.exit 0)],
 .block 1 (Q [.reg [m 10 0,m 11 3,ix 12 10 11,bu 13 .lss 12 97,m 14 13,gf 14 (m 15 0),gf 14 (m 16 3),gf 14 (ix 17 15 16),gf 14 (bu 18 .gtr 17 122),po 19 14 18] [0,3,19],
 C 19 (Q [.reg [mb 2 false] [2],
 .ret]) (.skip)]),
 .reg [m 8 3,bi 9 .add 8 1,m 3 9] [0,3]]))],
 .reg [m 20 0,ls 21 20,o1 22 (.bin .leq (.v (.int .i64 1)) (.t 21)),m 23 22,gt 23 (m 24 0),gt 23 (ls 25 24),gt 23 (bi 26 .leq 25 16),pa 27 23 26,m 2 27] [2],
 .ret]
theorem i_lang_isScheme : image Tryz.prog Tryz.f40 [[0],[0,3],[0,3],[0,3,7],[0,3,19],[2],[0,3],[2]] 1 = some (c_lang_isScheme,[.t 2]) := by kernel_rfl

abbrev n_lang_matches : Nat := 41
theorem h_lang_matches : Tryz.prog.funcs[41]? = some Tryz.f41 := Tryz.func41
def c_lang_matches : AC :=
 Q [.reg [mb 2 false] [0],
 .reg [m 6 0,ca 7 31 [6],m 5 7,ex 8 5 0,ex 9 5 1,m 3 8,m 4 9] [3,4],
 Q [.reg [m 10 4,bi 11 .neq 10 0] [3,11],
 C 11 (Q [.reg [mb 2 false] [2],
 .ret]) (.skip)],
 .reg [m 13 3,ca 14 24 [13],ca 15 22 [14],m 12 15,ex 16 12 0,ex 17 12 1,m 4 17] [4],
 .reg [m 18 4,bi 19 .eql 18 0,m 2 19] [2],
 .ret]
theorem i_lang_matches : image Tryz.prog Tryz.f41 [[0],[3,4],[3,11],[2],[4],[2]] 1 = some (c_lang_matches,[.t 2]) := by kernel_rfl

abbrev n_lang_parsed : Nat := 83
theorem h_lang_parsed : Tryz.prog.funcs[83]? = some Tryz.f83 := Tryz.func83
def c_lang_parsed : AC :=
 Q [.reg [mv 2 (.nilptr)] [0],
 .reg [m 6 0,ca 7 31 [6],m 5 7,ex 8 5 0,ex 9 5 1,m 3 8,m 4 9] [3,4],
 Q [.reg [m 10 4,bi 11 .neq 10 0] [3,11],
 C 11 (Q [.reg [mv 2 (.nilptr)] [2],
 .ret]) (.skip)],
 .reg [m 12 3,m 2 12] [2],
 .ret]
theorem i_lang_parsed : image Tryz.prog Tryz.f83 [[0],[3,4],[3,11],[2],[2]] 1 = some (c_lang_parsed,[.t 2]) := by kernel_rfl

abbrev n_lang_literals : Nat := 85
theorem h_lang_literals : Tryz.prog.funcs[85]? = some Tryz.f85 := Tryz.func85
def c_lang_literals : AC :=
 Q [.reg [mv 4 (.nil 1)] [0,1],
 .reg [mv 5 (.nil 1)] [0,1,5],
 Q [.reg [m 8 0,lq 9 8,mi 10 0] [1,5,8,9,10],
 .block 0 (.loop [1,5,8,9,10] (Q [.reg [bt 11 .lss 10 9] [1,5,8,9,10,11],
 C 11 (.skip) (.exit 0),
 .block 1 (Q [.reg [ia 12 8 10 1,l1 13 12,m 7 13] [1,5,7,8,9,10],
 .reg [m 14 5,m 15 7,m 16 1,bt 17 .add 15 16,ca 18 109 [17],o1 19 (.lit 51 1 [.t 18]),o1 20 (.app (.t 14) (.t 19) 51 1 8),m 5 20] [1,5,8,9,10]]),
 .reg [bi 21 .add 10 1,m 10 21] [1,5,8,9,10]]))],
 .reg [m 22 5,m 4 22] [4],
 .ret]
theorem i_lang_literals : image Tryz.prog Tryz.f85 [[0,1],[0,1,5],[1,5,8,9,10],[1,5,8,9,10],[1,5,8,9,10,11],[1,5,7,8,9,10],[1,5,8,9,10],[1,5,8,9,10],[4]] 2 = some (c_lang_literals,[.t 4]) := by kernel_rfl

abbrev n_lang_kind_any : Nat := 52
theorem h_lang_kind_any : Tryz.prog.funcs[52]? = some Tryz.f52 := Tryz.func52
def c_lang_kind_any : AC :=
 Q [.reg [bx 1 0,mv 2 (.nilptr)] [],
 .reg [o1 3 (.call 83 [.v (.str [46,42])]),m 2 3] [2],
 .ret]
theorem i_lang_kind_any : image Tryz.prog Tryz.f52 [[],[2]] 1 = some (c_lang_kind_any,[.t 2]) := by kernel_rfl

abbrev n_lang_kind_enum : Nat := 53
theorem h_lang_kind_enum : Tryz.prog.funcs[53]? = some Tryz.f53 := Tryz.func53
def c_lang_kind_enum : AC :=
 Q [.reg [bx 1 0,mv 2 (.nilptr)] [1],
 .reg [fa 3 1 1,l1 4 3,o1 5 (.call 85 [.t 4,.v (.str [])]),ca 6 84 [5],m 2 6] [2],
 .ret]
theorem i_lang_kind_enum : image Tryz.prog Tryz.f53 [[1],[2]] 1 = some (c_lang_kind_enum,[.t 2]) := by kernel_rfl

abbrev n_lang_kind_scheme : Nat := 54
theorem h_lang_kind_scheme : Tryz.prog.funcs[54]? = some Tryz.f54 := Tryz.func54
def c_lang_kind_scheme : AC :=
 Q [.reg [bx 1 0,mv 2 (.nilptr)] [1],
 .reg [fa 4 1 1,l1 5 4,o1 6 (.call 85 [.t 5,.v (.str [58])]),ca 7 84 [6],m 3 7] [1,3],
 .regD [o1 8 (.call 83 [.v (.str [91,94,58,93,42])]),m 9 3,la 10 1 3,ca 11 52 [10],o1 12 (.lit 51 1 [.t 9,.t 11]),ca 13 86 [12],o1 14 (.lit 51 1 [.t 8,.t 13]),ca 15 84 [14],m 2 15] [2],
 .ret]
theorem i_lang_kind_scheme : image Tryz.prog Tryz.f54 [[1],[1,3],[0,0,0,0,5,15,31,63,127,255],[0,1,2,3,4,5,6,7,8],[2]] 1 = some (c_lang_kind_scheme,[.t 2]) := by kernel_rfl

abbrev n_lang_kind_match : Nat := 55
theorem h_lang_kind_match : Tryz.prog.funcs[55]? = some Tryz.f55 := Tryz.func55
def c_lang_kind_match : AC :=
 Q [.reg [bx 1 0,mv 2 (.nilptr)] [1],
 .reg [fa 3 1 2,l1 4 3,ca 5 83 [4],m 2 5] [2],
 .ret]
theorem i_lang_kind_match : image Tryz.prog Tryz.f55 [[1],[2]] 1 = some (c_lang_kind_match,[.t 2]) := by kernel_rfl

abbrev n_law12_LangAllows : Nat := 3
theorem h_law12_LangAllows : Tryz.prog.funcs[3]? = some Tryz.f3 := Tryz.func3
def c_law12_LangAllows : AC :=
 Q [.reg [bx 2 0,mb 4 false] [1,2],
 .reg [la 9 2 3,ca 10 8 [9],ca 11 7 [10],o1 5 (.alc [.int .i64 0,.nil 1,.str []]),st 3 5 11] [1,5],
 .reg [m 12 1,ca 13 9 [12],m 1 13] [1,5],
 .reg [la 14 5 3,ca 15 10 [14],o1 6 (.alc [.nil 1,.nil 1]),st 2 6 15] [1,5,6],
 .reg [la 16 6 2,ca 17 11 [16],m 7 17] [1,5,6,7],
 Q [.reg [m 18 7,nt' 19 18] [1,5,6,19],
 C 19 (Q [.reg [mb 4 false] [4],
 .ret]) (.skip)],
 .reg [la 20 5 3,m 21 1,ca 22 12 [20,21],m 8 22] [1,5,6,8],
 .reg [la 23 5 3,m 24 1,ca 25 13 [23,24],m 26 8,o1 27 (.beq false (.t 25) (.t 26)),m 28 27,gt 28 (la 29 6 2),gt 28 (m 30 1),gt 28 (o1 31 (.call 14 [.t 29,.v (.int .i64 0),.t 30])),gt 28 (m 32 8),gt 28 (o1 33 (.beq false (.t 31) (.t 32))),pa 34 28 33,m 35 34,gt 35 (ca 36 15 []),pa 37 35 36,m 4 37] [4],
 .ret]
theorem i_law12_LangAllows : image Tryz.prog Tryz.f3 [[1,2],[1,5],[1,5],[1,5,6],[1,5,6,7],[1,5,6,19],[4],[1,5,6,8],[4]] 2 = some (c_law12_LangAllows,[.t 4]) := by kernel_rfl

abbrev n_law12_lives : Nat := 15
theorem h_law12_lives : Tryz.prog.funcs[15]? = some Tryz.f15 := Tryz.func15
def c_law12_lives : AC :=
 Q [.reg [mb 0 false] [],
 .reg [o1 2 (.lit 9 1 [.v (.str [104,116,116,112,115])]),o1 3 (.bld [.int .i64 0,.nil 1,.str []] [(0,1,(.v (.int .i64 3))),(1,1,(.t 2))]),o1 1 (.alc [.int .i64 0,.nil 1,.str []]),st 3 1 3] [1],
 .reg [la 4 1 3,ca 5 21 [4],bi 6 .eql 5 0,m 7 6,gt 7 (la 8 1 3),gt 7 (o1 9 (.call 13 [.t 8,.v (.str [104,116,116,112,115,58,97])])),pa 10 7 9,m 11 10,gt 11 (la 12 1 3),gt 11 (o1 13 (.call 13 [.t 12,.v (.str [47,120])])),pa 14 11 13,m 15 14,gt 15 (la 16 1 3),gt 15 (o1 17 (.call 13 [.t 16,.v (.str [106,97,118,97,115,99,114,105,112,116,58,97])])),gt 15 (nt' 18 17),pa 19 15 18,m 0 19] [0],
 .ret]
theorem i_law12_lives : image Tryz.prog Tryz.f15 [[],[1],[0]] 0 = some (c_law12_lives,[.t 0]) := by kernel_rfl

abbrev n_law12_few : Nat := 9
theorem h_law12_few : Tryz.prog.funcs[9]? = some Tryz.f9 := Tryz.func9
def c_law12_few : AC :=
 Q [.reg [mv 2 (.str [])] [0],
 Q [.reg [m 3 0,ls 4 3,bi 5 .gtr 4 20] [0,5],
 C 5 (Q [.reg [m 6 0,o1 7 (.sls (.t 6) none (some (.v (.int .i64 20)))),m 2 7] [2],
 .ret]) (.skip)],
 .reg [m 8 0,m 2 8] [2],
 .ret]
theorem i_law12_few : image Tryz.prog Tryz.f9 [[0],[0,5],[2],[2]] 1 = some (c_law12_few,[.t 2]) := by kernel_rfl

abbrev n_law12_cut : Nat := 8
theorem h_law12_cut : Tryz.prog.funcs[8]? = some Tryz.f8 := Tryz.func8
def c_law12_cut : AC :=
 Q [.reg [bx 1 0,o1 2 (.alc [.int .i64 0,.nil 1,.str []])] [1,2],
 .reg [fa 6 1 0,l1 7 6,fa 8 1 2,l1 9 8,o1 10 (.bld [.int .i64 0,.nil 1,.str []] [(0,1,(.t 7)),(2,1,(.t 9))]),o1 3 (.alc [.int .i64 0,.nil 1,.str []]),st 3 3 10] [1,2,3],
 Q [.reg [fa 11 3 2,l1 12 11,ls 13 12,bi 14 .gtr 13 30] [1,2,3,14],
 C 14 (.reg [fa 15 3 2,l1 16 15,o1 17 (.sls (.t 16) none (some (.v (.int .i64 30)))),fa 18 3 2,st 1 18 17] [1,2,3]) (.skip)],
 Q [.reg [mi 4 0] [1,2,3,4],
 .block 0 (.loop [1,2,3,4] (Q [Q [.reg [m 19 4,fa 20 1 1,l1 21 20,lq 22 21,bt 23 .lss 19 22,m 24 23,gt 24 (m 25 4),gt 24 (bi 26 .lss 25 10),pa 27 24 26] [1,2,3,4,27],
 C 27 (.skip) (.exit 0)],
 .block 1 (Q [.reg [fa 30 1 1,l1 31 30,m 32 4,ia 33 31 32 1,l1 34 33,m 5 34] [1,2,3,4,5],
 Q [.reg [m 35 5,ls 36 35,bi 37 .gtr 36 45] [1,2,3,4,5,37],
 C 37 (.reg [m 38 5,o1 39 (.sls (.t 38) none (some (.v (.int .i64 45)))),m 5 39] [1,2,3,4,5]) (.skip)],
 .reg [fa 40 3 1,l1 41 40,m 42 5,o1 43 (.lit 9 1 [.t 42]),o1 44 (.app (.t 41) (.t 43) 9 1 16),fa 45 3 1,st 1 45 44] [1,2,3,4]]),
 .reg [m 28 4,bi 29 .add 28 1,m 4 29] [1,2,3,4]]))],
 .reg [la 46 3 3,st 3 2 46] [2],
 .ret]
theorem i_law12_cut : image Tryz.prog Tryz.f8 [[1,2],[1,2,3],[1,2,3,14],[1,2,3],[1,2,3,4],[1,2,3,4],[1,2,3,4,27],[1,2,3,4,5],[1,2,3,4,5,37],[1,2,3,4,5],[1,2,3,4],[1,2,3,4],[2]] 1 = some (c_law12_cut,[.c 2 3 true]) := by kernel_rfl

end Go.Abs
