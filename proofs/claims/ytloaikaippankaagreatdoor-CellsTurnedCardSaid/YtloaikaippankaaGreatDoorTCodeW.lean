/-
  The images of some of the program's functions, as the kernel reckons them. Made by program. No condition.
-/
import Derived.Test.YtloaikaippankaaGreatDoorTCodeA
set_option linter.unusedVariables false
set_option linter.unusedSimpArgs false
set_option linter.unusedSectionVars false
set_option maxRecDepth 100000
namespace Go.Abs
open Go.Proofs

abbrev Ea:Nat:=203
theorem EE:Tryz.prog.funcs[203]?=some Tryz.f203:=Tryz.func203
def uZ:AC:=
 Q [.reg [mb 2 false] [0],
 Q [.reg [m 6 0,ls 7 6,mi 8 0] [0,7,8],
 .block 0 (.loop [0,7,8] (Q [.reg [bt 9 .lss 8 7] [0,7,8,9],
 C 9 (.skip) (.exit 0),
 .block 1 (Q [.reg [m 10 8,m 3 10] [0,3,7,8],
 .reg [m 11 0,m 12 3,ix 13 11 12,m 4 13] [0,3,4,7,8],
 .reg [m 14 4,o1 15 (.bin .leq (.v (.int .u8 97)) (.t 14)),m 16 15,gt 16 (m 17 4),gt 16 (bu 18 .leq 17 122),pa 19 16 18,m 5 19] [0,3,4,5,7,8],
 .reg [m 20 5,nt' 21 20,m 22 21,gt 22 (m 23 3),gt 22 (bi 24 .eql 23 0),gt 22 (m 25 24),gf 25 (m 26 4),gf 25 (bu 27 .neq 26 45),gf 25 (m 28 27),gt 28 (m 29 4),gt 28 (bu 30 .lss 29 48),gt 28 (m 31 30),gf 31 (m 32 4),gf 31 (bu 33 .gtr 32 57),gt 28 (po 34 31 33),gf 25 (pa 35 28 34),gt 22 (po 36 25 35),pa 37 22 36] [0,7,8,37],
 C 37 (Q [.reg [mb 2 false] [2],
 .ret]) (.skip)]),
 .reg [bi 38 .add 8 1,m 8 38] [0,7,8]]))],
 .reg [m 39 0,bs 40 .neq 39 [],m 2 40] [2],
 .ret]
theorem Ew:an Tryz.prog Tryz.f203 [[0],[0,7,8],[0,7,8],[0,7,8,9],[0,3,7,8],[0,3,4,7,8],[0,3,4,5,7,8],[0,7,8,37],[2],[0,7,8],[2]] 1=some (uZ,[.t 2]):=by kernel_rfl

abbrev pf:Nat:=159
theorem px:Tryz.prog.funcs[159]?=some Tryz.f159:=Tryz.func159
def hO:AC:=
 Q [.reg [mv 4 (.str []),mb 5 false] [0,1],
 .reg [m 6 0,m 7 1,ca 8 202 [6,7],ex 9 8 0,ex 10 8 1,m 4 9,m 5 10] [4,5],
 .ret]
theorem pm:an Tryz.prog Tryz.f159 [[0,1],[4,5]] 2=some (hO,[.t 4,.t 5]):=by kernel_rfl

abbrev eI:Nat:=202
theorem fe:Tryz.prog.funcs[202]?=some Tryz.f202:=Tryz.func202
def cd:AC:=
 Q [.reg [mv 4 (.str []),mb 5 false] [0,1],
 Q [.reg [m 6 0,m 7 1,ca 8 149 [6,7],nt' 9 8] [0,1,9],
 C 9 (Q [.reg [m 10 0,m 4 10,mb 5 false] [4,5],
 .ret]) (.skip)],
 .reg [m 11 0,m 12 0,ls 13 12,m 14 1,ls 15 14,bt 16 .sub 13 15,o1 17 (.sls (.t 11) none (some (.t 16))),m 4 17,mb 5 true] [4,5],
 .ret]
theorem eW:an Tryz.prog Tryz.f202 [[0,1],[0,1,9],[4,5],[4,5]] 2=some (cd,[.t 4,.t 5]):=by kernel_rfl

abbrev eG:Nat:=149
theorem fc:Tryz.prog.funcs[149]?=some Tryz.f149:=Tryz.func149
def cb:AC:=
 Q [.reg [mb 4 false] [0,1],
 .reg [m 5 0,ls 6 5,m 7 1,ls 8 7,bt 9 .geq 6 8,m 10 9,gt 10 (m 11 0),gt 10 (m 12 0),gt 10 (ls 13 12),gt 10 (m 14 1),gt 10 (ls 15 14),gt 10 (bt 16 .sub 13 15),gt 10 (o1 17 (.sls (.t 11) (some (.t 16)) none)),gt 10 (m 18 1),gt 10 (bt 19 .eql 17 18),pa 20 10 19,m 4 20] [4],
 .ret]
theorem eU:an Tryz.prog Tryz.f149 [[0,1],[4]] 2=some (cb,[.t 4]):=by kernel_rfl

abbrev wR:Nat:=160
theorem xq:Tryz.prog.funcs[160]?=some Tryz.f160:=Tryz.func160
def n8:AC:=
 Q [.reg [mb 2 false] [0],
 .reg [m 3 0,ls 4 3,bi 5 .leq 4 16,m 6 5,gt 6 (m 7 0),gt 6 (ca 8 203 [7]),pa 9 6 8,m 2 9] [2],
 .ret]
theorem xd:an Tryz.prog Tryz.f160 [[0],[2]] 1=some (n8,[.t 2]):=by kernel_rfl

abbrev tw:Nat:=117
theorem tJ:Tryz.prog.funcs[117]?=some Tryz.f117:=Tryz.func117
def kI:AC:=
 Q [.reg [mv 2 (.str []),mb 3 false,mb 4 false] [0],
 .reg [m 8 0,o1 9 (.call 159 [.t 8,.v (.str [42])]),m 7 9,ex 10 7 0,ex 11 7 1,m 5 10,m 6 11] [5,6],
 .reg [m 12 5,m 13 6,m 14 5,ca 15 160 [14],m 2 12,m 3 13,m 4 15] [2,3,4],
 .ret]
theorem tE:an Tryz.prog Tryz.f117 [[0],[5,6],[2,3,4]] 1=some (kI,[.t 2,.t 3,.t 4]):=by kernel_rfl

abbrev yL:Nat:=65
theorem zF:Tryz.prog.funcs[65]?=some Tryz.f65:=Tryz.func65
def p9:AC:=
 Q [.reg [mb 4 false] [0,1],
 .reg [m 9 0,ca 10 117 [9],m 8 10,ex 11 8 0,ex 12 8 1,ex 13 8 2,m 5 11,m 6 12,m 7 13] [1,5,6,7],
 .reg [m 14 7,m 15 14,gt 15 (m 16 1),gt 15 (m 17 5),gt 15 (bt 18 .eql 16 17),gt 15 (m 19 18),gf 19 (m 20 6),gf 19 (m 21 20),gt 21 (m 22 1),gt 21 (m 23 5),gt 21 (ca 24 118 [22,23]),gf 19 (pa 25 21 24),gt 15 (po 26 19 25),pa 27 15 26,m 4 27] [4],
 .ret]
theorem zf:an Tryz.prog Tryz.f65 [[0,1],[1,5,6,7],[4]] 2=some (p9,[.t 4]):=by kernel_rfl

abbrev yM:Nat:=109
theorem zG:Tryz.prog.funcs[109]?=some Tryz.f109:=Tryz.func109
def qc:AC:=
 Q [.reg [bx 2 0,o1 4 (.alc [.str [],.nil 1,.nil 5]),mb 5 false] [1,2,4],
 Q [.reg [fa 8 2 1,l1 9 8,lq 10 9,mi 11 0] [1,4,9,10,11],
 .block 0 (.loop [1,4,9,10,11] (Q [.reg [bt 12 .lss 11 10] [1,4,9,10,11,12],
 C 12 (.skip) (.exit 0),
 .block 1 (Q [.reg [ia 13 9 11 3,la 14 13 3,o1 7 (.alc [.str [],.nil 1,.nil 5]),st 3 7 14] [1,4,7,9,10,11],
 .reg [fa 15 7 0,l1 16 15,m 17 1,bt 18 .eql 16 17] [1,4,7,9,10,11,18],
 C 18 (Q [.reg [la 19 7 3,st 3 4 19,mb 5 true] [4,5],
 .ret]) (.skip)]),
 .reg [bi 20 .add 11 1,m 11 20] [1,4,9,10,11]]))],
 .reg [o1 21 (.bld [.str [],.nil 1,.nil 5] []),st 3 4 21,mb 5 false] [4,5],
 .ret]
theorem zg:an Tryz.prog Tryz.f109 [[1,2,4],[1,4,9,10,11],[1,4,9,10,11],[1,4,9,10,11,12],[1,4,7,9,10,11],[1,4,7,9,10,11,18],[4,5],[1,4,9,10,11],[4,5]] 2=some (qc,[.c 4 3 true,.t 5]):=by kernel_rfl

abbrev yK:Nat:=150
theorem zE:Tryz.prog.funcs[150]?=some Tryz.f150:=Tryz.func150
def p8:AC:=
 Q [.reg [bx 2 0,o1 4 (.alc [.str [],.int .i64 0,.nil 1,.str [],.bool false]),mb 5 false] [1,2,4],
 Q [.reg [fa 8 2 2,l1 9 8,lq 10 9,mi 11 0] [1,4,9,10,11],
 .block 0 (.loop [1,4,9,10,11] (Q [.reg [bt 12 .lss 11 10] [1,4,9,10,11,12],
 C 12 (.skip) (.exit 0),
 .block 1 (Q [.reg [ia 13 9 11 5,la 14 13 5,o1 7 (.alc [.str [],.int .i64 0,.nil 1,.str [],.bool false]),st 5 7 14] [1,4,7,9,10,11],
 .reg [fa 15 7 0,l1 16 15,m 17 1,ca 18 65 [16,17]] [1,4,7,9,10,11,18],
 C 18 (Q [.reg [la 19 7 5,st 5 4 19,mb 5 true] [4,5],
 .ret]) (.skip)]),
 .reg [bi 20 .add 11 1,m 11 20] [1,4,9,10,11]]))],
 .reg [o1 21 (.bld [.str [],.int .i64 0,.nil 1,.str [],.bool false] []),st 5 4 21,mb 5 false] [4,5],
 .ret]
theorem ze:an Tryz.prog Tryz.f150 [[1,2,4],[1,4,9,10,11],[1,4,9,10,11],[1,4,9,10,11,12],[1,4,7,9,10,11],[1,4,7,9,10,11,18],[4,5],[1,4,9,10,11],[4,5]] 2=some (p8,[.c 4 5 true,.t 5]):=by kernel_rfl

end Go.Abs
