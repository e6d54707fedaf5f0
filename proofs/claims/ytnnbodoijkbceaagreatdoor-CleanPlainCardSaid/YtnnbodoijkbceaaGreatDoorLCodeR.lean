/-
  The images of some of the program's functions, as the kernel reckons them. Made by program. No condition.
-/
import Derived.Test.YtnnbodoijkbceaaGreatDoorLCodeQ
set_option linter.all false
set_option maxHeartbeats 0
set_option maxRecDepth 100000
namespace Go.Abs
open Go.Proofs

abbrev om:Nat:=231
theorem oD:Tryz.prog.funcs[231]?=some Tryz.f231:=Tryz.func231
def ir:AC:=
 Q [.reg [mv 2 (.niliface)] [0],
 .reg [m 3 0,ca 4 232 [3],o1 5 (.mki 285 (.t 4)),m 2 5] [2],
 .ret]
theorem ox:aq Tryz.prog Tryz.f231 [[0],[2]] 1=some (ir,[.t 2]):=by kernel_rfl

abbrev ol:Nat:=246
theorem oC:Tryz.prog.funcs[246]?=some Tryz.f246:=Tryz.func246
def iq:AC:=
 Q [.reg [mv 2 (.niliface)] [0],
 .reg [m 3 0,ca 4 247 [3],o1 5 (.mki 290 (.t 4)),m 2 5] [2],
 .ret]
theorem ow:aq Tryz.prog Tryz.f246 [[0],[2]] 1=some (iq,[.t 2]):=by kernel_rfl

abbrev mU:Nat:=271
theorem m8:Tryz.prog.funcs[271]?=some Tryz.f271:=Tryz.func271
def gE:AC:=
 Q [.reg [mv 2 (.niliface)] [0],
 .reg [m 3 0,ca 4 272 [3],o1 5 (.mki 154 (.t 4)),m 2 5] [2],
 .ret]
theorem m1:aq Tryz.prog Tryz.f271 [[0],[2]] 1=some (gE,[.t 2]):=by kernel_rfl

abbrev BV:Nat:=95
theorem CE:Tryz.prog.funcs[95]?=some Tryz.f95:=Tryz.func95
def sx:AC:=
 Q [.reg [mv 2 (.nil 5)] [0],
 .block 0 (.loop [0] (.block 1 (Q [Q [.reg [m 6 0,o1 7 (.tya 154 (.nil 5) true (.t 6)),m 5 7,ex 8 5 0,ex 9 5 1,m 3 8,m 4 9] [0,4],
 .reg [m 10 4] [0,10],
 C 10 (Q [.reg [m 11 0,o1 12 (.tya 154 (.nil 5) false (.t 11)),m 2 12] [2],
 .ret]) (.skip)],
 .reg [m 13 0,o1 14 (.inv [(126,231),(154,236),(285,246),(290,271)] (.t 13) []),m 0 14] [0]])))]
theorem Cm:aq Tryz.prog Tryz.f95 [[0],[0],[0,4],[0,10],[2],[0]] 1=some (sx,[.t 2]):=by kernel_rfl

abbrev dS:Nat:=61
theorem xl:Tryz.prog.funcs[61]?=some Tryz.f61:=Tryz.func61
def nK:AC:=
 Q [.reg [mv 2 (.nil 5)] [0],
 .reg [m 3 0,o1 4 (.mki 126 (.t 3)),ca 5 95 [4],m 2 5] [2],
 .ret]
theorem wO:aq Tryz.prog Tryz.f61 [[0],[2]] 1=some (nK,[.t 2]):=by kernel_rfl

abbrev vR:Nat:=124
theorem wX:Tryz.prog.funcs[124]?=some Tryz.f124:=Tryz.func124
def ns:AC:=
 Q [Q [.reg [m 6 0,o1 7 (.nlc (.t 6)),fa 8 7 0,l1 9 8,bi 10 .neq 9 1] [0,1,10],
 C 10 (.ret) (.skip)],
 .reg [m 11 1,o1 12 (.callv (.t 11) [.v (.str [60])])] [0,1],
 .reg [m 13 1,m 14 0,o1 15 (.nlc (.t 14)),fa 16 15 1,l1 17 16,cv 18 13 [17]] [0,1],
 Q [.reg [m 19 0,o1 20 (.nlc (.t 19)),fa 21 20 2,l1 22 21,lq 23 22,mi 24 0] [1,22,23,24],
 .block 0 (.loop [1,22,23,24] (Q [.reg [bt 25 .lss 24 23] [1,22,23,24,25],
 C 25 (.skip) (.exit 0),
 .block 1 (Q [.reg [ia 26 22 24 2,la 27 26 2,o1 5 (.alc [.str [],.str []]),st 2 5 27] [1,5,22,23,24],
 .reg [m 28 1,o1 29 (.callv (.t 28) [.v (.str [32])])] [1,5,22,23,24],
 .reg [m 30 1,fa 31 5 0,l1 32 31,cv 33 30 [32]] [1,5,22,23,24],
 .reg [m 34 1,o1 35 (.callv (.t 34) [.v (.str [61,34])])] [1,5,22,23,24],
 .reg [m 36 1,fa 37 5 1,l1 38 37,o1 39 (.call 125 [.t 38,.v (.bool true)]),cv 40 36 [39]] [1,22,23,24],
 .reg [m 41 1,o1 42 (.callv (.t 41) [.v (.str [34])])] [1,22,23,24]]),
 .reg [bi 43 .add 24 1,m 24 43] [1,22,23,24]]))],
 .reg [m 44 1,o1 45 (.callv (.t 44) [.v (.str [62])])] []]
theorem wx:av Tryz.prog Tryz.f124 [] [9999999] [[0,1,10],[0,1],[0,1],[1,22,23,24],[1,22,23,24],[1,22,23,24,25],[1,5,22,23,24],[1,5,22,23,24],[1,5,22,23,24],[1,5,22,23,24],[1,22,23,24],[1,22,23,24],[1,22,23,24],[]] 2=some (ns,[]):=by kernel_rfl

abbrev BM:Nat:=123
theorem Cu:Tryz.prog.funcs[123]?=some Tryz.f123:=Tryz.func123
def sj:AC:=
 Q [Q [.reg [m 4 0,o1 5 (.nlc (.t 4)),fa 6 5 0,l1 7 6,bi 8 .neq 7 1,m 9 8,gf 9 (m 10 0),gf 9 (o1 11 (.nlc (.t 10))),gf 9 (fa 12 11 1),gf 9 (l1 13 12),gf 9 (ca 14 112 [13]),po 15 9 14] [0,1,15],
 C 15 (.ret) (.skip)],
 .reg [m 16 1,o1 17 (.callv (.t 16) [.v (.str [60,47])])] [0,1],
 .reg [m 18 1,m 19 0,o1 20 (.nlc (.t 19)),fa 21 20 1,l1 22 21,cv 23 18 [22]] [1],
 .reg [m 24 1,o1 25 (.callv (.t 24) [.v (.str [62])])] []]
theorem Cc:av Tryz.prog Tryz.f123 [] [9999999] [[0,1,15],[0,1],[1],[]] 2=some (sj,[]):=by kernel_rfl

abbrev zz:Nat:=91
theorem Ak:Tryz.prog.funcs[91]?=some Tryz.f91:=Tryz.func91
def qn:AC:=
 Q [.reg [m 7 0,o1 8 (.bld [.nilptr,.nil 5] [(0,1,(.v (.nilptr))),(1,1,(.t 7))]),o1 9 (.ltr 147 2 [.t 8]),m 4 9] [1,4],
 .block 0 (.loop [1,4] (Q [Q [.reg [m 10 4,lq 11 10,bi 12 .gtr 11 0] [1,4,12],
 C 12 (.skip) (.exit 0)],
 .block 1 (Q [.reg [m 13 4,m 14 4,lq 15 14,bi 16 .sub 15 1,ia 17 13 16 2,m 5 17] [1,4,5],
 Q [.reg [m 18 5,o1 19 (.nlc (.t 18)),fa 20 19 1,l1 21 20,lq 22 21,bi 23 .eql 22 0] [1,4,5,23],
 C 23 (Q [Q [.reg [m 24 5,o1 25 (.nlc (.t 24)),fa 26 25 0,l1 27 26,o1 28 (.nlq 0 true (.t 27))] [1,4,5,28],
 C 28 (.reg [m 29 5,o1 30 (.nlc (.t 29)),fa 31 30 0,l1 32 31,m 33 1,ch 34 123 [32,33]] [1,4]) (.skip)],
 .reg [m 35 4,m 36 4,lq 37 36,bi 38 .sub 37 1,o1 39 (.trc (.t 35) (.t 38) 2),m 4 39] [1,4],
 .exit 1]) (.skip)],
 .reg [m 40 5,o1 41 (.nlc (.t 40)),fa 42 41 1,l1 43 42,o1 44 (.ia (.t 43) (.v (.int .i64 0)) 5),m 6 44] [1,4,5,6],
 .reg [m 45 5,m 46 5,o1 47 (.nlc (.t 46)),fa 48 47 1,l1 49 48,o1 50 (.slq (.t 49) (some (.v (.int .i64 1))) none 5),o1 51 (.nlc (.t 45)),fa 52 51 1,st 1 52 50] [1,4,5,6],
 .reg [m 53 6,o1 54 (.nlc (.t 53)),fa 55 54 0,l1 56 55] [1,4,5,6,56],
 .block 2 (Q [.reg [bi 58 .eql 56 1,m 57 58] [1,4,5,6,56,57],
 C 57 (Q [.reg [m 59 6,m 60 1,ch 61 124 [59,60]] [1,4,6],
 .reg [m 62 6,o1 63 (.nlc (.t 62)),fa 64 63 1,l1 65 64,ca 66 112 [65],nt' 67 66] [1,4,6,67],
 C 67 (.reg [m 68 4,m 69 6,m 70 6,o1 71 (.nlc (.t 70)),fa 72 71 4,l1 73 72,o1 74 (.bld [.nilptr,.nil 5] [(0,1,(.t 69)),(1,1,(.t 73))]),o1 75 (.lit 147 2 [.t 74]),o1 76 (.app (.t 68) (.t 75) 147 2 32),m 4 76] [1,4]) (.skip)]) (Q [.reg [bi 78 .eql 56 2,m 77 78] [1,4,5,6,56,77],
 C 77 (Q [.reg [m 79 5,o1 80 (.nlc (.t 79)),fa 81 80 0,l1 82 81,o1 83 (.nlq 0 true (.t 82)),m 84 83,gt 84 (m 85 5),gt 84 (o1 86 (.nlc (.t 85))),gt 84 (fa 87 86 0),gt 84 (l1 88 87),gt 84 (o1 89 (.nlc (.t 88))),gt 84 (fa 90 89 1),gt 84 (l1 91 90),gt 84 (ca 92 83 [91]),pa 93 84 92] [1,4,6,93],
 C 93 (.reg [m 94 1,m 95 6,o1 96 (.nlc (.t 95)),fa 97 96 3,l1 98 97,cv 99 94 [98]] [1,4]) (.reg [m 100 1,m 101 6,o1 102 (.nlc (.t 101)),fa 103 102 3,l1 104 103,o1 105 (.call 125 [.t 104,.v (.bool false)]),cv 106 100 [105]] [1,4])]) (Q [.reg [bi 108 .eql 56 3,m 107 108] [1,4,6,107],
 C 107 (Q [.reg [m 109 1,o1 110 (.callv (.t 109) [.v (.str [60,33,45,45])])] [1,4,6],
 .reg [m 111 1,m 112 6,o1 113 (.nlc (.t 112)),fa 114 113 3,l1 115 114,cv 116 111 [115]] [1,4],
 .reg [m 117 1,o1 118 (.callv (.t 117) [.v (.str [45,45,62])])] [1,4]]) (.skip)])])])])]))]
theorem zX:av Tryz.prog Tryz.f91 [] [1000000,3000009,124,123] [[1,4],[1,4],[1,4,12],[1,4,5],[1,4,5,23],[1,4,5,28],[1,4],[1,4],[1,4,5,6],[1,4,5,6],[1,4,5,6,56],[1,4,5,6,56,57],[1,4,6],[1,4,6,67],[1,4],[1,4,5,6,56,77],[1,4,6,93],[1,4],[1,4],[1,4,6,107],[1,4,6],[1,4],[1,4]] 2=some (qn,[]):=by kernel_rfl

abbrev uj:Nat:=92
theorem uL:Tryz.prog.funcs[92]?=some Tryz.f92:=Tryz.func92
def l8:AC:=
 .reg [m 3 0,ch 4 93 [1,3]] []
theorem uy:av Tryz.prog Tryz.f92 [] [93] [[]] 2=some (l8,[]):=by kernel_rfl

abbrev eG:Nat:=60
theorem Al:Tryz.prog.funcs[60]?=some Tryz.f60:=Tryz.func60
def qo:AC:=
 Q [.reg [mv 2 (.str [])] [0],
 .reg [o1 3 (.alb 117 5 [.nilptr,.nil 1])] [0,3],
 .reg [m 4 0,o1 5 (.mkf (.func 92) [] [.t 3]),ch 6 91 [4,5]] [3],
 .reg [ch 7 94 [3],m 2 7] [2],
 .ret]
theorem zY:av Tryz.prog Tryz.f60 [] [91,94,1000003000005] [[0],[0,3],[3],[2]] 1=some (qo,[.t 2]):=by kernel_rfl

end Go.Abs
