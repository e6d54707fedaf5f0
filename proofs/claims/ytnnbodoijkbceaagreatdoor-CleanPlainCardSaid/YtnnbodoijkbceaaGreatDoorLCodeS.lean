/-
  The images of some of the program's functions, as the kernel reckons them. Made by program. No condition.
-/
import Derived.Test.YtnnbodoijkbceaaGreatDoorLCodeR
set_option linter.all false
set_option maxHeartbeats 0
set_option maxRecDepth 100000
namespace Go.Abs
open Go.Proofs

abbrev zL:Nat:=116
theorem Ay:Tryz.prog.funcs[116]?=some Tryz.f116:=Tryz.func116
def qD:AC:=
 Q [.reg [bx 2 0,mv 4 (.nil 2)] [1,2],
 .reg [la 9 2 3,ch 10 144 [9],m 5 10] [1,5],
 .reg [mv 6 (.nil 2)] [1,5,6],
 Q [.reg [m 11 1,lq 12 11,mi 13 0] [5,6,11,12,13],
 .block 0 (.loop [5,6,11,12,13] (Q [.reg [bt 14 .lss 13 12] [5,6,11,12,13,14],
 C 14 (.skip) (.exit 0),
 .block 1 (Q [.reg [ia 15 11 13 2,la 16 15 2,o1 8 (.alc [.str [],.str []]),st 2 8 16] [5,6,8,11,12,13],
 .reg [m 17 5,la 18 8 2,cv 19 17 [18]] [5,6,8,11,12,13,19],
 C 19 (.reg [m 20 6,la 21 8 2,o1 22 (.lit 59 2 [.t 21]),o1 23 (.app (.t 20) (.t 22) 59 2 32),m 6 23] [5,6,11,12,13]) (.skip)]),
 .reg [bi 24 .add 13 1,m 13 24] [5,6,11,12,13]]))],
 .reg [m 25 6,m 4 25] [4],
 .ret]
theorem Aj:av Tryz.prog Tryz.f116 [] [144] [[1,2],[1,5],[1,5,6],[5,6,11,12,13],[5,6,11,12,13],[5,6,11,12,13,14],[5,6,8,11,12,13],[5,6,8,11,12,13,19],[5,6,11,12,13],[5,6,11,12,13],[4]] 2=some (qD,[.t 4]):=by kernel_rfl

abbrev zI:Nat:=86
theorem Av:Tryz.prog.funcs[86]?=some Tryz.f86:=Tryz.func86
def qA:AC:=
 Q [.reg [bx 3 0,bx 5 2,mv 6 (.nil 2),mb 7 false] [1,3,5],
 Q [.reg [la 11 3 3,m 12 1,la 13 5 5,ca 14 85 [11,12,13],nt' 15 14] [3,5,15],
 C 15 (Q [.reg [mv 6 (.nil 2),mb 7 false] [6,7],
 .ret]) (.skip)],
 .reg [la 17 3 3,fa 18 5 1,l1 19 18,ca 20 115 [17,19],m 16 20,ex 21 16 0,ex 22 16 1,o1 8 (.alc [.str [],.nil 1,.nil 5]),st 3 8 21,m 9 22] [5,8,9],
 Q [.reg [m 23 9,nt' 24 23] [5,8,24],
 C 24 (Q [.reg [mv 6 (.nil 2),mb 7 false] [6,7],
 .ret]) (.skip)],
 .reg [la 25 8 3,fa 26 5 2,l1 27 26,ca 28 116 [25,27],m 10 28] [8,10],
 Q [.reg [la 29 8 3,m 30 10,ca 31 117 [29,30],nt' 32 31] [10,32],
 C 32 (Q [.reg [mv 6 (.nil 2),mb 7 false] [6,7],
 .ret]) (.skip)],
 .reg [m 33 10,m 6 33,mb 7 true] [6,7],
 .ret]
theorem Ag:aq Tryz.prog Tryz.f86 [[1,3,5],[3,5,15],[6,7],[5,8,9],[5,8,24],[6,7],[8,10],[10,32],[6,7],[6,7]] 3=some (qA,[.t 6,.t 7]):=by kernel_rfl

abbrev cd:Nat:=56
theorem p7:Tryz.prog.funcs[56]?=some Tryz.f56:=Tryz.func56
def iY:AC:=
 .reg [l1 3 1,m 4 0,o1 5 (.app (.t 3) (.t 4) 41 5 88),st 1 1 5] [1]
theorem pW:av Tryz.prog Tryz.f56 [1] [9999999] [[1]] 2=some (iY,[]):=by kernel_rfl

abbrev zH:Nat:=55
theorem Au:Tryz.prog.funcs[55]?=some Tryz.f55:=Tryz.func55
def qz:AC:=
 Q [.reg [bx 4 0] [1,2,3,4],
 .reg [m 13 2,lq 14 13,mi 15 0] [1,3,4,13,14,15],
 .block 0 (.loop [1,3,4,13,14,15] (Q [.reg [bt 16 .lss 15 14] [1,3,4,13,14,15,16],
 C 16 (.skip) (.exit 0),
 .block 1 (Q [.reg [ia 17 13 15 5,la 18 17 5,o1 9 (.alc [.int .i64 0,.str [],.nil 2,.str [],.nil 5]),st 5 9 18] [1,3,4,9,13,14,15],
 Q [.reg [fa 19 9 0,l1 20 19,bi 21 .neq 20 1] [1,3,4,9,13,14,15,21],
 C 21 (Q [Q [.reg [la 22 4 3,m 23 1,la 24 9 5,ca 25 85 [22,23,24]] [1,3,4,9,13,14,15,25],
 C 25 (.reg [m 26 3,fa 27 9 0,l1 28 27,fa 29 9 3,l1 30 29,o1 31 (.bld [.int .i64 0,.str [],.nil 2,.str [],.nil 5] [(0,1,(.t 28)),(3,1,(.t 30))]),o1 32 (.lit 41 5 [.t 31]),cv 33 26 [32]] [1,3,4,13,14,15]) (.skip)],
 .exit 1]) (.skip)],
 .reg [la 35 4 3,m 36 1,la 37 9 5,ca 38 86 [35,36,37],m 34 38,ex 39 34 0,ex 40 34 1,m 10 39,m 11 40] [1,3,4,9,10,11,13,14,15],
 .reg [m 41 11] [1,3,4,9,10,13,14,15,41],
 C 41 (Q [.reg [la 42 4 3,fa 43 9 1,l1 44 43,fa 45 9 4,l1 46 45,ca 47 33 [42,44,46],m 12 47] [1,3,4,9,10,12,13,14,15],
 .reg [m 48 3,fa 49 9 1,l1 50 49,m 51 10,m 52 12,o1 53 (.bld [.int .i64 0,.str [],.nil 2,.str [],.nil 5] [(0,1,(.v (.int .i64 1))),(1,1,(.t 50)),(2,1,(.t 51)),(4,1,(.t 52))]),o1 54 (.lit 41 5 [.t 53]),cv 55 48 [54]] [1,3,4,13,14,15]]) (Q [.reg [fa 56 4 2,l1 57 56,fa 58 9 1,l1 59 58,ca 60 87 [57,59]] [1,3,4,9,13,14,15,60],
 C 60 (.reg [la 61 4 3,m 62 1,fa 63 9 4,l1 64 63,m 65 3,ch 66 55 [61,62,64,65]] [1,3,4,13,14,15]) (.skip)])]),
 .reg [bi 67 .add 15 1,m 15 67] [1,3,4,13,14,15]]))]
theorem Af:av Tryz.prog Tryz.f55 [3] [55] [[1,2,3,4],[1,3,4,13,14,15],[1,3,4,13,14,15],[1,3,4,13,14,15,16],[1,3,4,9,13,14,15],[1,3,4,9,13,14,15,21],[1,3,4,9,13,14,15,25],[1,3,4,13,14,15],[1,3,4,9,10,11,13,14,15],[1,3,4,9,10,13,14,15,41],[1,3,4,9,10,12,13,14,15],[1,3,4,13,14,15],[1,3,4,9,13,14,15,60],[1,3,4,13,14,15],[1,3,4,13,14,15]] 4=some (qz,[]):=by kernel_rfl

abbrev f6:Nat:=33
theorem s6:Tryz.prog.funcs[33]?=some Tryz.f33:=Tryz.func33
def kI:AC:=
 Q [.reg [bx 3 0,mv 6 (.nil 5)] [1,2,3],
 .reg [o1 7 (.alc [.nil 5])] [1,2,3,7],
 .reg [la 8 3 3,m 9 1,m 10 2,o1 11 (.mkf (.func 56) [] [.t 7]),ch 12 55 [8,9,10,11]] [7],
 .reg [l1 13 7,m 6 13] [6],
 .ret]
theorem sV:av Tryz.prog Tryz.f33 [] [55] [[1,2,3],[1,2,3,7],[7],[6]] 3=some (kI,[.t 6]):=by kernel_rfl

abbrev dd:Nat:=10
theorem xo:Tryz.prog.funcs[10]?=some Tryz.f10:=Tryz.func10
def nN:AC:=
 Q [.reg [bx 2 0,mv 4 (.nil 5)] [1,2],
 Q [.reg [m 5 1,ca 6 31 [5],bi 7 .neq 6 0] [1,2,7],
 C 7 (Q [.reg [mv 4 (.nil 5)] [4],
 .ret]) (.skip)],
 .reg [la 8 2 3,m 9 1,o1 10 (.call 33 [.t 8,.v (.str []),.t 9]),ca 11 32 [10],m 4 11] [4],
 .ret]
theorem wR:aq Tryz.prog Tryz.f10 [[1,2],[1,2,7],[4],[4]] 2=some (nN,[.t 4]):=by kernel_rfl

abbrev wj:Nat:=36
theorem xp:Tryz.prog.funcs[36]?=some Tryz.f36:=Tryz.func36
def nO:AC:=
 Q [.reg [bx 3 0,mv 6 (.str []),mi 7 0] [1,2,3],
 Q [.reg [m 8 1,lq 9 8,m 10 2,bt 11 .gtr 9 10] [1,3,11],
 C 11 (Q [.reg [mv 6 (.str []),mi 7 3] [6,7],
 .ret]) (.skip)],
 .regD [la 12 3 3,m 13 1,ca 14 61 [13],ca 15 10 [12,14],ca 16 60 [15],m 6 16,mi 7 0] [6,7],
 .ret]
theorem wS:aq Tryz.prog Tryz.f36 [[1,2,3],[1,3,11],[6,7],[0,0,0,2,7,15,31,63],[0,1,2,3,4,5,6],[6,7]] 3=some (nO,[.t 6,.t 7]):=by kernel_rfl

abbrev zJ:Nat:=14
theorem Aw:Tryz.prog.funcs[14]?=some Tryz.f14:=Tryz.func14
def qB:AC:=
 Q [.reg [bx 2 0,mv 4 (.str [])] [1,2],
 .reg [la 8 2 3,m 9 1,o1 10 (.s2b (.t 9)),m 11 1,ls 12 11,ca 13 36 [8,10,12],m 7 13,ex 14 7 0,ex 15 7 1,m 5 14,m 6 15] [5],
 .reg [m 16 5,m 4 16] [4],
 .ret]
theorem Ah:aq Tryz.prog Tryz.f14 [[1,2],[5],[4]] 2=some (qB,[.t 4]):=by kernel_rfl

abbrev BT:Nat:=18
theorem CC:Tryz.prog.funcs[18]?=some Tryz.f18:=Tryz.func18
def sv:AC:=
 Q [.reg [mv 2 (.nil 5)] [0],
 .reg [mv 3 (.nil 5)] [0,3],
 Q [.reg [mi 4 0] [0,3,4],
 .block 0 (.loop [0,3,4] (Q [Q [.reg [m 5 4,m 6 0,lq 7 6,bt 8 .lss 5 7] [0,3,4,8],
 C 8 (.skip) (.exit 0)],
 .block 1 (Q [.reg [m 11 3,m 12 0,m 13 4,ia 14 12 13 5,la 15 14 5,o1 16 (.lit 41 5 [.t 15]),o1 17 (.app (.t 11) (.t 16) 41 5 88),m 3 17] [0,3,4],
 .reg [m 18 3,m 19 0,m 20 4,ia 21 19 20 5,fa 22 21 4,l1 23 22,ca 24 18 [23],o1 25 (.app (.t 18) (.t 24) 41 5 88),m 3 25] [0,3,4]]),
 .reg [m 9 4,bi 10 .add 9 1,m 4 10] [0,3,4]]))],
 .reg [m 26 3,m 2 26] [2],
 .ret]
theorem Ck:aq Tryz.prog Tryz.f18 [[0],[0,3],[0,3,4],[0,3,4],[0,3,4,8],[0,3,4],[0,3,4],[0,3,4],[2]] 1=some (sv,[.t 2]):=by kernel_rfl

abbrev vX:Nat:=20
theorem w8:Tryz.prog.funcs[20]?=some Tryz.f20:=Tryz.func20
def nB:AC:=
 Q [.reg [mv 2 (.str [])] [0],
 .reg [mv 3 (.str [])] [0,3],
 Q [.reg [mi 4 0] [0,3,4],
 .block 0 (.loop [0,3,4] (Q [Q [.reg [m 5 4,m 6 0,lq 7 6,bt 8 .lss 5 7] [0,3,4,8],
 C 8 (.skip) (.exit 0)],
 .block 1 (Q [Q [.reg [m 11 0,m 12 4,ia 13 11 12 5,fa 14 13 0,l1 15 14,bi 16 .eql 15 2] [0,3,4,16],
 C 16 (.reg [m 17 3,m 18 0,m 19 4,ia 20 18 19 5,fa 21 20 3,l1 22 21,bt 23 .add 17 22,m 3 23] [0,3,4]) (.skip)],
 .reg [m 24 3,m 25 0,m 26 4,ia 27 25 26 5,fa 28 27 4,l1 29 28,ca 30 20 [29],bt 31 .add 24 30,m 3 31] [0,3,4]]),
 .reg [m 9 4,bi 10 .add 9 1,m 4 10] [0,3,4]]))],
 .reg [m 32 3,m 2 32] [2],
 .ret]
theorem wD:aq Tryz.prog Tryz.f20 [[0],[0,3],[0,3,4],[0,3,4],[0,3,4,8],[0,3,4,16],[0,3,4],[0,3,4],[0,3,4],[2]] 1=some (nB,[.t 2]):=by kernel_rfl

abbrev wh:Nat:=13
theorem xm:Tryz.prog.funcs[13]?=some Tryz.f13:=Tryz.func13
def nL:AC:=
 Q [.reg [mb 0 false] [],
 .reg [o1 2 (.lit 9 1 [.v (.str [98])]),o1 3 (.lit 9 1 [.v (.str [35,116,101,120,116])]),o1 4 (.bld [.str [],.nil 1,.nil 5] [(0,1,(.v (.str [98]))),(1,1,(.t 3))]),o1 5 (.lit 49 3 [.t 4]),o1 6 (.bld [.nil 1,.nil 3,.nil 1] [(0,1,(.t 2)),(1,1,(.t 5))]),o1 1 (.alc [.nil 1,.nil 3,.nil 1]),st 3 1 6] [1],
 .reg [la 7 1 3,o1 8 (.call 14 [.t 7,.v (.str [60,98,32,105,100,61,49,62,120,60,105,62,121,60,47,105,62,60,47,98,62])]),bs 9 .eql 8 [60,98,62,120,60,47,98,62],m 10 9,gt 10 (o1 11 (.bld [.nil 1,.nil 3,.nil 1] [])),gt 10 (o1 12 (.call 14 [.t 11,.v (.str [120])])),gt 10 (bs 13 .eql 12 []),pa 14 10 13,m 0 14] [0],
 .ret]
theorem wP:aq Tryz.prog Tryz.f13 [[],[1],[0]] 0=some (nL,[.t 0]):=by kernel_rfl

abbrev bq:Nat:=5
theorem dZ:Tryz.prog.funcs[5]?=some Tryz.f5:=Tryz.func5
def iv:AC:=
 Q [.reg [mb 2 false] [0],
 .reg [m 9 0,ca 10 8 [9],m 3 10] [3],
 .reg [o1 11 (.lit 9 1 [.v (.str [35,116,101,120,116])]),o1 12 (.bld [.nil 1,.nil 3,.nil 1] [(0,1,(.t 11))]),o1 4 (.alc [.nil 1,.nil 3,.nil 1]),st 3 4 12] [3,4],
 .reg [m 13 3,ca 14 18 [13],m 5 14] [3,4,5],
 Q [.reg [mi 6 0] [3,4,5,6],
 .block 0 (.loop [3,4,5,6] (Q [Q [.reg [m 15 6,m 16 5,lq 17 16,bt 18 .lss 15 17] [3,4,5,6,18],
 C 18 (.skip) (.exit 0)],
 .block 1 (Q [Q [.regD [m 21 5,m 22 6,ia 23 21 22 5,fa 24 23 0,l1 25 24,bi 26 .neq 25 1,m 27 26,gf 27 (fa 28 4 2),gf 27 (l1 29 28),gf 27 (m 30 5),gf 27 (m 31 6),gf 27 (ia 32 30 31 5),gf 27 (fa 33 32 1),gf 27 (l1 34 33),gf 27 (ca 35 19 [29,34]),po 36 27 35] [3,4,5,6,36],
 C 36 (.exit 1) (.skip)],
 Q [.reg [m 37 5,m 38 6,ia 39 37 38 5,fa 40 39 1,l1 41 40,ls 42 41,bi 43 .gtr 42 16,m 44 43,gf 44 (fa 45 4 2),gf 44 (l1 46 45),gf 44 (lq 47 46),gf 44 (bi 48 .eql 47 12),po 49 44 48] [3,4,5,6,49],
 C 49 (Q [.reg [ca 50 13 [],m 2 50] [2],
 .ret]) (.skip)],
 .regD [fa 51 4 2,l1 52 51,m 53 5,m 54 6,ia 55 53 54 5,fa 56 55 1,l1 57 56,o1 58 (.lit 9 1 [.t 57]),o1 59 (.app (.t 52) (.t 58) 9 1 16),fa 60 4 2,st 1 60 59] [3,4,5,6]]),
 .reg [m 19 6,bi 20 .add 19 1,m 6 20] [3,4,5,6]]))],
 .reg [la 61 4 3,m 62 3,ca 63 10 [61,62],m 7 63] [3,7],
 .reg [m 64 3,ca 65 20 [64],m 8 65] [7,8],
 Q [.reg [m 66 8,bs 67 .eql 66 []] [7,8,67],
 C 67 (Q [.reg [m 68 7,lq 69 68,bi 70 .eql 69 0,m 71 70,gt 71 (ca 72 13 []),pa 73 71 72,m 2 73] [2],
 .ret]) (.skip)],
 .reg [m 74 7,lq 75 74,bi 76 .eql 75 1,m 77 76,gt 77 (m 78 7),gt 77 (o1 79 (.ia (.t 78) (.v (.int .i64 0)) 5)),gt 77 (fa 80 79 0),gt 77 (l1 81 80),gt 77 (bi 82 .eql 81 2),pa 83 77 82,m 84 83,gt 84 (m 85 7),gt 84 (o1 86 (.ia (.t 85) (.v (.int .i64 0)) 5)),gt 84 (fa 87 86 3),gt 84 (l1 88 87),gt 84 (m 89 8),gt 84 (bt 90 .eql 88 89),pa 91 84 90,m 92 91,gt 92 (ca 93 13 []),pa 94 92 93,m 2 94] [2],
 .ret]
theorem oy:aq Tryz.prog Tryz.f5 [[0],[3],[3,4],[3,4,5],[3,4,5,6],[3,4,5,6],[3,4,5,6,18],[0,0,0,3,7,15,31,63,127,255,127,127,1663,3711,7807,16383,32767],[0,1,2,3,4,5,6,7,8,9,10,11,12,13,14,15],[3,4,5,6,36],[3,4,5,6,49],[2],[0,0,1,0,0,12,28,60,124,255,511,1023],[0,1,2,3,4,5,6,7,8,9,10],[3,4,5,6],[3,4,5,6],[3,7],[7,8],[7,8,67],[2],[2]] 1=some (iv,[.t 2]):=by kernel_rfl

end Go.Abs
