/- The images of some of the program's functions, as. -/
import Derived.Test.YtedmnakfknbabaaGreatDoorPCodeQ
set_option linter.all false
set_option maxHeartbeats 0
set_option maxRecDepth 100000
namespace Go.Abs
open Go.Proofs
abbrev ga:Nat:=59
theorem gm:Tryz.prog.funcs[59]?=some Tryz.f59:=Tryz.func59
def cQ:AC:=
 Q [.reg [mb 4 false] [0,1],
 Q [.reg [m 6 0,lq 7 6,m 8 1,lq 9 8,bt 10 .neq 7 9] [0,1,10],
 C 10 (Q [.reg [mb 4 false] [4],
 .ret]) (.skip)],
 Q [.reg [m 11 0,lq 12 11,mi 13 0] [0,1,12,13],
 .block 0 (.loop [0,1,12,13] (Q [.reg [bt 14 .lss 13 12] [0,1,12,13,14],
 C 14 (.skip) (.exit 0),
 .block 1 (Q [.reg [m 15 13,m 5 15] [0,1,5,12,13],
 .regD [m 16 0,m 17 5,ia 18 16 17 2,la 19 18 2,m 20 1,m 21 5,ia 22 20 21 2,la 23 22 2,o1 24 (.aeq true ⟨true,[.s,.s]⟩ (.t 19) (.t 23))] [0,1,12,13,24],
 C 24 (Q [.reg [mb 4 false] [4],
 .ret]) (.skip)]),
 .reg [bi 25 .add 13 1,m 13 25] [0,1,12,13]]))],
 .reg [mb 4 true] [4],
 .ret]
theorem ge:au Tryz.prog Tryz.f59 [[0,1],[0,1,10],[4],[0,1,12,13],[0,1,12,13],[0,1,12,13,14],[0,1,5,12,13],[0,0,0,3,7,0,0,48,112,255],[0,1,2,3,4,5,6,7,8],[0,1,12,13,24],[4],[0,1,12,13],[4]] 2=some (cQ,[.t 4]):=by kernel_rfl
abbrev IJ:Nat:=33
theorem Jh:Tryz.prog.funcs[33]?=some Tryz.f33:=Tryz.func33
def zr:AC:=
 Q [.reg [mb 4 false] [0,1],
 .reg [m 10 0,m 11 1,o1 12 (.bld [.nil 5,.nil 5] [(0,1,(.t 10)),(1,1,(.t 11))]),o1 13 (.ltr 93 2 [.t 12]),m 5 13] [5],
 .block 0 (.loop [5] (Q [Q [.reg [m 14 5,lq 15 14,bi 16 .gtr 15 0] [5,16],
 C 16 (.skip) (.exit 0)],
 .block 1 (Q [.reg [m 17 5,m 18 5,lq 19 18,bi 20 .sub 19 1,ia 21 17 20 2,la 22 21 2,o1 6 (.alc [.nil 5,.nil 5]),st 2 6 22] [5,6],
 .reg [m 23 5,m 24 5,lq 25 24,bi 26 .sub 25 1,o1 27 (.trc (.t 23) (.t 26) 2),m 5 27] [5,6],
 Q [.reg [fa 28 6 0,l1 29 28,lq 30 29,fa 31 6 1,l1 32 31,lq 33 32,bt 34 .neq 30 33] [5,6,34],
 C 34 (Q [.reg [mb 4 false] [4],
 .ret]) (.skip)],
 .reg [fa 35 6 0,l1 36 35,lq 37 36,mi 38 0] [5,6,37,38],
 .block 2 (.loop [5,6,37,38] (Q [.reg [bt 39 .lss 38 37] [5,6,37,38,39],
 C 39 (.skip) (.exit 2),
 .block 3 (Q [.reg [m 40 38,m 7 40] [5,6,7,37,38],
 .regD [fa 41 6 0,l1 42 41,m 43 7,ia 44 42 43 5,fa 45 6 1,l1 46 45,m 47 7,ia 48 46 47 5,m 8 44,m 9 48] [5,6,8,9,37,38],
 Q [.regD [m 49 8,o1 50 (.nlc (.t 49)),fa 51 50 0,l1 52 51,m 53 9,o1 54 (.nlc (.t 53)),fa 55 54 0,l1 56 55,bt 57 .neq 52 56,m 58 57,gf 58 (m 59 8),gf 58 (o1 60 (.nlc (.t 59))),gf 58 (fa 61 60 1),gf 58 (l1 62 61),gf 58 (m 63 9),gf 58 (o1 64 (.nlc (.t 63))),gf 58 (fa 65 64 1),gf 58 (l1 66 65),gf 58 (bt 67 .neq 62 66),po 68 58 67,m 69 68,gf 69 (m 70 8),gf 69 (o1 71 (.nlc (.t 70))),gf 69 (fa 72 71 3),gf 69 (l1 73 72),gf 69 (m 74 9),gf 69 (o1 75 (.nlc (.t 74))),gf 69 (fa 76 75 3),gf 69 (l1 77 76),gf 69 (bt 78 .neq 73 77),po 79 69 78,m 80 79,gf 80 (m 81 8),gf 80 (o1 82 (.nlc (.t 81))),gf 80 (fa 83 82 2),gf 80 (l1 84 83),gf 80 (m 85 9),gf 80 (o1 86 (.nlc (.t 85))),gf 80 (fa 87 86 2),gf 80 (l1 88 87),gf 80 (ca 89 59 [84,88]),gf 80 (nt' 90 89),po 91 80 90] [5,6,8,9,37,38,91],
 C 91 (Q [.reg [mb 4 false] [4],
 .ret]) (.skip)],
 .reg [m 92 8,o1 93 (.nlc (.t 92)),fa 94 93 4,l1 95 94,lq 96 95,bi 97 .gtr 96 0,m 98 97,gf 98 (m 99 9),gf 98 (o1 100 (.nlc (.t 99))),gf 98 (fa 101 100 4),gf 98 (l1 102 101),gf 98 (lq 103 102),gf 98 (bi 104 .gtr 103 0),po 105 98 104] [5,6,8,9,37,38,105],
 C 105 (.regD [m 106 5,m 107 8,o1 108 (.nlc (.t 107)),fa 109 108 4,l1 110 109,m 111 9,o1 112 (.nlc (.t 111)),fa 113 112 4,l1 114 113,o1 115 (.bld [.nil 5,.nil 5] [(0,1,(.t 110)),(1,1,(.t 114))]),o1 116 (.lit 93 2 [.t 115]),o1 117 (.app (.t 106) (.t 116) 93 2 48),m 5 117] [5,6,37,38]) (.skip)]),
 .reg [bi 118 .add 38 1,m 38 118] [5,6,37,38]]))])])),
 .reg [mb 4 true] [4],
 .ret]
theorem Ja:aP Tryz.prog Tryz.f33 [] [1000000,3000013] [[0,1],[5],[5],[5,16],[5,6],[5,6],[5,6,34],[4],[5,6,37,38],[5,6,37,38],[5,6,37,38,39],[5,6,7,37,38],[0,0,1,0,7,0,16,0,112,15,511],[0,1,2,3,4,5,6,7,8,9],[5,6,8,9,37,38],[0,0,1,3,7,0,16,48,112,255,511,1023,2047,4095,8191,1023,17407,50175,115711,262143,524287,1048575,2097151,4194303,8388607,16777215,2097151,35651583,102760447,236978175,536870911,1073741823,2147483647,4294967295,8589934591,17179869183,34359738367,4294967295,73014444031,210453397503,485331304447,1099511627775,2199023255551,4398046511103],[0,1,2,3,4,5,6,7,8,9,10,11,12,13,14,15,16,17,18,19,20,21,22,23,24,25,26,27,28,29,30,31,32,33,34,35,36,37,38,39,40,41,42],[5,6,8,9,37,38,91],[4],[5,6,8,9,37,38,105],[0,0,0,2,6,14,0,32,96,224,510,1022,2047,4095],[0,1,2,3,4,5,6,7,8,9,10,11,12],[5,6,37,38],[5,6,37,38],[4]] 2=some (zr,[.t 4]):=by kernel_rfl
abbrev rf:Nat:=175
theorem rB:Tryz.prog.funcs[175]?=some Tryz.f175:=Tryz.func175
def kJ:AC:=
 Q [.reg [mv 2 (.niliface)] [0],
 .reg [m 3 0,ca 4 176 [3],o1 5 (.mki 63 (.t 4)),m 2 5] [2],
 .ret]
theorem rq:au Tryz.prog Tryz.f175 [[0],[2]] 1=some (kJ,[.t 2]):=by kernel_rfl
abbrev re:Nat:=180
theorem rA:Tryz.prog.funcs[180]?=some Tryz.f180:=Tryz.func180
def kI:AC:=
 Q [.reg [mv 2 (.niliface)] [0],
 .reg [m 3 0,ca 4 181 [3],o1 5 (.mki 238 (.t 4)),m 2 5] [2],
 .ret]
theorem rp:au Tryz.prog Tryz.f180 [[0],[2]] 1=some (kI,[.t 2]):=by kernel_rfl
abbrev pP:Nat:=216
theorem p4:Tryz.prog.funcs[216]?=some Tryz.f216:=Tryz.func216
def jD:AC:=
 Q [.reg [mv 2 (.niliface)] [0],
 .reg [m 3 0,ca 4 217 [3],o1 5 (.mki 109 (.t 4)),m 2 5] [2],
 .ret]
theorem pV:au Tryz.prog Tryz.f216 [[0],[2]] 1=some (jD,[.t 2]):=by kernel_rfl
abbrev F1:Nat:=36
theorem GV:Tryz.prog.funcs[36]?=some Tryz.f36:=Tryz.func36
def wd:AC:=
 Q [.reg [mv 2 (.nil 5)] [0],
 .block 0 (.loop [0] (.block 1 (Q [Q [.reg [m 6 0,o1 7 (.tya 109 (.nil 5) true (.t 6)),m 5 7,ex 8 5 0,ex 9 5 1,m 3 8,m 4 9] [0,4],
 .reg [m 10 4] [0,10],
 C 10 (Q [.reg [m 11 0,o1 12 (.tya 109 (.nil 5) false (.t 11)),m 2 12] [2],
 .ret]) (.skip)],
 .reg [m 13 0,o1 14 (.inv [(61,175),(63,180),(109,206),(238,216)] (.t 13) []),m 0 14] [0]])))]
theorem Gy:au Tryz.prog Tryz.f36 [[0],[0],[0,4],[0,10],[2],[0]] 1=some (wd,[.t 2]):=by kernel_rfl
abbrev qh:Nat:=17
theorem AR:Tryz.prog.funcs[17]?=some Tryz.f17:=Tryz.func17
def qH:AC:=
 Q [.reg [mv 2 (.nil 5)] [0],
 .reg [m 3 0,o1 4 (.mki 61 (.t 3)),ca 5 36 [4],m 2 5] [2],
 .ret]
theorem Av:au Tryz.prog Tryz.f17 [[0],[2]] 1=some (qH,[.t 2]):=by kernel_rfl
abbrev mQ:Nat:=20
theorem Ef:Tryz.prog.funcs[20]?=some Tryz.f20:=Tryz.func20
def tR:AC:=
 Q [.reg [mv 2 (.nil 5)] [0],
 .reg [m 3 0,o1 4 (.mki 63 (.t 3)),ca 5 36 [4],m 2 5] [2],
 .ret]
theorem DT:au Tryz.prog Tryz.f20 [[0],[2]] 1=some (tR,[.t 2]):=by kernel_rfl
abbrev zM:Nat:=92
theorem AA:Tryz.prog.funcs[92]?=some Tryz.f92:=Tryz.func92
def qu:AC:=
 Q [Q [.reg [m 6 0,o1 7 (.nlc (.t 6)),fa 8 7 0,l1 9 8,bi 10 .neq 9 1] [0,1,10],
 C 10 (.ret) (.skip)],
 .reg [m 11 1,o1 12 (.callv (.t 11) [.v (.str [60])])] [0,1],
 .reg [m 13 1,m 14 0,o1 15 (.nlc (.t 14)),fa 16 15 1,l1 17 16,cv 18 13 [17]] [0,1],
 Q [.reg [m 19 0,o1 20 (.nlc (.t 19)),fa 21 20 2,l1 22 21,lq 23 22,mi 24 0] [1,22,23,24],
 .block 0 (.loop [1,22,23,24] (Q [.reg [bt 25 .lss 24 23] [1,22,23,24,25],
 C 25 (.skip) (.exit 0),
 .block 1 (Q [.reg [ia 26 22 24 2,la 27 26 2,o1 5 (.alc [.str [],.str []]),st 2 5 27] [1,5,22,23,24],
 .reg [m 28 1,o1 29 (.callv (.t 28) [.v (.str [32])])] [1,5,22,23,24],
 .reg [m 30 1,fa 31 5 0,l1 32 31,cv 33 30 [32]] [1,5,22,23,24],
 .reg [m 34 1,o1 35 (.callv (.t 34) [.v (.str [61,34])])] [1,5,22,23,24],
 .reg [m 36 1,fa 37 5 1,l1 38 37,o1 39 (.call 94 [.t 38,.v (.bool true)]),cv 40 36 [39]] [1,22,23,24],
 .reg [m 41 1,o1 42 (.callv (.t 41) [.v (.str [34])])] [1,22,23,24]]),
 .reg [bi 43 .add 24 1,m 24 43] [1,22,23,24]]))],
 .reg [m 44 1,o1 45 (.callv (.t 44) [.v (.str [62])])] []]
theorem Ag:aP Tryz.prog Tryz.f92 [] [9999999] [[0,1,10],[0,1],[0,1],[1,22,23,24],[1,22,23,24],[1,22,23,24,25],[1,5,22,23,24],[1,5,22,23,24],[1,5,22,23,24],[1,5,22,23,24],[1,22,23,24],[1,22,23,24],[1,22,23,24],[]] 2=some (qu,[]):=by kernel_rfl
abbrev FQ:Nat:=91
theorem GF:Tryz.prog.funcs[91]?=some Tryz.f91:=Tryz.func91
def vS:AC:=
 Q [Q [.reg [m 4 0,o1 5 (.nlc (.t 4)),fa 6 5 0,l1 7 6,bi 8 .neq 7 1,m 9 8,gf 9 (m 10 0),gf 9 (o1 11 (.nlc (.t 10))),gf 9 (fa 12 11 1),gf 9 (l1 13 12),gf 9 (ca 14 93 [13]),po 15 9 14] [0,1,15],
 C 15 (.ret) (.skip)],
 .reg [m 16 1,o1 17 (.callv (.t 16) [.v (.str [60,47])])] [0,1],
 .reg [m 18 1,m 19 0,o1 20 (.nlc (.t 19)),fa 21 20 1,l1 22 21,cv 23 18 [22]] [1],
 .reg [m 24 1,o1 25 (.callv (.t 24) [.v (.str [62])])] []]
theorem Gj:aP Tryz.prog Tryz.f91 [] [9999999] [[0,1,15],[0,1],[1],[]] 2=some (vS,[]):=by kernel_rfl
abbrev C4:Nat:=61
theorem DW:Tryz.prog.funcs[61]?=some Tryz.f61:=Tryz.func61
def tz:AC:=
 Q [.reg [m 7 0,o1 8 (.bld [.nilptr,.nil 5] [(0,1,(.v (.nilptr))),(1,1,(.t 7))]),o1 9 (.ltr 136 2 [.t 8]),m 4 9] [1,4],
 .block 0 (.loop [1,4] (Q [Q [.reg [m 10 4,lq 11 10,bi 12 .gtr 11 0] [1,4,12],
 C 12 (.skip) (.exit 0)],
 .block 1 (Q [.reg [m 13 4,m 14 4,lq 15 14,bi 16 .sub 15 1,ia 17 13 16 2,m 5 17] [1,4,5],
 Q [.reg [m 18 5,o1 19 (.nlc (.t 18)),fa 20 19 1,l1 21 20,lq 22 21,bi 23 .eql 22 0] [1,4,5,23],
 C 23 (Q [Q [.reg [m 24 5,o1 25 (.nlc (.t 24)),fa 26 25 0,l1 27 26,o1 28 (.nlq 0 true (.t 27))] [1,4,5,28],
 C 28 (.reg [m 29 5,o1 30 (.nlc (.t 29)),fa 31 30 0,l1 32 31,m 33 1,ch 34 91 [32,33]] [1,4]) (.skip)],
 .reg [m 35 4,m 36 4,lq 37 36,bi 38 .sub 37 1,o1 39 (.trc (.t 35) (.t 38) 2),m 4 39] [1,4],
 .exit 1]) (.skip)],
 .reg [m 40 5,o1 41 (.nlc (.t 40)),fa 42 41 1,l1 43 42,o1 44 (.ia (.t 43) (.v (.int .i64 0)) 5),m 6 44] [1,4,5,6],
 .reg [m 45 5,m 46 5,o1 47 (.nlc (.t 46)),fa 48 47 1,l1 49 48,o1 50 (.slq (.t 49) (some (.v (.int .i64 1))) none 5),o1 51 (.nlc (.t 45)),fa 52 51 1,st 1 52 50] [1,4,5,6],
 .reg [m 53 6,o1 54 (.nlc (.t 53)),fa 55 54 0,l1 56 55] [1,4,5,6,56],
 .block 2 (Q [.reg [bi 58 .eql 56 1,m 57 58] [1,4,5,6,56,57],
 C 57 (Q [.reg [m 59 6,m 60 1,ch 61 92 [59,60]] [1,4,6],
 .reg [m 62 6,o1 63 (.nlc (.t 62)),fa 64 63 1,l1 65 64,ca 66 93 [65],nt' 67 66] [1,4,6,67],
 C 67 (.reg [m 68 4,m 69 6,m 70 6,o1 71 (.nlc (.t 70)),fa 72 71 4,l1 73 72,o1 74 (.bld [.nilptr,.nil 5] [(0,1,(.t 69)),(1,1,(.t 73))]),o1 75 (.lit 136 2 [.t 74]),o1 76 (.app (.t 68) (.t 75) 136 2 32),m 4 76] [1,4]) (.skip)]) (Q [.reg [bi 78 .eql 56 2,m 77 78] [1,4,5,6,56,77],
 C 77 (Q [.reg [m 79 5,o1 80 (.nlc (.t 79)),fa 81 80 0,l1 82 81,o1 83 (.nlq 0 true (.t 82)),m 84 83,gt 84 (m 85 5),gt 84 (o1 86 (.nlc (.t 85))),gt 84 (fa 87 86 0),gt 84 (l1 88 87),gt 84 (o1 89 (.nlc (.t 88))),gt 84 (fa 90 89 1),gt 84 (l1 91 90),gt 84 (ca 92 46 [91]),pa 93 84 92] [1,4,6,93],
 C 93 (.reg [m 94 1,m 95 6,o1 96 (.nlc (.t 95)),fa 97 96 3,l1 98 97,cv 99 94 [98]] [1,4]) (.reg [m 100 1,m 101 6,o1 102 (.nlc (.t 101)),fa 103 102 3,l1 104 103,o1 105 (.call 94 [.t 104,.v (.bool false)]),cv 106 100 [105]] [1,4])]) (Q [.reg [bi 108 .eql 56 3,m 107 108] [1,4,6,107],
 C 107 (Q [.reg [m 109 1,o1 110 (.callv (.t 109) [.v (.str [60,33,45,45])])] [1,4,6],
 .reg [m 111 1,m 112 6,o1 113 (.nlc (.t 112)),fa 114 113 3,l1 115 114,cv 116 111 [115]] [1,4],
 .reg [m 117 1,o1 118 (.callv (.t 117) [.v (.str [45,45,62])])] [1,4]]) (.skip)])])])])]))]
theorem DA:aP Tryz.prog Tryz.f61 [] [1000000,3000009,92,91] [[1,4],[1,4],[1,4,12],[1,4,5],[1,4,5,23],[1,4,5,28],[1,4],[1,4],[1,4,5,6],[1,4,5,6],[1,4,5,6,56],[1,4,5,6,56,57],[1,4,6],[1,4,6,67],[1,4],[1,4,5,6,56,77],[1,4,6,93],[1,4],[1,4],[1,4,6,107],[1,4,6],[1,4],[1,4]] 2=some (tz,[]):=by kernel_rfl
abbrev od:Nat:=62
theorem yz:Tryz.prog.funcs[62]?=some Tryz.f62:=Tryz.func62
def oV:AC:=
 .reg [m 3 0,ch 4 63 [1,3]] []
theorem yl:aP Tryz.prog Tryz.f62 [] [63] [[]] 2=some (oV,[]):=by kernel_rfl
abbrev C5:Nat:=35
theorem DX:Tryz.prog.funcs[35]?=some Tryz.f35:=Tryz.func35
def tA:AC:=
 Q [.reg [mv 2 (.str [])] [0],
 .reg [o1 3 (.alb 99 5 [.nilptr,.nil 1])] [0,3],
 .reg [m 4 0,o1 5 (.mkf (.func 62) [] [.t 3]),ch 6 61 [4,5]] [3],
 .reg [ch 7 64 [3],m 2 7] [2],
 .ret]
theorem DB:aP Tryz.prog Tryz.f35 [] [61,64,1000003000005] [[0],[0,3],[3],[2]] 1=some (tA,[.t 2]):=by kernel_rfl
abbrev z6:Nat:=15
theorem AS:Tryz.prog.funcs[15]?=some Tryz.f15:=Tryz.func15
def qI:AC:=
 Q [.reg [mv 2 (.nil 5)] [0],
 Q [.reg [m 3 0,ca 4 32 [3],bi 5 .neq 4 0] [0,5],
 C 5 (Q [.reg [mv 2 (.nil 5)] [2],
 .ret]) (.skip)],
 .reg [m 6 0,ca 7 35 [6],ca 8 20 [7],m 2 8] [2],
 .ret]
theorem Aw:au Tryz.prog Tryz.f15 [[0],[0,5],[2],[2]] 1=some (qI,[.t 2]):=by kernel_rfl
abbrev zZ:Nat:=12
theorem AQ:Tryz.prog.funcs[12]?=some Tryz.f12:=Tryz.func12
def qG:AC:=
 Q [.reg [mb 2 false] [0],
 .reg [m 3 0,ca 4 32 [3],bi 5 .eql 4 0,m 6 5,gt 6 (m 7 0),gt 6 (ca 8 15 [7]),gt 6 (m 9 0),gt 6 (ca 10 33 [8,9]),pa 11 6 10,m 2 11] [2],
 .ret]
theorem Au:au Tryz.prog Tryz.f12 [[0],[2]] 1=some (qG,[.t 2]):=by kernel_rfl
abbrev yd:Nat:=67
theorem yH:Tryz.prog.funcs[67]?=some Tryz.f67:=Tryz.func67
def pd:AC:=
 Q [.reg [mv 4 (.str [])] [0,1],
 .reg [mv 5 (.str [])] [0,1,5],
 Q [.reg [mi 6 0] [0,1,5,6],
 .block 0 (.loop [0,1,5,6] (Q [Q [.reg [m 7 6,m 8 0,ls 9 8,bt 10 .lss 7 9] [0,1,5,6,10],
 C 10 (.skip) (.exit 0)],
 .block 1 (Q [.reg [m 13 0,m 14 6,ix 15 13 14,bu 16 .eql 15 38] [0,1,5,6,16],
 C 16 (.reg [m 17 5,bs 18 .add 17 [38,97,109,112,59],m 5 18] [0,1,5,6]) (Q [.reg [m 19 0,m 20 6,ix 21 19 20,bu 22 .eql 21 60] [0,1,5,6,22],
 C 22 (.reg [m 23 5,bs 24 .add 23 [38,108,116,59],m 5 24] [0,1,5,6]) (Q [.reg [m 25 0,m 26 6,ix 27 25 26,bu 28 .eql 27 62] [0,1,5,6,28],
 C 28 (.reg [m 29 5,bs 30 .add 29 [38,103,116,59],m 5 30] [0,1,5,6]) (Q [.reg [m 31 0,m 32 6,ix 33 31 32,bu 34 .eql 33 34,m 35 34,gt 35 (m 36 1),pa 37 35 36] [0,1,5,6,37],
 C 37 (.reg [m 38 5,bs 39 .add 38 [38,113,117,111,116,59],m 5 39] [0,1,5,6]) (.reg [m 40 5,m 41 0,m 42 6,m 43 6,bi 44 .add 43 1,o1 45 (.sls (.t 41) (some (.t 42)) (some (.t 44))),bt 46 .add 40 45,m 5 46] [0,1,5,6])])])])]),
 .reg [m 11 6,bi 12 .add 11 1,m 6 12] [0,1,5,6]]))],
 .reg [m 47 5,m 4 47] [4],
 .ret]
theorem yv:au Tryz.prog Tryz.f67 [[0,1],[0,1,5],[0,1,5,6],[0,1,5,6],[0,1,5,6,10],[0,1,5,6,16],[0,1,5,6],[0,1,5,6,22],[0,1,5,6],[0,1,5,6,28],[0,1,5,6],[0,1,5,6,37],[0,1,5,6],[0,1,5,6],[0,1,5,6],[4]] 2=some (pd,[.t 4]):=by kernel_rfl
abbrev De:Nat:=69
theorem D7:Tryz.prog.funcs[69]?=some Tryz.f69:=Tryz.func69
def tK:AC:=
 Q [.reg [bx 1 0,mv 2 (.str [])] [1],
 Q [.reg [fa 5 1 0,l1 6 5,bi 7 .neq 6 1] [1,7],
 C 7 (Q [.reg [mv 2 (.str [])] [2],
 .ret]) (.skip)],
 .reg [fa 8 1 1,l1 9 8,o1 10 (.bin .add (.v (.str [60])) (.t 9)),m 3 10] [1,3],
 Q [.reg [mi 4 0] [1,3,4],
 .block 0 (.loop [1,3,4] (Q [Q [.reg [m 11 4,fa 12 1 2,l1 13 12,lq 14 13,bt 15 .lss 11 14] [1,3,4,15],
 C 15 (.skip) (.exit 0)],
 .block 1 (.regD [m 18 3,bs 19 .add 18 [32],fa 20 1 2,l1 21 20,m 22 4,ia 23 21 22 2,fa 24 23 0,l1 25 24,bt 26 .add 19 25,bs 27 .add 26 [61,34],fa 28 1 2,l1 29 28,m 30 4,ia 31 29 30 2,fa 32 31 1,l1 33 32,o1 34 (.call 67 [.t 33,.v (.bool true)]),bt 35 .add 27 34,bs 36 .add 35 [34],m 3 36] [1,3,4]),
 .reg [m 16 4,bi 17 .add 16 1,m 4 17] [1,3,4]]))],
 .reg [m 37 3,bs 38 .add 37 [62],m 2 38] [2],
 .ret]
theorem DL:au Tryz.prog Tryz.f69 [[1],[1,7],[2],[1,3],[1,3,4],[1,3,4],[1,3,4,15],[0,0,1,0,4,0,28,60,124,255,511,0,1024,0,7168,15360,31744,64512,131071,262143,524287],[0,1,2,3,4,5,6,7,8,9,10,11,12,13,14,15,16,17,18,19],[1,3,4],[1,3,4],[2]] 1=some (tK,[.t 2]):=by kernel_rfl
abbrev li:Nat:=38
theorem GN:Tryz.prog.funcs[38]?=some Tryz.f38:=Tryz.func38
def vZ:AC:=
 Q [.reg [bx 2 0,mv 4 (.str [])] [1,2],
 Q [.reg [fa 9 2 0,l1 10 9,bi 11 .eql 10 3] [1,2,11],
 C 11 (Q [.reg [fa 12 2 3,l1 13 12,o1 14 (.bin .add (.v (.str [60,33,45,45])) (.t 13)),bs 15 .add 14 [45,45,62],m 4 15] [4],
 .ret]) (.skip)],
 Q [.reg [fa 16 2 0,l1 17 16,bi 18 .eql 17 2] [1,2,18],
 C 18 (Q [Q [.reg [m 19 1] [2,19],
 C 19 (Q [.reg [fa 20 2 3,l1 21 20,m 4 21] [4],
 .ret]) (.skip)],
 .reg [fa 22 2 3,l1 23 22,o1 24 (.call 67 [.t 23,.v (.bool false)]),m 4 24] [4],
 .ret]) (.skip)],
 Q [.reg [fa 25 2 0,l1 26 25,bi 27 .neq 26 1] [2,27],
 C 27 (Q [.reg [mv 4 (.str [])] [4],
 .ret]) (.skip)],
 .reg [fa 28 2 1,l1 29 28,ca 30 68 [29],m 5 30] [2,5],
 Q [.reg [m 31 5] [2,31],
 C 31 (Q [.reg [la 32 2 5,ca 33 69 [32],m 4 33] [4],
 .ret]) (.skip)],
 .reg [fa 34 2 1,l1 35 34,ca 36 70 [35],m 6 36] [2,6],
 .reg [la 37 2 5,ca 38 69 [37],m 7 38] [2,6,7],
 Q [.reg [mi 8 0] [2,6,7,8],
 .block 0 (.loop [2,6,7,8] (Q [Q [.reg [m 39 8,fa 40 2 4,l1 41 40,lq 42 41,bt 43 .lss 39 42] [2,6,7,8,43],
 C 43 (.skip) (.exit 0)],
 .block 1 (.reg [m 46 7,fa 47 2 4,l1 48 47,m 49 8,ia 50 48 49 5,la 51 50 5,m 52 6,ca 53 38 [51,52],bt 54 .add 46 53,m 7 54] [2,6,7,8]),
 .reg [m 44 8,bi 45 .add 44 1,m 8 45] [2,6,7,8]]))],
 .reg [m 55 7,bs 56 .add 55 [60,47],fa 57 2 1,l1 58 57,bt 59 .add 56 58,bs 60 .add 59 [62],m 4 60] [4],
 .ret]
theorem Gq:au Tryz.prog Tryz.f38 [[1,2],[1,2,11],[4],[1,2,18],[2,19],[4],[4],[2,27],[4],[2,5],[2,31],[4],[2,6],[2,6,7],[2,6,7,8],[2,6,7,8],[2,6,7,8,43],[2,6,7,8],[2,6,7,8],[4]] 2=some (vZ,[.t 4]):=by kernel_rfl
abbrev Dd:Nat:=21
theorem D6:Tryz.prog.funcs[21]?=some Tryz.f21:=Tryz.func21
def tJ:AC:=
 Q [.reg [mv 2 (.str [])] [0],
 .reg [mv 3 (.str [])] [0,3],
 Q [.reg [mi 4 0] [0,3,4],
 .block 0 (.loop [0,3,4] (Q [Q [.reg [m 5 4,m 6 0,lq 7 6,bt 8 .lss 5 7] [0,3,4,8],
 C 8 (.skip) (.exit 0)],
 .block 1 (.reg [m 11 3,m 12 0,m 13 4,ia 14 12 13 5,la 15 14 5,o1 16 (.call 38 [.t 15,.v (.bool false)]),bt 17 .add 11 16,m 3 17] [0,3,4]),
 .reg [m 9 4,bi 10 .add 9 1,m 4 10] [0,3,4]]))],
 .reg [m 18 3,m 2 18] [2],
 .ret]
theorem DK:au Tryz.prog Tryz.f21 [[0],[0,3],[0,3,4],[0,3,4],[0,3,4,8],[0,3,4],[0,3,4],[2]] 1=some (tJ,[.t 2]):=by kernel_rfl
abbrev jL:Nat:=14
theorem Eb:Tryz.prog.funcs[14]?=some Tryz.f14:=Tryz.func14
def tN:AC:=
 Q [.reg [mb 4 false] [0,1],
 Q [.reg [m 10 0,lq 11 10,m 12 1,lq 13 12,bt 14 .neq 11 13] [0,1,14],
 C 14 (Q [.reg [mb 4 false] [4],
 .ret]) (.skip)],
 Q [.reg [mi 5 0] [0,1,5],
 .block 0 (.loop [0,1,5] (Q [Q [.reg [m 15 5,m 16 0,lq 17 16,bt 18 .lss 15 17] [0,1,5,18],
 C 18 (.skip) (.exit 0)],
 .block 1 (Q [.reg [m 21 0,m 22 5,ia 23 21 22 5,la 24 23 5,o1 6 (.alc [.int .i64 0,.str [],.nil 2,.str [],.nil 5]),st 5 6 24] [0,1,5,6],
 .reg [m 25 1,m 26 5,ia 27 25 26 5,la 28 27 5,o1 7 (.alc [.int .i64 0,.str [],.nil 2,.str [],.nil 5]),st 5 7 28] [0,1,5,6,7],
 Q [.reg [fa 29 6 0,l1 30 29,fa 31 7 0,l1 32 31,bt 33 .neq 30 32,m 34 33,gf 34 (fa 35 6 1),gf 34 (l1 36 35),gf 34 (fa 37 7 1),gf 34 (l1 38 37),gf 34 (bt 39 .neq 36 38),po 40 34 39,m 41 40,gf 41 (fa 42 6 3),gf 41 (l1 43 42),gf 41 (fa 44 7 3),gf 41 (l1 45 44),gf 41 (bt 46 .neq 43 45),po 47 41 46,m 48 47,gf 48 (fa 49 6 2),gf 48 (l1 50 49),gf 48 (lq 51 50),gf 48 (fa 52 7 2),gf 48 (l1 53 52),gf 48 (lq 54 53),gf 48 (bt 55 .neq 51 54),po 56 48 55] [0,1,5,6,7,56],
 C 56 (Q [.reg [mb 4 false] [4],
 .ret]) (.skip)],
 Q [.reg [mi 8 0] [0,1,5,6,7,8],
 .block 2 (.loop [0,1,5,6,7,8] (Q [Q [.reg [m 57 8,fa 58 6 2,l1 59 58,lq 60 59,bt 61 .lss 57 60] [0,1,5,6,7,8,61],
 C 61 (.skip) (.exit 2)],
 .block 3 (Q [.regD [fa 64 6 2,l1 65 64,m 66 8,ia 67 65 66 2,la 68 67 2,fa 69 7 2,l1 70 69,m 71 8,ia 72 70 71 2,la 73 72 2,o1 74 (.aeq true ⟨true,[.s,.s]⟩ (.t 68) (.t 73))] [0,1,5,6,7,8,74],
 C 74 (Q [.reg [mb 4 false] [4],
 .ret]) (.skip)]),
 .reg [m 62 8,bi 63 .add 62 1,m 8 63] [0,1,5,6,7,8]]))],
 .reg [fa 75 6 4,l1 76 75,fa 77 7 4,l1 78 77,ca 79 14 [76,78],m 9 79] [0,1,5,9],
 .reg [m 80 9,nt' 81 80] [0,1,5,81],
 C 81 (Q [.reg [mb 4 false] [4],
 .ret]) (.skip)]),
 .reg [m 19 5,bi 20 .add 19 1,m 5 20] [0,1,5]]))],
 .reg [mb 4 true] [4],
 .ret]
theorem DP:au Tryz.prog Tryz.f14 [[0,1],[0,1,14],[4],[0,1,5],[0,1,5],[0,1,5,18],[0,1,5,6],[0,1,5,6,7],[0,1,5,6,7,56],[4],[0,1,5,6,7,8],[0,1,5,6,7,8],[0,1,5,6,7,8,61],[0,0,1,0,7,15,0,32,0,224,480,1023],[0,1,2,3,4,5,6,7,8,9,10],[0,1,5,6,7,8,74],[4],[0,1,5,6,7,8],[0,1,5,9],[0,1,5,81],[4],[0,1,5],[4]] 2=some (tN,[.t 4]):=by kernel_rfl
abbrev F2:Nat:=18
theorem GW:Tryz.prog.funcs[18]?=some Tryz.f18:=Tryz.func18
def we:AC:=
 Q [.reg [mv 2 (.nil 1)] [0],
 Q [.reg [m 3 0,lq 4 3,bi 5 .gtr 4 300] [0,5],
 C 5 (Q [.reg [m 6 0,o1 7 (.slq (.t 6) none (some (.v (.int .i64 300))) 1),m 2 7] [2],
 .ret]) (.skip)],
 .reg [m 8 0,m 2 8] [2],
 .ret]
theorem Gz:au Tryz.prog Tryz.f18 [[0],[0,5],[2],[2]] 1=some (we,[.t 2]):=by kernel_rfl
abbrev z7:Nat:=16
theorem AT:Tryz.prog.funcs[16]?=some Tryz.f16:=Tryz.func16
def qJ:AC:=
 Q [.reg [mb 0 false] [],
 .reg [o1 2 (.ltr 5 1 [.v (.int .u8 60),.v (.int .u8 112),.v (.int .u8 62),.v (.int .u8 97),.v (.int .u8 60),.v (.int .u8 100),.v (.int .u8 105),.v (.int .u8 118),.v (.int .u8 62),.v (.int .u8 98)]),o1 3 (.cvb (.t 2)),ca 4 17 [3],m 1 4] [1],
 .reg [m 5 1,lq 6 5,bi 7 .eql 6 2,m 8 7,gt 8 (m 9 1),gt 8 (o1 10 (.ia (.t 9) (.v (.int .i64 0)) 5)),gt 8 (fa 11 10 1),gt 8 (l1 12 11),gt 8 (bs 13 .eql 12 [112]),pa 14 8 13,m 15 14,gt 15 (m 16 1),gt 15 (o1 17 (.ia (.t 16) (.v (.int .i64 0)) 5)),gt 15 (fa 18 17 4),gt 15 (l1 19 18),gt 15 (lq 20 19),gt 15 (bi 21 .eql 20 1),pa 22 15 21,m 23 22,gt 23 (m 24 1),gt 23 (o1 25 (.ia (.t 24) (.v (.int .i64 0)) 5)),gt 23 (fa 26 25 4),gt 23 (l1 27 26),gt 23 (o1 28 (.ia (.t 27) (.v (.int .i64 0)) 5)),gt 23 (fa 29 28 3),gt 23 (l1 30 29),gt 23 (bs 31 .eql 30 [97]),pa 32 23 31,m 33 32,gt 33 (m 34 1),gt 33 (o1 35 (.ia (.t 34) (.v (.int .i64 1)) 5)),gt 33 (fa 36 35 1),gt 33 (l1 37 36),gt 33 (bs 38 .eql 37 [100,105,118]),pa 39 33 38,m 40 39,gt 40 (m 41 1),gt 40 (ca 42 12 [41]),pa 43 40 42,m 0 43] [0],
 .ret]
theorem Ax:aP Tryz.prog Tryz.f16 [] [3000002] [[],[1],[0]] 0=some (qJ,[.t 0]):=by kernel_rfl
abbrev bW:Nat:=4
theorem fH:Tryz.prog.funcs[4]?=some Tryz.f4:=Tryz.func4
def kK:AC:=
 Q [.reg [mb 2 false] [0],
 .reg [m 5 0,ca 6 11 [5],m 3 6] [0,3],
 .reg [m 7 0,ca 8 8 [7],m 4 8] [3,4],
 .reg [m 9 3,ca 10 12 [9],m 11 3,ca 12 13 [11],o1 13 (.beq false (.t 10) (.t 12)),m 14 13,gt 14 (m 15 4),gt 14 (ca 16 12 [15]),pa 17 14 16,m 18 17,gt 18 (m 19 4),gt 18 (ca 20 15 [19]),gt 18 (m 21 4),gt 18 (ca 22 14 [20,21]),pa 23 18 22,m 24 23,gt 24 (ca 25 16 []),pa 26 24 25,m 2 26] [2],
 .ret]
theorem rt:au Tryz.prog Tryz.f4 [[0],[0,3],[3,4],[2]] 1=some (kK,[.t 2]):=by kernel_rfl
abbrev cH:Nat:=5
theorem iw:Tryz.prog.funcs[5]?=some Tryz.f5:=Tryz.func5
def mr:AC:=
 Q [.reg [mb 2 false] [0],
 .reg [m 4 0,ca 5 18 [4],ca 6 17 [5],m 3 6] [3],
 .reg [m 7 3,ca 8 19 [7],bi 9 .eql 8 0,m 10 9,gt 10 (m 11 3),gt 10 (ca 12 13 [11]),pa 13 10 12,m 14 13,gt 14 (m 15 3),gt 14 (ca 16 12 [15]),pa 17 14 16,m 18 17,gt 18 (ca 19 16 []),pa 20 18 19,m 2 20] [2],
 .ret]
theorem uF:au Tryz.prog Tryz.f5 [[0],[3],[2]] 1=some (mr,[.t 2]):=by kernel_rfl
abbrev bX:Nat:=6
theorem fI:Tryz.prog.funcs[6]?=some Tryz.f6:=Tryz.func6
def kL:AC:=
 Q [.reg [mb 4 false] [0,1],
 .reg [m 8 0,ca 9 8 [8],m 5 9] [1,5],
 .reg [m 10 1,ca 11 8 [10],m 6 11] [5,6],
 Q [.reg [m 12 5,lq 13 12,bi 14 .gtr 13 0,m 15 14,gt 15 (m 16 6),gt 15 (lq 17 16),gt 15 (bi 18 .gtr 17 0),pa 19 15 18,m 20 19,gt 20 (m 21 5),gt 20 (m 22 5),gt 20 (lq 23 22),gt 20 (bi 24 .sub 23 1),gt 20 (ia 25 21 24 5),gt 20 (fa 26 25 0),gt 20 (l1 27 26),gt 20 (bi 28 .eql 27 2),pa 29 20 28,m 30 29,gt 30 (m 31 6),gt 30 (o1 32 (.ia (.t 31) (.v (.int .i64 0)) 5)),gt 30 (fa 33 32 0),gt 30 (l1 34 33),gt 30 (bi 35 .eql 34 2),pa 36 30 35] [5,6,36],
 C 36 (Q [.reg [ca 37 16 [],m 4 37] [4],
 .ret]) (.skip)],
 .reg [mv 7 (.nil 5)] [5,6,7],
 .reg [m 38 7,m 39 5,o1 40 (.app (.t 38) (.t 39) 48 5 88),m 7 40] [5,6,7],
 .reg [m 41 7,m 42 6,o1 43 (.app (.t 41) (.t 42) 48 5 88),m 7 43] [5,6,7],
 .reg [m 44 5,ca 45 21 [44],m 46 6,ca 47 21 [46],bt 48 .add 45 47,ca 49 20 [48],m 50 7,ca 51 14 [49,50],m 52 51,gt 52 (ca 53 16 []),pa 54 52 53,m 4 54] [4],
 .ret]
theorem ru:au Tryz.prog Tryz.f6 [[0,1],[1,5],[5,6],[5,6,36],[4],[5,6,7],[5,6,7],[5,6,7],[4]] 2=some (kL,[.t 4]):=by kernel_rfl
end Go.Abs
