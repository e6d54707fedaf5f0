/-
  The images of some of the program's functions, as the kernel reckons them. Made by program. No condition.
-/
import Derived.Test.YtloaikaippankaaGreatDoorTCodeW
set_option linter.unusedVariables false
set_option linter.unusedSimpArgs false
set_option linter.unusedSectionVars false
set_option maxRecDepth 100000
namespace Go.Abs
open Go.Proofs

abbrev iZ:Nat:=10
theorem xA:Tryz.prog.funcs[10]?=some Tryz.f10:=Tryz.func10
def ot:AC:=
 Q [.reg [bx 2 0,bx 3 1,mv 4 (.nil 7)] [2,3],
 .reg [o1 12 (.bld [.int .i64 0,.str [],.str [],.bool false,.str [],.bool false,.bool false] [(0,1,(.v (.int .i64 1)))]),o1 13 (.bld [.int .i64 0,.str [],.str [],.bool false,.str [],.bool false,.bool false] [(0,1,(.v (.int .i64 2)))]),o1 14 (.ltr 30 7 [.t 12,.t 13]),m 5 14] [2,3,5],
 .regD [la 15 2 3,ca 16 34 [15],la 17 3 3,ca 18 34 [17],o1 19 (.lit 22 1 [.t 16,.t 18]),ch 20 33 [19],m 6 20] [2,3,5,6],
 .reg [m 21 6,ch 22 35 [21]] [2,3,5,6],
 Q [.reg [m 23 6,ch 24 36 [23],lq 25 24,mi 26 0] [2,3,5,24,25,26],
 .block 0 (.loop [2,3,5,24,25,26] (Q [.reg [bt 27 .lss 26 25] [2,3,5,24,25,26,27],
 C 27 (.skip) (.exit 0),
 .block 1 (Q [.reg [ia 28 24 26 1,l1 29 28,m 8 29] [2,3,5,8,24,25,26],
 .reg [m 30 5,m 31 8,o1 32 (.bld [.int .i64 0,.str [],.str [],.bool false,.str [],.bool false,.bool false] [(0,1,(.v (.int .i64 3))),(1,1,(.t 31))]),o1 33 (.ltr 30 7 [.t 32]),o1 34 (.app (.t 30) (.t 33) 30 7 72),m 5 34] [2,3,5,8,24,25,26],
 .reg [la 35 2 3,la 36 3 3,m 37 8,ca 38 37 [35,36,37],m 9 38] [2,3,5,8,9,24,25,26],
 .reg [m 39 9,lq 40 39,mi 41 0] [2,3,5,8,9,24,25,26,39,40,41],
 .block 2 (.loop [2,3,5,8,9,24,25,26,39,40,41] (Q [.reg [bt 42 .lss 41 40] [2,3,5,8,9,24,25,26,39,40,41,42],
 C 42 (.skip) (.exit 2),
 .block 3 (Q [.reg [ia 43 39 41 1,l1 44 43,m 11 44] [2,3,5,8,9,11,24,25,26,39,40,41],
 .regD [m 45 5,la 46 2 3,la 47 3 3,m 48 8,m 49 11,m 50 9,m 51 11,ca 52 39 [50,51],ca 53 38 [46,47,48,49,52],o1 54 (.app (.t 45) (.t 53) 30 7 72),m 5 54] [2,3,5,8,9,24,25,26,39,40,41]]),
 .reg [bi 55 .add 41 1,m 41 55] [2,3,5,8,9,24,25,26,39,40,41]]))]),
 .reg [bi 56 .add 26 1,m 26 56] [2,3,5,24,25,26]]))],
 .reg [m 57 5,m 4 57] [4],
 .ret]
theorem xl:am Tryz.prog Tryz.f10 [] [35,36,33,2000030] [[2,3],[2,3,5],[0,0,1,0,7,15,31,63],[0,1,2,3,4,5,6],[2,3,5,6],[2,3,5,6],[2,3,5,24,25,26],[2,3,5,24,25,26],[2,3,5,24,25,26,27],[2,3,5,8,24,25,26],[2,3,5,8,24,25,26],[2,3,5,8,9,24,25,26],[2,3,5,8,9,24,25,26,39,40,41],[2,3,5,8,9,24,25,26,39,40,41],[2,3,5,8,9,24,25,26,39,40,41,42],[2,3,5,8,9,11,24,25,26,39,40,41],[0,0,0,0,0,0,0,0,96,254,511,1023],[0,1,2,3,4,5,6,7,8,9,10],[2,3,5,8,9,24,25,26,39,40,41],[2,3,5,8,9,24,25,26,39,40,41],[2,3,5,24,25,26],[4]] 2=some (ot,[.t 4]):=by kernel_rfl

abbrev d9:Nat:=38
theorem qZ:Tryz.prog.funcs[38]?=some Tryz.f38:=Tryz.func38
def jw:AC:=
 Q [.reg [bx 5 0,bx 6 1,mv 10 (.nil 7)] [2,3,4,5,6],
 .reg [mv 11 (.nil 7)] [2,3,4,5,6,11],
 Q [.reg [la 14 5 3,la 15 6 3,m 16 2,m 17 4,ca 18 63 [14,15,16,17],mi 19 0] [2,3,4,11,18,19],
 .block 0 (.loop [2,3,4,11,18,19] (Q [.reg [bi 20 .lss 19 4] [2,3,4,11,18,19,20],
 C 20 (.skip) (.exit 0),
 .block 1 (Q [.reg [m 21 19,o1 22 (.ixa (.t 18) (.t 19) 4 1 false),m 12 21,m 13 22] [2,3,4,11,12,13,18,19],
 Q [.reg [m 23 13,bs 24 .eql 23 []] [2,3,4,11,12,13,18,19,24],
 C 24 (.exit 1) (.skip)],
 .regD [m 25 11,m 26 2,m 27 4,m 28 3,ca 29 62 [28],m 30 13,o1 31 (.sls (.t 30) (some (.v (.int .i64 1))) none),m 32 12,bi 33 .eql 32 0,m 34 33,gf 34 (m 35 12),gf 34 (bi 36 .eql 35 1),po 37 34 36,m 38 12,bi 39 .eql 38 0,m 40 39,gf 40 (m 41 12),gf 40 (bi 42 .eql 41 2),po 43 40 42,o1 44 (.bld [.int .i64 0,.str [],.str [],.bool false,.str [],.bool false,.bool false] [(0,1,(.v (.int .i64 4))),(1,1,(.t 26)),(2,1,(.t 27)),(3,1,(.t 29)),(4,1,(.t 31)),(5,1,(.t 37)),(6,1,(.t 43))]),o1 45 (.lit 30 7 [.t 44]),o1 46 (.app (.t 25) (.t 45) 30 7 72),m 11 46] [2,3,4,11,18,19]]),
 .reg [bi 47 .add 19 1,m 19 47] [2,3,4,11,18,19]]))],
 .reg [m 48 11,m 10 48] [10],
 .ret]
theorem qT:an Tryz.prog Tryz.f38 [[2,3,4,5,6],[2,3,4,5,6,11],[2,3,4,11,18,19],[2,3,4,11,18,19],[2,3,4,11,18,19,20],[2,3,4,11,12,13,18,19],[2,3,4,11,12,13,18,19,24],[0,0,0,0,0,8,0,32,0,128,408,920,1944,3992,0,8192,25496,58264,123800,254872,524286,1048574,2097151,4194303],[0,1,2,3,4,5,6,7,8,9,10,11,12,13,14,15,16,17,18,19,20,21,22],[2,3,4,11,18,19],[2,3,4,11,18,19],[10]] 5=some (jw,[.t 10]):=by kernel_rfl

abbrev wY:Nat:=37
theorem xB:Tryz.prog.funcs[37]?=some Tryz.f37:=Tryz.func37
def ou:AC:=
 Q [.reg [bx 3 0,bx 4 1,mv 6 (.nil 1)] [2,3,4],
 .reg [mv 7 (.nil 1),mv 8 (.nil 1)] [2,3,4,7,8],
 Q [.regD [la 13 3 3,m 14 2,ca 15 61 [13,14],la 16 4 3,m 17 2,ca 18 61 [16,17],o1 19 (.lit 59 3 [.t 15,.t 18]),lq 20 19,mi 21 0] [7,8,19,20,21],
 .block 0 (.loop [7,8,19,20,21] (Q [.reg [bt 22 .lss 21 20] [7,8,19,20,21,22],
 C 22 (.skip) (.exit 0),
 .block 1 (Q [.reg [ia 23 19 21 3,la 24 23 3,o1 10 (.alc [.str [],.nil 1,.nil 5]),st 3 10 24] [7,8,10,19,20,21],
 .reg [fa 25 10 2,l1 26 25,lq 27 26,mi 28 0] [7,8,19,20,21,26,27,28],
 .block 2 (.loop [7,8,19,20,21,26,27,28] (Q [.reg [bt 29 .lss 28 27] [7,8,19,20,21,26,27,28,29],
 C 29 (.skip) (.exit 2),
 .block 3 (Q [.reg [ia 30 26 28 5,la 31 30 5,o1 12 (.alc [.str [],.int .i64 0,.nil 1,.str [],.bool false]),st 5 12 31] [7,8,12,19,20,21,26,27,28],
 .reg [fa 32 12 0,l1 33 32,ca 34 62 [33]] [7,8,12,19,20,21,26,27,28,34],
 C 34 (.reg [m 35 8,fa 36 12 0,l1 37 36,o1 38 (.lit 9 1 [.t 37]),o1 39 (.app (.t 35) (.t 38) 9 1 16),m 8 39] [7,8,19,20,21,26,27,28]) (.reg [m 40 7,fa 41 12 0,l1 42 41,o1 43 (.lit 9 1 [.t 42]),o1 44 (.app (.t 40) (.t 43) 9 1 16),m 7 44] [7,8,19,20,21,26,27,28])]),
 .reg [bi 45 .add 28 1,m 28 45] [7,8,19,20,21,26,27,28]]))]),
 .reg [bi 46 .add 21 1,m 21 46] [7,8,19,20,21]]))],
 .reg [m 47 7,ch 48 35 [47]] [7,8],
 .reg [m 49 8,ch 50 35 [49]] [7,8],
 .reg [m 51 7,ch 52 36 [51],m 53 8,ch 54 36 [53],o1 55 (.app (.t 52) (.t 54) 9 1 16),m 6 55] [6],
 .ret]
theorem xm:am Tryz.prog Tryz.f37 [] [35,36] [[2,3,4],[2,3,4,7,8],[0,0,0,3,0,0,31,63,127,0],[0,1,2,3,4,5,6,7,8],[7,8,19,20,21],[7,8,19,20,21],[7,8,19,20,21,22],[7,8,10,19,20,21],[7,8,19,20,21,26,27,28],[7,8,19,20,21,26,27,28],[7,8,19,20,21,26,27,28,29],[7,8,12,19,20,21,26,27,28],[7,8,12,19,20,21,26,27,28,34],[7,8,19,20,21,26,27,28],[7,8,19,20,21,26,27,28],[7,8,19,20,21,26,27,28],[7,8,19,20,21],[7,8],[7,8],[6]] 3=some (ou,[.t 6]):=by kernel_rfl

abbrev vg:Nat:=39
theorem vv:Tryz.prog.funcs[39]?=some Tryz.f39:=Tryz.func39
def mt:AC:=
 Q [.reg [bx 2 0,bx 3 1,mv 4 (.str [])] [2,3],
 Q [.reg [l1 9 3,ca 10 62 [9],nt' 11 10] [2,3,11],
 C 11 (Q [.reg [l1 12 3,m 4 12] [4],
 .ret]) (.skip)],
 .reg [o1 13 (.mkf (.func 64) [] [.t 2,.t 3]),m 5 13] [3,5],
 .reg [l1 14 3,l1 15 3,ls 16 15,bi 17 .sub 16 1,o1 18 (.sls (.t 14) none (some (.t 17))),m 6 18] [5,6],
 Q [.reg [m 19 5,m 20 6,cv 21 19 [20]] [5,6,21],
 C 21 (Q [.reg [m 22 6,m 4 22] [4],
 .ret]) (.skip)],
 Q [.reg [o1 23 (.rgs (.v (.str [48,49,50,51,52,53,54,55,56,57,97,98,99,100,101,102,103,104,105,106,107,108,109,110,111,112,113,114,115,116,117,118,119,120,121,122,45])))] [5,6,23],
 .block 0 (.loop [5,6,23] (Q [.reg [o1 24 (.nxs (.t 23)),ex 25 24 0] [5,6,23,24,25],
 C 25 (.skip) (.exit 0),
 .block 1 (Q [.reg [ex 26 24 2,m 8 26] [5,6,8,23],
 .reg [m 27 5,m 28 6,m 29 8,o1 30 (.r2s (.t 29)),bt 31 .add 28 30,cv 32 27 [31]] [5,6,8,23,32],
 C 32 (Q [.reg [m 33 6,m 34 8,o1 35 (.r2s (.t 34)),bt 36 .add 33 35,m 4 36] [4],
 .ret]) (.skip)])]))],
 .reg [mv 4 (.str [])] [4],
 .ret]
theorem vm:am Tryz.prog Tryz.f39 [] [9999999] [[2,3],[2,3,11],[4],[3,5],[5,6],[5,6,21],[4],[5,6,23],[5,6,23],[5,6,23,24,25],[5,6,8,23],[5,6,8,23,32],[4],[4]] 2=some (mt,[.t 4]):=by kernel_rfl

abbrev jI:Nat:=64
theorem sn:Tryz.prog.funcs[64]?=some Tryz.f64:=Tryz.func64
def jR:AC:=
 Q [.reg [mb 4 false] [0,1,2],
 Q [.reg [l1 7 1,lq 8 7,mi 9 0] [0,1,2,7,8,9],
 .block 0 (.loop [0,1,2,7,8,9] (Q [.reg [bt 10 .lss 9 8] [0,1,2,7,8,9,10],
 C 10 (.skip) (.exit 0),
 .block 1 (Q [.reg [ia 11 7 9 1,l1 12 11,m 6 12] [0,1,2,6,7,8,9],
 Q [.reg [m 13 6,ca 14 62 [13],nt' 15 14,m 16 15,gt 16 (m 17 6),gt 16 (m 18 0),gt 16 (bt 19 .eql 17 18),pa 20 16 19] [0,1,2,6,7,8,9,20],
 C 20 (Q [.reg [mb 4 false] [1,2,4],
 .ret]) (.skip)],
 .reg [m 21 6,ca 22 62 [21],m 23 22,gt 23 (m 24 6),gt 23 (ls 25 24),gt 23 (l1 26 2),gt 23 (ls 27 26),gt 23 (bt 28 .gtr 25 27),pa 29 23 28,m 30 29,gt 30 (m 31 6),gt 30 (m 32 0),gt 30 (ca 33 65 [31,32]),pa 34 30 33] [0,1,2,7,8,9,34],
 C 34 (Q [.reg [mb 4 false] [1,2,4],
 .ret]) (.skip)]),
 .reg [bi 35 .add 9 1,m 9 35] [0,1,2,7,8,9]]))],
 .reg [mb 4 true] [1,2,4],
 .ret]
theorem si:am Tryz.prog Tryz.f64 [1,2] [9999999] [[0,1,2],[0,1,2,7,8,9],[0,1,2,7,8,9],[0,1,2,7,8,9,10],[0,1,2,6,7,8,9],[0,1,2,6,7,8,9,20],[1,2,4],[0,1,2,7,8,9,34],[1,2,4],[0,1,2,7,8,9],[1,2,4]] 3=some (jR,[.t 4]):=by kernel_rfl

abbrev nj:Nat:=63
theorem nI:Tryz.prog.funcs[63]?=some Tryz.f63:=Tryz.func63
def jx:AC:=
 Q [.reg [bx 4 0,bx 5 1,o1 8 (.alc [.str [],.str [],.str [],.str []])] [2,3,4,5,8],
 .reg [la 22 4 3,m 23 2,m 24 3,ca 25 111 [22,23,24],m 21 25,ex 26 21 0,ex 27 21 1,o1 9 (.alc [.int .i64 0,.nil 1,.str []]),st 3 9 26,m 10 27] [2,3,5,8,9,10],
 .reg [la 29 5 3,m 30 2,m 31 3,ca 32 111 [29,30,31],m 28 32,ex 33 28 0,ex 34 28 1,o1 11 (.alc [.int .i64 0,.nil 1,.str []]),st 3 11 33,m 12 34] [8,9,10,11,12],
 Q [.reg [m 35 10,m 36 35,gt 36 (m 37 12),pa 38 36 37] [8,9,10,11,12,38],
 C 38 (Q [.reg [la 39 9 3,la 40 11 3,ca 41 112 [39,40],st 4 8 41] [8],
 .ret]) (.skip)],
 .reg [ca 42 113 [],ca 43 113 [],o1 13 (.alc [.nil 1,.nil 1]),o1 14 (.alc [.nil 1,.nil 1]),st 2 13 42,st 2 14 43] [8,9,10,11,12,13,14],
 Q [.reg [m 44 10] [8,9,11,12,13,14,44],
 C 44 (.reg [la 45 9 3,ca 46 114 [45],st 2 13 46] [8,11,12,13,14]) (.skip)],
 Q [.reg [m 47 12] [8,11,13,14,47],
 C 47 (.reg [la 48 11 3,ca 49 114 [48],st 2 14 49] [8,13,14]) (.skip)],
 .reg [o1 15 (.alc [.str [],.str [],.str [],.str []])] [8,13,14,15],
 Q [.reg [mi 50 0] [8,13,14,15,50],
 .block 0 (.loop [8,13,14,15,50] (Q [.reg [bi 51 .lss 50 4] [8,13,14,15,50,51],
 C 51 (.skip) (.exit 0),
 .block 1 (Q [.reg [m 52 50,m 16 52] [8,13,14,15,16,50],
 .regF (OQ [la 53 13 2] (.both
 (OQ [la 54 14 2] (.both
 (OQ [o1 17 (.alc [.nil 1,.nil 1]),o1 18 (.alc [.nil 1,.nil 1]),st 2 17 53,st 2 18 54] .nil)
 (OQ [o1 18 (.alc [.nil 1,.nil 1]),o1 17 (.alc [.nil 1,.nil 1]),st 2 17 53,st 2 18 54] .nil)))
 ((.both
 (OQ [o1 17 (.alc [.nil 1,.nil 1])] (.both
 (OQ [la 54 14 2,o1 18 (.alc [.nil 1,.nil 1]),st 2 17 53,st 2 18 54] .nil)
 (OQ [o1 18 (.alc [.nil 1,.nil 1])] (.both
 (OQ [la 54 14 2,st 2 17 53,st 2 18 54] .nil)
 (OQ [st 2 17 53,la 54 14 2,st 2 18 54] .nil)))))
 (OQ [o1 18 (.alc [.nil 1,.nil 1])] (.both
 (OQ [la 54 14 2,o1 17 (.alc [.nil 1,.nil 1]),st 2 17 53,st 2 18 54] .nil)
 (OQ [o1 17 (.alc [.nil 1,.nil 1])] (.both
 (OQ [la 54 14 2,st 2 17 53,st 2 18 54] .nil)
 (OQ [st 2 17 53,la 54 14 2,st 2 18 54] .nil))))))))) [8,13,14,15,16,17,18,50],
 Q [.reg [m 55 16,bi 56 .geq 55 2] [8,13,14,15,16,17,18,50,56],
 C 56 (.reg [la 57 13 2,ca 58 115 [57],st 2 17 58] [8,13,14,15,16,17,18,50]) (.skip)],
 Q [.reg [m 59 16,bi 60 .rem 59 2,bi 61 .eql 60 1] [8,13,14,15,16,17,18,50,61],
 C 61 (.reg [la 62 14 2,ca 63 115 [62],st 2 18 63] [8,13,14,15,16,17,18,50]) (.skip)],
 .reg [la 65 17 2,la 66 18 2,ca 67 116 [65,66],m 64 67,ex 68 64 0,ex 69 64 1,m 19 68,m 20 69] [8,13,14,15,16,19,20,50],
 .reg [m 70 20] [8,13,14,15,16,19,50,70],
 C 70 (.reg [m 71 16,m 72 19,o1 73 (.bin .add (.v (.str [43])) (.t 72)),o1 74 (.iaa (.t 15) (.t 71) 4 1),st 1 74 73] [8,13,14,15,50]) (.skip)]),
 .reg [bi 75 .add 50 1,m 50 75] [8,13,14,15,50]]))],
 .reg [la 76 15 4,st 4 8 76] [8],
 .ret]
theorem nA:an Tryz.prog Tryz.f63 [[2,3,4,5,8],[2,3,5,8,9,10],[8,9,10,11,12],[8,9,10,11,12,38],[8],[8,9,10,11,12,13,14],[8,9,11,12,13,14,44],[8,11,12,13,14],[8,11,13,14,47],[8,13,14],[8,13,14,15],[8,13,14,15,50],[8,13,14,15,50],[8,13,14,15,50,51],[8,13,14,15,16,50],[1,0,0,0,0,13,31],[8,13,14,15,16,17,18,50],[8,13,14,15,16,17,18,50,56],[8,13,14,15,16,17,18,50],[8,13,14,15,16,17,18,50,61],[8,13,14,15,16,17,18,50],[8,13,14,15,16,19,20,50],[8,13,14,15,16,19,50,70],[8,13,14,15,50],[8,13,14,15,50],[8]] 4=some (jx,[.c 8 4 true]):=by kernel_rfl

abbrev Cc:Nat:=62
theorem C1:Tryz.prog.funcs[62]?=some Tryz.f62:=Tryz.func62
def sZ:AC:=
 Q [.reg [mb 2 false] [0],
 .reg [m 3 0,o1 4 (.call 110 [.t 3,.v (.str [42])]),m 2 4] [2],
 .ret]
theorem CH:an Tryz.prog Tryz.f62 [[0],[2]] 1=some (sZ,[.t 2]):=by kernel_rfl

abbrev yW:Nat:=61
theorem zS:Tryz.prog.funcs[61]?=some Tryz.f61:=Tryz.func61
def qo:AC:=
 Q [.reg [bx 2 0,o1 4 (.alc [.str [],.nil 1,.nil 5])] [1,2,4],
 .reg [la 8 2 3,m 9 1,ca 10 109 [8,9],m 7 10,ex 11 7 0,ex 12 7 1,o1 5 (.alc [.str [],.nil 1,.nil 5]),st 3 5 11,m 6 12] [4,5],
 .reg [la 13 5 3,st 3 4 13] [4],
 .ret]
theorem zt:an Tryz.prog Tryz.f61 [[1,2,4],[4,5],[4]] 2=some (qo,[.c 4 3 true]):=by kernel_rfl

abbrev Cb:Nat:=111
theorem C0:Tryz.prog.funcs[111]?=some Tryz.f111:=Tryz.func111
def sY:AC:=
 Q [.reg [bx 3 0,o1 6 (.alc [.int .i64 0,.nil 1,.str []]),mb 7 false] [1,2,3,6],
 .reg [la 12 3 3,m 13 1,ca 14 109 [12,13],m 11 14,ex 15 11 0,ex 16 11 1,o1 8 (.alc [.str [],.nil 1,.nil 5]),st 3 8 15,m 9 16] [2,6,8,9],
 Q [.reg [m 17 9,nt' 18 17] [2,6,8,18],
 C 18 (Q [.reg [o1 19 (.bld [.int .i64 0,.nil 1,.str []] []),st 3 6 19,mb 7 false] [6,7],
 .ret]) (.skip)],
 .reg [la 21 8 3,m 22 2,ca 23 150 [21,22],m 20 23,ex 24 20 0,ex 25 20 1,o1 10 (.alc [.str [],.int .i64 0,.nil 1,.str [],.bool false]),st 5 10 24,m 9 25] [6,9,10],
 .reg [fa 26 10 1,la 27 26 3,m 28 9,st 3 6 27,m 7 28] [6,7],
 .ret]
theorem CG:an Tryz.prog Tryz.f111 [[1,2,3,6],[2,6,8,9],[2,6,8,18],[6,7],[6,9,10],[6,7]] 3=some (sY,[.c 6 3 true,.t 7]):=by kernel_rfl

abbrev wS:Nat:=34
theorem xr:Tryz.prog.funcs[34]?=some Tryz.f34:=Tryz.func34
def n9:AC:=
 Q [.reg [bx 1 0,mv 2 (.nil 1)] [1],
 .reg [mv 3 (.nil 1)] [1,3],
 Q [.reg [fa 6 1 1,l1 7 6,lq 8 7,mi 9 0] [3,7,8,9],
 .block 0 (.loop [3,7,8,9] (Q [.reg [bt 10 .lss 9 8] [3,7,8,9,10],
 C 10 (.skip) (.exit 0),
 .block 1 (Q [.reg [ia 11 7 9 3,la 12 11 3,o1 5 (.alc [.str [],.nil 1,.nil 5]),st 3 5 12] [3,5,7,8,9],
 .reg [m 13 3,fa 14 5 0,l1 15 14,o1 16 (.lit 9 1 [.t 15]),o1 17 (.app (.t 13) (.t 16) 9 1 16),m 3 17] [3,7,8,9]]),
 .reg [bi 18 .add 9 1,m 9 18] [3,7,8,9]]))],
 .reg [m 19 3,ch 20 35 [19]] [3],
 .reg [m 21 3,m 2 21] [2],
 .ret]
theorem xe:am Tryz.prog Tryz.f34 [] [35] [[1],[1,3],[3,7,8,9],[3,7,8,9],[3,7,8,9,10],[3,5,7,8,9],[3,7,8,9],[3,7,8,9],[3],[2]] 1=some (n9,[.t 2]):=by kernel_rfl

abbrev fE:Nat:=33
theorem fJ:Tryz.prog.funcs[33]?=some Tryz.f33:=Tryz.func33
def cB:AC:=
 Q [.reg [mv 2 (.nil 1)] [0],
 .reg [mi 3 0] [0,3],
 Q [.reg [m 9 0,lq 10 9,mi 11 0] [0,3,9,10,11],
 .block 0 (.loop [0,3,9,10,11] (Q [.reg [bt 12 .lss 11 10] [0,3,9,10,11,12],
 C 12 (.skip) (.exit 0),
 .block 1 (Q [.reg [ia 13 9 11 1,l1 14 13,m 5 14] [0,3,5,9,10,11],
 .reg [m 15 3,m 16 5,lq 17 16,bt 18 .add 15 17,m 3 18] [0,3,9,10,11],
 .reg [m 19 3,bi 20 .lss 19 0] [0,3,9,10,11,20],
 C 20 (.reg [o1 21 (.mki 9 (.v (.str [108,101,110,32,111,117,116,32,111,102,32,114,97,110,103,101]))),o0 (.bad)] [0,3,9,10,11]) (.skip)]),
 .reg [bi 22 .add 11 1,m 11 22] [0,3,9,10,11]]))],
 .reg [m 23 3,o1 24 (.callH 58 [.v (.nil 1),.t 23]),m 6 24] [0,6],
 Q [.reg [m 25 0,lq 26 25,mi 27 0] [6,25,26,27],
 .block 2 (.loop [6,25,26,27] (Q [.reg [bt 28 .lss 27 26] [6,25,26,27,28],
 C 28 (.skip) (.exit 2),
 .block 3 (Q [.reg [ia 29 25 27 1,l1 30 29,m 8 30] [6,8,25,26,27],
 .reg [m 31 6,m 32 8,o1 33 (.app (.t 31) (.t 32) 9 1 16),m 6 33] [6,25,26,27]]),
 .reg [bi 34 .add 27 1,m 27 34] [6,25,26,27]]))],
 .reg [m 35 6,m 2 35] [2],
 .ret]
theorem fI:am Tryz.prog Tryz.f33 [] [58] [[0],[0,3],[0,3,9,10,11],[0,3,9,10,11],[0,3,9,10,11,12],[0,3,5,9,10,11],[0,3,9,10,11],[0,3,9,10,11,20],[0,3,9,10,11],[0,3,9,10,11],[0,6],[6,25,26,27],[6,25,26,27],[6,25,26,27,28],[6,8,25,26,27],[6,25,26,27],[6,25,26,27],[2]] 1=some (cB,[.t 2]):=by kernel_rfl

abbrev cX:Nat:=35
abbrev cj:Nat:=36
abbrev cY:Nat:=58
theorem vn:Tryz.prog.funcs[58]?=some Tryz.f58:=Tryz.func58
abbrev pd:Nat:=110
theorem pt:Tryz.prog.funcs[110]?=some Tryz.f110:=Tryz.func110
def g8:AC:=
 Q [.reg [mb 4 false] [0,1],
 .reg [m 5 0,m 6 1,ca 7 149 [5,6],m 4 7] [4],
 .ret]
theorem pj:an Tryz.prog Tryz.f110 [[0,1],[4]] 2=some (g8,[.t 4]):=by kernel_rfl

abbrev yP:Nat:=11
theorem zK:Tryz.prog.funcs[11]?=some Tryz.f11:=Tryz.func11
def qg:AC:=
 Q [.reg [mb 0 false] [],
 .reg [o1 3 (.lit 9 1 [.v (.str [105,100]),.v (.str [100,97,116,97,45,42])]),m 1 3] [1],
 .reg [o1 4 (.bld [.str [],.nil 1,.nil 5] [(0,1,(.v (.str [97])))]),o1 5 (.lit 59 3 [.t 4]),o1 6 (.bld [.nil 1,.nil 3,.nil 1] [(1,1,(.t 5))]),o1 2 (.alc [.nil 1,.nil 3,.nil 1]),st 3 2 6] [1,2],
 .reg [m 7 1,o1 8 (.call 39 [.t 7,.v (.str [105,100])]),bs 9 .eql 8 [105,100],m 10 9,gt 10 (m 11 1),gt 10 (o1 12 (.call 39 [.t 11,.v (.str [100,97,116,97,45,42])])),gt 10 (bs 13 .eql 12 [100,97,116,97,45]),pa 14 10 13,m 15 14,gt 15 (la 16 2 3),gt 15 (la 17 2 3),gt 15 (ca 18 10 [16,17]),gt 15 (lq 19 18),gt 15 (bi 20 .eql 19 3),pa 21 15 20,m 0 21] [0],
 .ret]
theorem zk:an Tryz.prog Tryz.f11 [[],[1],[1,2],[0]] 0=some (qg,[.t 0]):=by kernel_rfl

abbrev aV:Nat:=3
theorem dS:Tryz.prog.funcs[3]?=some Tryz.f3:=Tryz.func3
def hZ:AC:=
 Q [.reg [bx 2 0,bx 3 1,mb 4 false] [2,3],
 .reg [la 13 2 3,ca 14 9 [13],o1 5 (.alc [.nil 1,.nil 3,.nil 1]),st 3 5 14] [3,5],
 .reg [la 15 3 3,ca 16 9 [15],o1 6 (.alc [.nil 1,.nil 3,.nil 1]),st 3 6 16] [5,6],
 .reg [la 17 5 3,la 18 6 3,ca 19 10 [17,18],m 7 19] [5,6,7],
 .reg [la 20 6 3,la 21 5 3,ca 22 10 [20,21],m 8 22] [7,8],
 Q [.reg [m 23 7,lq 24 23,m 25 8,lq 26 25,bt 27 .neq 24 26] [7,8,27],
 C 27 (Q [.reg [mb 4 false] [4],
 .ret]) (.skip)],
 Q [.reg [mi 9 0] [7,8,9],
 .block 0 (.loop [7,8,9] (Q [Q [.reg [m 28 9,m 29 7,lq 30 29,bt 31 .lss 28 30] [7,8,9,31],
 C 31 (.skip) (.exit 0)],
 .block 1 (Q [.reg [mb 10 false] [7,8,9,10],
 Q [.reg [mi 11 0] [7,8,9,10,11],
 .block 2 (.loop [7,8,9,10,11] (Q [Q [.reg [m 34 11,m 35 8,lq 36 35,bt 37 .lss 34 36] [7,8,9,10,11,37],
 C 37 (.skip) (.exit 2)],
 .block 3 (Q [.reg [m 40 8,m 41 11,ia 42 40 41 7,la 43 42 7,o1 12 (.alc [.int .i64 0,.str [],.str [],.bool false,.str [],.bool false,.bool false]),st 7 12 43] [7,8,9,10,11,12],
 .reg [m 44 8,m 45 11,ia 46 44 45 7,fa 47 46 6,l1 48 47,fa 49 12 5,st 1 49 48] [7,8,9,10,11,12],
 .reg [m 50 8,m 51 11,ia 52 50 51 7,fa 53 52 5,l1 54 53,fa 55 12 6,st 1 55 54] [7,8,9,10,11,12],
 .regD [m 56 10,m 57 56,gf 57 (la 58 12 7),gf 57 (m 59 7),gf 57 (m 60 9),gf 57 (ia 61 59 60 7),gf 57 (la 62 61 7),gf 57 (o1 63 (.aeq false ⟨true,[.i .i64,.s,.s,.b,.s,.b,.b]⟩ (.t 58) (.t 62))),po 64 57 63,m 10 64] [7,8,9,10,11]]),
 .reg [m 38 11,bi 39 .add 38 1,m 11 39] [7,8,9,10,11]]))],
 .reg [m 65 10,nt' 66 65] [7,8,9,66],
 C 66 (Q [.reg [mb 4 false] [4],
 .ret]) (.skip)]),
 .reg [m 32 9,bi 33 .add 32 1,m 9 33] [7,8,9]]))],
 .reg [ca 67 11 [],m 4 67] [4],
 .ret]
theorem pp:an Tryz.prog Tryz.f3 [[2,3],[3,5],[5,6],[5,6,7],[7,8],[7,8,27],[4],[7,8,9],[7,8,9],[7,8,9,31],[7,8,9,10],[7,8,9,10,11],[7,8,9,10,11],[7,8,9,10,11,37],[7,8,9,10,11,12],[7,8,9,10,11,12],[7,8,9,10,11,12],[0,0,1,3,3,3,27,59,127,255,511],[0,1,2,3,4,5,6,7,8,9],[7,8,9,10,11],[7,8,9,10,11],[7,8,9,66],[4],[7,8,9],[4]] 2=some (hZ,[.t 4]):=by kernel_rfl

end Go.Abs
