/-
  The images of some of the program's functions, as the kernel reckons them. Made by program. No condition.
-/
import Derived.Test.YtloaikaippankaaGreatDoorTAbs14
import Derived.Test.YtloaikaippankaaGreatDoorProg
import Derived.KernelRfl
set_option linter.unusedVariables false
set_option linter.unusedSimpArgs false
set_option linter.unusedSectionVars false
set_option maxRecDepth 100000
namespace Go.Abs
open Go.Proofs

abbrev zs (n:Nat) (v:V):List V:=List.replicate n v
abbrev kz (n:Nat) (k:KK):List KK:=List.replicate n k
abbrev aw:Nat:=3
abbrev bw:Nat:=4
abbrev dk:Nat:=5
abbrev au:Nat:=9
abbrev d6:Nat:=22
abbrev gH:Nat:=23
abbrev bz:Nat:=25
abbrev ez:Nat:=30
abbrev rC:Nat:=34
abbrev aD:Nat:=48
abbrev kS:Nat:=57
abbrev bB:Nat:=59
abbrev rD:Nat:=73
abbrev uq:Nat:=75
abbrev ur:Nat:=83
abbrev c9:Nat:=93
abbrev dm:Nat:=95
abbrev gG:Nat:=192
abbrev bm:Nat:=227
abbrev jU:Nat:=242
abbrev b5:Nat:=245
abbrev bA:Nat:=249
abbrev cG:Nat:=260
abbrev fQ:Nat:=261
abbrev ry:Nat:=282
abbrev fC:Nat:=317
abbrev rB:Nat:=336
abbrev rz:Nat:=338
abbrev rA:Nat:=348
attribute [simp] fQ gH rD rC kS aD d6 bB ur c9 cG ez uq bz dm bw fC bA bm aw gG rB b5 jU rA rz ry au dk
abbrev Ec:Nat:=153
theorem Mf:Tryz.prog.funcs[153]?=some Tryz.f153:=Tryz.func153
def Fd:AC:=
 Q [.reg [bx 1 0,o1 2 (.alc [.nil 1,.nil 1]),mi 3 0] [1,2],
 Q [.reg [la 14 1 4,ca 15 183 [14],bi 16 .neq 15 0] [1,2,16],
 C 16 (Q [.reg [o1 17 (.bld [.nil 1,.nil 1] []),st 2 2 17,mi 3 1] [2,3],
 .ret]) (.skip)],
 .regF (OQ [la 18 1 4,ca 19 184 [18],la 20 1 4,ca 21 185 [20]] (.both
 (OQ [o1 4 (.alc [.nil 760]),o1 5 (.alc (zs 95 (.bool false))),st 1 4 19,st 95 5 21] .nil)
 (OQ [o1 5 (.alc (zs 95 (.bool false))),o1 4 (.alc [.nil 760]),st 1 4 19,st 95 5 21] .nil))) [1,2,4,5],
 .reg [o1 6 (.alc (zs 8 (.int .u64 0)))] [1,2,4,5,6],
 .reg [o1 22 (.mkf (.func 186) [] [.t 5,.t 4,.t 6]),m 7 22] [1,2,7],
 .reg [la 24 1 4,fa 25 1 1,l1 26 25,o1 27 (.lit 3 1 [.t 26]),ca 28 190 [24,27],ca 29 189 [28],m 30 7,o1 31 (.callH 188 [.t 29,.t 30,.v (.int .i64 500)]),m 23 31,ex 32 23 0,ex 33 23 1,ex 34 23 2,m 8 32,m 9 33,m 10 34] [1,2,8,9,10],
 Q [.reg [m 35 10,nt' 36 35] [1,2,8,9,36],
 C 36 (Q [.reg [o1 37 (.bld [.nil 1,.nil 1] []),st 2 2 37,mi 3 3] [2,3],
 .ret]) (.skip)],
 .reg [m 38 8,lq 39 38,o1 40 (.mks 4 1 1 (.bool false) (.t 39)),m 11 40] [1,2,8,9,11],
 Q [.reg [m 41 8,lq 42 41,mi 43 0] [1,2,9,11,41,42,43],
 .block 0 (.loop [1,2,9,11,41,42,43] (Q [.reg [bt 44 .lss 43 42] [1,2,9,11,41,42,43,44],
 C 44 (.skip) (.exit 0),
 .block 1 (Q [.reg [m 45 43,ia 46 41 43 8,la 47 46 8,o1 13 (.alc (zs 8 (.int .u64 0))),m 12 45,st 8 13 47] [1,2,9,11,12,13,41,42,43],
 .reg [m 48 11,m 49 12,la 50 13 8,fa 51 1 2,l1 52 51,ca 53 191 [50,52],ia 54 48 49 1,st 1 54 53] [1,2,9,11,41,42,43]]),
 .reg [bi 55 .add 43 1,m 43 55] [1,2,9,11,41,42,43]]))],
 .reg [m 56 9,m 57 11,ca 58 192 [56,57],st 2 2 58,mi 3 0] [2,3],
 .ret]
theorem L8:am Tryz.prog Tryz.f153 [] [214,155,198,249,269,270,277,292,291,197,317,322,318,323,320,321,319,216,253,219,255,252,218,254,251,186,188,223,224,226,231,233,199,200,234,201,260] [[1,2],[1,2,16],[2,3],[1,0,1,0,7,0,0,63,127],[1,2,4,5],[1,2,4,5,6],[1,2,7],[1,2,8,9,10],[1,2,8,9,36],[2,3],[1,2,8,9,11],[1,2,9,11,41,42,43],[1,2,9,11,41,42,43],[1,2,9,11,41,42,43,44],[1,2,9,11,12,13,41,42,43],[1,2,9,11,41,42,43],[1,2,9,11,41,42,43],[2,3]] 1=some (Fd,[.c 2 2 true,.t 3]):=by kernel_rfl

abbrev tA:Nat:=156
theorem Jz:Tryz.prog.funcs[156]?=some Tryz.f156:=Tryz.func156
def Bq:AC:=
 Q [.reg [bx 1 0,mi 2 0] [1],
 .reg [fa 8 1 0,l1 9 8,lq 10 9,m 3 10] [1,3],
 Q [.reg [m 11 3,bi 12 .lss 11 1,m 13 12,gf 13 (m 14 3),gf 13 (bi 15 .gtr 14 500),po 16 13 15,m 17 16,gf 17 (fa 18 1 1),gf 17 (l1 19 18),gf 17 (lq 20 19),gf 17 (m 21 3),gf 17 (bt 22 .neq 20 21),po 23 17 22] [1,3,23],
 C 23 (Q [.reg [mi 2 1] [2],
 .ret]) (.skip)],
 Q [.reg [fa 24 1 0,l1 25 24,lq 26 25,mi 27 0] [3,25,26,27],
 .block 0 (.loop [3,25,26,27] (Q [.reg [bt 28 .lss 27 26] [3,25,26,27,28],
 C 28 (.skip) (.exit 0),
 .block 1 (Q [.reg [ia 29 25 27 1,l1 30 29,m 5 30] [3,5,25,26,27],
 Q [.reg [m 31 5,lq 32 31,bi 33 .neq 32 95] [3,5,25,26,27,33],
 C 33 (Q [.reg [mi 2 1] [2],
 .ret]) (.skip)],
 .reg [m 34 5,lq 35 34,mi 36 0] [3,25,26,27,34,35,36],
 .block 2 (.loop [3,25,26,27,34,35,36] (Q [.reg [bt 37 .lss 36 35] [3,25,26,27,34,35,36,37],
 C 37 (.skip) (.exit 2),
 .block 3 (Q [.reg [ia 38 34 36 1,l1 39 38,m 7 39] [3,7,25,26,27,34,35,36],
 .reg [m 40 7,bi 41 .lss 40 0,m 42 41,gf 42 (m 43 7),gf 42 (m 44 3),gf 42 (bt 45 .geq 43 44),po 46 42 45] [3,25,26,27,34,35,36,46],
 C 46 (Q [.reg [mi 2 1] [2],
 .ret]) (.skip)]),
 .reg [bi 47 .add 36 1,m 36 47] [3,25,26,27,34,35,36]]))]),
 .reg [bi 48 .add 27 1,m 27 48] [3,25,26,27]]))],
 .reg [mi 2 0] [2],
 .ret]
theorem Jv:an Tryz.prog Tryz.f156 [[1],[1,3],[1,3,23],[2],[3,25,26,27],[3,25,26,27],[3,25,26,27,28],[3,5,25,26,27],[3,5,25,26,27,33],[2],[3,25,26,27,34,35,36],[3,25,26,27,34,35,36],[3,25,26,27,34,35,36,37],[3,7,25,26,27,34,35,36],[3,25,26,27,34,35,36,46],[2],[3,25,26,27,34,35,36],[3,25,26,27],[2]] 1=some (Bq,[.t 2]):=by kernel_rfl

abbrev nd:Nat:=256
theorem nD:Tryz.prog.funcs[256]?=some Tryz.f256:=Tryz.func256
def jl:AC:=
 Q [.reg [mv 2 (.niliface)] [0],
 Q [.reg [m 3 0,lq 4 3] [0,4],
 .block 0 (Q [.reg [bi 6 .eql 4 0,m 5 6] [0,4,5],
 C 5 (Q [.reg [o1 7 (.bld (zs 95 (.bool false)) []),o1 8 (.mki 282 (.t 7)),m 2 8] [2],
 .ret]) (Q [.reg [bi 10 .eql 4 1,m 9 10] [0,9],
 C 9 (Q [.reg [m 11 0,o1 12 (.ia (.t 11) (.v (.int .i64 0)) 1),l1 13 12,m 2 13] [2],
 .ret]) (.skip)])])],
 .reg [m 14 0,o1 15 (.bld [.nil 1] [(0,1,(.t 14))]),o1 16 (.mki 336 (.t 15)),m 2 16] [2],
 .ret]
theorem nr:an Tryz.prog Tryz.f256 [[0],[0,4],[0,4,5],[2],[0,9],[2],[2]] 1=some (jl,[.t 2]):=by kernel_rfl

abbrev uD:Nat:=259
theorem uN:Tryz.prog.funcs[259]?=some Tryz.f259:=Tryz.func259
def n5:AC:=
 Q [.reg [mv 2 (.niliface)] [0],
 Q [.reg [m 3 0,lq 4 3,bi 5 .eql 4 1] [0,5],
 C 5 (Q [.reg [m 6 0,o1 7 (.ia (.t 6) (.v (.int .i64 0)) 1),l1 8 7,m 2 8] [2],
 .ret]) (.skip)],
 .reg [m 9 0,o1 10 (.bld [.nil 1] [(0,1,(.t 9))]),o1 11 (.mki 338 (.t 10)),m 2 11] [2],
 .ret]
theorem uM:an Tryz.prog Tryz.f259 [[0],[0,5],[2],[2]] 1=some (n5,[.t 2]):=by kernel_rfl

abbrev yD:Nat:=290
theorem zw:Tryz.prog.funcs[290]?=some Tryz.f290:=Tryz.func290
def p6:AC:=
 Q [.reg [o1 0 (.alc (zs 95 (.bool false)))] [0],
 .reg [o1 1 (.bld (zs 95 (.bool false)) []),ca 2 296 [1],st 95 0 2] [0],
 .ret]
theorem y5:an Tryz.prog Tryz.f290 [[0],[0]] 0=some (p6,[.c 0 95 true]):=by kernel_rfl

abbrev nb:Nat:=272
theorem nB:Tryz.prog.funcs[272]?=some Tryz.f272:=Tryz.func272
def ji:AC:=
 Q [.reg [o1 2 (.alc (zs 95 (.bool false)))] [0,2],
 .reg [o1 3 (.alc (zs 95 (.bool false)))] [0,2,3],
 .reg [m 4 0,bu 5 .sub 4 32,o1 6 (.iaa (.t 3) (.t 5) 95 1),o0 (.st 1 (.t 6) (.v (.bool true)))] [2,3],
 .reg [la 7 3 95,st 95 2 7] [2],
 .ret]
theorem np:an Tryz.prog Tryz.f272 [[0,2],[0,2,3],[2,3],[2]] 1=some (ji,[.c 2 95 true]):=by kernel_rfl

abbrev rZ:Nat:=296
theorem sj:Tryz.prog.funcs[296]?=some Tryz.f296:=Tryz.func296
def jP:AC:=
 Q [.reg [bx 1 0,o1 2 (.alc (zs 95 (.bool false)))] [1,2],
 Q [.reg [mi 4 0] [1,2,4],
 .block 0 (.loop [1,2,4] (Q [.reg [bi 5 .lss 4 95] [1,2,4,5],
 C 5 (.skip) (.exit 0),
 .block 1 (Q [.reg [m 6 4,m 3 6] [1,2,3,4],
 .reg [m 7 3,m 8 3,o1 9 (.iaa (.t 1) (.t 8) 95 1),l1 10 9,nt' 11 10,o1 12 (.iaa (.t 1) (.t 7) 95 1),st 1 12 11] [1,2,4]]),
 .reg [bi 13 .add 4 1,m 4 13] [1,2,4]]))],
 .reg [la 14 1 95,st 95 2 14] [2],
 .ret]
theorem sg:an Tryz.prog Tryz.f296 [[1,2],[1,2,4],[1,2,4],[1,2,4,5],[1,2,3,4],[1,2,4],[1,2,4],[2]] 1=some (jP,[.c 2 95 true]):=by kernel_rfl

abbrev nc:Nat:=271
theorem nC:Tryz.prog.funcs[271]?=some Tryz.f271:=Tryz.func271
def jj:AC:=
 Q [.reg [mb 2 false] [0],
 .reg [m 3 0,o1 4 (.bin .leq (.v (.int .u8 32)) (.t 3)),m 5 4,gt 5 (m 6 0),gt 5 (bu 7 .leq 6 126),pa 8 5 7,m 2 8] [2],
 .ret]
theorem nq:an Tryz.prog Tryz.f271 [[0],[2]] 1=some (jj,[.t 2]):=by kernel_rfl

abbrev I3:Nat:=183
theorem Jx:Tryz.prog.funcs[183]?=some Tryz.f183:=Tryz.func183
def Bp:AC:=
 Q [.reg [bx 1 0,mi 2 0] [1],
 Q [.reg [fa 5 1 0,l1 6 5,bi 7 .lss 6 1,m 8 7,gf 8 (fa 9 1 0),gf 8 (l1 10 9),gf 8 (bi 11 .gtr 10 500),po 12 8 11,m 13 12,gf 13 (la 14 1 4),gf 13 (fa 15 1 1),gf 13 (l1 16 15),gf 13 (ca 17 215 [14,16]),gf 13 (nt' 18 17),po 19 13 18,m 20 19,gf 20 (la 21 1 4),gf 20 (fa 22 1 2),gf 20 (l1 23 22),gf 20 (ca 24 215 [21,23]),gf 20 (nt' 25 24),po 26 20 25] [1,26],
 C 26 (Q [.reg [mi 2 1] [2],
 .ret]) (.skip)],
 Q [.reg [fa 27 1 3,l1 28 27,lq 29 28,mi 30 0] [1,28,29,30],
 .block 0 (.loop [1,28,29,30] (Q [.reg [bt 31 .lss 30 29] [1,28,29,30,31],
 C 31 (.skip) (.exit 0),
 .block 1 (Q [.reg [ia 32 28 30 4,la 33 32 4,o1 4 (.alc [.int .i64 0,.int .i64 0,.int .u8 0,.int .u8 0]),st 4 4 33] [1,4,28,29,30],
 .reg [la 34 1 4,fa 35 4 0,l1 36 35,ca 37 215 [34,36],nt' 38 37,m 39 38,gf 39 (la 40 1 4),gf 39 (fa 41 4 1),gf 39 (l1 42 41),gf 39 (ca 43 215 [40,42]),gf 39 (nt' 44 43),po 45 39 44] [1,28,29,30,45],
 C 45 (Q [.reg [mi 2 1] [2],
 .ret]) (.skip)]),
 .reg [bi 46 .add 30 1,m 30 46] [1,28,29,30]]))],
 .reg [mi 2 0] [2],
 .ret]
theorem Ju:an Tryz.prog Tryz.f183 [[1],[1,26],[2],[1,28,29,30],[1,28,29,30],[1,28,29,30,31],[1,4,28,29,30],[1,28,29,30,45],[2],[1,28,29,30],[2]] 1=some (Bp,[.t 2]):=by kernel_rfl

abbrev pJ:Nat:=215
theorem zI:Tryz.prog.funcs[215]?=some Tryz.f215:=Tryz.func215
def qe:AC:=
 Q [.reg [bx 2 0,mb 4 false] [1,2],
 .reg [m 5 1,o1 6 (.bin .leq (.v (.int .i64 0)) (.t 5)),m 7 6,gt 7 (m 8 1),gt 7 (fa 9 2 0),gt 7 (l1 10 9),gt 7 (bt 11 .lss 8 10),pa 12 7 11,m 4 12] [4],
 .ret]
theorem zi:an Tryz.prog Tryz.f215 [[1,2],[4]] 2=some (qe,[.t 4]):=by kernel_rfl

abbrev r5:Nat:=190
theorem CR:Tryz.prog.funcs[190]?=some Tryz.f190:=Tryz.func190
def sP:AC:=
 Q [.reg [bx 2 0,mv 4 (.nil 1)] [1,2],
 Q [.reg [la 5 2 4,ca 6 183 [5],bi 7 .neq 6 0] [1,2,7],
 C 7 (Q [.reg [mv 4 (.nil 1)] [4],
 .ret]) (.skip)],
 .reg [la 8 2 4,m 9 1,o1 10 (.call 221 [.t 8,.t 9,.v (.fn (.func 222) [] [])]),ca 11 220 [10],m 4 11] [4],
 .ret]
theorem Cx:an Tryz.prog Tryz.f190 [[1,2],[1,2,7],[4],[4]] 2=some (sP,[.t 4]):=by kernel_rfl

abbrev yN:Nat:=221
theorem zH:Tryz.prog.funcs[221]?=some Tryz.f221:=Tryz.func221
def qd:AC:=
 Q [.reg [bx 3 0,mv 6 (.nil 1)] [1,2,3],
 .reg [fa 11 3 0,l1 12 11,o1 13 (.mks 4 1 1 (.bool false) (.t 12)),m 7 13] [1,2,3,7],
 .reg [mv 8 (.nil 1)] [1,2,3,7,8],
 Q [.reg [m 14 1,lq 15 14,mi 16 0] [2,3,7,8,14,15,16],
 .block 0 (.loop [2,3,7,8,14,15,16] (Q [.reg [bt 17 .lss 16 15] [2,3,7,8,14,15,16,17],
 C 17 (.skip) (.exit 0),
 .block 1 (Q [.reg [ia 18 14 16 1,l1 19 18,m 10 19] [2,3,7,8,10,14,15,16],
 .reg [la 20 3 4,m 21 10,ca 22 215 [20,21],m 23 22,gt 23 (m 24 7),gt 23 (m 25 10),gt 23 (ia 26 24 25 1),gt 23 (l1 27 26),gt 23 (nt' 28 27),pa 29 23 28] [2,3,7,8,10,14,15,16,29],
 C 29 (Q [.reg [m 30 7,m 31 10,ia 32 30 31 1,o0 (.st 1 (.t 32) (.v (.bool true)))] [2,3,7,8,10,14,15,16],
 .reg [m 33 8,m 34 10,o1 35 (.lit 3 1 [.t 34]),o1 36 (.app (.t 33) (.t 35) 3 1 8),m 8 36] [2,3,7,8,14,15,16]]) (.skip)]),
 .reg [bi 37 .add 16 1,m 16 37] [2,3,7,8,14,15,16]]))],
 .reg [la 38 3 4,m 39 2,ca 40 250 [38,39],m 41 7,m 42 8,ch 43 251 [40,41,42]] [7],
 .reg [m 44 7,m 6 44] [6],
 .ret]
theorem zh:am Tryz.prog Tryz.f221 [] [214,155,198,249,269,270,277,292,291,197,317,322,318,323,320,321,319,216,253,219,255,252,218,254,251,186,188,223,224,226,231,233,199,200,234,201,260] [[1,2,3],[1,2,3,7],[1,2,3,7,8],[2,3,7,8,14,15,16],[2,3,7,8,14,15,16],[2,3,7,8,14,15,16,17],[2,3,7,8,10,14,15,16],[2,3,7,8,10,14,15,16,29],[2,3,7,8,10,14,15,16],[2,3,7,8,14,15,16],[2,3,7,8,14,15,16],[7],[6]] 3=some (qd,[.t 6]):=by kernel_rfl

abbrev yO:Nat:=250
theorem zJ:Tryz.prog.funcs[250]?=some Tryz.f250:=Tryz.func250
def qf:AC:=
 Q [.reg [bx 2 0,o1 4 (.alc [.nil 4,.nil 1,.nil 1])] [1,2,4],
 .regF (OQ [fa 8 2 3,l1 9 8,fa 10 2 0,l1 11 10,fa 13 2 3,l1 14 13,lq 15 14] (.both
 (OQ [o1 12 (.mks 3 1 8 (.int .i64 0) (.t 11))] (.both
 (OQ [o1 16 (.mks 3 1 8 (.int .i64 0) (.t 15)),o1 17 (.bld [.nil 4,.nil 1,.nil 1] [(0,1,(.t 9)),(1,1,(.t 12)),(2,1,(.t 16))]),o1 5 (.alc [.nil 4,.nil 1,.nil 1]),st 3 5 17] .nil)
 (OQ [o1 5 (.alc [.nil 4,.nil 1,.nil 1]),o1 16 (.mks 3 1 8 (.int .i64 0) (.t 15)),o1 17 (.bld [.nil 4,.nil 1,.nil 1] [(0,1,(.t 9)),(1,1,(.t 12)),(2,1,(.t 16))]),st 3 5 17] .nil)))
 ((.both
 (OQ [o1 16 (.mks 3 1 8 (.int .i64 0) (.t 15))] (.both
 (OQ [o1 12 (.mks 3 1 8 (.int .i64 0) (.t 11)),o1 17 (.bld [.nil 4,.nil 1,.nil 1] [(0,1,(.t 9)),(1,1,(.t 12)),(2,1,(.t 16))]),o1 5 (.alc [.nil 4,.nil 1,.nil 1]),st 3 5 17] .nil)
 (OQ [o1 5 (.alc [.nil 4,.nil 1,.nil 1]),o1 12 (.mks 3 1 8 (.int .i64 0) (.t 11)),o1 17 (.bld [.nil 4,.nil 1,.nil 1] [(0,1,(.t 9)),(1,1,(.t 12)),(2,1,(.t 16))]),st 3 5 17] .nil)))
 (OQ [o1 5 (.alc [.nil 4,.nil 1,.nil 1])] (.both
 (OQ [o1 12 (.mks 3 1 8 (.int .i64 0) (.t 11)),o1 16 (.mks 3 1 8 (.int .i64 0) (.t 15)),o1 17 (.bld [.nil 4,.nil 1,.nil 1] [(0,1,(.t 9)),(1,1,(.t 12)),(2,1,(.t 16))]),st 3 5 17] .nil)
 (OQ [o1 16 (.mks 3 1 8 (.int .i64 0) (.t 15)),o1 12 (.mks 3 1 8 (.int .i64 0) (.t 11)),o1 17 (.bld [.nil 4,.nil 1,.nil 1] [(0,1,(.t 9)),(1,1,(.t 12)),(2,1,(.t 16))]),st 3 5 17] .nil))))))) [1,2,4,5],
 Q [.reg [fa 18 2 3,l1 19 18,lq 20 19,mi 21 0] [1,4,5,19,20,21],
 .block 0 (.loop [1,4,5,19,20,21] (Q [.reg [bt 22 .lss 21 20] [1,4,5,19,20,21,22],
 C 22 (.skip) (.exit 0),
 .block 1 (Q [.reg [m 23 21,ia 24 19 21 4,la 25 24 4,o1 7 (.alc [.int .i64 0,.int .i64 0,.int .u8 0,.int .u8 0]),m 6 23,st 4 7 25] [1,4,5,6,7,19,20,21],
 .reg [m 26 1,la 27 7 4,cv 28 26 [27]] [1,4,5,6,7,19,20,21,28],
 C 28 (Q [.regD [fa 29 5 2,l1 30 29,m 31 6,fa 32 5 1,l1 33 32,fa 34 7 0,l1 35 34,ia 36 33 35 1,l1 37 36,ia 38 30 31 1,st 1 38 37] [1,4,5,6,7,19,20,21],
 .reg [fa 39 5 1,l1 40 39,fa 41 7 0,l1 42 41,m 43 6,bi 44 .add 43 1,ia 45 40 42 1,st 1 45 44] [1,4,5,19,20,21]]) (.skip)]),
 .reg [bi 46 .add 21 1,m 21 46] [1,4,5,19,20,21]]))],
 .reg [la 47 5 3,st 3 4 47] [4],
 .ret]
theorem zj:an Tryz.prog Tryz.f250 [[1,2,4],[1,0,1,0,4,12,0,32,96,224,511,0,2047],[1,2,4,5],[1,4,5,19,20,21],[1,4,5,19,20,21],[1,4,5,19,20,21,22],[1,4,5,6,7,19,20,21],[1,4,5,6,7,19,20,21,28],[0,0,1,0,0,8,0,32,120,248,511,1023],[0,1,2,3,4,5,6,7,8,9,10],[1,4,5,6,7,19,20,21],[1,4,5,19,20,21],[1,4,5,19,20,21],[4]] 2=some (qf,[.c 4 3 true]):=by kernel_rfl

abbrev fF:Nat:=222
theorem Gv:Tryz.prog.funcs[222]?=some Tryz.f222:=Tryz.func222
def yf:AC:=
 Q [.reg [bx 1 0,mb 2 false] [1],
 .reg [fa 3 1 2,l1 4 3,fa 5 1 3,l1 6 5,bt 7 .gtr 4 6,m 2 7] [2],
 .ret]
theorem Gn:an Tryz.prog Tryz.f222 [[1],[2]] 1=some (yf,[.t 2]):=by kernel_rfl

abbrev B6:Nat:=220
theorem CQ:Tryz.prog.funcs[220]?=some Tryz.f220:=Tryz.func220
def sO:AC:=
 Q [.reg [mv 2 (.nil 1)] [0],
 .reg [mv 3 (.nil 1)] [0,3],
 Q [.reg [m 6 0,lq 7 6,mi 8 0] [3,6,7,8],
 .block 0 (.loop [3,6,7,8] (Q [.reg [bt 9 .lss 8 7] [3,6,7,8,9],
 C 9 (.skip) (.exit 0),
 .block 1 (Q [.reg [m 10 8,ia 11 6 8 1,l1 12 11,m 4 10,m 5 12] [3,4,5,6,7,8],
 .reg [m 13 5] [3,4,6,7,8,13],
 C 13 (.reg [m 14 3,m 15 4,o1 16 (.lit 3 1 [.t 15]),o1 17 (.app (.t 14) (.t 16) 3 1 8),m 3 17] [3,6,7,8]) (.skip)]),
 .reg [bi 18 .add 8 1,m 8 18] [3,6,7,8]]))],
 .reg [m 19 3,m 2 19] [2],
 .ret]
theorem Cw:an Tryz.prog Tryz.f220 [[0],[0,3],[3,6,7,8],[3,6,7,8],[3,6,7,8,9],[3,4,5,6,7,8],[3,4,6,7,8,13],[3,6,7,8],[3,6,7,8],[2]] 1=some (sO,[.t 2]):=by kernel_rfl

abbrev Eb:Nat:=189
theorem EF:Tryz.prog.funcs[189]?=some Tryz.f189:=Tryz.func189
def u2:AC:=
 Q [.reg [o1 2 (.alc (zs 8 (.int .u64 0)))] [0,2],
 .reg [o1 3 (.alc (zs 8 (.int .u64 0)))] [0,2,3],
 Q [.reg [m 6 0,lq 7 6,mi 8 0] [2,3,6,7,8],
 .block 0 (.loop [2,3,6,7,8] (Q [.reg [bt 9 .lss 8 7] [2,3,6,7,8,9],
 C 9 (.skip) (.exit 0),
 .block 1 (Q [.reg [ia 10 6 8 1,l1 11 10,m 5 11] [2,3,5,6,7,8],
 .regD [m 12 5,bi 13 .quo 12 64,o1 14 (.iaa (.t 3) (.t 13) 8 1),l1 15 14,m 16 5,bi 17 .rem 16 64,o1 18 (.bin .shl (.v (.int .u64 1)) (.t 17)),bt 19 .or 15 18,o1 20 (.iaa (.t 3) (.t 13) 8 1),st 1 20 19] [2,3,6,7,8]]),
 .reg [bi 21 .add 8 1,m 8 21] [2,3,6,7,8]]))],
 .reg [la 22 3 8,st 8 2 22] [2],
 .ret]
theorem Ey:an Tryz.prog Tryz.f189 [[0,2],[0,2,3],[2,3,6,7,8],[2,3,6,7,8],[2,3,6,7,8,9],[2,3,5,6,7,8],[0,0,1,3,7,0,16,48,127,255,511],[0,1,2,3,4,5,6,7,8,9],[2,3,6,7,8],[2,3,6,7,8],[2]] 1=some (u2,[.c 2 8 true]):=by kernel_rfl

abbrev yT:Nat:=191
theorem zP:Tryz.prog.funcs[191]?=some Tryz.f191:=Tryz.func191
def ql:AC:=
 Q [.reg [bx 2 0,mb 4 false] [1,2],
 .regD [m 5 1,bi 6 .quo 5 64,o1 7 (.iaa (.t 2) (.t 6) 8 1),l1 8 7,m 9 1,bi 10 .rem 9 64,o1 11 (.bin .shl (.v (.int .u64 1)) (.t 10)),bt 12 .and 8 11,o1 13 (.bin .neq (.t 12) (.v (.int .u64 0))),m 4 13] [4],
 .ret]
theorem zp:an Tryz.prog Tryz.f191 [[1,2],[0,0,1,3,7,0,16,48,127,255,511],[0,1,2,3,4,5,6,7,8,9],[4]] 2=some (ql,[.t 4]):=by kernel_rfl

abbrev yS:Nat:=184
theorem zO:Tryz.prog.funcs[184]?=some Tryz.f184:=Tryz.func184
def qk:AC:=
 Q [.reg [bx 1 0,mv 2 (.nil 760)] [1],
 .reg [fa 9 1 0,l1 10 9,o1 11 (.mks 227 8 64 (.strct (zs 8 (.int .u64 0))) (.t 10)),m 3 11] [1,3],
 Q [.reg [m 12 3,lq 13 12,mi 14 0] [1,3,13,14],
 .block 0 (.loop [1,3,13,14] (Q [.reg [bt 15 .lss 14 13] [1,3,13,14,15],
 C 15 (.skip) (.exit 0),
 .block 1 (Q [.reg [m 16 14,m 4 16] [1,3,4,13,14],
 .reg [m 17 3,m 18 4,la 19 1 4,m 20 4,o1 21 (.lit 3 1 [.t 20]),ca 22 190 [19,21],ca 23 189 [22],ia 24 17 18 8,st 8 24 23] [1,3,13,14]]),
 .reg [bi 25 .add 14 1,m 14 25] [1,3,13,14]]))],
 .reg [fa 26 1 0,l1 27 26,o1 28 (.mks 261 760 6080 (.strct (zs 760 (.int .u64 0))) (.t 27)),m 5 28] [1,3,5],
 Q [.reg [fa 29 1 3,l1 30 29,lq 31 30,mi 32 0] [3,5,30,31,32],
 .block 2 (.loop [3,5,30,31,32] (Q [.reg [bt 33 .lss 32 31] [3,5,30,31,32,33],
 C 33 (.skip) (.exit 2),
 .block 3 (Q [.reg [ia 34 30 32 4,la 35 34 4,o1 7 (.alc [.int .i64 0,.int .i64 0,.int .u8 0,.int .u8 0]),st 4 7 35] [3,5,7,30,31,32],
 .reg [fa 36 7 2,l1 37 36,o1 38 (.cii .i64 (.t 37)),o1 39 (.mm true (.t 38) (.v (.int .i64 32))),m 8 39] [3,5,7,8,30,31,32],
 .block 4 (.loop [3,5,7,8,30,31,32] (Q [Q [.reg [m 40 8,fa 41 7 3,l1 42 41,o1 43 (.cii .i64 (.t 42)),o1 44 (.mm false (.t 43) (.v (.int .i64 126))),bt 45 .leq 40 44] [3,5,7,8,30,31,32,45],
 C 45 (.skip) (.exit 4)],
 .block 5 (.regD [m 48 5,fa 49 7 0,l1 50 49,m 51 8,bi 52 .sub 51 32,ia 53 48 50 760,o1 54 (.iaa (.t 53) (.t 52) 95 8),m 55 3,fa 56 7 1,l1 57 56,ia 58 55 57 8,ch 59 216 [54,58]] [3,5,7,8,30,31,32]),
 .reg [m 46 8,bi 47 .add 46 1,m 8 47] [3,5,7,8,30,31,32]]))]),
 .reg [bi 60 .add 32 1,m 32 60] [3,5,30,31,32]]))],
 .reg [m 61 5,m 2 61] [2],
 .ret]
theorem zo:am Tryz.prog Tryz.f184 [] [214,155,198,249,269,270,277,292,291,197,317,322,318,323,320,321,319,216,253,219,255,252,218,254,251,186,188,223,224,226,231,233,199,200,234,201,260] [[1],[1,3],[1,3,13,14],[1,3,13,14],[1,3,13,14,15],[1,3,4,13,14],[1,3,13,14],[1,3,13,14],[1,3,5],[3,5,30,31,32],[3,5,30,31,32],[3,5,30,31,32,33],[3,5,7,30,31,32],[3,5,7,8,30,31,32],[3,5,7,8,30,31,32],[3,5,7,8,30,31,32,45],[0,0,0,2,0,8,7,63,0,0,256,896,2047],[0,1,2,3,4,5,6,7,8,9,10,11],[3,5,7,8,30,31,32],[3,5,7,8,30,31,32],[3,5,30,31,32],[2]] 1=some (qk,[.t 2]):=by kernel_rfl

abbrev yV:Nat:=185
theorem zR:Tryz.prog.funcs[185]?=some Tryz.f185:=Tryz.func185
def qn:AC:=
 Q [.reg [bx 1 0,o1 2 (.alc (zs 95 (.bool false)))] [1,2],
 .reg [o1 3 (.alc (zs 95 (.bool false)))] [1,2,3],
 .reg [o1 8 (.iaa (.t 3) (.v (.int .i64 0)) 95 1),o0 (.st 1 (.t 8) (.v (.bool true)))] [1,2,3],
 Q [.reg [fa 9 1 3,l1 10 9,lq 11 10,mi 12 0] [2,3,10,11,12],
 .block 0 (.loop [2,3,10,11,12] (Q [.reg [bt 13 .lss 12 11] [2,3,10,11,12,13],
 C 13 (.skip) (.exit 0),
 .block 1 (Q [.reg [ia 14 10 12 4,la 15 14 4,o1 5 (.alc [.int .i64 0,.int .i64 0,.int .u8 0,.int .u8 0]),st 4 5 15] [2,3,5,10,11,12],
 .regD [fa 16 5 2,l1 17 16,o1 18 (.cii .i64 (.t 17)),o1 19 (.mm true (.t 18) (.v (.int .i64 32))),fa 20 5 3,l1 21 20,o1 22 (.cii .i64 (.t 21)),o1 23 (.mm false (.t 22) (.v (.int .i64 126))),m 6 19,m 7 23] [2,3,6,7,10,11,12],
 Q [.reg [m 24 6,m 25 7,bt 26 .gtr 24 25] [2,3,6,7,10,11,12,26],
 C 26 (.exit 1) (.skip)],
 .reg [m 27 6,bi 28 .sub 27 32,o1 29 (.iaa (.t 3) (.t 28) 95 1),o0 (.st 1 (.t 29) (.v (.bool true)))] [2,3,7,10,11,12],
 .reg [m 30 7,bi 31 .lss 30 126] [2,3,7,10,11,12,31],
 C 31 (.reg [m 32 7,bi 33 .add 32 1,bi 34 .sub 33 32,o1 35 (.iaa (.t 3) (.t 34) 95 1),o0 (.st 1 (.t 35) (.v (.bool true)))] [2,3,10,11,12]) (.skip)]),
 .reg [bi 36 .add 12 1,m 12 36] [2,3,10,11,12]]))],
 .reg [la 37 3 95,st 95 2 37] [2],
 .ret]
theorem zr:an Tryz.prog Tryz.f185 [[1,2],[1,2,3],[1,2,3],[2,3,10,11,12],[2,3,10,11,12],[2,3,10,11,12,13],[2,3,5,10,11,12],[0,0,1,3,7,0,16,48,112,15,511],[0,1,2,3,4,5,6,7,8,9],[2,3,6,7,10,11,12],[2,3,6,7,10,11,12,26],[2,3,7,10,11,12],[2,3,7,10,11,12,31],[2,3,10,11,12],[2,3,10,11,12],[2]] 1=some (qn,[.c 2 95 true]):=by kernel_rfl

abbrev wV:Nat:=187
theorem xw:Tryz.prog.funcs[187]?=some Tryz.f187:=Tryz.func187
def oh:AC:=
 Q [.reg [bx 4 1,o1 6 (.alc (zs 8 (.int .u64 0)))] [0,2,4,6],
 .reg [o1 7 (.alc (zs 8 (.int .u64 0)))] [0,2,4,6,7],
 Q [.reg [la 10 4 8,mi 11 0] [0,2,6,7,10,11],
 .block 0 (.loop [0,2,6,7,10,11] (Q [.reg [bi 12 .lss 11 8] [0,2,6,7,10,11,12],
 C 12 (.skip) (.exit 0),
 .block 1 (Q [.reg [m 13 11,o1 14 (.ixa (.t 10) (.t 11) 8 1 false),m 8 13,m 9 14] [0,2,6,7,8,9,10,11],
 .block 2 (.loop [0,2,6,7,8,9,10,11] (Q [Q [.reg [m 15 9,o1 16 (.bin .neq (.t 15) (.v (.int .u64 0)))] [0,2,6,7,8,9,10,11,16],
 C 16 (.skip) (.exit 2)],
 .block 3 (.reg [m 21 0,m 22 8,o1 23 (.bin .mul (.v (.int .i64 64)) (.t 22)),m 24 9,ca 25 217 [24],bt 26 .add 23 25,m 27 2,ia 28 21 26 760,o1 29 (.iaa (.t 28) (.t 27) 95 8),ch 30 216 [7,29]] [0,2,6,7,8,9,10,11]),
 .reg [m 17 9,m 18 9,o1 19 (.bin .sub (.t 18) (.v (.int .u64 1))),bt 20 .and 17 19,m 9 20] [0,2,6,7,8,9,10,11]]))]),
 .reg [bi 31 .add 11 1,m 11 31] [0,2,6,7,10,11]]))],
 .reg [la 32 7 8,st 8 6 32] [6],
 .ret]
theorem xh:am Tryz.prog Tryz.f187 [] [214,155,198,249,269,270,277,292,291,197,317,322,318,323,320,321,319,216,253,219,255,252,218,254,251,186,188,223,224,226,231,233,199,200,234,201,260] [[0,2,4,6],[0,2,4,6,7],[0,2,6,7,10,11],[0,2,6,7,10,11],[0,2,6,7,10,11,12],[0,2,6,7,8,9,10,11],[0,2,6,7,8,9,10,11],[0,2,6,7,8,9,10,11,16],[0,2,6,7,8,9,10,11],[0,2,6,7,8,9,10,11],[0,2,6,7,10,11],[6]] 3=some (oh,[.c 6 8 true]):=by kernel_rfl

abbrev im:Nat:=217
theorem iw:Tryz.prog.funcs[217]?=some Tryz.f217:=Tryz.func217
def dj:AC:=
 Q [.reg [mi 2 0] [0],
 Q [.reg [m 3 0,o1 4 (.bin .eql (.t 3) (.v (.int .u64 0)))] [0,4],
 C 4 (Q [.reg [mi 2 64] [2],
 .ret]) (.skip)],
 .reg [m 5 0,m 6 0,o1 7 (.un .neg (.t 6)),bt 8 .and 5 7,o1 9 (.bin .mul (.t 8) (.v (.int .u64 285870213051353865))),o1 10 (.bin .shr (.t 9) (.v (.int .u64 58))),o1 11 (.iaa (.v (.sptr (.strct [.int .u8 0,.int .u8 1,.int .u8 56,.int .u8 2,.int .u8 57,.int .u8 49,.int .u8 28,.int .u8 3,.int .u8 61,.int .u8 58,.int .u8 42,.int .u8 50,.int .u8 38,.int .u8 29,.int .u8 17,.int .u8 4,.int .u8 62,.int .u8 47,.int .u8 59,.int .u8 36,.int .u8 45,.int .u8 43,.int .u8 51,.int .u8 22,.int .u8 53,.int .u8 39,.int .u8 33,.int .u8 30,.int .u8 24,.int .u8 18,.int .u8 12,.int .u8 5,.int .u8 63,.int .u8 55,.int .u8 48,.int .u8 27,.int .u8 60,.int .u8 41,.int .u8 37,.int .u8 16,.int .u8 46,.int .u8 35,.int .u8 44,.int .u8 21,.int .u8 52,.int .u8 32,.int .u8 23,.int .u8 11,.int .u8 54,.int .u8 26,.int .u8 40,.int .u8 15,.int .u8 34,.int .u8 20,.int .u8 31,.int .u8 10,.int .u8 25,.int .u8 14,.int .u8 19,.int .u8 9,.int .u8 13,.int .u8 8,.int .u8 7,.int .u8 6]) 0)) (.t 10) 64 1),l1 12 11,o1 13 (.cii .i64 (.t 12)),m 2 13] [2],
 .ret]
theorem iu:an Tryz.prog Tryz.f217 [[0],[0,4],[2],[2]] 1=some (dj,[.t 2]):=by kernel_rfl

abbrev Gb:Nat:=192
theorem Gy:Tryz.prog.funcs[192]?=some Tryz.f192:=Tryz.func192
def yi:AC:=
 Q [.reg [bx 2 0,o1 4 (.alc [.nil 1,.nil 1])] [1,2,4],
 .reg [o1 20 (.mkf (.func 224) [] [.t 2]),l1 21 2,lq 22 21,o1 23 (.callH 223 [.v (.int .i64 0),.t 20,.t 22]),m 19 23,ex 24 19 0,ex 25 19 1,ex 26 19 2,m 5 24,st 1 2 25,m 6 26] [1,2,4,5],
 .reg [m 27 5,lq 28 27,o1 29 (.mks 4 1 1 (.bool false) (.t 28)),m 7 29] [1,2,4,5,7],
 Q [.reg [m 30 5,lq 31 30,mi 32 0] [1,2,4,5,7,30,31,32],
 .block 0 (.loop [1,2,4,5,7,30,31,32] (Q [.reg [bt 33 .lss 32 31] [1,2,4,5,7,30,31,32,33],
 C 33 (.skip) (.exit 0),
 .block 1 (Q [.reg [m 34 32,ia 35 30 32 1,l1 36 35,m 8 34,m 9 36] [1,2,4,5,7,8,9,30,31,32],
 .reg [m 37 7,m 38 8,m 39 1,m 40 9,ia 41 39 40 1,l1 42 41,ia 43 37 38 1,st 1 43 42] [1,2,4,5,7,30,31,32]]),
 .reg [bi 44 .add 32 1,m 32 44] [1,2,4,5,7,30,31,32]]))],
 .reg [l1 45 2,m 46 7,ca 47 225 [45,46],o1 10 (.alc [.nil 1]),st 1 10 47] [2,4,5,7,10],
 .reg [m 48 5,lq 49 48,o1 50 (.mks 3 1 8 (.int .i64 0) (.t 49)),o1 11 (.alc [.nil 1]),st 1 11 50] [2,4,7,10,11],
 Q [.reg [l1 51 10,lq 52 51,mi 53 0] [2,4,7,10,11,51,52,53],
 .block 2 (.loop [2,4,7,10,11,51,52,53] (Q [.reg [bt 54 .lss 53 52] [2,4,7,10,11,51,52,53,54],
 C 54 (.skip) (.exit 2),
 .block 3 (Q [.reg [m 55 53,ia 56 51 53 1,l1 57 56,m 12 55,m 13 57] [2,4,7,10,11,12,13,51,52,53],
 .reg [l1 58 11,m 59 13,m 60 12,ia 61 58 59 1,st 1 61 60] [2,4,7,10,11,51,52,53]]),
 .reg [bi 62 .add 53 1,m 53 62] [2,4,7,10,11,51,52,53]]))],
 .regD [l1 64 10,o1 65 (.ia (.t 64) (.v (.int .i64 0)) 1),l1 66 65,o1 67 (.mkf (.func 226) [] [.t 10,.t 2,.t 11]),l1 68 11,lq 69 68,ch 70 223 [66,67,69],m 63 70,ex 71 63 0,ex 72 63 1,ex 73 63 2,m 5 71,m 14 72,m 15 73] [4,5,7,11,14],
 .reg [m 74 14,o1 75 (.bld [.nil 1,.nil 1] [(0,1,(.t 74))]),o1 16 (.alc [.nil 1,.nil 1]),st 2 16 75] [4,5,7,11,16],
 Q [.reg [m 76 5,lq 77 76,mi 78 0] [4,7,11,16,76,77,78],
 .block 4 (.loop [4,7,11,16,76,77,78] (Q [.reg [bt 79 .lss 78 77] [4,7,11,16,76,77,78,79],
 C 79 (.skip) (.exit 4),
 .block 5 (Q [.reg [ia 80 76 78 1,l1 81 80,m 18 81] [4,7,11,16,18,76,77,78],
 .regD [fa 82 16 1,l1 83 82,m 84 7,l1 85 11,m 86 18,ia 87 85 86 1,l1 88 87,ia 89 84 88 1,l1 90 89,o1 91 (.lit 4 1 [.t 90]),o1 92 (.app (.t 83) (.t 91) 4 1 1),fa 93 16 1,st 1 93 92] [4,7,11,16,76,77,78]]),
 .reg [bi 94 .add 78 1,m 78 94] [4,7,11,16,76,77,78]]))],
 .reg [la 95 16 2,st 2 4 95] [4],
 .ret]
theorem Gr:am Tryz.prog Tryz.f192 [] [214,155,198,249,269,270,277,292,291,197,317,322,318,323,320,321,319,216,253,219,255,252,218,254,251,186,188,223,224,226,231,233,199,200,234,201,260] [[1,2,4],[1,2,4,5],[1,2,4,5,7],[1,2,4,5,7,30,31,32],[1,2,4,5,7,30,31,32],[1,2,4,5,7,30,31,32,33],[1,2,4,5,7,8,9,30,31,32],[1,2,4,5,7,30,31,32],[1,2,4,5,7,30,31,32],[2,4,5,7,10],[2,4,7,10,11],[2,4,7,10,11,51,52,53],[2,4,7,10,11,51,52,53],[2,4,7,10,11,51,52,53,54],[2,4,7,10,11,12,13,51,52,53],[2,4,7,10,11,51,52,53],[2,4,7,10,11,51,52,53],[0,0,1,3,0,0,16,63,127,255,255,255,511,3071,8191],[0,1,2,3,4,5,6,7,8,9,10,11,12,13],[4,5,7,11,14],[4,5,7,11,16],[4,7,11,16,76,77,78],[4,7,11,16,76,77,78],[4,7,11,16,76,77,78,79],[4,7,11,16,18,76,77,78],[0,0,1,0,0,0,24,56,124,252,508,1023,2047,4095],[0,1,2,3,4,5,6,7,8,9,10,11,12],[4,7,11,16,76,77,78],[4,7,11,16,76,77,78],[4]] 2=some (yi,[.c 4 2 true]):=by kernel_rfl

abbrev yU:Nat:=225
theorem zQ:Tryz.prog.funcs[225]?=some Tryz.f225:=Tryz.func225
def qm:AC:=
 Q [.reg [mv 4 (.nil 1)] [0,1],
 .reg [m 16 0,lq 17 16,o1 18 (.mks 3 1 8 (.int .i64 0) (.t 17)),m 5 18] [0,1,5],
 Q [.reg [m 19 1,lq 20 19,mi 21 0] [0,5,19,20,21],
 .block 0 (.loop [0,5,19,20,21] (Q [.reg [bt 22 .lss 21 20] [0,5,19,20,21,22],
 C 22 (.skip) (.exit 0),
 .block 1 (Q [.reg [m 23 21,ia 24 19 21 1,l1 25 24,m 6 23,m 7 25] [0,5,6,7,19,20,21],
 .reg [m 26 7] [0,5,6,19,20,21,26],
 C 26 (.reg [m 27 5,m 28 6,ia 29 27 28 1,o0 (.st 1 (.t 29) (.v (.int .i64 1)))] [0,5,19,20,21]) (.skip)]),
 .reg [bi 30 .add 21 1,m 21 30] [0,5,19,20,21]]))],
 .reg [mi 8 0] [0,5,8],
 .block 2 (.loop [0,5,8] (.block 3 (Q [.reg [o1 31 (.callH 254 [.v (.nil 96)]),m 9 31] [0,5,8,9],
 .reg [m 32 0,lq 33 32,o1 34 (.mks 3 1 8 (.int .i64 0) (.t 33)),m 10 34] [0,5,8,9,10],
 Q [.reg [m 35 0,lq 36 35,mi 37 0] [0,5,8,9,10,35,36,37],
 .block 4 (.loop [0,5,8,9,10,35,36,37] (Q [.reg [bt 38 .lss 37 36] [0,5,8,9,10,35,36,37,38],
 C 38 (.skip) (.exit 4),
 .block 5 (Q [.reg [m 39 37,ia 40 35 37 1,l1 41 40,m 11 39,m 12 41] [0,5,8,9,10,11,12,35,36,37],
 .reg [m 42 5,m 43 11,ia 44 42 43 1,l1 45 44,o1 46 (.cii .u16 (.t 45)),o1 47 (.bld (zs 96 (.int .u16 0)) [(0,1,(.t 46))]),o1 13 (.alc (zs 96 (.int .u16 0))),st 96 13 47] [0,5,8,9,10,11,12,13,35,36,37],
 Q [.reg [m 48 12,lq 49 48,mi 50 0] [0,5,8,9,10,11,13,35,36,37,48,49,50],
 .block 6 (.loop [0,5,8,9,10,11,13,35,36,37,48,49,50] (Q [.reg [bt 51 .lss 50 49] [0,5,8,9,10,11,13,35,36,37,48,49,50,51],
 C 51 (.skip) (.exit 6),
 .block 7 (Q [.reg [m 52 50,ia 53 48 50 1,l1 54 53,m 14 52,m 15 54] [0,5,8,9,10,11,13,14,15,35,36,37,48,49,50],
 .reg [m 55 14,o1 56 (.bin .add (.v (.int .i64 1)) (.t 55)),m 57 5,m 58 15,ia 59 57 58 1,l1 60 59,o1 61 (.cii .u16 (.t 60)),o1 62 (.iaa (.t 13) (.t 56) 96 1),st 1 62 61] [0,5,8,9,10,11,13,35,36,37,48,49,50]]),
 .reg [bi 63 .add 50 1,m 50 63] [0,5,8,9,10,11,13,35,36,37,48,49,50]]))],
 .reg [m 64 10,m 65 11,m 66 9,la 67 13 96,ch 68 255 [66,67],ia 69 64 65 1,st 1 69 68] [0,5,8,9,10,35,36,37]]),
 .reg [bi 70 .add 37 1,m 37 70] [0,5,8,9,10,35,36,37]]))],
 Q [.reg [m 71 9,o1 72 (.nlc (.t 71)),fa 73 72 1,l1 74 73,lq 75 74,m 76 8,bt 77 .eql 75 76] [0,9,10,77],
 C 77 (Q [.reg [m 78 10,m 4 78] [4],
 .ret]) (.skip)],
 .regD [m 79 10,m 80 9,o1 81 (.nlc (.t 80)),fa 82 81 1,l1 83 82,lq 84 83,m 5 79,m 8 84] [0,5,8]])))]
theorem zq:am Tryz.prog Tryz.f225 [] [214,155,198,249,269,270,277,292,291,197,317,322,318,323,320,321,319,216,253,219,255,252,218,254,251,186,188,223,224,226,231,233,199,200,234,201,260] [[0,1],[0,1,5],[0,5,19,20,21],[0,5,19,20,21],[0,5,19,20,21,22],[0,5,6,7,19,20,21],[0,5,6,19,20,21,26],[0,5,19,20,21],[0,5,19,20,21],[0,5,8],[0,5,8],[0,5,8,9],[0,5,8,9,10],[0,5,8,9,10,35,36,37],[0,5,8,9,10,35,36,37],[0,5,8,9,10,35,36,37,38],[0,5,8,9,10,11,12,35,36,37],[0,5,8,9,10,11,12,13,35,36,37],[0,5,8,9,10,11,13,35,36,37,48,49,50],[0,5,8,9,10,11,13,35,36,37,48,49,50],[0,5,8,9,10,11,13,35,36,37,48,49,50,51],[0,5,8,9,10,11,13,14,15,35,36,37,48,49,50],[0,5,8,9,10,11,13,35,36,37,48,49,50],[0,5,8,9,10,11,13,35,36,37,48,49,50],[0,5,8,9,10,35,36,37],[0,5,8,9,10,35,36,37],[0,9,10,77],[4],[0,0,0,2,6,14,30,1,127],[0,1,2,3,4,5,6,7],[0,5,8]] 2=some (qm,[.t 4]):=by kernel_rfl

abbrev Ga:Nat:=232
theorem Gx:Tryz.prog.funcs[232]?=some Tryz.f232:=Tryz.func232
def yh:AC:=
 Q [.reg [mv 6 (.str [])] [0,1,2],
 .reg [mv 7 (.nil 1)] [0,1,2,7],
 .block 0 (.loop [0,1,2,7] (Q [Q [.reg [m 8 2,bi 9 .gtr 8 0] [0,1,2,7,9],
 C 9 (.skip) (.exit 0)],
 .block 1 (.reg [m 14 7,m 15 1,m 16 2,ia 17 15 16 1,l1 18 17,o1 19 (.lit 5 1 [.t 18]),o1 20 (.app (.t 14) (.t 19) 5 1 1),m 7 20] [0,1,2,7]),
 .reg [m 10 0,m 11 2,ia 12 10 11 1,l1 13 12,m 2 13] [0,1,2,7]])),
 .reg [m 21 7,ch 22 260 [21]] [7],
 .reg [m 23 7,o1 24 (.b2s (.t 23)),m 6 24] [6],
 .ret]
theorem Gq:am Tryz.prog Tryz.f232 [] [214,155,198,249,269,270,277,292,291,197,317,322,318,323,320,321,319,216,253,219,255,252,218,254,251,186,188,223,224,226,231,233,199,200,234,201,260] [[0,1,2],[0,1,2,7],[0,1,2,7],[0,1,2,7,9],[0,1,2,7],[0,1,2,7],[7],[6]] 3=some (yh,[.t 6]):=by kernel_rfl

abbrev pc:Nat:=278
theorem pr:Tryz.prog.funcs[278]?=some Tryz.f278:=Tryz.func278
def gZ:AC:=
 Q [.reg [mi 4 0] [0,1],
 .reg [m 5 0,m 6 1,ca 7 279 [5,6],m 4 7] [4],
 .ret]
theorem pi:an Tryz.prog Tryz.f278 [[0,1],[4]] 2=some (gZ,[.t 4]):=by kernel_rfl

abbrev eF:Nat:=279
theorem e9:Tryz.prog.funcs[279]?=some Tryz.f279:=Tryz.func279
def b9:AC:=
 Q [.reg [mi 4 0] [0,1],
 .reg [m 5 0,m 6 1,ca 7 293 [5,6],m 4 7] [4],
 .ret]
theorem eT:an Tryz.prog Tryz.f279 [[0,1],[4]] 2=some (b9,[.t 4]):=by kernel_rfl

abbrev a6:Nat:=293
theorem bT:Tryz.prog.funcs[293]?=some Tryz.f293:=Tryz.func293

abbrev Ed:Nat:=113
theorem EG:Tryz.prog.funcs[113]?=some Tryz.f113:=Tryz.func113
def u4:AC:=
 Q [.reg [o1 0 (.alc [.nil 1,.nil 1])] [0],
 .reg [o1 1 (.call 151 [.v (.bool false)]),st 2 0 1] [0],
 .ret]
theorem EA:an Tryz.prog Tryz.f113 [[0],[0]] 0=some (u4,[.c 0 2 true]):=by kernel_rfl

abbrev I4:Nat:=115
theorem Jy:Tryz.prog.funcs[115]?=some Tryz.f115:=Tryz.func115
abbrev lg:Nat:=116
theorem CZ:Tryz.prog.funcs[116]?=some Tryz.f116:=Tryz.func116
def sX:AC:=
 Q [.reg [bx 2 0,bx 3 1,mv 4 (.str []),mb 5 false] [2,3],
 .reg [la 6 2 2,la 7 3 2,o1 8 (.call 157 [.t 6,.t 7,.v (.fn (.func 158) [] [])]),ex 9 8 0,ex 10 8 1,m 4 9,m 5 10] [4,5],
 .ret]
theorem CF:an Tryz.prog Tryz.f116 [[2,3],[4,5]] 2=some (sX,[.t 4,.t 5]):=by kernel_rfl

abbrev B9:Nat:=151
theorem CU:Tryz.prog.funcs[151]?=some Tryz.f151:=Tryz.func151
def sS:AC:=
 Q [.reg [o1 2 (.alc [.nil 1,.nil 1])] [0,2],
 .reg [o1 3 (.mks 3 1 8 (.int .i64 0) (.v (.int .i64 95))),o1 4 (.lit 48 1 [.t 3]),m 5 0,o1 6 (.lit 4 1 [.t 5]),o1 7 (.bld [.nil 1,.nil 1] [(0,1,(.t 4)),(1,1,(.t 6))]),st 2 2 7] [2],
 .ret]
theorem CA:an Tryz.prog Tryz.f151 [[0,2],[2]] 1=some (sS,[.c 2 2 true]):=by kernel_rfl

abbrev Ca:Nat:=157
theorem CV:Tryz.prog.funcs[157]?=some Tryz.f157:=Tryz.func157
def sT:AC:=
 Q [.reg [bx 3 0,bx 4 1,bx 5 2,mv 6 (.str []),mb 7 false] [3,4,5],
 Q [.reg [la 8 3 2,ca 9 156 [8],bi 10 .neq 9 0,m 11 10,gf 11 (la 12 4 2),gf 11 (ca 13 156 [12]),gf 11 (bi 14 .neq 13 0),po 15 11 14] [3,4,5,15],
 C 15 (Q [.reg [mv 6 (.str []),mb 7 false] [6,7],
 .ret]) (.skip)],
 .reg [o1 16 (.bld [.int .i64 0,.int .i64 0] []),la 17 3 2,la 18 4 2,ch 19 200 [17,18],o1 20 (.mkf (.func 201) [] [.t 5,.t 3,.t 4]),ch 21 199 [16,19,20],ex 22 21 0,ex 23 21 1,m 6 22,m 7 23] [6,7],
 .ret]
theorem CB:am Tryz.prog Tryz.f157 [] [214,155,198,249,269,270,277,292,291,197,317,322,318,323,320,321,319,216,253,219,255,252,218,254,251,186,188,223,224,226,231,233,199,200,234,201,260] [[3,4,5],[3,4,5,15],[6,7],[6,7]] 3=some (sT,[.t 6,.t 7]):=by kernel_rfl

abbrev wX:Nat:=158
theorem xz:Tryz.prog.funcs[158]?=some Tryz.f158:=Tryz.func158
def oq:AC:=
 Q [.reg [mb 4 false] [0,1],
 .reg [m 5 0,m 6 5,gt 6 (m 7 1),pa 8 6 7,m 4 8] [4],
 .ret]
theorem xk:an Tryz.prog Tryz.f158 [[0,1],[4]] 2=some (oq,[.t 4]):=by kernel_rfl

abbrev av:Nat:=214
theorem zx:Tryz.prog.funcs[214]?=some Tryz.f214:=Tryz.func214
def p7:AC:=
 Q [.reg [mv 2 (.nilptr),mi 3 0] [0],
 Q [.reg [m 7 0,ls 8 7,bi 9 .gtr 8 60] [0,9],
 C 9 (Q [.reg [mv 2 (.nilptr),mi 3 3] [2,3],
 .ret]) (.skip)],
 .reg [m 10 0,o1 11 (.bld [.str [],.int .i64 0] [(0,1,(.t 10))]),bx 12 11,m 4 12] [0,4],
 .reg [m 14 4,ch 15 249 [14],m 13 15,ex 16 13 0,ex 17 13 1,m 5 16,m 6 17] [0,4,5,6],
 Q [.reg [m 18 6,nt' 19 18,m 20 19,gf 20 (m 21 4),gf 20 (o1 22 (.nlc (.t 21))),gf 20 (fa 23 22 1),gf 20 (l1 24 23),gf 20 (m 25 0),gf 20 (ls 26 25),gf 20 (bt 27 .lss 24 26),po 28 20 27] [5,28],
 C 28 (Q [.reg [mv 2 (.nilptr),mi 3 2] [2,3],
 .ret]) (.skip)],
 .reg [m 29 5,o1 30 (.bld [.niliface] [(0,1,(.t 29))]),bx 31 30,m 2 31,mi 3 0] [2,3],
 .ret]
theorem y6:am Tryz.prog Tryz.f214 [] [214,155,198,249,269,270,277,292,291,197,317,322,318,323,320,321,319,216,253,219,255,252,218,254,251,186,188,223,224,226,231,233,199,200,234,201,260] [[0],[0,9],[2,3],[0,4],[0,4,5,6],[5,28],[2,3],[2,3]] 1=some (p7,[.t 2,.t 3]):=by kernel_rfl

abbrev d7:Nat:=155
theorem ja:Tryz.prog.funcs[155]?=some Tryz.f155:=Tryz.func155
def eb:AC:=
 Q [.reg [o1 2 (.alc [.int .i64 0,.int .i64 0,.int .i64 0,.nil 4])] [0,2],
 .reg [o1 6 (.bld [.int .i64 0,.nil 4,.nil 3] [(0,1,(.v (.int .i64 2)))]),bx 7 6,m 3 7] [0,2,3],
 .reg [m 8 3,m 9 0,ch 10 198 [9],o1 11 (.callH 197 [.t 8,.t 10,.v (.int .i64 0),.v (.int .i64 1)])] [2,3],
 .block 0 (.loop [2,3] (Q [Q [.reg [m 12 3,o1 13 (.nlc (.t 12)),fa 14 13 2,l1 15 14,lq 16 15,bi 17 .gtr 16 0] [2,3,17],
 C 17 (.skip) (.exit 0)],
 .block 1 (Q [.reg [m 18 3,o1 19 (.nlc (.t 18)),fa 20 19 2,l1 21 20,lq 22 21,bi 23 .sub 22 1,m 4 23] [2,3,4],
 .reg [m 24 3,o1 25 (.nlc (.t 24)),fa 26 25 2,l1 27 26,m 28 4,ia 29 27 28 3,la 30 29 3,o1 5 (.alc [.niliface,.int .i64 0,.int .i64 0]),st 3 5 30] [2,3,4,5],
 .reg [m 31 3,m 32 3,o1 33 (.nlc (.t 32)),fa 34 33 2,l1 35 34,m 36 4,o1 37 (.trc (.t 35) (.t 36) 3),o1 38 (.nlc (.t 31)),fa 39 38 2,st 1 39 37] [2,3,5],
 .reg [fa 40 5 0,l1 41 40,m 42 3,fa 43 5 1,l1 44 43,fa 45 5 2,l1 46 45,o1 47 (.inv [(282,318),(336,320),(338,321),(348,323)] (.t 41) [.t 42,.t 44,.t 46])] [2,3]])])),
 .regD [m 48 3,o1 49 (.nlc (.t 48)),fa 50 49 0,l1 51 50,m 52 3,o1 53 (.nlc (.t 52)),fa 54 53 1,l1 55 54,o1 56 (.bld [.int .i64 0,.int .i64 0,.int .i64 0,.nil 4] [(0,1,(.t 51)),(1,1,(.v (.int .i64 0))),(2,1,(.v (.int .i64 1))),(3,1,(.t 55))]),st 4 2 56] [2],
 .ret]
theorem i7:am Tryz.prog Tryz.f155 [] [214,155,198,249,269,270,277,292,291,197,317,322,318,323,320,321,319,216,253,219,255,252,218,254,251,186,188,223,224,226,231,233,199,200,234,201,260,1000000] [[0,2],[0,2,3],[2,3],[2,3],[2,3,17],[2,3,4],[2,3,4,5],[2,3,5],[2,3],[0,0,1,3,7,0,16,48,112,255,511],[0,1,2,3,4,5,6,7,8,9],[2]] 1=some (eb,[.c 2 4 true]):=by kernel_rfl

abbrev pI:Nat:=198
theorem pM:Tryz.prog.funcs[198]?=some Tryz.f198:=Tryz.func198
def j3:AC:=
 Q [.reg [mv 2 (.niliface)] [0],
 Q [.reg [m 3 0,o1 4 (.nlq 0 false (.t 3)),m 5 4,gf 5 (m 6 0),gf 5 (o1 7 (.nlc (.t 6))),gf 5 (fa 8 7 0),gf 5 (l1 9 8),gf 5 (o1 10 (.nlq 1 false (.t 9))),po 11 5 10] [0,11],
 C 11 (Q [.reg [o1 12 (.bld (zs 95 (.bool false)) []),o1 13 (.mki 282 (.t 12)),m 2 13] [2],
 .ret]) (.skip)],
 .reg [m 14 0,o1 15 (.nlc (.t 14)),fa 16 15 0,l1 17 16,m 2 17] [2],
 .ret]
theorem pL:an Tryz.prog Tryz.f198 [[0],[0,11],[2],[2]] 1=some (j3,[.t 2]):=by kernel_rfl

abbrev iX:Nat:=249
theorem i9:Tryz.prog.funcs[249]?=some Tryz.f249:=Tryz.func249
def dy:AC:=
 Q [.reg [mv 2 (.niliface),mb 3 false] [0],
 .reg [mv 4 (.nil 1)] [0,4],
 .block 0 (.loop [0,4] (.block 1 (Q [.reg [m 8 0,ch 9 269 [8],m 7 9,ex 10 7 0,ex 11 7 1,m 5 10,m 6 11] [0,4,5,6],
 Q [.reg [m 12 6,nt' 13 12] [0,4,5,13],
 C 13 (Q [.reg [mv 2 (.niliface),mb 3 false] [0,2,3],
 .ret]) (.skip)],
 .reg [m 14 4,m 15 5,o1 16 (.lit 242 1 [.t 15]),o1 17 (.app (.t 14) (.t 16) 242 1 16),m 4 17] [0,4],
 Q [.reg [m 18 0,o1 19 (.callH 270 [.t 18,.v (.str [124])]),nt' 20 19] [0,4,20],
 C 20 (Q [.reg [m 21 4,ca 22 256 [21],m 2 22,mb 3 true] [0,2,3],
 .ret]) (.skip)],
 .reg [m 23 0,o1 24 (.nlc (.t 23)),fa 25 24 1,l1 26 25,bi 27 .add 26 1,o1 28 (.nlc (.t 23)),fa 29 28 1,st 1 29 27] [0,4]])))]
theorem i6:am Tryz.prog Tryz.f249 [0] [214,155,198,249,269,270,277,292,291,197,317,322,318,323,320,321,319,216,253,219,255,252,218,254,251,186,188,223,224,226,231,233,199,200,234,201,260] [[0],[0,4],[0,4],[0,4,5,6],[0,4,5,13],[0,2,3],[0,4],[0,4,20],[0,2,3],[0,4]] 1=some (dy,[.t 2,.t 3]):=by kernel_rfl

abbrev lf:Nat:=269
theorem lm:Tryz.prog.funcs[269]?=some Tryz.f269:=Tryz.func269
def fv:AC:=
 Q [.reg [mv 2 (.niliface),mb 3 false] [0],
 .reg [mv 4 (.nil 1)] [0,4],
 .block 0 (.loop [0,4] (Q [Q [.regD [m 7 0,o1 8 (.nlc (.t 7)),fa 9 8 1,l1 10 9,m 11 0,o1 12 (.nlc (.t 11)),fa 13 12 0,l1 14 13,ls 15 14,bt 16 .lss 10 15,m 17 16,gt 17 (m 18 0),gt 17 (o1 19 (.callH 270 [.t 18,.v (.str [124,41])])),gt 17 (nt' 20 19),pa 21 17 20] [0,4,21],
 C 21 (.skip) (.exit 0)],
 .block 1 (Q [.reg [m 23 0,ch 24 277 [23],m 22 24,ex 25 22 0,ex 26 22 1,m 5 25,m 6 26] [0,4,5,6],
 Q [.reg [m 27 6,nt' 28 27] [0,4,5,28],
 C 28 (Q [.reg [mv 2 (.niliface),mb 3 false] [0,2,3],
 .ret]) (.skip)],
 .block 2 (.loop [0,4,5] (Q [Q [.reg [m 29 0,o1 30 (.callH 270 [.t 29,.v (.str [42,43,63])])] [0,4,5,30],
 C 30 (.skip) (.exit 2)],
 .block 3 (Q [.regD [m 31 5,m 32 0,o1 33 (.nlc (.t 32)),fa 34 33 0,l1 35 34,m 36 0,o1 37 (.nlc (.t 36)),fa 38 37 1,l1 39 38,ix 40 35 39,o1 41 (.bld [.niliface,.int .u8 0] [(0,1,(.t 31)),(1,1,(.t 40))]),o1 42 (.mki 348 (.t 41)),m 5 42] [0,4,5],
 .reg [m 43 0,o1 44 (.nlc (.t 43)),fa 45 44 1,l1 46 45,bi 47 .add 46 1,o1 48 (.nlc (.t 43)),fa 49 48 1,st 1 49 47] [0,4,5]])])),
 .reg [m 50 4,m 51 5,o1 52 (.lit 242 1 [.t 51]),o1 53 (.app (.t 50) (.t 52) 242 1 16),m 4 53] [0,4]])])),
 .reg [m 54 4,ca 55 259 [54],m 2 55,mb 3 true] [0,2,3],
 .ret]
theorem ll:am Tryz.prog Tryz.f269 [0] [214,155,198,249,269,270,277,292,291,197,317,322,318,323,320,321,319,216,253,219,255,252,218,254,251,186,188,223,224,226,231,233,199,200,234,201,260] [[0],[0,4],[0,4],[0,0,1,3,7,0,16,48,112,240,511,1023,2047,4095,8191,16383],[0,1,2,3,4,5,6,7,8,9,10,11,12,13,14],[0,4,21],[0,4,5,6],[0,4,5,28],[0,2,3],[0,4,5],[0,4,5,30],[0,0,0,2,6,14,0,32,96,224,510,1023,2047,4095],[0,1,2,3,4,5,6,7,8,9,10,11,12],[0,4,5],[0,4,5],[0,4],[0,2,3]] 1=some (fv,[.t 2,.t 3]):=by kernel_rfl

abbrev qF:Nat:=270
theorem qU:Tryz.prog.funcs[270]?=some Tryz.f270:=Tryz.func270
def jp:AC:=
 Q [.reg [mb 4 false] [0,1],
 .regD [m 5 0,o1 6 (.nlc (.t 5)),fa 7 6 1,l1 8 7,m 9 0,o1 10 (.nlc (.t 9)),fa 11 10 0,l1 12 11,ls 13 12,bt 14 .lss 8 13,m 15 14,gt 15 (m 16 1),gt 15 (m 17 0),gt 15 (o1 18 (.nlc (.t 17))),gt 15 (fa 19 18 0),gt 15 (l1 20 19),gt 15 (m 21 0),gt 15 (o1 22 (.nlc (.t 21))),gt 15 (fa 23 22 1),gt 15 (l1 24 23),gt 15 (ix 25 20 24),gt 15 (ca 26 278 [16,25]),gt 15 (bi 27 .geq 26 0),pa 28 15 27,m 4 28] [0,4],
 .ret]
theorem qO:am Tryz.prog Tryz.f270 [0] [214,155,198,249,269,270,277,292,291,197,317,322,318,323,320,321,319,216,253,219,255,252,218,254,251,186,188,223,224,226,231,233,199,200,234,201,260] [[0,1],[0,0,1,3,7,0,16,48,112,240,511,1023,2047,2047,6143,14335,30719,2047,67583,198655,460799,1046527,2097151,4194303,8388607,16777215],[0,1,2,3,4,5,6,7,8,9,10,11,12,13,14,15,16,17,18,19,20,21,22,23,24],[0,4]] 2=some (jp,[.t 4]):=by kernel_rfl

abbrev ng:Nat:=277
theorem nF:Tryz.prog.funcs[277]?=some Tryz.f277:=Tryz.func277
def gC:AC:=
 Q [.reg [mv 2 (.niliface),mb 3 false] [0],
 .block 0 (Q [.reg [m 9 0,o1 10 (.callH 270 [.t 9,.v (.str [40])]),m 8 10] [0,8],
 C 8 (Q [.reg [m 11 0,o1 12 (.nlc (.t 11)),fa 13 12 1,l1 14 13,bi 15 .add 14 1,o1 16 (.nlc (.t 11)),fa 17 16 1,st 1 17 15] [0],
 .reg [m 19 0,ch 20 249 [19],m 18 20,ex 21 18 0,ex 22 18 1,m 4 21,m 5 22] [0,4,5],
 Q [.reg [m 23 5,nt' 24 23,m 25 24,gf 25 (m 26 0),gf 25 (o1 27 (.callH 270 [.t 26,.v (.str [41])])),gf 25 (nt' 28 27),po 29 25 28] [0,4,29],
 C 29 (Q [.reg [mv 2 (.niliface),mb 3 false] [0,2,3],
 .ret]) (.skip)],
 .reg [m 30 0,o1 31 (.nlc (.t 30)),fa 32 31 1,l1 33 32,bi 34 .add 33 1,o1 35 (.nlc (.t 30)),fa 36 35 1,st 1 36 34] [0,4],
 .reg [m 37 4,m 2 37,mb 3 true] [0,2,3],
 .ret]) (Q [.reg [m 39 0,o1 40 (.callH 270 [.t 39,.v (.str [46])]),m 38 40] [0,38],
 C 38 (Q [.reg [m 41 0,o1 42 (.nlc (.t 41)),fa 43 42 1,l1 44 43,bi 45 .add 44 1,o1 46 (.nlc (.t 41)),fa 47 46 1,st 1 47 45] [0],
 .reg [ca 48 290 [],o1 49 (.mki 282 (.t 48)),m 2 49,mb 3 true] [0,2,3],
 .ret]) (Q [.reg [m 51 0,o1 52 (.callH 270 [.t 51,.v (.str [91])]),m 50 52] [0,50],
 C 50 (Q [.reg [m 53 0,o1 54 (.nlc (.t 53)),fa 55 54 1,l1 56 55,bi 57 .add 56 1,o1 58 (.nlc (.t 53)),fa 59 58 1,st 1 59 57] [0],
 .reg [m 60 0,ch 61 291 [60],ex 62 61 0,ex 63 61 1,m 2 62,m 3 63] [0,2,3],
 .ret]) (.skip)])])]),
 .reg [m 65 0,o1 66 (.callH 292 [.t 65,.v (.str [92,40,41,91,93,124,42,43,63,46])]),m 64 66,ex 67 64 0,ex 68 64 1,m 6 67,m 7 68] [0,6,7],
 Q [.reg [m 69 7,nt' 70 69] [0,6,70],
 C 70 (Q [.reg [mv 2 (.niliface),mb 3 false] [0,2,3],
 .ret]) (.skip)],
 .reg [m 71 6,ca 72 272 [71],o1 73 (.mki 282 (.t 72)),m 2 73,mb 3 true] [0,2,3],
 .ret]
theorem nu:am Tryz.prog Tryz.f277 [0] [214,155,198,249,269,270,277,292,291,197,317,322,318,323,320,321,319,216,253,219,255,252,218,254,251,186,188,223,224,226,231,233,199,200,234,201,260] [[0],[0,8],[0],[0,4,5],[0,4,29],[0,2,3],[0,4],[0,2,3],[0,38],[0],[0,2,3],[0,50],[0],[0,2,3],[0,6,7],[0,6,70],[0,2,3],[0,2,3]] 1=some (gC,[.t 2,.t 3]):=by kernel_rfl

abbrev nf:Nat:=292
theorem nE:Tryz.prog.funcs[292]?=some Tryz.f292:=Tryz.func292
def gz:AC:=
 Q [.reg [mv 4 (.int .u8 0),mb 5 false] [0,1],
 Q [.reg [m 6 0,o1 7 (.callH 270 [.t 6,.v (.str [92])])] [0,1,7],
 C 7 (Q [.reg [m 8 0,o1 9 (.nlc (.t 8)),fa 10 9 1,l1 11 10,bi 12 .add 11 1,o1 13 (.nlc (.t 8)),fa 14 13 1,st 1 14 12] [0],
 .reg [mv 1 (.str [])] [0,1]]) (.skip)],
 Q [.regD [m 15 0,o1 16 (.nlc (.t 15)),fa 17 16 1,l1 18 17,m 19 0,o1 20 (.nlc (.t 19)),fa 21 20 0,l1 22 21,ls 23 22,bt 24 .eql 18 23,m 25 24,gf 25 (m 26 0),gf 25 (o1 27 (.nlc (.t 26))),gf 25 (fa 28 27 0),gf 25 (l1 29 28),gf 25 (m 30 0),gf 25 (o1 31 (.nlc (.t 30))),gf 25 (fa 32 31 1),gf 25 (l1 33 32),gf 25 (ix 34 29 33),gf 25 (ca 35 271 [34]),gf 25 (nt' 36 35),po 37 25 36,m 38 37,gf 38 (m 39 0),gf 38 (m 40 1),gf 38 (ch 41 270 [39,40]),po 42 38 41] [0,42],
 C 42 (Q [.reg [mv 4 (.int .u8 0),mb 5 false] [0,4,5],
 .ret]) (.skip)],
 .reg [m 43 0,o1 44 (.nlc (.t 43)),fa 45 44 1,l1 46 45,bi 47 .add 46 1,o1 48 (.nlc (.t 43)),fa 49 48 1,st 1 49 47] [0],
 .regD [m 50 0,o1 51 (.nlc (.t 50)),fa 52 51 0,l1 53 52,m 54 0,o1 55 (.nlc (.t 54)),fa 56 55 1,l1 57 56,bi 58 .sub 57 1,ix 59 53 58,m 4 59,mb 5 true] [0,4,5],
 .ret]
theorem ns:am Tryz.prog Tryz.f292 [0] [214,155,198,249,269,270,277,292,291,197,317,322,318,323,320,321,319,216,253,219,255,252,218,254,251,186,188,223,224,226,231,233,199,200,234,201,260] [[0,1],[0,1,7],[0],[0,1],[0,0,1,3,7,0,16,48,112,240,511,1023,2047,4095,8191,16383,2047,34815,100351,231423,524287,1048575,2097151,4194303,8388607,16777215,16777215,67108863,134217727],[0,1,2,3,4,5,6,7,8,9,10,11,12,13,14,15,16,17,18,19,20,21,22,23,24,25,26,27],[0,42],[0,4,5],[0],[0,0,1,3,7,0,16,48,112,240,511,1023,2047],[0,1,2,3,4,5,6,7,8,9,10,11],[0,4,5]] 2=some (gz,[.t 4,.t 5]):=by kernel_rfl

abbrev my:Nat:=291
theorem mA:Tryz.prog.funcs[291]?=some Tryz.f291:=Tryz.func291
def fx:AC:=
 Q [.reg [mv 2 (.niliface),mb 3 false] [0],
 .reg [m 11 0,o1 12 (.callH 270 [.t 11,.v (.str [94])]),m 4 12] [0,4],
 Q [.reg [m 13 4] [0,4,13],
 C 13 (.reg [m 14 0,o1 15 (.nlc (.t 14)),fa 16 15 1,l1 17 16,bi 18 .add 17 1,o1 19 (.nlc (.t 14)),fa 20 19 1,st 1 20 18] [0,4]) (.skip)],
 .reg [o1 5 (.alc (zs 95 (.bool false)))] [0,4,5],
 Q [.reg [mb 6 true] [0,4,5,6],
 .block 0 (.loop [0,4,5,6] (Q [Q [.reg [m 21 6,m 22 21,gf 22 (m 23 0),gf 22 (o1 24 (.callH 270 [.t 23,.v (.str [93])])),gf 22 (nt' 25 24),po 26 22 25] [0,4,5,26],
 C 26 (.skip) (.exit 0)],
 .block 1 (Q [.reg [m 28 0,o1 29 (.callH 292 [.t 28,.v (.str [92,93,45,94])]),m 27 29,ex 30 27 0,ex 31 27 1,m 7 30,m 8 31] [0,4,5,7,8],
 Q [.reg [m 32 8,nt' 33 32] [0,4,5,7,33],
 C 33 (Q [.reg [mv 2 (.niliface),mb 3 false] [0,2,3],
 .ret]) (.skip)],
 .reg [m 34 7,m 9 34] [0,4,5,7,9],
 Q [.reg [m 35 0,o1 36 (.callH 270 [.t 35,.v (.str [45])])] [0,4,5,7,9,36],
 C 36 (Q [.reg [m 37 0,o1 38 (.nlc (.t 37)),fa 39 38 1,l1 40 39,bi 41 .add 40 1,o1 42 (.nlc (.t 37)),fa 43 42 1,st 1 43 41] [0,4,5,7],
 .reg [m 45 0,o1 46 (.callH 292 [.t 45,.v (.str [92,93,45,94])]),m 44 46,ex 47 44 0,ex 48 44 1,m 9 47,m 8 48] [0,4,5,7,8,9],
 .reg [m 49 8,nt' 50 49,m 51 50,gf 51 (m 52 9),gf 51 (m 53 7),gf 51 (bt 54 .lss 52 53),po 55 51 54] [0,4,5,7,9,55],
 C 55 (Q [.reg [mv 2 (.niliface),mb 3 false] [0,2,3],
 .ret]) (.skip)]) (.skip)],
 .reg [m 56 7,m 10 56] [0,4,5,9,10],
 .block 2 (.loop [0,4,5,9,10] (Q [Q [.reg [m 57 10,m 58 9,bt 59 .leq 57 58] [0,4,5,9,10,59],
 C 59 (.skip) (.exit 2)],
 .block 3 (.reg [m 62 10,bu 63 .sub 62 32,o1 64 (.iaa (.t 5) (.t 63) 95 1),o0 (.st 1 (.t 64) (.v (.bool true)))] [0,4,5,9,10]),
 .reg [m 60 10,bu 61 .add 60 1,m 10 61] [0,4,5,9,10]]))]),
 .reg [mb 6 false] [0,4,5,6]]))],
 .reg [m 65 0,o1 66 (.nlc (.t 65)),fa 67 66 1,l1 68 67,bi 69 .add 68 1,o1 70 (.nlc (.t 65)),fa 71 70 1,st 1 71 69] [0,4,5],
 Q [.reg [m 72 4] [0,5,72],
 C 72 (.reg [la 73 5 95,ca 74 296 [73],st 95 5 74] [0,5]) (.skip)],
 .reg [la 75 5 95,o1 76 (.mki 282 (.t 75)),m 2 76,mb 3 true] [0,2,3],
 .ret]
theorem mz:am Tryz.prog Tryz.f291 [0] [214,155,198,249,269,270,277,292,291,197,317,322,318,323,320,321,319,216,253,219,255,252,218,254,251,186,188,223,224,226,231,233,199,200,234,201,260] [[0],[0,4],[0,4,13],[0,4],[0,4,5],[0,4,5,6],[0,4,5,6],[0,4,5,26],[0,4,5,7,8],[0,4,5,7,33],[0,2,3],[0,4,5,7,9],[0,4,5,7,9,36],[0,4,5,7],[0,4,5,7,8,9],[0,4,5,7,9,55],[0,2,3],[0,4,5,9,10],[0,4,5,9,10],[0,4,5,9,10,59],[0,4,5,9,10],[0,4,5,9,10],[0,4,5,6],[0,4,5],[0,5,72],[0,5],[0,2,3]] 1=some (fx,[.t 2,.t 3]):=by kernel_rfl

abbrev dO:Nat:=197
theorem dR:Tryz.prog.funcs[197]?=some Tryz.f197:=Tryz.func197
def cr:AC:=
 .reg [m 8 0,m 9 0,o1 10 (.nlc (.t 9)),fa 11 10 2,l1 12 11,m 13 1,m 14 2,m 15 3,o1 16 (.bld [.niliface,.int .i64 0,.int .i64 0] [(0,1,(.t 13)),(1,1,(.t 14)),(2,1,(.t 15))]),o1 17 (.lit 245 3 [.t 16]),o1 18 (.app (.t 12) (.t 17) 245 3 32),o1 19 (.nlc (.t 8)),fa 20 19 2,st 1 20 18] [0]
theorem dQ:am Tryz.prog Tryz.f197 [0] [214,155,198,249,269,270,277,292,291,197,317,322,318,323,320,321,319,216,253,219,255,252,218,254,251,186,188,223,224,226,231,233,199,200,234,201,260] [[0]] 4=some (cr,[]):=by kernel_rfl

abbrev gg:Nat:=317
theorem gr:Tryz.prog.funcs[317]?=some Tryz.f317:=Tryz.func317
def dz:AC:=
 Q [.reg [mi 2 0] [0],
 .reg [m 3 0,o1 4 (.nlc (.t 3)),fa 5 4 0,l1 6 5,bi 7 .add 6 1,o1 8 (.nlc (.t 3)),fa 9 8 0,st 1 9 7] [0],
 .reg [m 10 0,o1 11 (.nlc (.t 10)),fa 12 11 0,l1 13 12,bi 14 .sub 13 1,m 2 14] [0,2],
 .ret]
theorem gp:am Tryz.prog Tryz.f317 [0] [214,155,198,249,269,270,277,292,291,197,317,322,318,323,320,321,319,216,253,219,255,252,218,254,251,186,188,223,224,226,231,233,199,200,234,201,260] [[0],[0],[0,2]] 1=some (dz,[.t 2]):=by kernel_rfl

abbrev gU:Nat:=322
theorem gW:Tryz.prog.funcs[322]?=some Tryz.f322:=Tryz.func322
def dU:AC:=
 .reg [m 6 0,m 7 0,o1 8 (.nlc (.t 7)),fa 9 8 1,l1 10 9,m 11 1,m 12 2,o1 13 (.bld [.int .i64 0,.int .i64 0,.int .u8 0,.int .u8 0] [(0,1,(.t 11)),(1,1,(.t 12)),(2,1,(.v (.int .u8 1))),(3,1,(.v (.int .u8 0)))]),o1 14 (.lit 260 4 [.t 13]),o1 15 (.app (.t 10) (.t 14) 260 4 24),o1 16 (.nlc (.t 6)),fa 17 16 1,st 1 17 15] [0]
theorem gV:am Tryz.prog Tryz.f322 [0] [214,155,198,249,269,270,277,292,291,197,317,322,318,323,320,321,319,216,253,219,255,252,218,254,251,186,188,223,224,226,231,233,199,200,234,201,260] [[0]] 3=some (dU,[]):=by kernel_rfl

abbrev lS:Nat:=318
theorem l9:Tryz.prog.funcs[318]?=some Tryz.f318:=Tryz.func318
def gO:AC:=
 Q [.reg [bx 4 0] [1,2,3,4],
 .reg [mi 8 0] [1,2,3,4,8],
 .block 0 (.loop [1,2,3,4,8] (Q [Q [.reg [m 10 8,bi 11 .lss 10 95] [1,2,3,4,8,11],
 C 11 (.skip) (.exit 0)],
 .block 1 (Q [Q [.reg [m 14 8,o1 15 (.iaa (.t 4) (.t 14) 95 1),l1 16 15,nt' 17 16] [1,2,3,4,8,17],
 C 17 (.exit 1) (.skip)],
 .reg [m 18 8,ch 19 319 [4,18],m 9 19] [1,2,3,4,8,9],
 .reg [m 20 1,m 21 1,o1 22 (.nlc (.t 21)),fa 23 22 1,l1 24 23,m 25 2,m 26 3,m 27 8,o1 28 (.bin .add (.v (.int .i64 32)) (.t 27)),o1 29 (.cii .u8 (.t 28)),m 30 9,o1 31 (.bin .add (.v (.int .i64 32)) (.t 30)),o1 32 (.cii .u8 (.t 31)),o1 33 (.bld [.int .i64 0,.int .i64 0,.int .u8 0,.int .u8 0] [(0,1,(.t 25)),(1,1,(.t 26)),(2,1,(.t 29)),(3,1,(.t 32))]),o1 34 (.lit 260 4 [.t 33]),o1 35 (.app (.t 24) (.t 34) 260 4 24),o1 36 (.nlc (.t 20)),fa 37 36 1,st 1 37 35] [1,2,3,4,9],
 .reg [m 38 9,m 8 38] [1,2,3,4,8]]),
 .reg [m 12 8,bi 13 .add 12 1,m 8 13] [1,2,3,4,8]]))]
theorem l4:am Tryz.prog Tryz.f318 [1] [214,155,198,249,269,270,277,292,291,197,317,322,318,323,320,321,319,216,253,219,255,252,218,254,251,186,188,223,224,226,231,233,199,200,234,201,260] [[1,2,3,4],[1,2,3,4,8],[1,2,3,4,8],[1,2,3,4,8,11],[1,2,3,4,8,17],[1,2,3,4,8,9],[1,2,3,4,9],[1,2,3,4,8],[1,2,3,4,8]] 4=some (gO,[]):=by kernel_rfl

abbrev lU:Nat:=323
theorem mc:Tryz.prog.funcs[323]?=some Tryz.f323:=Tryz.func323
def gQ:AC:=
 Q [.reg [bx 4 0] [1,2,3,4],
 .reg [fa 11 4 1,l1 12 11] [1,2,3,4,12],
 .block 0 (Q [.reg [bu 36 .eql 12 63,m 35 36] [1,2,3,4,12,35],
 C 35 (Q [.reg [m 37 1,m 38 2,m 39 3,ch 40 322 [37,38,39]] [1,2,3,4],
 .reg [m 41 1,fa 42 4 0,l1 43 42,m 44 2,m 45 3,ch 46 197 [41,43,44,45]] [1]]) (Q [.reg [bu 48 .eql 12 42,m 47 48] [1,2,3,4,47],
 C 47 (Q [.reg [m 49 1,ch 50 317 [49],m 8 50] [1,2,3,4,8],
 .reg [m 51 1,m 52 2,m 53 8,ch 54 322 [51,52,53]] [1,3,4,8],
 .reg [m 55 1,fa 56 4 0,l1 57 56,m 58 8,m 59 8,ch 60 197 [55,57,58,59]] [1,3,8],
 .reg [m 61 1,m 62 8,m 63 3,ch 64 322 [61,62,63]] [1]]) (Q [.reg [m 13 1,ch 14 317 [13],m 15 1,ch 16 317 [15],m 9 14,m 10 16] [1,2,3,4,9,10],
 .reg [m 17 1,m 18 2,m 19 9,ch 20 322 [17,18,19]] [1,3,4,9,10],
 .reg [m 21 1,fa 22 4 0,l1 23 22,m 24 9,m 25 10,ch 26 197 [21,23,24,25]] [1,3,9,10],
 .reg [m 27 1,m 28 10,m 29 9,ch 30 322 [27,28,29]] [1,3,10],
 .reg [m 31 1,m 32 10,m 33 3,ch 34 322 [31,32,33]] [1]])])])]
theorem l6:am Tryz.prog Tryz.f323 [1] [214,155,198,249,269,270,277,292,291,197,317,322,318,323,320,321,319,216,253,219,255,252,218,254,251,186,188,223,224,226,231,233,199,200,234,201,260] [[1,2,3,4],[1,2,3,4,12],[1,2,3,4,12,35],[1,2,3,4],[1],[1,2,3,4,47],[1,2,3,4,8],[1,3,4,8],[1,3,8],[1],[1,2,3,4,9,10],[1,3,4,9,10],[1,3,9,10],[1,3,10],[1]] 4=some (gQ,[]):=by kernel_rfl

abbrev lV:Nat:=320
theorem md:Tryz.prog.funcs[320]?=some Tryz.f320:=Tryz.func320
def gR:AC:=
 Q [.reg [bx 4 0] [1,2,3,4],
 .reg [fa 10 4 0,l1 11 10,lq 12 11,mi 13 0] [1,2,3,11,12,13],
 .block 0 (.loop [1,2,3,11,12,13] (Q [.reg [bt 14 .lss 13 12] [1,2,3,11,12,13,14],
 C 14 (.skip) (.exit 0),
 .block 1 (Q [.reg [ia 15 11 13 1,l1 16 15,m 9 16] [1,2,3,9,11,12,13],
 .reg [m 17 1,m 18 9,m 19 2,m 20 3,ch 21 197 [17,18,19,20]] [1,2,3,11,12,13]]),
 .reg [bi 22 .add 13 1,m 13 22] [1,2,3,11,12,13]]))]
theorem l7:am Tryz.prog Tryz.f320 [1] [214,155,198,249,269,270,277,292,291,197,317,322,318,323,320,321,319,216,253,219,255,252,218,254,251,186,188,223,224,226,231,233,199,200,234,201,260] [[1,2,3,4],[1,2,3,11,12,13],[1,2,3,11,12,13],[1,2,3,11,12,13,14],[1,2,3,9,11,12,13],[1,2,3,11,12,13],[1,2,3,11,12,13]] 4=some (gR,[]):=by kernel_rfl

abbrev lT:Nat:=321
theorem ma:Tryz.prog.funcs[321]?=some Tryz.f321:=Tryz.func321
def gP:AC:=
 Q [.reg [bx 4 0] [1,2,3,4],
 Q [.reg [fa 12 4 0,l1 13 12,lq 14 13,bi 15 .eql 14 0] [1,2,3,4,15],
 C 15 (Q [.reg [m 16 1,m 17 2,m 18 3,ch 19 322 [16,17,18]] [1],
 .ret]) (.skip)],
 .reg [fa 20 4 0,l1 21 20,lq 22 21,bi 23 .sub 22 1,m 8 23] [1,2,3,4,8],
 Q [.reg [fa 24 4 0,l1 25 24,m 26 8,o1 27 (.slq (.t 25) none (some (.t 26)) 1),lq 28 27,mi 29 0] [1,2,3,4,8,27,28,29],
 .block 0 (.loop [1,2,3,4,8,27,28,29] (Q [.reg [bt 30 .lss 29 28] [1,2,3,4,8,27,28,29,30],
 C 30 (.skip) (.exit 0),
 .block 1 (Q [.reg [ia 31 27 29 1,l1 32 31,m 10 32] [1,2,3,4,8,10,27,28,29],
 .reg [m 33 1,ch 34 317 [33],m 11 34] [1,2,3,4,8,10,11,27,28,29],
 .reg [m 35 1,m 36 10,m 37 2,m 38 11,ch 39 197 [35,36,37,38]] [1,3,4,8,11,27,28,29],
 .reg [m 40 11,m 2 40] [1,2,3,4,8,27,28,29]]),
 .reg [bi 41 .add 29 1,m 29 41] [1,2,3,4,8,27,28,29]]))],
 .reg [m 42 1,fa 43 4 0,l1 44 43,m 45 8,ia 46 44 45 1,l1 47 46,m 48 2,m 49 3,ch 50 197 [42,47,48,49]] [1]]
theorem l5:am Tryz.prog Tryz.f321 [1] [214,155,198,249,269,270,277,292,291,197,317,322,318,323,320,321,319,216,253,219,255,252,218,254,251,186,188,223,224,226,231,233,199,200,234,201,260] [[1,2,3,4],[1,2,3,4,15],[1],[1,2,3,4,8],[1,2,3,4,8,27,28,29],[1,2,3,4,8,27,28,29],[1,2,3,4,8,27,28,29,30],[1,2,3,4,8,10,27,28,29],[1,2,3,4,8,10,11,27,28,29],[1,3,4,8,11,27,28,29],[1,2,3,4,8,27,28,29],[1,2,3,4,8,27,28,29],[1]] 4=some (gP,[]):=by kernel_rfl

abbrev ko:Nat:=319
theorem kB:Tryz.prog.funcs[319]?=some Tryz.f319:=Tryz.func319
def fM:AC:=
 Q [.reg [mi 4 0] [0,1],
 .block 0 (.loop [0,1] (Q [Q [.reg [m 5 1,bi 6 .add 5 1,bi 7 .lss 6 95,m 8 7,gt 8 (m 9 0),gt 8 (m 10 1),gt 8 (bi 11 .add 10 1),gt 8 (o1 12 (.nlc (.t 9))),gt 8 (o1 13 (.iaa (.t 12) (.t 11) 95 1)),gt 8 (l1 14 13),pa 15 8 14] [0,1,15],
 C 15 (.skip) (.exit 0)],
 .block 1 (.reg [m 16 1,bi 17 .add 16 1,m 1 17] [0,1])])),
 .reg [m 18 1,m 4 18] [0,4],
 .ret]
theorem kA:am Tryz.prog Tryz.f319 [0] [214,155,198,249,269,270,277,292,291,197,317,322,318,323,320,321,319,216,253,219,255,252,218,254,251,186,188,223,224,226,231,233,199,200,234,201,260] [[0,1],[0,1],[0,1,15],[0,1],[0,4]] 2=some (fM,[.t 4]):=by kernel_rfl

abbrev lX:Nat:=216
theorem me:Tryz.prog.funcs[216]?=some Tryz.f216:=Tryz.func216
def gS:AC:=
 Q [.reg [m 6 1,mi 7 0] [0,1,6,7],
 .block 0 (.loop [0,1,6,7] (Q [.reg [bi 8 .lss 7 8] [0,1,6,7,8],
 C 8 (.skip) (.exit 0),
 .block 1 (Q [.regD [m 9 7,o1 10 (.nlc (.t 6)),o1 11 (.iaa (.t 10) (.t 7) 8 1),l1 12 11,m 4 9,m 5 12] [0,1,4,5,6,7],
 .regD [m 13 0,m 14 4,o1 15 (.nlc (.t 13)),o1 16 (.iaa (.t 15) (.t 14) 8 1),l1 17 16,m 18 5,bt 19 .or 17 18,o1 20 (.nlc (.t 13)),o1 21 (.iaa (.t 20) (.t 14) 8 1),st 1 21 19] [0,1,6,7]]),
 .reg [bi 22 .add 7 1,m 7 22] [0,1,6,7]]))]
theorem l8:am Tryz.prog Tryz.f216 [0,1] [214,155,198,249,269,270,277,292,291,197,317,322,318,323,320,321,319,216,253,219,255,252,218,254,251,186,188,223,224,226,231,233,199,200,234,201,260] [[0,1,6,7],[0,1,6,7],[0,1,6,7,8],[0,0,0,2,6,1,31],[0,1,2,3,4,5],[0,1,4,5,6,7],[0,0,0,1,7,15,0,63,1,255,511],[0,1,2,3,4,5,6,7,8,9],[0,1,6,7],[0,1,6,7]] 2=some (gS,[]):=by kernel_rfl

abbrev iY:Nat:=253
theorem jc:Tryz.prog.funcs[253]?=some Tryz.f253:=Tryz.func253
def ee:AC:=
 Q [.reg [mi 4 0] [0,1],
 .reg [m 8 0,o1 9 (.nlc (.t 8)),fa 10 9 0,l1 11 10,m 12 1,o1 13 (.lkp ⟨false,[.i .i64]⟩ (.int .i64 0) true (.t 11) (.t 12)),m 7 13,ex 14 7 0,ex 15 7 1,m 5 14,m 6 15] [0,1,5,6],
 Q [.reg [m 16 6,nt' 17 16] [0,1,5,17],
 C 17 (Q [.reg [m 18 0,o1 19 (.nlc (.t 18)),fa 20 19 1,l1 21 20,lq 22 21,m 5 22] [0,1,5],
 .reg [m 23 0,o1 24 (.nlc (.t 23)),fa 25 24 0,l1 26 25,m 27 1,m 28 5,o0 (.mup ⟨false,[.i .i64]⟩ (.t 26) (.t 27) (.t 28))] [0,1,5],
 .reg [m 29 0,m 30 0,o1 31 (.nlc (.t 30)),fa 32 31 1,l1 33 32,m 34 1,o1 35 (.lit 3 1 [.t 34]),o1 36 (.app (.t 33) (.t 35) 3 1 8),o1 37 (.nlc (.t 29)),fa 38 37 1,st 1 38 36] [0,5]]) (.skip)],
 .reg [m 39 5,m 4 39] [0,4],
 .ret]
theorem i8:am Tryz.prog Tryz.f253 [0] [214,155,198,249,269,270,277,292,291,197,317,322,318,323,320,321,319,216,253,219,255,252,218,254,251,186,188,223,224,226,231,233,199,200,234,201,260] [[0,1],[0,1,5,6],[0,1,5,17],[0,1,5],[0,1,5],[0,5],[0,4]] 2=some (ee,[.t 4]):=by kernel_rfl

abbrev eC:Nat:=219
theorem eY:Tryz.prog.funcs[219]?=some Tryz.f219:=Tryz.func219
def cR:AC:=
 Q [.reg [bx 3 1,mi 4 0] [0,3],
 .regD [m 8 0,o1 9 (.nlc (.t 8)),fa 10 9 0,l1 11 10,la 12 3 8,o1 13 (.lkp ⟨true,kz 8 (.i .u64)⟩ (.int .i64 0) true (.t 11) (.t 12)),m 7 13,ex 14 7 0,ex 15 7 1,m 5 14,m 6 15] [0,3,5,6],
 Q [.reg [m 16 6,nt' 17 16] [0,3,5,17],
 C 17 (Q [.reg [m 18 0,o1 19 (.nlc (.t 18)),fa 20 19 1,l1 21 20,lq 22 21,m 5 22] [0,3,5],
 .regD [m 23 0,o1 24 (.nlc (.t 23)),fa 25 24 0,l1 26 25,la 27 3 8,m 28 5,o0 (.mup ⟨true,kz 8 (.i .u64)⟩ (.t 26) (.t 27) (.t 28))] [0,3,5],
 .regD [m 29 0,m 30 0,o1 31 (.nlc (.t 30)),fa 32 31 1,l1 33 32,la 34 3 8,o1 35 (.lit 227 8 [.t 34]),o1 36 (.app (.t 33) (.t 35) 227 8 64),o1 37 (.nlc (.t 29)),fa 38 37 1,st 1 38 36] [0,5]]) (.skip)],
 .reg [m 39 5,m 4 39] [0,4],
 .ret]
theorem eR:am Tryz.prog Tryz.f219 [0] [214,155,198,249,269,270,277,292,291,197,317,322,318,323,320,321,319,216,253,219,255,252,218,254,251,186,188,223,224,226,231,233,199,200,234,201,260] [[0,3],[0,0,1,3,7,0,31,63,127,127,255,1023],[0,1,2,3,4,5,6,7,8,9,10],[0,3,5,6],[0,3,5,17],[0,3,5],[0,0,1,3,7,0,0,63],[0,1,2,3,4,5,6],[0,3,5],[0,0,0,2,6,14,0,32,126,255,511,1023],[0,1,2,3,4,5,6,7,8,9,10],[0,5],[0,4]] 2=some (cR,[.t 4]):=by kernel_rfl

abbrev eD:Nat:=255
theorem eZ:Tryz.prog.funcs[255]?=some Tryz.f255:=Tryz.func255
def cT:AC:=
 Q [.reg [bx 3 1,mi 4 0] [0,3],
 .regD [m 8 0,o1 9 (.nlc (.t 8)),fa 10 9 0,l1 11 10,la 12 3 96,o1 13 (.lkp ⟨true,kz 96 (.i .u16)⟩ (.int .i64 0) true (.t 11) (.t 12)),m 7 13,ex 14 7 0,ex 15 7 1,m 5 14,m 6 15] [0,3,5,6],
 Q [.reg [m 16 6,nt' 17 16] [0,3,5,17],
 C 17 (Q [.reg [m 18 0,o1 19 (.nlc (.t 18)),fa 20 19 1,l1 21 20,lq 22 21,m 5 22] [0,3,5],
 .regD [m 23 0,o1 24 (.nlc (.t 23)),fa 25 24 0,l1 26 25,la 27 3 96,m 28 5,o0 (.mup ⟨true,kz 96 (.i .u16)⟩ (.t 26) (.t 27) (.t 28))] [0,3,5],
 .regD [m 29 0,m 30 0,o1 31 (.nlc (.t 30)),fa 32 31 1,l1 33 32,la 34 3 96,o1 35 (.lit 317 96 [.t 34]),o1 36 (.app (.t 33) (.t 35) 317 96 192),o1 37 (.nlc (.t 29)),fa 38 37 1,st 1 38 36] [0,5]]) (.skip)],
 .reg [m 39 5,m 4 39] [0,4],
 .ret]
theorem eS:am Tryz.prog Tryz.f255 [0] [214,155,198,249,269,270,277,292,291,197,317,322,318,323,320,321,319,216,253,219,255,252,218,254,251,186,188,223,224,226,231,233,199,200,234,201,260] [[0,3],[0,0,1,3,7,0,31,63,127,127,255,1023],[0,1,2,3,4,5,6,7,8,9,10],[0,3,5,6],[0,3,5,17],[0,3,5],[0,0,1,3,7,0,0,63],[0,1,2,3,4,5,6],[0,3,5],[0,0,0,2,6,14,0,32,126,255,511,1023],[0,1,2,3,4,5,6,7,8,9,10],[0,5],[0,4]] 2=some (cT,[.t 4]):=by kernel_rfl

abbrev wW:Nat:=252
theorem xy:Tryz.prog.funcs[252]?=some Tryz.f252:=Tryz.func252
def om:AC:=
 Q [.reg [mv 2 (.nilptr)] [0],
 .reg [o1 6 (.mkp ⟨false,[.i .i64]⟩),o1 7 (.bld [.junk,.nil 1] [(0,1,(.t 6))]),bx 8 7,m 3 8] [0,3],
 Q [.reg [m 9 0,lq 10 9,mi 11 0] [3,9,10,11],
 .block 0 (.loop [3,9,10,11] (Q [.reg [bt 12 .lss 11 10] [3,9,10,11,12],
 C 12 (.skip) (.exit 0),
 .block 1 (Q [.reg [ia 13 9 11 1,l1 14 13,m 5 14] [3,5,9,10,11],
 .reg [m 15 3,m 16 5,ch 17 253 [15,16]] [3,9,10,11]]),
 .reg [bi 18 .add 11 1,m 11 18] [3,9,10,11]]))],
 .reg [m 19 3,m 2 19] [2],
 .ret]
theorem xj:am Tryz.prog Tryz.f252 [] [214,155,198,249,269,270,277,292,291,197,317,322,318,323,320,321,319,216,253,219,255,252,218,254,251,186,188,223,224,226,231,233,199,200,234,201,260] [[0],[0,3],[3,9,10,11],[3,9,10,11],[3,9,10,11,12],[3,5,9,10,11],[3,9,10,11],[3,9,10,11],[2]] 1=some (om,[.t 2]):=by kernel_rfl

abbrev qH:Nat:=218
theorem qX:Tryz.prog.funcs[218]?=some Tryz.f218:=Tryz.func218
def ju:AC:=
 Q [.reg [mv 2 (.nilptr)] [0],
 .reg [o1 6 (.mkp ⟨true,kz 8 (.i .u64)⟩),o1 7 (.bld [.junk,.nil 8] [(0,1,(.t 6))]),bx 8 7,m 3 8] [0,3],
 Q [.reg [m 9 0,lq 10 9,mi 11 0] [3,9,10,11],
 .block 0 (.loop [3,9,10,11] (Q [.reg [bt 12 .lss 11 10] [3,9,10,11,12],
 C 12 (.skip) (.exit 0),
 .block 1 (Q [.reg [ia 13 9 11 8,la 14 13 8,o1 5 (.alc (zs 8 (.int .u64 0))),st 8 5 14] [3,5,9,10,11],
 .reg [m 15 3,la 16 5 8,ch 17 219 [15,16]] [3,9,10,11]]),
 .reg [bi 18 .add 11 1,m 11 18] [3,9,10,11]]))],
 .reg [m 19 3,m 2 19] [2],
 .ret]
theorem qR:am Tryz.prog Tryz.f218 [] [214,155,198,249,269,270,277,292,291,197,317,322,318,323,320,321,319,216,253,219,255,252,218,254,251,186,188,223,224,226,231,233,199,200,234,201,260] [[0],[0,3],[3,9,10,11],[3,9,10,11],[3,9,10,11,12],[3,5,9,10,11],[3,9,10,11],[3,9,10,11],[2]] 1=some (ju,[.t 2]):=by kernel_rfl

abbrev qI:Nat:=254
theorem qY:Tryz.prog.funcs[254]?=some Tryz.f254:=Tryz.func254
def jv:AC:=
 Q [.reg [mv 2 (.nilptr)] [0],
 .reg [o1 6 (.mkp ⟨true,kz 96 (.i .u16)⟩),o1 7 (.bld [.junk,.nil 96] [(0,1,(.t 6))]),bx 8 7,m 3 8] [0,3],
 Q [.reg [m 9 0,lq 10 9,mi 11 0] [3,9,10,11],
 .block 0 (.loop [3,9,10,11] (Q [.reg [bt 12 .lss 11 10] [3,9,10,11,12],
 C 12 (.skip) (.exit 0),
 .block 1 (Q [.reg [ia 13 9 11 96,la 14 13 96,o1 5 (.alc (zs 96 (.int .u16 0))),st 96 5 14] [3,5,9,10,11],
 .reg [m 15 3,la 16 5 96,ch 17 255 [15,16]] [3,9,10,11]]),
 .reg [bi 18 .add 11 1,m 11 18] [3,9,10,11]]))],
 .reg [m 19 3,m 2 19] [2],
 .ret]
theorem qS:am Tryz.prog Tryz.f254 [] [214,155,198,249,269,270,277,292,291,197,317,322,318,323,320,321,319,216,253,219,255,252,218,254,251,186,188,223,224,226,231,233,199,200,234,201,260] [[0],[0,3],[3,9,10,11],[3,9,10,11],[3,9,10,11,12],[3,5,9,10,11],[3,9,10,11],[3,9,10,11],[2]] 1=some (jv,[.t 2]):=by kernel_rfl

abbrev tx:Nat:=251
theorem tK:Tryz.prog.funcs[251]?=some Tryz.f251:=Tryz.func251
def kJ:AC:=
 Q [.reg [bx 3 0,mv 6 (.nil 1)] [1,2,3],
 .scope 0 [1,2,3,7] (Q [.reg [mi 7 0] [1,2,3,7],
 .label 0,
 Q [.reg [m 10 7,m 11 2,lq 12 11,bt 13 .lss 10 12] [1,2,3,7,13],
 C 13 (Q [Q [.regD [fa 14 3 1,l1 15 14,m 16 2,m 17 7,ia 18 16 17 1,l1 19 18,ia 20 15 19 1,l1 21 20,m 8 21] [1,2,3,7,8],
 .block 0 (.loop [1,2,3,7,8] (Q [Q [.reg [m 22 8,bi 23 .neq 22 0] [1,2,3,7,8,23],
 C 23 (.skip) (.exit 0)],
 .block 1 (Q [.reg [fa 30 3 0,l1 31 30,m 32 8,bi 33 .sub 32 1,ia 34 31 33 4,fa 35 34 1,l1 36 35,m 9 36] [1,2,3,7,8,9],
 .reg [m 37 1,m 38 9,ia 39 37 38 1,l1 40 39,nt' 41 40] [1,2,3,7,8,9,41],
 C 41 (Q [.reg [m 42 1,m 43 9,ia 44 42 43 1,o0 (.st 1 (.t 44) (.v (.bool true)))] [1,2,3,7,8,9],
 .reg [m 45 2,m 46 9,o1 47 (.lit 3 1 [.t 46]),o1 48 (.app (.t 45) (.t 47) 3 1 8),m 2 48] [1,2,3,7,8]]) (.skip)]),
 .reg [fa 24 3 2,l1 25 24,m 26 8,bi 27 .sub 26 1,ia 28 25 27 1,l1 29 28,m 8 29] [1,2,3,7,8]]))],
 .reg [m 49 7,bi 50 .add 49 1,m 7 50] [1,2,3,7],
 .goto 0]) (.skip)],
 .reg [m 51 2,m 6 51] [1,6],
 .ret]) (Q [.skip,
 Q [.reg [m 10 7,m 11 2,lq 12 11,bt 13 .lss 10 12] [1,2,3,7,13],
 C 13 (Q [Q [.regD [fa 14 3 1,l1 15 14,m 16 2,m 17 7,ia 18 16 17 1,l1 19 18,ia 20 15 19 1,l1 21 20,m 8 21] [1,2,3,7,8],
 .block 0 (.loop [1,2,3,7,8] (Q [Q [.reg [m 22 8,bi 23 .neq 22 0] [1,2,3,7,8,23],
 C 23 (.skip) (.exit 0)],
 .block 1 (Q [.reg [fa 30 3 0,l1 31 30,m 32 8,bi 33 .sub 32 1,ia 34 31 33 4,fa 35 34 1,l1 36 35,m 9 36] [1,2,3,7,8,9],
 .reg [m 37 1,m 38 9,ia 39 37 38 1,l1 40 39,nt' 41 40] [1,2,3,7,8,9,41],
 C 41 (Q [.reg [m 42 1,m 43 9,ia 44 42 43 1,o0 (.st 1 (.t 44) (.v (.bool true)))] [1,2,3,7,8,9],
 .reg [m 45 2,m 46 9,o1 47 (.lit 3 1 [.t 46]),o1 48 (.app (.t 45) (.t 47) 3 1 8),m 2 48] [1,2,3,7,8]]) (.skip)]),
 .reg [fa 24 3 2,l1 25 24,m 26 8,bi 27 .sub 26 1,ia 28 25 27 1,l1 29 28,m 8 29] [1,2,3,7,8]]))],
 .reg [m 49 7,bi 50 .add 49 1,m 7 50] [1,2,3,7],
 .goto 0]) (.skip)],
 .reg [m 51 2,m 6 51] [1,6],
 .ret])]
theorem tF:am Tryz.prog Tryz.f251 [1] [214,155,198,249,269,270,277,292,291,197,317,322,318,323,320,321,319,216,253,219,255,252,218,254,251,186,188,223,224,226,231,233,199,200,234,201,260] [[1,2,3],[0,1,2,3,7],[1,2,3,7],[1,2,3,7,13],[0,0,1,0,0,12,28,63,127,255],[0,1,2,3,4,5,6,7,8],[1,2,3,7,8],[1,2,3,7,8],[1,2,3,7,8,23],[1,2,3,7,8,9],[1,2,3,7,8,9,41],[1,2,3,7,8,9],[1,2,3,7,8],[1,2,3,7,8],[1,2,3,7],[1,6]] 3=some (kJ,[.t 6]):=by kernel_rfl

abbrev fH:Nat:=186
theorem GA:Tryz.prog.funcs[186]?=some Tryz.f186:=Tryz.func186
def yl:AC:=
 Q [.reg [bx 5 0,o1 7 (.alc (zs 8 (.int .u64 0)))] [1,2,3,4,5,7],
 Q [.reg [m 8 1,o1 9 (.iaa (.t 2) (.t 8) 95 1),l1 10 9] [1,2,3,4,5,7,10],
 C 10 (.reg [l1 11 3,la 12 5 8,m 13 1,ca 14 187 [11,12,13],st 8 4 14] [2,3,4,7]) (.skip)],
 .reg [la 15 4 8,st 8 7 15] [2,3,4,7],
 .ret]
theorem Gt:am Tryz.prog Tryz.f186 [2,3,4] [214,155,198,249,269,270,277,292,291,197,317,322,318,323,320,321,319,216,253,219,255,252,218,254,251,186,188,223,224,226,231,233,199,200,234,201,260] [[1,2,3,4,5,7],[1,2,3,4,5,7,10],[2,3,4,7],[2,3,4,7]] 5=some (yl,[.c 7 8 true]):=by kernel_rfl

abbrev qG:Nat:=188
theorem qW:Tryz.prog.funcs[188]?=some Tryz.f188:=Tryz.func188
def jt:AC:=
 Q [.reg [bx 3 0,mv 6 (.nil 8),mv 7 (.nil 1),mb 8 false] [1,2,3],
 .reg [la 17 3 8,o1 18 (.lit 227 8 [.t 17]),ch 19 218 [18],m 9 19] [1,2,9],
 .reg [mv 10 (.nil 1)] [1,2,9,10],
 Q [.reg [mi 11 0] [1,2,9,10,11],
 .block 0 (.loop [1,2,9,10,11] (Q [Q [.reg [m 20 11,m 21 9,o1 22 (.nlc (.t 21)),fa 23 22 1,l1 24 23,lq 25 24,bt 26 .lss 20 25] [1,2,9,10,11,26],
 C 26 (.skip) (.exit 0)],
 .block 1 (Q [.reg [o1 29 (.mks 3 1 8 (.int .i64 0) (.v (.int .i64 95))),m 12 29] [1,2,9,10,11,12],
 .reg [m 30 9,o1 31 (.nlc (.t 30)),fa 32 31 1,l1 33 32,m 34 11,ia 35 33 34 8,la 36 35 8,m 37 11,o1 13 (.alc (zs 8 (.int .u64 0))),st 8 13 36,m 14 37] [1,2,9,10,11,12,13,14],
 Q [.reg [m 38 12,lq 39 38,mi 40 0] [1,2,9,10,11,12,13,14,39,40],
 .block 2 (.loop [1,2,9,10,11,12,13,14,39,40] (Q [.reg [bt 41 .lss 40 39] [1,2,9,10,11,12,13,14,39,40,41],
 C 41 (.skip) (.exit 2),
 .block 3 (Q [.reg [m 42 40,m 15 42] [1,2,9,10,11,12,13,14,15,39,40],
 Q [.reg [m 43 1,m 44 9,o1 45 (.nlc (.t 44)),fa 46 45 1,l1 47 46,m 48 11,ia 49 47 48 8,la 50 49 8,m 51 15,cv 52 43 [50,51],o1 16 (.alc (zs 8 (.int .u64 0))),st 8 16 52] [1,2,9,10,11,12,13,14,15,16,39,40],
 .reg [la 53 16 8,la 54 13 8,o1 55 (.aeq true ⟨true,kz 8 (.i .u64)⟩ (.t 53) (.t 54))] [1,2,9,10,11,12,13,14,15,16,39,40,55],
 C 55 (.regF (OQ [m 57 9,la 58 16 8] (.both
 (OQ [la 56 16 8,ch 59 219 [57,58],st 8 13 56,m 14 59] .nil)
 (OQ [ch 59 219 [57,58],la 56 16 8,st 8 13 56,m 14 59] .nil))) [1,2,9,10,11,12,13,14,15,39,40]) (.skip)],
 .reg [m 60 12,m 61 15,m 62 14,ia 63 60 61 1,st 1 63 62] [1,2,9,10,11,12,13,14,39,40]]),
 .reg [bi 64 .add 40 1,m 40 64] [1,2,9,10,11,12,13,14,39,40]]))],
 Q [.reg [m 65 9,o1 66 (.nlc (.t 65)),fa 67 66 1,l1 68 67,lq 69 68,m 70 2,bt 71 .gtr 69 70] [1,2,9,10,11,12,71],
 C 71 (Q [.reg [mv 6 (.nil 8),mv 7 (.nil 1),mb 8 false] [1,6,7,8],
 .ret]) (.skip)],
 .reg [m 72 10,m 73 12,o1 74 (.lit 48 1 [.t 73]),o1 75 (.app (.t 72) (.t 74) 48 1 24),m 10 75] [1,2,9,10,11]]),
 .reg [m 27 11,bi 28 .add 27 1,m 11 28] [1,2,9,10,11]]))],
 .reg [m 76 9,o1 77 (.nlc (.t 76)),fa 78 77 1,l1 79 78,m 80 10,m 6 79,m 7 80,mb 8 true] [1,6,7,8],
 .ret]
theorem qQ:am Tryz.prog Tryz.f188 [1] [214,155,198,249,269,270,277,292,291,197,317,322,318,323,320,321,319,216,253,219,255,252,218,254,251,186,188,223,224,226,231,233,199,200,234,201,260] [[1,2,3],[1,2,9],[1,2,9,10],[1,2,9,10,11],[1,2,9,10,11],[1,2,9,10,11,26],[1,2,9,10,11,12],[1,2,9,10,11,12,13,14],[1,2,9,10,11,12,13,14,39,40],[1,2,9,10,11,12,13,14,39,40],[1,2,9,10,11,12,13,14,39,40,41],[1,2,9,10,11,12,13,14,15,39,40],[1,2,9,10,11,12,13,14,15,16,39,40],[1,2,9,10,11,12,13,14,15,16,39,40,55],[1,0,0,0,6,15,31],[1,2,9,10,11,12,13,14,15,39,40],[1,2,9,10,11,12,13,14,39,40],[1,2,9,10,11,12,13,14,39,40],[1,2,9,10,11,12,71],[1,6,7,8],[1,2,9,10,11],[1,2,9,10,11],[1,6,7,8]] 3=some (jt,[.t 6,.t 7,.t 8]):=by kernel_rfl

abbrev nh:Nat:=223
theorem nG:Tryz.prog.funcs[223]?=some Tryz.f223:=Tryz.func223
def jr:AC:=
 Q [.reg [mv 6 (.nil 1),mv 7 (.nil 1),mb 8 false] [0,1,2],
 .reg [m 17 0,o1 18 (.lit 3 1 [.t 17]),ch 19 252 [18],m 9 19] [1,2,9],
 .reg [mv 10 (.nil 1)] [1,2,9,10],
 Q [.reg [mi 11 0] [1,2,9,10,11],
 .block 0 (.loop [1,2,9,10,11] (Q [Q [.reg [m 20 11,m 21 9,o1 22 (.nlc (.t 21)),fa 23 22 1,l1 24 23,lq 25 24,bt 26 .lss 20 25] [1,2,9,10,11,26],
 C 26 (.skip) (.exit 0)],
 .block 1 (Q [.reg [o1 29 (.mks 3 1 8 (.int .i64 0) (.v (.int .i64 95))),m 12 29] [1,2,9,10,11,12],
 .reg [m 30 9,o1 31 (.nlc (.t 30)),fa 32 31 1,l1 33 32,m 34 11,ia 35 33 34 1,l1 36 35,m 37 11,m 13 36,m 14 37] [1,2,9,10,11,12,13,14],
 Q [.reg [m 38 12,lq 39 38,mi 40 0] [1,2,9,10,11,12,13,14,39,40],
 .block 2 (.loop [1,2,9,10,11,12,13,14,39,40] (Q [.reg [bt 41 .lss 40 39] [1,2,9,10,11,12,13,14,39,40,41],
 C 41 (.skip) (.exit 2),
 .block 3 (Q [.reg [m 42 40,m 15 42] [1,2,9,10,11,12,13,14,15,39,40],
 Q [.reg [m 43 1,m 44 9,o1 45 (.nlc (.t 44)),fa 46 45 1,l1 47 46,m 48 11,ia 49 47 48 1,l1 50 49,m 51 15,cv 52 43 [50,51],m 16 52] [1,2,9,10,11,12,13,14,15,16,39,40],
 .reg [m 53 16,m 54 13,bt 55 .neq 53 54] [1,2,9,10,11,12,13,14,15,16,39,40,55],
 C 55 (.reg [m 56 16,m 57 9,m 58 16,ch 59 253 [57,58],m 13 56,m 14 59] [1,2,9,10,11,12,13,14,15,39,40]) (.skip)],
 .reg [m 60 12,m 61 15,m 62 14,ia 63 60 61 1,st 1 63 62] [1,2,9,10,11,12,13,14,39,40]]),
 .reg [bi 64 .add 40 1,m 40 64] [1,2,9,10,11,12,13,14,39,40]]))],
 Q [.reg [m 65 9,o1 66 (.nlc (.t 65)),fa 67 66 1,l1 68 67,lq 69 68,m 70 2,bt 71 .gtr 69 70] [1,2,9,10,11,12,71],
 C 71 (Q [.reg [mv 6 (.nil 1),mv 7 (.nil 1),mb 8 false] [1,6,7,8],
 .ret]) (.skip)],
 .reg [m 72 10,m 73 12,o1 74 (.lit 48 1 [.t 73]),o1 75 (.app (.t 72) (.t 74) 48 1 24),m 10 75] [1,2,9,10,11]]),
 .reg [m 27 11,bi 28 .add 27 1,m 11 28] [1,2,9,10,11]]))],
 .reg [m 76 9,o1 77 (.nlc (.t 76)),fa 78 77 1,l1 79 78,m 80 10,m 6 79,m 7 80,mb 8 true] [1,6,7,8],
 .ret]
theorem ny:am Tryz.prog Tryz.f223 [1] [214,155,198,249,269,270,277,292,291,197,317,322,318,323,320,321,319,216,253,219,255,252,218,254,251,186,188,223,224,226,231,233,199,200,234,201,260] [[0,1,2],[1,2,9],[1,2,9,10],[1,2,9,10,11],[1,2,9,10,11],[1,2,9,10,11,26],[1,2,9,10,11,12],[1,2,9,10,11,12,13,14],[1,2,9,10,11,12,13,14,39,40],[1,2,9,10,11,12,13,14,39,40],[1,2,9,10,11,12,13,14,39,40,41],[1,2,9,10,11,12,13,14,15,39,40],[1,2,9,10,11,12,13,14,15,16,39,40],[1,2,9,10,11,12,13,14,15,16,39,40,55],[1,2,9,10,11,12,13,14,15,39,40],[1,2,9,10,11,12,13,14,39,40],[1,2,9,10,11,12,13,14,39,40],[1,2,9,10,11,12,71],[1,6,7,8],[1,2,9,10,11],[1,2,9,10,11],[1,6,7,8]] 3=some (jr,[.t 6,.t 7,.t 8]):=by kernel_rfl

abbrev eK:Nat:=224
theorem CX:Tryz.prog.funcs[224]?=some Tryz.f224:=Tryz.func224
def sV:AC:=
 Q [.reg [mi 5 0] [0,1,2],
 .reg [l1 6 2,m 7 0,ia 8 6 7 1,l1 9 8,m 10 1,ia 11 9 10 1,l1 12 11,m 5 12] [2,5],
 .ret]
theorem CD:am Tryz.prog Tryz.f224 [2] [214,155,198,249,269,270,277,292,291,197,317,322,318,323,320,321,319,216,253,219,255,252,218,254,251,186,188,223,224,226,231,233,199,200,234,201,260] [[0,1,2],[2,5]] 3=some (sV,[.t 5]):=by kernel_rfl

abbrev cN:Nat:=226
theorem CW:Tryz.prog.funcs[226]?=some Tryz.f226:=Tryz.func226
def sU:AC:=
 Q [.reg [mi 7 0] [0,1,2,3,4],
 .regD [l1 8 2,l1 9 3,l1 10 4,m 11 0,ia 12 10 11 1,l1 13 12,ia 14 9 13 1,l1 15 14,m 16 1,ia 17 15 16 1,l1 18 17,ia 19 8 18 1,l1 20 19,m 7 20] [2,3,4,7],
 .ret]
theorem CC:am Tryz.prog Tryz.f226 [2,3,4] [214,155,198,249,269,270,277,292,291,197,317,322,318,323,320,321,319,216,253,219,255,252,218,254,251,186,188,223,224,226,231,233,199,200,234,201,260] [[0,1,2,3,4],[0,0,0,0,0,12,28,62,126,0,510,1022,2047,4095,8191],[0,1,2,3,4,5,6,7,8,9,10,11,12,13],[2,3,4,7]] 5=some (sU,[.t 7]):=by kernel_rfl

abbrev pg:Nat:=231
theorem py:Tryz.prog.funcs[231]?=some Tryz.f231:=Tryz.func231
def ic:AC:=
 Q [.reg [mv 2 (.nilptr)] [0],
 .reg [o1 6 (.mkp ⟨true,[.i .i64,.i .i64]⟩),o1 7 (.bld [.junk,.nil 2] [(0,1,(.t 6))]),bx 8 7,m 3 8] [0,3],
 Q [.reg [m 9 0,lq 10 9,mi 11 0] [3,9,10,11],
 .block 0 (.loop [3,9,10,11] (Q [.reg [bt 12 .lss 11 10] [3,9,10,11,12],
 C 12 (.skip) (.exit 0),
 .block 1 (Q [.reg [ia 13 9 11 2,la 14 13 2,o1 5 (.alc [.int .i64 0,.int .i64 0]),st 2 5 14] [3,5,9,10,11],
 .reg [m 15 3,la 16 5 2,ch 17 233 [15,16]] [3,9,10,11]]),
 .reg [bi 18 .add 11 1,m 11 18] [3,9,10,11]]))],
 .reg [m 19 3,m 2 19] [2],
 .ret]
theorem pq:am Tryz.prog Tryz.f231 [] [214,155,198,249,269,270,277,292,291,197,317,322,318,323,320,321,319,216,253,219,255,252,218,254,251,186,188,223,224,226,231,233,199,200,234,201,260] [[0],[0,3],[3,9,10,11],[3,9,10,11],[3,9,10,11,12],[3,5,9,10,11],[3,9,10,11],[3,9,10,11],[2]] 1=some (ic,[.t 2]):=by kernel_rfl

abbrev ek:Nat:=233
theorem eo:Tryz.prog.funcs[233]?=some Tryz.f233:=Tryz.func233
def cC:AC:=
 Q [.reg [bx 3 1,mi 4 0] [0,3],
 .regD [m 8 0,o1 9 (.nlc (.t 8)),fa 10 9 0,l1 11 10,la 12 3 2,o1 13 (.lkp ⟨true,[.i .i64,.i .i64]⟩ (.int .i64 0) true (.t 11) (.t 12)),m 7 13,ex 14 7 0,ex 15 7 1,m 5 14,m 6 15] [0,3,5,6],
 Q [.reg [m 16 6,nt' 17 16] [0,3,5,17],
 C 17 (Q [.reg [m 18 0,o1 19 (.nlc (.t 18)),fa 20 19 1,l1 21 20,lq 22 21,m 5 22] [0,3,5],
 .regD [m 23 0,o1 24 (.nlc (.t 23)),fa 25 24 0,l1 26 25,la 27 3 2,m 28 5,o0 (.mup ⟨true,[.i .i64,.i .i64]⟩ (.t 26) (.t 27) (.t 28))] [0,3,5],
 .regD [m 29 0,m 30 0,o1 31 (.nlc (.t 30)),fa 32 31 1,l1 33 32,la 34 3 2,o1 35 (.lit 249 2 [.t 34]),o1 36 (.app (.t 33) (.t 35) 249 2 16),o1 37 (.nlc (.t 29)),fa 38 37 1,st 1 38 36] [0,5]]) (.skip)],
 .reg [m 39 5,m 4 39] [0,4],
 .ret]
theorem en:am Tryz.prog Tryz.f233 [0] [214,155,198,249,269,270,277,292,291,197,317,322,318,323,320,321,319,216,253,219,255,252,218,254,251,186,188,223,224,226,231,233,199,200,234,201,260] [[0,3],[0,0,1,3,7,0,31,63,127,127,255,1023],[0,1,2,3,4,5,6,7,8,9,10],[0,3,5,6],[0,3,5,17],[0,3,5],[0,0,1,3,7,0,0,63],[0,1,2,3,4,5,6],[0,3,5],[0,0,0,2,6,14,0,32,126,255,511,1023],[0,1,2,3,4,5,6,7,8,9,10],[0,5],[0,4]] 2=some (cC,[.t 4]):=by kernel_rfl

abbrev ni:Nat:=199
theorem nH:Tryz.prog.funcs[199]?=some Tryz.f199:=Tryz.func199
def gD:AC:=
 Q [.reg [bx 3 0,mv 6 (.str []),mb 7 false] [1,2,3],
 .reg [la 15 3 2,o1 16 (.ltr 249 2 [.t 15]),ch 17 231 [16],m 8 17] [1,2,8],
 .reg [o1 18 (.ltr 3 1 [.v (.int .i64 0)]),o1 19 (.ltr 5 1 [.v (.int .u8 0)]),m 9 18,m 10 19] [1,2,8,9,10],
 Q [.reg [mi 11 0] [1,2,8,9,10,11],
 .block 0 (.loop [1,2,8,9,10,11] (Q [Q [.reg [m 20 11,m 21 8,o1 22 (.nlc (.t 21)),fa 23 22 1,l1 24 23,lq 25 24,bt 26 .lss 20 25] [1,2,8,9,10,11,26],
 C 26 (.skip) (.exit 0)],
 .block 1 (Q [Q [.reg [m 29 2,m 30 8,o1 31 (.nlc (.t 30)),fa 32 31 1,l1 33 32,m 34 11,ia 35 33 34 2,la 36 35 2,cv 37 29 [36]] [1,2,8,9,10,11,37],
 C 37 (Q [.reg [m 38 9,m 39 10,m 40 11,ca 41 232 [38,39,40],m 6 41,mb 7 true] [1,2,6,7],
 .ret]) (.skip)],
 .reg [m 42 8,o1 43 (.nlc (.t 42)),fa 44 43 1,l1 45 44,m 46 11,ia 47 45 46 2,la 48 47 2,o1 12 (.alc [.int .i64 0,.int .i64 0]),st 2 12 48] [1,2,8,9,10,11,12],
 .reg [mi 49 0] [1,2,8,9,10,11,12,49],
 .block 2 (.loop [1,2,8,9,10,11,12,49] (Q [.reg [bi 50 .lss 49 95] [1,2,8,9,10,11,12,49,50],
 C 50 (.skip) (.exit 2),
 .block 3 (Q [.reg [m 51 49,m 13 51] [1,2,8,9,10,11,12,13,49],
 .reg [m 52 1,m 53 8,o1 54 (.nlc (.t 53)),fa 55 54 1,l1 56 55,m 57 11,ia 58 56 57 2,la 59 58 2,m 60 13,cv 61 52 [59,60],o1 14 (.alc [.int .i64 0,.int .i64 0]),st 2 14 61] [1,2,8,9,10,11,12,13,14,49],
 Q [.reg [la 62 14 2,la 63 12 2,o1 64 (.aeq false ⟨true,[.i .i64,.i .i64]⟩ (.t 62) (.t 63))] [1,2,8,9,10,11,12,13,14,49,64],
 C 64 (.exit 3) (.skip)],
 .reg [la 65 14 2,st 2 12 65] [1,2,8,9,10,11,12,13,14,49],
 .reg [m 66 8,la 67 14 2,ch 68 233 [66,67],m 69 9,lq 70 69,bt 71 .eql 68 70] [1,2,8,9,10,11,12,13,49,71],
 C 71 (Q [.reg [m 72 9,m 73 11,o1 74 (.ltr 3 1 [.t 73]),o1 75 (.app (.t 72) (.t 74) 3 1 8),m 9 75] [1,2,8,9,10,11,12,13,49],
 .reg [m 76 10,m 77 13,o1 78 (.bin .add (.v (.int .i64 32)) (.t 77)),o1 79 (.cii .u8 (.t 78)),o1 80 (.ltr 5 1 [.t 79]),o1 81 (.app (.t 76) (.t 80) 5 1 1),m 10 81] [1,2,8,9,10,11,12,49]]) (.skip)]),
 .reg [bi 82 .add 49 1,m 49 82] [1,2,8,9,10,11,12,49]]))]),
 .reg [m 27 11,bi 28 .add 27 1,m 11 28] [1,2,8,9,10,11]]))],
 .reg [mv 6 (.str []),mb 7 false] [1,2,6,7],
 .ret]
theorem nz:am Tryz.prog Tryz.f199 [1,2] [214,155,198,249,269,270,277,292,291,197,317,322,318,323,320,321,319,216,253,219,255,252,218,254,251,186,188,223,224,226,231,233,199,200,234,201,260,1000001] [[1,2,3],[1,2,8],[1,2,8,9,10],[1,2,8,9,10,11],[1,2,8,9,10,11],[1,2,8,9,10,11,26],[1,2,8,9,10,11,37],[1,2,6,7],[1,2,8,9,10,11,12],[1,2,8,9,10,11,12,49],[1,2,8,9,10,11,12,49],[1,2,8,9,10,11,12,49,50],[1,2,8,9,10,11,12,13,49],[1,2,8,9,10,11,12,13,14,49],[1,2,8,9,10,11,12,13,14,49,64],[1,2,8,9,10,11,12,13,14,49],[1,2,8,9,10,11,12,13,49,71],[1,2,8,9,10,11,12,13,49],[1,2,8,9,10,11,12,49],[1,2,8,9,10,11,12,49],[1,2,8,9,10,11],[1,2,6,7]] 3=some (gD,[.t 6,.t 7]):=by kernel_rfl

abbrev Gc:Nat:=200
theorem Gz:Tryz.prog.funcs[200]?=some Tryz.f200:=Tryz.func200
def yj:AC:=
 Q [.reg [bx 2 0,bx 3 1,mv 4 (.nilfn)] [2,3],
 .reg [o1 5 (.mkf (.func 234) [] [.t 2,.t 3]),m 4 5] [4],
 .ret]
theorem Gs:an Tryz.prog Tryz.f200 [[2,3],[4]] 2=some (yj,[.t 4]):=by kernel_rfl

abbrev eL:Nat:=234
theorem CY:Tryz.prog.funcs[234]?=some Tryz.f234:=Tryz.func234
def sW:AC:=
 Q [.reg [bx 4 0,o1 6 (.alc [.int .i64 0,.int .i64 0])] [1,2,3,4,6],
 .regD [fa 7 2 0,l1 8 7,fa 9 4 0,l1 10 9,ia 11 8 10 1,l1 12 11,m 13 1,ia 14 12 13 1,l1 15 14,fa 16 3 0,l1 17 16,fa 18 4 1,l1 19 18,ia 20 17 19 1,l1 21 20,m 22 1,ia 23 21 22 1,l1 24 23,o1 25 (.bld [.int .i64 0,.int .i64 0] [(0,1,(.t 15)),(1,1,(.t 24))]),st 2 6 25] [2,3,6],
 .ret]
theorem CE:am Tryz.prog Tryz.f234 [2,3] [214,155,198,249,269,270,277,292,291,197,317,322,318,323,320,321,319,216,253,219,255,252,218,254,251,186,188,223,224,226,231,233,199,200,234,201,260] [[1,2,3,4,6],[0,0,1,0,4,15,31,0,127,255,0,512,0,2048,7680,15872,0,65024,130560,262143,524287],[0,1,2,3,4,5,6,7,8,9,10,11,12,13,14,15,16,17,18,19],[2,3,6]] 4=some (sW,[.c 6 2 true]):=by kernel_rfl

abbrev eJ:Nat:=201
theorem xx:Tryz.prog.funcs[201]?=some Tryz.f201:=Tryz.func201
def ol:AC:=
 Q [.reg [bx 4 0,mb 5 false] [1,2,3,4],
 .regD [l1 6 1,fa 7 2 1,l1 8 7,fa 9 4 0,l1 10 9,ia 11 8 10 1,l1 12 11,fa 13 3 1,l1 14 13,fa 15 4 1,l1 16 15,ia 17 14 16 1,l1 18 17,cv 19 6 [12,18],m 5 19] [1,2,3,5],
 .ret]
theorem xi:am Tryz.prog Tryz.f201 [1,2,3] [214,155,198,249,269,270,277,292,291,197,317,322,318,323,320,321,319,216,253,219,255,252,218,254,251,186,188,223,224,226,231,233,199,200,234,201,260] [[1,2,3,4],[0,0,0,2,0,8,30,62,0,128,0,512,1920,3968,8191,16383],[0,1,2,3,4,5,6,7,8,9,10,11,12,13,14],[1,2,3,5]] 4=some (ol,[.t 5]):=by kernel_rfl

abbrev il:Nat:=260
theorem iv:Tryz.prog.funcs[260]?=some Tryz.f260:=Tryz.func260
def di:AC:=
 Q [.reg [m 4 0,lq 5 4,bi 6 .sub 5 1,mi 2 0,m 3 6] [0,2,3],
 .block 0 (.loop [0,2,3] (Q [Q [.reg [m 7 2,m 8 3,bt 9 .lss 7 8] [0,2,3,9],
 C 9 (.skip) (.exit 0)],
 .block 1 (.regD [m 14 0,m 15 2,m 16 0,m 17 3,m 18 0,m 19 3,ia 20 18 19 1,l1 21 20,m 22 0,m 23 2,ia 24 22 23 1,l1 25 24,ia 26 14 15 1,st 1 26 21,ia 27 16 17 1,st 1 27 25] [0,2,3]),
 .reg [m 10 2,bi 11 .add 10 1,m 12 3,bi 13 .sub 12 1,m 2 11,m 3 13] [0,2,3]]))]
theorem it:am Tryz.prog Tryz.f260 [0] [214,155,198,249,269,270,277,292,291,197,317,322,318,323,320,321,319,216,253,219,255,252,218,254,251,186,188,223,224,226,231,233,199,200,234,201,260] [[0,2,3],[0,2,3],[0,2,3,9],[0,0,0,0,0,0,0,48,112,0,0,768,1792,4083,8179,16383,32767],[0,1,2,3,4,5,6,7,8,9,10,11,12,13,14,15],[0,2,3],[0,2,3]] 1=some (di,[]):=by kernel_rfl

end Go.Abs
