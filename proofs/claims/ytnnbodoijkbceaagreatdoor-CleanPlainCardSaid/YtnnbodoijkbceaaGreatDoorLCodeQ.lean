/-
  The images of some of the program's functions, as the kernel reckons them. Made by program. No condition.
-/
import Derived.Test.YtnnbodoijkbceaaGreatDoorLCodeP
set_option linter.all false
set_option maxHeartbeats 0
set_option maxRecDepth 100000
namespace Go.Abs
open Go.Proofs

abbrev jP:Nat:=283
theorem j3:Tryz.prog.funcs[283]?=some Tryz.f283:=Tryz.func283
def eW:AC:=
 Q [.reg [mv 2 (.nilptr)] [0],
 Q [.reg [m 3 0,o1 4 (.nlc (.t 3)),fa 5 4 1,l1 6 5,lq 7 6,bi 8 .eql 7 0] [0,8],
 C 8 (Q [.reg [m 9 0,o1 10 (.nlc (.t 9)),fa 11 10 0,m 2 11] [0,2],
 .ret]) (.skip)],
 .regD [m 12 0,o1 13 (.nlc (.t 12)),fa 14 13 1,l1 15 14,m 16 0,o1 17 (.nlc (.t 16)),fa 18 17 1,l1 19 18,lq 20 19,bi 21 .sub 20 1,ia 22 15 21 1,l1 23 22,o1 24 (.nlc (.t 23)),fa 25 24 6,m 2 25] [0,2],
 .ret]
theorem jZ:av Tryz.prog Tryz.f283 [0] [] [[0],[0,8],[0,2],[0,0,1,3,7,0,16,48,112,240,496,1023,2047,4095,8191,16383],[0,1,2,3,4,5,6,7,8,9,10,11,12,13,14],[0,2]] 1=some (eW,[.t 2]):=by kernel_rfl

abbrev ly:Nat:=282
theorem lO:Tryz.prog.funcs[282]?=some Tryz.f282:=Tryz.func282
def fW:AC:=
 Q [.reg [m 5 0,ch 6 283 [5],m 4 6] [0,1,4],
 .reg [m 7 4,m 8 4,o1 9 (.nlc (.t 8)),l1 10 9,m 11 1,o1 12 (.ltr 317 1 [.t 11]),o1 13 (.app (.t 10) (.t 12) 317 1 8),o1 14 (.nlc (.t 7)),st 1 14 13] [0]]
theorem lJ:av Tryz.prog Tryz.f282 [0] [283,3000012] [[0,1,4],[0]] 2=some (fW,[]):=by kernel_rfl

abbrev kL:Nat:=281
theorem kO:Tryz.prog.funcs[281]?=some Tryz.f281:=Tryz.func281
def fh:AC:=
 Q [.reg [mv 2 (.str [])] [0],
 .reg [m 5 0,o1 6 (.nlc (.t 5)),fa 7 6 1,l1 8 7,lq 9 8,bi 10 .sub 9 1,m 3 10] [0,3],
 .reg [m 11 0,o1 12 (.nlc (.t 11)),fa 13 12 1,l1 14 13,m 15 3,ia 16 14 15 1,l1 17 16,o1 18 (.nlc (.t 17)),fa 19 18 0,fa 20 19 1,l1 21 20,m 4 21] [0,3,4],
 .reg [m 22 0,m 23 0,o1 24 (.nlc (.t 23)),fa 25 24 1,l1 26 25,m 27 3,o1 28 (.trc (.t 26) (.t 27) 1),o1 29 (.nlc (.t 22)),fa 30 29 1,st 1 30 28] [0,4],
 Q [.reg [m 31 0,o1 32 (.nlc (.t 31)),fa 33 32 2,l1 34 33,m 35 4,o1 36 (.lkp ⟨false,[.s]⟩ (.int .i64 0) false (.t 34) (.t 35)),bi 37 .sub 36 1,o0 (.mup ⟨false,[.s]⟩ (.t 34) (.t 35) (.t 37))] [0,4],
 .reg [m 38 0,o1 39 (.nlc (.t 38)),fa 40 39 2,l1 41 40,m 42 4,o1 43 (.lkp ⟨false,[.s]⟩ (.int .i64 0) false (.t 41) (.t 42)),bi 44 .eql 43 0] [0,4,44],
 C 44 (.reg [m 45 0,o1 46 (.nlc (.t 45)),fa 47 46 2,l1 48 47,m 49 4,o0 (.del ⟨false,[.s]⟩ (.t 48) (.t 49))] [0,4]) (.skip)],
 .reg [m 50 4,m 2 50] [0,2],
 .ret]
theorem kN:av Tryz.prog Tryz.f281 [0] [1000000] [[0],[0,3],[0,3,4],[0,4],[0,4],[0,4,44],[0,4],[0,2]] 1=some (fh,[.t 2]):=by kernel_rfl

abbrev jR:Nat:=277
theorem j5:Tryz.prog.funcs[277]?=some Tryz.f277:=Tryz.func277
def AQ:AC:=
 Q [.regD [fa 34 3 1,l1 35 34,fa 36 3 2,l1 37 36,o1 38 (.apz (.t 37) 59 2 32),o1 39 (.bld [.int .i64 0,.str [],.nil 2,.str [],.nil 5] [(0,1,(.v (.int .i64 1))),(1,1,(.t 35)),(2,1,(.t 38))]),o1 40 (.bld [.int .i64 0,.str [],.nil 2,.str [],.nil 5,.nil 1,.nil 1] [(0,5,(.t 39))]),o1 41 (.bxq (.t 40)),m 4 41] [0,3,4],
 .reg [m 42 0,m 43 4,ch 44 282 [42,43]] [0,3,4],
 .reg [fa 45 3 1,l1 46 45,ca 47 112 [46],nt' 48 47] [0,3,4,48],
 C 48 (Q [.reg [m 49 0,m 50 0,o1 51 (.nlc (.t 50)),fa 52 51 1,l1 53 52,m 54 4,o1 55 (.ltr 317 1 [.t 54]),o1 56 (.app (.t 53) (.t 55) 317 1 8),o1 57 (.nlc (.t 49)),fa 58 57 1,st 1 58 56] [0,3],
 .regD [m 59 0,o1 60 (.nlc (.t 59)),fa 61 60 2,l1 62 61,fa 63 3 1,l1 64 63,o1 65 (.lkp ⟨false,[.s]⟩ (.int .i64 0) false (.t 62) (.t 64)),bi 66 .add 65 1,o0 (.mup ⟨false,[.s]⟩ (.t 62) (.t 64) (.t 66))] [0]]) (.skip)]
def eY:AC:=
 Q [.reg [bx 3 1] [0,3],
 .block 0 (.loop [0,3] (Q [Q [.regD [m 5 0,o1 6 (.nlc (.t 5)),fa 7 6 1,l1 8 7,lq 9 8,bi 10 .gtr 9 0,m 11 10,gt 11 (m 12 0),gt 11 (o1 13 (.nlc (.t 12))),gt 11 (fa 14 13 1),gt 11 (l1 15 14),gt 11 (m 16 0),gt 11 (o1 17 (.nlc (.t 16))),gt 11 (fa 18 17 1),gt 11 (l1 19 18),gt 11 (lq 20 19),gt 11 (bi 21 .sub 20 1),gt 11 (ia 22 15 21 1),gt 11 (l1 23 22),gt 11 (o1 24 (.nlc (.t 23))),gt 11 (fa 25 24 0),gt 11 (fa 26 25 1),gt 11 (l1 27 26),gt 11 (fa 28 3 1),gt 11 (l1 29 28),gt 11 (ca 30 114 [27,29]),pa 31 11 30] [0,3,31],
 C 31 (.skip) (.exit 0)],
 .block 1 (.reg [m 32 0,ch 33 281 [32]] [0,3])])),
 AQ]
theorem j1:av Tryz.prog Tryz.f277 [0] [282,281,3000038,3000041,3000055] [[0,3],[0,3],[0,0,1,3,7,15,31,63,127,255,511,1023,127,2175,6271,14463,30847,63615,131071,262143,524287,1048575,2097151,4194303,127,8388735,33554431,67108863],[0,1,2,3,4,5,6,7,8,9,10,11,12,13,14,15,16,17,18,19,20,21,22,23,24,25,26],[0,3,31],[0,3],[0,0,1,0,4,12,31,63,127,255],[0,1,2,3,4,5,6,7,8],[0,3,4],[0,3,4],[0,3,4,48],[0,3],[0,0,1,3,7,0,16,63,127,255],[0,1,2,3,4,5,6,7,8],[0]] 2=some (eY,[]):=by kernel_rfl

abbrev lx:Nat:=278
theorem lN:Tryz.prog.funcs[278]?=some Tryz.f278:=Tryz.func278
def fV:AC:=
 Q [.reg [bx 3 1] [0,3],
 Q [.regD [m 4 0,o1 5 (.nlc (.t 4)),fa 6 5 2,l1 7 6,fa 8 3 1,l1 9 8,o1 10 (.lkp ⟨false,[.s]⟩ (.int .i64 0) false (.t 7) (.t 9)),bi 11 .eql 10 0] [0,3,11],
 C 11 (.ret) (.skip)],
 .block 0 (.loop [0,3] (Q [Q [.regF (OQ [m 12 0] (.both
 (OQ [ch 13 281 [12],fa 14 3 1,l1 15 14,bt 16 .neq 13 15] .nil)
 (OQ [fa 14 3 1] (.both
 (OQ [ch 13 281 [12],l1 15 14,bt 16 .neq 13 15] .nil)
 (OQ [l1 15 14,ch 13 281 [12],bt 16 .neq 13 15] .nil))))) [0,3,16],
 C 16 (.skip) (.exit 0)],
 .block 1 (.skip)]))]
theorem lI:av Tryz.prog Tryz.f278 [0] [281] [[0,3],[0,0,1,3,7,0,16,63,127],[0,1,2,3,4,5,6,7],[0,3,11],[0,3],[1,0,1,0,4,15],[0,3,16]] 2=some (fV,[]):=by kernel_rfl

abbrev jQ:Nat:=279
theorem j4:Tryz.prog.funcs[279]?=some Tryz.f279:=Tryz.func279
def eX:AC:=
 Q [.reg [bx 3 1] [0,3],
 Q [.reg [fa 6 3 3,l1 7 6,bs 8 .eql 7 []] [0,3,8],
 C 8 (.ret) (.skip)],
 .reg [m 9 0,ch 10 283 [9],o1 11 (.nlc (.t 10)),l1 12 11,m 4 12] [0,3,4],
 Q [.reg [m 13 4,lq 14 13,bi 15 .gtr 14 0,m 16 15,gt 16 (m 17 4),gt 16 (m 18 4),gt 16 (lq 19 18),gt 16 (bi 20 .sub 19 1),gt 16 (ia 21 17 20 1),gt 16 (l1 22 21),gt 16 (o1 23 (.nlc (.t 22))),gt 16 (fa 24 23 0),gt 16 (fa 25 24 0),gt 16 (l1 26 25),gt 16 (bi 27 .eql 26 2),pa 28 16 27] [0,3,4,28],
 C 28 (Q [.reg [m 29 4,m 30 4,lq 31 30,bi 32 .sub 31 1,ia 33 29 32 1,l1 34 33,m 5 34] [0,3,5],
 .regD [m 35 5,m 36 5,o1 37 (.nlc (.t 36)),fa 38 37 5,l1 39 38,fa 40 3 3,l1 41 40,o1 42 (.aps (.t 39) (.t 41) 5),o1 43 (.nlc (.t 35)),fa 44 43 5,st 1 44 42] [0],
 .ret]) (.skip)],
 .reg [m 45 0,o1 46 (.bld [.int .i64 0,.str [],.nil 2,.str [],.nil 5] [(0,1,(.v (.int .i64 2)))]),fa 47 3 3,l1 48 47,o1 49 (.sbq (.t 48)),o1 50 (.bld [.int .i64 0,.str [],.nil 2,.str [],.nil 5,.nil 1,.nil 1] [(0,5,(.t 46)),(5,1,(.t 49))]),o1 51 (.bxq (.t 50)),ch 52 282 [45,51]] [0]]
theorem j0:av Tryz.prog Tryz.f279 [0] [283,282,3000049,3000051] [[0,3],[0,3,8],[0,3,4],[0,3,4,28],[0,3,5],[0,0,0,2,6,14,0,32,126,255,511,1023],[0,1,2,3,4,5,6,7,8,9,10],[0],[0]] 2=some (eX,[]):=by kernel_rfl

abbrev jp:Nat:=280
theorem js:Tryz.prog.funcs[280]?=some Tryz.f280:=Tryz.func280
def ee:AC:=
 Q [.reg [bx 3 1] [0,3],
 .reg [m 4 0,fa 5 3 3,l1 6 5,o1 7 (.bld [.int .i64 0,.str [],.nil 2,.str [],.nil 5] [(0,1,(.v (.int .i64 3))),(3,1,(.t 6))]),o1 8 (.bld [.int .i64 0,.str [],.nil 2,.str [],.nil 5,.nil 1,.nil 1] [(0,5,(.t 7))]),o1 9 (.bxq (.t 8)),ch 10 282 [4,9]] [0]]
theorem jr:av Tryz.prog Tryz.f280 [0] [282,3000009] [[0,3],[0]] 2=some (ee,[]):=by kernel_rfl

abbrev wl:Nat:=276
theorem xq:Tryz.prog.funcs[276]?=some Tryz.f276:=Tryz.func276
def nP:AC:=
 Q [.reg [mv 0 (.nilmp)] [],
 .reg [o1 1 (.mkp ⟨false,[.i .i64]⟩),o0 (.mup ⟨false,[.i .i64]⟩ (.t 1) (.v (.int .i64 1)) (.v (.fn (.func 277) [] []))),o0 (.mup ⟨false,[.i .i64]⟩ (.t 1) (.v (.int .i64 2)) (.v (.fn (.func 278) [] []))),o0 (.mup ⟨false,[.i .i64]⟩ (.t 1) (.v (.int .i64 3)) (.v (.fn (.func 279) [] []))),o0 (.mup ⟨false,[.i .i64]⟩ (.t 1) (.v (.int .i64 4)) (.v (.fn (.func 280) [] []))),m 2 1,m 0 2] [0],
 .ret]
theorem wT:av Tryz.prog Tryz.f276 [] [9999999] [[],[0]] 0=some (nP,[.t 0]):=by kernel_rfl

abbrev lz:Nat:=274
theorem lP:Tryz.prog.funcs[274]?=some Tryz.f274:=Tryz.func274
def fX:AC:=
 Q [.reg [bx 3 1] [0,3],
 .regF ((.both
 (OQ [ch 7 276 [],fa 8 3 0,l1 9 8,o1 10 (.lkp ⟨false,[.i .i64]⟩ (.nilfn) true (.t 7) (.t 9)),m 6 10,ex 11 6 0,ex 12 6 1,m 4 11,m 5 12] .nil)
 (OQ [fa 8 3 0] (.both
 (OQ [ch 7 276 [],l1 9 8,o1 10 (.lkp ⟨false,[.i .i64]⟩ (.nilfn) true (.t 7) (.t 9)),m 6 10,ex 11 6 0,ex 12 6 1,m 4 11,m 5 12] .nil)
 (OQ [l1 9 8,ch 7 276 [],o1 10 (.lkp ⟨false,[.i .i64]⟩ (.nilfn) true (.t 7) (.t 9)),m 6 10,ex 11 6 0,ex 12 6 1,m 4 11,m 5 12] .nil))))) [0,3,4,5],
 .reg [m 13 5] [0,3,4,13],
 C 13 (.reg [m 14 4,m 15 0,la 16 3 4,cv 17 14 [15,16]] [0]) (.skip)]
theorem lK:av Tryz.prog Tryz.f274 [0] [276] [[0,3],[1,0,0,2,7,15,31,31,63,255],[0,3,4,5],[0,3,4,13],[0]] 2=some (fX,[]):=by kernel_rfl

abbrev jS:Nat:=275
theorem j6:Tryz.prog.funcs[275]?=some Tryz.f275:=Tryz.func275
def eZ:AC:=
 Q [.reg [mv 2 (.nil 5)] [0],
 .reg [o1 3 (.alq [.nil 5])] [0,3],
 .reg [m 9 0,o1 10 (.nlc (.t 9)),fa 11 10 0,l1 12 11,o1 13 (.bld [.nil 1,.nilptr] [(0,1,(.t 12)),(1,1,(.t 3))]),o1 14 (.ltr 315 2 [.t 13]),m 4 14] [0,3,4],
 .block 0 (.loop [0,3,4] (Q [Q [.reg [m 15 4,lq 16 15,bi 17 .gtr 16 0] [0,3,4,17],
 C 17 (.skip) (.exit 0)],
 .block 1 (Q [.reg [m 18 4,m 19 4,lq 20 19,bi 21 .sub 20 1,ia 22 18 21 2,la 23 22 2,o1 5 (.alc [.nil 1,.nilptr]),st 2 5 23] [0,3,4,5],
 .reg [m 24 4,m 25 4,lq 26 25,bi 27 .sub 26 1,o1 28 (.trc (.t 24) (.t 27) 2),m 4 28] [0,3,4,5],
 .reg [fa 29 5 0,l1 30 29,lq 31 30,o1 32 (.mkq 41 5 88 (.strct [.int .i64 0,.str [],.seq 2 [],.str [],.seq 5 []]) (.t 31)),m 6 32] [0,3,4,5,6],
 Q [.reg [fa 33 5 0,l1 34 33,lq 35 34,mi 36 0] [0,3,4,5,6,34,35,36],
 .block 2 (.loop [0,3,4,5,6,34,35,36] (Q [.reg [bt 37 .lss 36 35] [0,3,4,5,6,34,35,36,37],
 C 37 (.skip) (.exit 2),
 .block 3 (Q [.reg [m 38 36,ia 39 34 36 1,l1 40 39,m 7 38,m 8 40] [0,3,4,5,6,7,8,34,35,36],
 .reg [m 41 6,m 42 7,m 43 8,o1 44 (.nlc (.t 43)),fa 45 44 0,la 46 45 5,ia 47 41 42 5,st 5 47 46] [0,3,4,5,6,7,8,34,35,36],
 .reg [m 48 6,m 49 7,m 50 8,o1 51 (.nlc (.t 50)),fa 52 51 0,fa 53 52 2,l1 54 53,o1 55 (.apz (.t 54) 59 2 32),ia 56 48 49 5,fa 57 56 2,st 1 57 55] [0,3,4,5,6,7,8,34,35,36],
 Q [.reg [m 58 8,o1 59 (.nlc (.t 58)),fa 60 59 0,fa 61 60 0,l1 62 61,bi 63 .eql 62 2] [0,3,4,5,6,7,8,34,35,36,63],
 C 63 (.reg [m 64 6,m 65 7,m 66 8,o1 67 (.nlc (.t 66)),fa 68 67 5,l1 69 68,o1 70 (.b2s (.t 69)),ia 71 64 65 5,fa 72 71 3,st 1 72 70] [0,3,4,5,6,7,8,34,35,36]) (.skip)],
 .reg [m 73 8,o1 74 (.nlc (.t 73)),fa 75 74 6,l1 76 75,lq 77 76,bi 78 .gtr 77 0] [0,3,4,5,6,7,8,34,35,36,78],
 C 78 (.regD [m 79 4,m 80 8,o1 81 (.nlc (.t 80)),fa 82 81 6,l1 83 82,m 84 6,m 85 7,ia 86 84 85 5,fa 87 86 4,o1 88 (.bld [.nil 1,.nilptr] [(0,1,(.t 83)),(1,1,(.t 87))]),o1 89 (.ltr 315 2 [.t 88]),o1 90 (.app (.t 79) (.t 89) 315 2 32),m 4 90] [0,3,4,5,6,34,35,36]) (.skip)]),
 .reg [bi 91 .add 36 1,m 36 91] [0,3,4,5,6,34,35,36]]))],
 .reg [fa 92 5 1,l1 93 92,m 94 6,o1 95 (.nlc (.t 93)),st 1 95 94] [0,3,4]])])),
 .reg [l1 96 3,m 2 96] [0,2],
 .ret]
theorem j2:av Tryz.prog Tryz.f275 [0] [1000000,3000003,3000014,3000032,3000055,3000089] [[0],[0,3],[0,3,4],[0,3,4],[0,3,4,17],[0,3,4,5],[0,3,4,5],[0,3,4,5,6],[0,3,4,5,6,34,35,36],[0,3,4,5,6,34,35,36],[0,3,4,5,6,34,35,36,37],[0,3,4,5,6,7,8,34,35,36],[0,3,4,5,6,7,8,34,35,36],[0,3,4,5,6,7,8,34,35,36],[0,3,4,5,6,7,8,34,35,36,63],[0,3,4,5,6,7,8,34,35,36],[0,3,4,5,6,7,8,34,35,36,78],[0,0,0,2,6,14,0,0,96,224,510,1022,2047,4095],[0,1,2,3,4,5,6,7,8,9,10,11,12],[0,3,4,5,6,34,35,36],[0,3,4,5,6,34,35,36],[0,3,4],[0,2]] 1=some (eZ,[.t 2]):=by kernel_rfl

abbrev B0:Nat:=273
theorem CJ:Tryz.prog.funcs[273]?=some Tryz.f273:=Tryz.func273
def sD:AC:=
 Q [.reg [mv 0 (.nilptr)] [],
 .reg [o1 1 (.mkp ⟨false,[.s]⟩),o1 2 (.bld [.nil 1,.nil 1,.nilmp] [(2,1,(.t 1))]),bx 3 2,m 0 3] [0],
 .ret]
theorem Cs:av Tryz.prog Tryz.f273 [] [9999999] [[],[0]] 0=some (sD,[.t 0]):=by kernel_rfl

abbrev zK:Nat:=272
theorem Ax:Tryz.prog.funcs[272]?=some Tryz.f272:=Tryz.func272
def qC:AC:=
 Q [.reg [mv 2 (.nil 5)] [0],
 .reg [ch 6 273 [],m 3 6] [0,3],
 Q [.reg [m 7 0,lq 8 7,mi 9 0] [3,7,8,9],
 .block 0 (.loop [3,7,8,9] (Q [.reg [bt 10 .lss 9 8] [3,7,8,9,10],
 C 10 (.skip) (.exit 0),
 .block 1 (Q [.reg [ia 11 7 9 4,la 12 11 4,o1 5 (.alc [.int .i64 0,.str [],.nil 2,.str []]),st 4 5 12] [3,5,7,8,9],
 .reg [m 13 3,la 14 5 4,ch 15 274 [13,14]] [3,7,8,9]]),
 .reg [bi 16 .add 9 1,m 9 16] [3,7,8,9]]))],
 .reg [m 17 3,ch 18 275 [17],m 2 18] [2],
 .ret]
theorem Ai:av Tryz.prog Tryz.f272 [] [273,274,275] [[0],[0,3],[3,7,8,9],[3,7,8,9],[3,7,8,9,10],[3,5,7,8,9],[3,7,8,9],[3,7,8,9],[2]] 1=some (qC,[.t 2]):=by kernel_rfl

end Go.Abs
