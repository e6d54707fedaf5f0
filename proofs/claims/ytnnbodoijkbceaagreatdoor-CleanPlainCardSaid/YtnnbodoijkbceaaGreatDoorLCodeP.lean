/-
  The images of some of the program's functions, as the kernel reckons them. Made by program. No condition.
-/
import Derived.Test.YtnnbodoijkbceaaGreatDoorLCodeW
set_option linter.all false
set_option maxHeartbeats 0
set_option maxRecDepth 100000
namespace Go.Abs
open Go.Proofs

abbrev cE:Nat:=93
theorem cH:Tryz.prog.funcs[93]?=some Tryz.f93:=Tryz.func93
def br:AC:=
 Q [.reg [mi 4 0,mv 5 (.niliface)] [0,1],
 .reg [m 6 0,ch 7 126 [6]] [0,1],
 .reg [m 8 0,m 9 0,o1 10 (.nlc (.t 9)),fa 11 10 1,l1 12 11,m 13 1,o1 14 (.aps (.t 12) (.t 13) 5),o1 15 (.nlc (.t 8)),fa 16 15 1,st 1 16 14] [1],
 .reg [m 17 1,ls 18 17,m 4 18,mv 5 (.niliface)] [4,5],
 .ret]
theorem cG:av Tryz.prog Tryz.f93 [] [126] [[0,1],[0,1],[1],[4,5]] 2=some (br,[.t 4,.t 5]):=by kernel_rfl

abbrev f0:Nat:=148
theorem gb:Tryz.prog.funcs[148]?=some Tryz.f148:=Tryz.func148
def c9:AC:=
 Q [.reg [mv 4 (.niliface)] [0,1],
 .reg [m 5 0,ch 6 126 [5]] [0,1],
 .reg [m 7 0,m 8 0,o1 9 (.nlc (.t 8)),fa 10 9 1,l1 11 10,m 12 1,o1 13 (.lit 5 1 [.t 12]),o1 14 (.apb (.t 11) (.t 13) 5),o1 15 (.nlc (.t 7)),fa 16 15 1,st 1 16 14] [],
 .reg [mv 4 (.niliface)] [4],
 .ret]
theorem f9:av Tryz.prog Tryz.f148 [] [126,3000014] [[0,1],[0,1],[],[4]] 2=some (c9,[.t 4]):=by kernel_rfl

abbrev fZ:Nat:=233
theorem ga:Tryz.prog.funcs[233]?=some Tryz.f233:=Tryz.func233
def c8:AC:=
 Q [.reg [mi 4 0,mv 5 (.niliface)] [0,1],
 .reg [m 7 0,ch 8 126 [7]] [0,1],
 .reg [m 9 0,o1 10 (.nlc (.t 9)),fa 11 10 1,l1 12 11,lq 13 12,m 6 13] [0,1,6],
 .reg [m 14 0,m 15 0,o1 16 (.nlc (.t 15)),fa 17 16 1,l1 18 17,m 19 1,ch 20 234 [18,19],o1 21 (.nlc (.t 14)),fa 22 21 1,st 1 22 20] [0,6],
 .reg [m 23 0,o1 24 (.nlc (.t 23)),fa 25 24 1,l1 26 25,lq 27 26,m 28 6,bt 29 .sub 27 28,m 4 29,mv 5 (.niliface)] [4,5],
 .ret]
theorem f7:av Tryz.prog Tryz.f233 [] [126,234] [[0,1],[0,1],[0,1,6],[0,6],[4,5]] 2=some (c8,[.t 4,.t 5]):=by kernel_rfl

abbrev dJ:Nat:=94
theorem dL:Tryz.prog.funcs[94]?=some Tryz.f94:=Tryz.func94
def bW:AC:=
 Q [.reg [mv 2 (.str [])] [0],
 .regD [m 3 0,o1 4 (.nlc (.t 3)),fa 5 4 1,l1 6 5,o1 7 (.usd (.t 6)),m 8 0,o1 9 (.nlc (.t 8)),fa 10 9 1,l1 11 10,lq 12 11,o1 13 (.ust (.t 7) (.t 12) 5),m 2 13] [2],
 .ret]
theorem dK:av Tryz.prog Tryz.f94 [] [9999999] [[0],[0,0,1,3,7,15,0,32,96,224,480,1023,2047],[0,1,2,3,4,5,6,7,8,9,10,11],[2]] 1=some (bW,[.t 2]):=by kernel_rfl

abbrev iz:Nat:=234
theorem iB:Tryz.prog.funcs[234]?=some Tryz.f234:=Tryz.func234
def dM:AC:=
 Q [.reg [mv 4 (.nil 1)] [0,1],
 Q [.reg [m 5 1,o1 6 (.cii .u32 (.t 5)),o1 7 (.bin .leq (.t 6) (.v (.int .u32 127)))] [0,1,7],
 C 7 (Q [.reg [m 8 0,m 9 1,o1 10 (.cii .u8 (.t 9)),o1 11 (.lit 5 1 [.t 10]),o1 12 (.apb (.t 8) (.t 11) 5),m 4 12] [4],
 .ret]) (.skip)],
 .reg [m 13 0,m 14 1,ch 15 235 [13,14],m 4 15] [4],
 .ret]
theorem iA:av Tryz.prog Tryz.f234 [] [235,3000012] [[0,1],[0,1,7],[4],[4]] 2=some (dM,[.t 4]):=by kernel_rfl

abbrev ej:Nat:=235
theorem ep:Tryz.prog.funcs[235]?=some Tryz.f235:=Tryz.func235
def bU:AC:=
 Q [.reg [mv 4 (.nil 1)] [0,1],
 .reg [m 6 1,o1 7 (.cii .u32 (.t 6)),m 5 7] [0,1,5],
 .block 0 (Q [.reg [m 12 5,o1 13 (.bin .leq (.t 12) (.v (.int .u32 2047))),m 11 13] [0,1,5,11],
 C 11 (Q [.reg [m 14 0,m 15 1,o1 16 (.bin .shr (.t 15) (.v (.int .u64 6))),o1 17 (.cii .u8 (.t 16)),o1 18 (.bin .or (.v (.int .u8 192)) (.t 17)),m 19 1,o1 20 (.cii .u8 (.t 19)),bu 21 .and 20 63,o1 22 (.bin .or (.v (.int .u8 128)) (.t 21)),o1 23 (.lit 5 1 [.t 18,.t 22]),o1 24 (.apb (.t 14) (.t 23) 5),m 4 24] [4],
 .ret]) (Q [Q [.reg [m 26 5,o1 27 (.bin .lss (.t 26) (.v (.int .u32 55296))),m 25 27] [0,1,5,25],
 C 25 (.skip) (.reg [m 28 5,o1 29 (.bin .lss (.v (.int .u32 57343)) (.t 28)),m 30 29,gt 30 (m 31 5),gt 30 (o1 32 (.bin .leq (.t 31) (.v (.int .u32 65535)))),pa 33 30 32,m 25 33] [0,1,5,25])],
 C 25 (Q [.reg [m 34 0,m 35 1,o1 36 (.bin .shr (.t 35) (.v (.int .u64 12))),o1 37 (.cii .u8 (.t 36)),o1 38 (.bin .or (.v (.int .u8 224)) (.t 37)),m 39 1,o1 40 (.bin .shr (.t 39) (.v (.int .u64 6))),o1 41 (.cii .u8 (.t 40)),bu 42 .and 41 63,o1 43 (.bin .or (.v (.int .u8 128)) (.t 42)),m 44 1,o1 45 (.cii .u8 (.t 44)),bu 46 .and 45 63,o1 47 (.bin .or (.v (.int .u8 128)) (.t 46)),o1 48 (.lit 5 1 [.t 38,.t 43,.t 47]),o1 49 (.apb (.t 34) (.t 48) 5),m 4 49] [4],
 .ret]) (Q [.reg [m 51 5,o1 52 (.bin .gtr (.t 51) (.v (.int .u32 65535))),m 53 52,gt 53 (m 54 5),gt 53 (o1 55 (.bin .leq (.t 54) (.v (.int .u32 1114111)))),pa 56 53 55,m 50 56] [0,1,50],
 C 50 (Q [.reg [m 57 0,m 58 1,o1 59 (.bin .shr (.t 58) (.v (.int .u64 18))),o1 60 (.cii .u8 (.t 59)),o1 61 (.bin .or (.v (.int .u8 240)) (.t 60)),m 62 1,o1 63 (.bin .shr (.t 62) (.v (.int .u64 12))),o1 64 (.cii .u8 (.t 63)),bu 65 .and 64 63,o1 66 (.bin .or (.v (.int .u8 128)) (.t 65)),m 67 1,o1 68 (.bin .shr (.t 67) (.v (.int .u64 6))),o1 69 (.cii .u8 (.t 68)),bu 70 .and 69 63,o1 71 (.bin .or (.v (.int .u8 128)) (.t 70)),m 72 1,o1 73 (.cii .u8 (.t 72)),bu 74 .and 73 63,o1 75 (.bin .or (.v (.int .u8 128)) (.t 74)),o1 76 (.lit 5 1 [.t 61,.t 66,.t 71,.t 75]),o1 77 (.apb (.t 57) (.t 76) 5),m 4 77] [4],
 .ret]) (Q [.reg [m 8 0,o1 9 (.lit 5 1 [.v (.int .u8 239),.v (.int .u8 191),.v (.int .u8 189)]),o1 10 (.apb (.t 8) (.t 9) 5),m 4 10] [4],
 .ret])])])])]
theorem eo:av Tryz.prog Tryz.f235 [] [3000024,3000049,3000077,3000010] [[0,1],[0,1,5],[0,1,5,11],[4],[0,1,5,25],[0,1,5,25],[4],[0,1,50],[4],[4]] 2=some (bU,[.t 4]):=by kernel_rfl

abbrev BN:Nat:=232
theorem Cv:Tryz.prog.funcs[232]?=some Tryz.f232:=Tryz.func232
def sl:AC:=
 Q [.reg [mv 2 (.str [])] [0],
 .reg [o1 3 (.alb 117 5 [.nilptr,.nil 1])] [0,3],
 .reg [mb 4 false] [0,3,4],
 Q [.reg [m 7 0,o1 8 (.b2s (.t 7)),o1 9 (.rgs (.t 8))] [3,4,9],
 .block 0 (.loop [3,4,9] (Q [.reg [o1 10 (.nxs (.t 9)),ex 11 10 0] [3,4,9,10,11],
 C 11 (.skip) (.exit 0),
 .block 1 (Q [.reg [ex 12 10 2,m 6 12] [3,4,6,9],
 .block 2 (Q [.reg [m 16 6,o1 17 (.bin .eql (.t 16) (.v (.int .i32 10))),m 18 17,gt 18 (m 19 4),pa 20 18 19,m 15 20] [3,6,9,15],
 C 15 (.skip) (Q [.reg [m 22 6,o1 23 (.bin .eql (.t 22) (.v (.int .i32 13))),m 21 23] [3,6,9,21],
 C 21 (.reg [o1 24 (.callH 148 [.t 3,.v (.int .u8 10)])] [3,6,9]) (Q [.reg [m 26 6,o1 27 (.bin .eql (.t 26) (.v (.int .i32 0))),m 25 27] [3,6,9,25],
 C 25 (.reg [o1 28 (.callH 233 [.t 3,.v (.int .i32 65533)])] [3,6,9]) (.reg [m 13 6,ch 14 233 [3,13]] [3,6,9])])])]),
 .reg [m 29 6,o1 30 (.bin .eql (.t 29) (.v (.int .i32 13))),m 4 30] [3,4,9]])]))],
 .reg [ch 31 94 [3],m 2 31] [2],
 .ret]
theorem Cd:av Tryz.prog Tryz.f232 [] [148,233,94,1000003000005] [[0],[0,3],[0,3,4],[3,4,9],[3,4,9],[3,4,9,10,11],[3,4,6,9],[3,6,9,15],[3,6,9,21],[3,6,9],[3,6,9,25],[3,6,9],[3,6,9],[3,4,9],[2]] 1=some (sl,[.t 2]):=by kernel_rfl

abbrev vW:Nat:=250
theorem w7:Tryz.prog.funcs[250]?=some Tryz.f250:=Tryz.func250
def nA:AC:=
 Q [.reg [mv 2 (.str [])] [0],
 .reg [o1 3 (.alb 117 5 [.nilptr,.nil 1])] [0,3],
 .block 0 (.loop [0,3] (.block 1 (Q [.reg [m 7 0,o1 8 (.call 202 [.t 7,.v (.int .u8 38)]),m 4 8] [0,3,4],
 Q [.reg [m 9 4,bi 10 .lss 9 0] [0,3,4,10],
 C 10 (Q [.reg [m 11 0,ch 12 93 [3,11]] [3],
 .reg [ch 13 94 [3],m 2 13] [2],
 .ret]) (.skip)],
 .reg [m 14 0,m 15 4,o1 16 (.sls (.t 14) none (some (.t 15))),ch 17 93 [3,16]] [0,3,4],
 .reg [m 18 0,m 19 4,o1 20 (.sls (.t 18) (some (.t 19)) none),m 0 20] [0,3],
 .reg [m 22 0,ca 23 255 [22],m 21 23,ex 24 21 0,ex 25 21 1,m 5 24,m 6 25] [0,3,5,6],
 .reg [m 26 6,bi 27 .gtr 26 0] [0,3,5,6,27],
 C 27 (Q [.reg [m 28 5,ch 29 233 [3,28]] [0,3,6],
 .reg [m 30 0,m 31 6,o1 32 (.sls (.t 30) (some (.t 31)) none),m 0 32] [0,3]]) (Q [.reg [o1 33 (.callH 148 [.t 3,.v (.int .u8 38)])] [0,3],
 .reg [m 34 0,o1 35 (.sls (.t 34) (some (.v (.int .i64 1))) none),m 0 35] [0,3]])])))]
theorem wC:av Tryz.prog Tryz.f250 [] [93,148,233,94,1000003000005] [[0],[0,3],[0,3],[0,3,4],[0,3,4,10],[3],[2],[0,3,4],[0,3],[0,3,5,6],[0,3,5,6,27],[0,3,6],[0,3],[0,3],[0,3]] 1=some (nA,[.t 2]):=by kernel_rfl

abbrev vV:Nat:=125
theorem w6:Tryz.prog.funcs[125]?=some Tryz.f125:=Tryz.func125
def nz:AC:=
 Q [.reg [mv 4 (.str [])] [0,1],
 .reg [o1 5 (.alb 117 5 [.nilptr,.nil 1])] [0,1,5],
 Q [.reg [m 8 0,ls 9 8,mi 10 0] [0,1,5,9,10],
 .block 0 (.loop [0,1,5,9,10] (Q [.reg [bt 11 .lss 10 9] [0,1,5,9,10,11],
 C 11 (.skip) (.exit 0),
 .block 1 (Q [.reg [m 12 10,m 6 12] [0,1,5,6,9,10],
 .reg [m 13 0,m 14 6,ix 15 13 14,m 7 15] [0,1,5,7,9,10],
 .block 2 (Q [.reg [m 19 7,bu 20 .eql 19 38,m 18 20] [0,1,5,7,9,10,18],
 C 18 (.reg [o1 21 (.callH 93 [.t 5,.v (.str [38,97,109,112,59])])] [0,1,5,9,10]) (Q [.reg [m 23 7,bu 24 .eql 23 60,m 22 24] [0,1,5,7,9,10,22],
 C 22 (.reg [o1 25 (.callH 93 [.t 5,.v (.str [38,108,116,59])])] [0,1,5,9,10]) (Q [.reg [m 27 7,bu 28 .eql 27 62,m 26 28] [0,1,5,7,9,10,26],
 C 26 (.reg [o1 29 (.callH 93 [.t 5,.v (.str [38,103,116,59])])] [0,1,5,9,10]) (Q [.reg [m 31 7,bu 32 .eql 31 34,m 33 32,gt 33 (m 34 1),pa 35 33 34,m 30 35] [0,1,5,7,9,10,30],
 C 30 (.reg [o1 36 (.callH 93 [.t 5,.v (.str [38,113,117,111,116,59])])] [0,1,5,9,10]) (.reg [m 16 7,ch 17 148 [5,16]] [0,1,5,9,10])])])])])]),
 .reg [bi 37 .add 10 1,m 10 37] [0,1,5,9,10]]))],
 .reg [ch 38 94 [5],m 4 38] [4],
 .ret]
theorem wB:av Tryz.prog Tryz.f125 [] [93,148,94,1000005000005] [[0,1],[0,1,5],[0,1,5,9,10],[0,1,5,9,10],[0,1,5,9,10,11],[0,1,5,6,9,10],[0,1,5,7,9,10],[0,1,5,7,9,10,18],[0,1,5,9,10],[0,1,5,7,9,10,22],[0,1,5,9,10],[0,1,5,7,9,10,26],[0,1,5,9,10],[0,1,5,7,9,10,30],[0,1,5,9,10],[0,1,5,9,10],[0,1,5,9,10],[4]] 2=some (nz,[.t 4]):=by kernel_rfl

abbrev D3:Nat:=258
theorem Ep:Tryz.prog.funcs[258]?=some Tryz.f258:=Tryz.func258
def vr:AC:=
 Q [.reg [mv 2 (.str [])] [0],
 .reg [m 6 0,o1 7 (.sbq (.t 6)),m 3 7] [3],
 Q [.reg [m 8 3,lq 9 8,mi 10 0] [3,8,9,10],
 .block 0 (.loop [3,8,9,10] (Q [.reg [bt 11 .lss 10 9] [3,8,9,10,11],
 C 11 (.skip) (.exit 0),
 .block 1 (Q [.reg [m 12 10,ia 13 8 10 1,l1 14 13,m 4 12,m 5 14] [3,4,5,8,9,10],
 .reg [m 15 3,m 16 4,m 17 5,ca 18 155 [17],ia 19 15 16 1,st 1 19 18] [3,8,9,10]]),
 .reg [bi 20 .add 10 1,m 10 20] [3,8,9,10]]))],
 .reg [m 21 3,o1 22 (.b2s (.t 21)),m 2 22] [2],
 .ret]
theorem Ej:av Tryz.prog Tryz.f258 [] [3000007] [[0],[3],[3,8,9,10],[3,8,9,10],[3,8,9,10,11],[3,4,5,8,9,10],[3,8,9,10],[3,8,9,10],[2]] 1=some (vr,[.t 2]):=by kernel_rfl

abbrev BP:Nat:=263
theorem Cx:Tryz.prog.funcs[263]?=some Tryz.f263:=Tryz.func263
def so:AC:=
 Q [.reg [mv 2 (.int .i32 0),mb 3 false] [0],
 .reg [ch 7 270 [],m 8 0,o1 9 (.lkp ⟨false,[.s]⟩ (.int .i32 0) true (.t 7) (.t 8)),m 6 9,ex 10 6 0,ex 11 6 1,m 4 10,m 5 11] [4,5],
 .reg [m 12 4,m 13 5,m 2 12,m 3 13] [2,3],
 .ret]
theorem Cf:av Tryz.prog Tryz.f263 [] [270] [[0],[4,5],[2,3]] 1=some (so,[.t 2,.t 3]):=by kernel_rfl

abbrev zB:Nat:=270
theorem An:Tryz.prog.funcs[270]?=some Tryz.f270:=Tryz.func270
def qq:AC:=
 Q [.reg [mv 0 (.nilmp)] [],
 .reg [o1 1 (.mkp ⟨false,[.s]⟩),o0 (.mup ⟨false,[.s]⟩ (.t 1) (.v (.str [97,109,112])) (.v (.int .i32 38))),o0 (.mup ⟨false,[.s]⟩ (.t 1) (.v (.str [108,116])) (.v (.int .i32 60))),o0 (.mup ⟨false,[.s]⟩ (.t 1) (.v (.str [103,116])) (.v (.int .i32 62))),o0 (.mup ⟨false,[.s]⟩ (.t 1) (.v (.str [113,117,111,116])) (.v (.int .i32 34))),o0 (.mup ⟨false,[.s]⟩ (.t 1) (.v (.str [97,112,111,115])) (.v (.int .i32 39))),o0 (.mup ⟨false,[.s]⟩ (.t 1) (.v (.str [110,98,115,112])) (.v (.int .i32 160))),o0 (.mup ⟨false,[.s]⟩ (.t 1) (.v (.str [99,111,112,121])) (.v (.int .i32 169))),o0 (.mup ⟨false,[.s]⟩ (.t 1) (.v (.str [114,101,103])) (.v (.int .i32 174))),o0 (.mup ⟨false,[.s]⟩ (.t 1) (.v (.str [100,101,103])) (.v (.int .i32 176))),o0 (.mup ⟨false,[.s]⟩ (.t 1) (.v (.str [109,105,100,100,111,116])) (.v (.int .i32 183))),o0 (.mup ⟨false,[.s]⟩ (.t 1) (.v (.str [116,105,109,101,115])) (.v (.int .i32 215))),o0 (.mup ⟨false,[.s]⟩ (.t 1) (.v (.str [110,100,97,115,104])) (.v (.int .i32 8211))),o0 (.mup ⟨false,[.s]⟩ (.t 1) (.v (.str [109,100,97,115,104])) (.v (.int .i32 8212))),o0 (.mup ⟨false,[.s]⟩ (.t 1) (.v (.str [104,101,108,108,105,112])) (.v (.int .i32 8230))),o0 (.mup ⟨false,[.s]⟩ (.t 1) (.v (.str [101,117,114,111])) (.v (.int .i32 8364))),m 2 1,m 0 2] [0],
 .ret]
theorem z6:av Tryz.prog Tryz.f270 [] [9999999] [[],[0]] 0=some (qq,[.t 0]):=by kernel_rfl

abbrev D4:Nat:=255
theorem Er:Tryz.prog.funcs[255]?=some Tryz.f255:=Tryz.func255
def vt:AC:=
 Q [.reg [mv 2 (.int .i32 0),mi 3 0] [0],
 Q [.reg [m 7 0,o1 8 (.call 177 [.t 7,.v (.str [38,35,120])]),m 9 8,gf 9 (m 10 0),gf 9 (o1 11 (.call 177 [.t 10,.v (.str [38,35,88])])),po 12 9 11] [0,12],
 C 12 (Q [.reg [m 13 0,o1 14 (.call 262 [.t 13,.v (.int .i64 3),.v (.int .i64 16),.v (.int .i64 6)]),ex 15 14 0,ex 16 14 1,m 2 15,m 3 16] [2,3],
 .ret]) (.skip)],
 Q [.reg [m 17 0,o1 18 (.call 177 [.t 17,.v (.str [38,35])])] [0,18],
 C 18 (Q [.reg [m 19 0,o1 20 (.call 262 [.t 19,.v (.int .i64 2),.v (.int .i64 10),.v (.int .i64 7)]),ex 21 20 0,ex 22 20 1,m 2 21,m 3 22] [2,3],
 .ret]) (.skip)],
 Q [.reg [m 23 0,o1 24 (.call 177 [.t 23,.v (.str [38])]),nt' 25 24] [0,25],
 C 25 (Q [.reg [mv 2 (.int .i32 0),mi 3 0] [2,3],
 .ret]) (.skip)],
 Q [.reg [mi 4 1] [0,4],
 .block 0 (.loop [0,4] (Q [Q [.reg [m 26 4,m 27 0,ls 28 27,bt 29 .lss 26 28,m 30 29,gt 30 (m 31 4),gt 30 (bi 32 .leq 31 7),pa 33 30 32] [0,4,33],
 C 33 (.skip) (.exit 0)],
 .block 1 (Q [Q [.reg [m 36 0,m 37 4,ix 38 36 37,bu 39 .neq 38 59] [0,4,39],
 C 39 (.exit 1) (.skip)],
 Q [.reg [m 41 0,m 42 4,o1 43 (.sls (.t 41) (some (.v (.int .i64 1))) (some (.t 42))),ca 44 263 [43],m 40 44,ex 45 40 0,ex 46 40 1,m 5 45,m 6 46] [4,5,6],
 .reg [m 47 6] [4,5,47],
 C 47 (Q [.reg [m 48 5,m 49 4,bi 50 .add 49 1,m 2 48,m 3 50] [2,3],
 .ret]) (.skip)],
 .exit 0]),
 .reg [m 34 4,bi 35 .add 34 1,m 4 35] [0,4]]))],
 .reg [mv 2 (.int .i32 0),mi 3 0] [2,3],
 .ret]
theorem Ek:aq Tryz.prog Tryz.f255 [[0],[0,12],[2,3],[0,18],[2,3],[0,25],[2,3],[0,4],[0,4],[0,4,33],[0,4,39],[4,5,6],[4,5,47],[2,3],[0,4],[2,3]] 1=some (vt,[.t 2,.t 3]):=by kernel_rfl

abbrev vU:Nat:=262
theorem w5:Tryz.prog.funcs[262]?=some Tryz.f262:=Tryz.func262
def ny:AC:=
 Q [.reg [mv 8 (.int .i32 0),mi 9 0] [0,1,2,3],
 .reg [mi 10 0,mi 11 0] [0,1,2,3,10,11],
 Q [.reg [m 15 0,m 16 1,o1 17 (.sls (.t 15) (some (.t 16)) none),o1 18 (.rgs (.t 17))] [1,2,3,10,11,18],
 .block 0 (.loop [1,2,3,10,11,18] (Q [.reg [o1 19 (.nxs (.t 18)),ex 20 19 0] [1,2,3,10,11,18,19,20],
 C 20 (.skip) (.exit 0),
 .block 1 (Q [.reg [ex 21 19 1,ex 22 19 2,m 12 21,m 13 22] [1,2,3,10,11,12,13,18],
 Q [.reg [m 23 13,o1 24 (.bin .eql (.t 23) (.v (.int .i32 59)))] [1,2,3,10,11,12,13,18,24],
 C 24 (Q [Q [.reg [m 25 11,bi 26 .eql 25 0] [1,10,12,26],
 C 26 (.exit 0) (.skip)],
 .reg [m 27 10,ca 28 268 [27],m 29 1,m 30 12,bt 31 .add 29 30,bi 32 .add 31 1,m 8 28,m 9 32] [8,9],
 .ret]) (.skip)],
 .reg [m 33 13,m 34 2,ca 35 269 [33,34],m 14 35] [1,2,3,10,11,14,18],
 Q [.reg [m 36 14,bi 37 .lss 36 0,m 38 37,gf 38 (m 39 11),gf 38 (m 40 3),gf 38 (bt 41 .eql 39 40),po 42 38 41] [1,2,3,10,11,14,18,42],
 C 42 (.exit 0) (.skip)],
 .reg [m 43 10,m 44 2,bt 45 .mul 43 44,m 46 14,bt 47 .add 45 46,m 10 47] [1,2,3,10,11,18],
 .reg [m 48 11,bi 49 .add 48 1,m 11 49] [1,2,3,10,11,18]])]))],
 .reg [mv 8 (.int .i32 0),mi 9 0] [8,9],
 .ret]
theorem wA:aq Tryz.prog Tryz.f262 [[0,1,2,3],[0,1,2,3,10,11],[1,2,3,10,11,18],[1,2,3,10,11,18],[1,2,3,10,11,18,19,20],[1,2,3,10,11,12,13,18],[1,2,3,10,11,12,13,18,24],[1,10,12,26],[8,9],[1,2,3,10,11,14,18],[1,2,3,10,11,14,18,42],[1,2,3,10,11,18],[1,2,3,10,11,18],[8,9]] 4=some (ny,[.t 8,.t 9]):=by kernel_rfl

abbrev zC:Nat:=269
theorem Ao:Tryz.prog.funcs[269]?=some Tryz.f269:=Tryz.func269
def qr:AC:=
 Q [.reg [mi 4 0] [0,1],
 .block 0 (Q [.reg [m 6 0,o1 7 (.bin .leq (.v (.int .i32 48)) (.t 6)),m 8 7,gt 8 (m 9 0),gt 8 (o1 10 (.bin .leq (.t 9) (.v (.int .i32 57)))),pa 11 8 10,m 5 11] [0,1,5],
 C 5 (Q [.reg [m 12 0,o1 13 (.bin .sub (.t 12) (.v (.int .i32 48))),o1 14 (.cii .i64 (.t 13)),m 4 14] [4],
 .ret]) (Q [.reg [m 16 1,bi 17 .eql 16 16,m 18 17,gt 18 (m 19 0),gt 18 (o1 20 (.bin .leq (.v (.int .i32 97)) (.t 19))),pa 21 18 20,m 22 21,gt 22 (m 23 0),gt 22 (o1 24 (.bin .leq (.t 23) (.v (.int .i32 102)))),pa 25 22 24,m 15 25] [0,1,15],
 C 15 (Q [.reg [m 26 0,o1 27 (.bin .sub (.t 26) (.v (.int .i32 97))),o1 28 (.cii .i64 (.t 27)),bi 29 .add 28 10,m 4 29] [4],
 .ret]) (Q [.reg [m 31 1,bi 32 .eql 31 16,m 33 32,gt 33 (m 34 0),gt 33 (o1 35 (.bin .leq (.v (.int .i32 65)) (.t 34))),pa 36 33 35,m 37 36,gt 37 (m 38 0),gt 37 (o1 39 (.bin .leq (.t 38) (.v (.int .i32 70)))),pa 40 37 39,m 30 40] [0,30],
 C 30 (Q [.reg [m 41 0,o1 42 (.bin .sub (.t 41) (.v (.int .i32 65))),o1 43 (.cii .i64 (.t 42)),bi 44 .add 43 10,m 4 44] [4],
 .ret]) (.skip)])])]),
 .reg [mi 4 (-1)] [4],
 .ret]
theorem z7:aq Tryz.prog Tryz.f269 [[0,1],[0,1,5],[4],[0,1,15],[4],[0,30],[4],[4]] 2=some (qr,[.t 4]):=by kernel_rfl

abbrev qW:Nat:=268
theorem rg:Tryz.prog.funcs[268]?=some Tryz.f268:=Tryz.func268
def jB:AC:=
 Q [.reg [mv 2 (.int .i32 0)] [0],
 Q [.reg [m 3 0,bi 4 .eql 3 0,m 5 4,gf 5 (m 6 0),gf 5 (bi 7 .eql 6 13),po 8 5 7,m 9 8,gf 9 (m 10 0),gf 9 (o1 11 (.bin .leq (.v (.int .i64 55296)) (.t 10))),gf 9 (m 12 11),gt 12 (m 13 0),gt 12 (bi 14 .leq 13 57343),gf 9 (pa 15 12 14),po 16 9 15,m 17 16,gf 17 (m 18 0),gf 17 (bi 19 .gtr 18 1114111),po 20 17 19] [0,20],
 C 20 (Q [.reg [mv 2 (.int .i32 65533)] [2],
 .ret]) (.skip)],
 .reg [m 21 0,o1 22 (.cii .i32 (.t 21)),m 2 22] [2],
 .ret]
theorem rc:aq Tryz.prog Tryz.f268 [[0],[0,20],[2],[2]] 1=some (jB,[.t 2]):=by kernel_rfl

abbrev uo:Nat:=251
theorem uP:Tryz.prog.funcs[251]?=some Tryz.f251:=Tryz.func251
def me:AC:=
 Q [.reg [mb 2 false] [0],
 Q [.reg [m 4 0,ls 5 4,bi 6 .lss 5 2,m 7 6,gf 7 (m 8 0),gf 7 (o1 9 (.ixs (.t 8) (.v (.int .i64 0)))),gf 7 (bu 10 .neq 9 60),po 11 7 10] [0,11],
 C 11 (Q [.reg [mb 2 false] [2],
 .ret]) (.skip)],
 .reg [m 12 0,o1 13 (.ixs (.t 12) (.v (.int .i64 1))),o1 14 (.cii .i32 (.t 13)),m 3 14] [3],
 .reg [m 15 3,o1 16 (.bin .eql (.t 15) (.v (.int .i32 47))),m 17 16,gf 17 (m 18 3),gf 17 (o1 19 (.bin .eql (.t 18) (.v (.int .i32 33)))),po 20 17 19,m 21 20,gf 21 (m 22 3),gf 21 (o1 23 (.bin .eql (.t 22) (.v (.int .i32 63)))),po 24 21 23,m 25 24,gf 25 (m 26 3),gf 25 (ca 27 256 [26]),po 28 25 27,m 2 28] [2],
 .ret]
theorem uC:aq Tryz.prog Tryz.f251 [[0],[0,11],[2],[3],[2]] 1=some (me,[.t 2]):=by kernel_rfl

abbrev uk:Nat:=256
theorem uM:Tryz.prog.funcs[256]?=some Tryz.f256:=Tryz.func256
def ma:AC:=
 Q [.reg [mb 2 false] [0],
 .reg [m 3 0,o1 4 (.bin .leq (.v (.int .i32 65)) (.t 3)),m 5 4,gt 5 (m 6 0),gt 5 (o1 7 (.bin .leq (.t 6) (.v (.int .i32 90)))),pa 8 5 7,m 9 8,gf 9 (m 10 0),gf 9 (o1 11 (.bin .leq (.v (.int .i32 97)) (.t 10))),gf 9 (m 12 11),gt 12 (m 13 0),gt 12 (o1 14 (.bin .leq (.t 13) (.v (.int .i32 122)))),gf 9 (pa 15 12 14),po 16 9 15,m 2 16] [2],
 .ret]
theorem uz:aq Tryz.prog Tryz.f256 [[0],[2]] 1=some (ma,[.t 2]):=by kernel_rfl

abbrev zA:Nat:=259
theorem Am:Tryz.prog.funcs[259]?=some Tryz.f259:=Tryz.func259
def qp:AC:=
 Q [.reg [mi 4 0] [0,1],
 Q [.reg [m 7 0,o1 8 (.rgs (.t 7))] [0,1,8],
 .block 0 (.loop [0,1,8] (Q [.reg [o1 9 (.nxs (.t 8)),ex 10 9 0] [0,1,8,9,10],
 C 10 (.skip) (.exit 0),
 .block 1 (Q [.reg [ex 11 9 1,ex 12 9 2,m 5 11,m 6 12] [0,1,5,6,8],
 .reg [m 13 1,m 14 6,cv 15 13 [14],nt' 16 15] [0,1,5,8,16],
 C 16 (Q [.reg [m 17 5,m 4 17] [4],
 .ret]) (.skip)])]))],
 .reg [m 18 0,ls 19 18,m 4 19] [4],
 .ret]
theorem zZ:aq Tryz.prog Tryz.f259 [[0,1],[0,1,8],[0,1,8],[0,1,8,9,10],[0,1,5,6,8],[0,1,5,8,16],[4],[4]] 2=some (qp,[.t 4]):=by kernel_rfl

abbrev vT:Nat:=259
theorem wZ:Tryz.prog.funcs[259]?=some Tryz.f259:=Tryz.func259
def nv:AC:=
 Q [.reg [mi 4 0] [0,1],
 Q [.reg [m 7 0,o1 8 (.rgs (.t 7))] [0,1,8],
 .block 0 (.loop [0,1,8] (Q [.reg [o1 9 (.nxs (.t 8)),ex 10 9 0] [0,1,8,9,10],
 C 10 (.skip) (.exit 0),
 .block 1 (Q [.reg [ex 11 9 1,ex 12 9 2,m 5 11,m 6 12] [0,1,5,6,8],
 .reg [m 13 1,m 14 6,cv 15 13 [14],nt' 16 15] [0,1,5,8,16],
 C 16 (Q [.reg [m 17 5,m 4 17] [1,4],
 .ret]) (.skip)])]))],
 .reg [m 18 0,ls 19 18,m 4 19] [1,4],
 .ret]
theorem wz:av Tryz.prog Tryz.f259 [1] [9999999] [[0,1],[0,1,8],[0,1,8],[0,1,8,9,10],[0,1,5,6,8],[0,1,5,8,16],[1,4],[1,4]] 2=some (nv,[.t 4]):=by kernel_rfl

abbrev lw:Nat:=266
theorem lM:Tryz.prog.funcs[266]?=some Tryz.f266:=Tryz.func266
def fU:AC:=
 Q [.reg [mb 3 false] [0,1],
 .reg [m 4 0,l1 5 1,bt 6 .neq 4 5,m 3 6] [1,3],
 .ret]
theorem lH:av Tryz.prog Tryz.f266 [1] [9999999] [[0,1],[1,3]] 2=some (fU,[.t 3]):=by kernel_rfl

abbrev vS:Nat:=257
theorem wY:Tryz.prog.funcs[257]?=some Tryz.f257:=Tryz.func257
def nu:AC:=
 Q [.reg [mi 2 0] [0],
 Q [.reg [m 3 0,bs 4 .eql 3 [],m 5 4,gf 5 (m 6 0),gf 5 (o1 7 (.ixs (.t 6) (.v (.int .i64 0)))),gf 5 (o1 8 (.cii .i32 (.t 7))),gf 5 (ca 9 256 [8]),gf 5 (nt' 10 9),po 11 5 10] [0,11],
 C 11 (Q [.reg [mi 2 0] [2],
 .ret]) (.skip)],
 .reg [m 12 0,o1 13 (.call 259 [.t 12,.v (.fn (.func 264) [] [])]),m 2 13] [2],
 .ret]
theorem wy:aq Tryz.prog Tryz.f257 [[0],[0,11],[2],[2]] 1=some (nu,[.t 2]):=by kernel_rfl

abbrev sK:Nat:=264
theorem sX:Tryz.prog.funcs[264]?=some Tryz.f264:=Tryz.func264
def kD:AC:=
 Q [.reg [mb 2 false] [0],
 .reg [m 3 0,ca 4 256 [3],m 5 4,gf 5 (m 6 0),gf 5 (o1 7 (.bin .leq (.v (.int .i32 48)) (.t 6))),gf 5 (m 8 7),gt 8 (m 9 0),gt 8 (o1 10 (.bin .leq (.t 9) (.v (.int .i32 57)))),gf 5 (pa 11 8 10),po 12 5 11,m 13 12,gf 13 (m 14 0),gf 13 (o1 15 (.bin .eql (.t 14) (.v (.int .i32 45)))),po 16 13 15,m 2 16] [2],
 .ret]
theorem sQ:aq Tryz.prog Tryz.f264 [[0],[2]] 1=some (kD,[.t 2]):=by kernel_rfl

abbrev mP:Nat:=260
theorem m3:Tryz.prog.funcs[260]?=some Tryz.f260:=Tryz.func260
def gz:AC:=
 Q [.reg [mb 2 false] [0],
 .reg [m 3 0,ca 4 142 [3],m 5 4,gf 5 (m 6 0),gf 5 (o1 7 (.bin .eql (.t 6) (.v (.int .i32 47)))),po 8 5 7,m 9 8,gf 9 (m 10 0),gf 9 (o1 11 (.bin .eql (.t 10) (.v (.int .i32 61)))),po 12 9 11,m 2 12] [2],
 .ret]
theorem mV:aq Tryz.prog Tryz.f260 [[0],[2]] 1=some (gz,[.t 2]):=by kernel_rfl

abbrev pH:Nat:=261
theorem p2:Tryz.prog.funcs[261]?=some Tryz.f261:=Tryz.func261
def iV:AC:=
 Q [.reg [o1 2 (.alc [.str [],.str []]),mi 3 0] [0,2],
 .reg [m 9 0,o1 10 (.call 259 [.t 9,.v (.fn (.func 265) [] [])]),m 4 10] [0,2,4],
 .reg [m 11 0,m 12 4,o1 13 (.sls (.t 11) none (some (.t 12))),ca 14 258 [13],o1 15 (.bld [.str [],.str []] [(0,1,(.t 14))]),o1 5 (.alc [.str [],.str []]),st 2 5 15] [0,2,4,5],
 .reg [m 16 4,m 17 0,m 18 4,o1 19 (.sls (.t 17) (some (.t 18)) none),o1 20 (.call 259 [.t 19,.v (.fn (.func 142) [] [])]),bt 21 .add 16 20,m 4 21] [0,2,4,5],
 Q [.reg [m 22 4,m 23 0,ls 24 23,bt 25 .eql 22 24,m 26 25,gf 26 (m 27 0),gf 26 (m 28 4),gf 26 (ix 29 27 28),gf 26 (bu 30 .neq 29 61),po 31 26 30] [0,2,4,5,31],
 C 31 (Q [.reg [la 32 5 2,m 33 4,st 2 2 32,m 3 33] [2,3],
 .ret]) (.skip)],
 .reg [m 34 4,bi 35 .add 34 1,m 4 35] [0,2,4,5],
 .reg [m 36 4,m 37 0,m 38 4,o1 39 (.sls (.t 37) (some (.t 38)) none),o1 40 (.call 259 [.t 39,.v (.fn (.func 142) [] [])]),bt 41 .add 36 40,m 4 41] [0,2,4,5],
 Q [.reg [m 42 4,m 43 0,ls 44 43,bt 45 .eql 42 44] [0,2,4,5,45],
 C 45 (Q [.reg [la 46 5 2,m 47 4,st 2 2 46,m 3 47] [2,3],
 .ret]) (.skip)],
 Q [.reg [m 48 0,m 49 4,ix 50 48 49,o1 51 (.cii .i32 (.t 50)),o1 6 (.alc [.int .i32 0]),st 1 6 51] [0,2,4,5,6],
 .reg [l1 52 6,o1 53 (.bin .eql (.t 52) (.v (.int .i32 34))),m 54 53,gf 54 (l1 55 6),gf 54 (o1 56 (.bin .eql (.t 55) (.v (.int .i32 39)))),po 57 54 56] [0,2,4,5,6,57],
 C 57 (Q [.reg [m 58 4,bi 59 .add 58 1,m 4 59] [0,2,4,5,6],
 .reg [m 60 0,m 61 4,o1 62 (.sls (.t 60) (some (.t 61)) none),o1 63 (.mkf (.func 266) [] [.t 6]),ch 64 259 [62,63],m 7 64] [0,2,4,5,7],
 Q [.reg [m 65 4,m 66 7,bt 67 .add 65 66,m 68 0,ls 69 68,bt 70 .eql 67 69] [0,2,4,5,7,70],
 C 70 (Q [.reg [la 71 5 2,m 72 0,ls 73 72,st 2 2 71,m 3 73] [2,3],
 .ret]) (.skip)],
 .reg [m 74 0,m 75 4,m 76 4,m 77 7,bt 78 .add 76 77,o1 79 (.sls (.t 74) (some (.t 75)) (some (.t 78))),ca 80 250 [79],fa 81 5 1,st 1 81 80] [2,4,5,7],
 .reg [la 82 5 2,m 83 4,m 84 7,bt 85 .add 83 84,bi 86 .add 85 1,st 2 2 82,m 3 86] [2,3],
 .ret]) (.skip)],
 .reg [m 87 0,m 88 4,o1 89 (.sls (.t 87) (some (.t 88)) none),o1 90 (.call 259 [.t 89,.v (.fn (.func 267) [] [])]),m 8 90] [0,2,4,5,8],
 .reg [m 91 0,m 92 4,m 93 4,m 94 8,bt 95 .add 93 94,o1 96 (.sls (.t 91) (some (.t 92)) (some (.t 95))),ca 97 250 [96],fa 98 5 1,st 1 98 97] [2,4,5,8],
 .reg [la 99 5 2,m 100 4,m 101 8,bt 102 .add 100 101,st 2 2 99,m 3 102] [2,3],
 .ret]
theorem pS:av Tryz.prog Tryz.f261 [] [5000064] [[0,2],[0,2,4],[0,2,4,5],[0,2,4,5],[0,2,4,5,31],[2,3],[0,2,4,5],[0,2,4,5],[0,2,4,5,45],[2,3],[0,2,4,5,6],[0,2,4,5,6,57],[0,2,4,5,6],[0,2,4,5,7],[0,2,4,5,7,70],[2,3],[2,4,5,7],[2,3],[0,2,4,5,8],[2,4,5,8],[2,3]] 1=some (iV,[.c 2 2 true,.t 3]):=by kernel_rfl

abbrev mS:Nat:=265
theorem m6:Tryz.prog.funcs[265]?=some Tryz.f265:=Tryz.func265
def gC:AC:=
 Q [.reg [mb 2 false] [0],
 .reg [m 3 0,ca 4 142 [3],nt' 5 4,m 6 5,gt 6 (m 7 0),gt 6 (o1 8 (.bin .neq (.t 7) (.v (.int .i32 47)))),pa 9 6 8,m 10 9,gt 10 (m 11 0),gt 10 (o1 12 (.bin .neq (.t 11) (.v (.int .i32 62)))),pa 13 10 12,m 14 13,gt 14 (m 15 0),gt 14 (o1 16 (.bin .neq (.t 15) (.v (.int .i32 61)))),pa 17 14 16,m 2 17] [2],
 .ret]
theorem mY:aq Tryz.prog Tryz.f265 [[0],[2]] 1=some (gC,[.t 2]):=by kernel_rfl

abbrev mR:Nat:=266
theorem m5:Tryz.prog.funcs[266]?=some Tryz.f266:=Tryz.func266
def gB:AC:=
 Q [.reg [mb 3 false] [0,1],
 .reg [m 4 0,l1 5 1,bt 6 .neq 4 5,m 3 6] [3],
 .ret]
theorem mX:aq Tryz.prog Tryz.f266 [[0,1],[3]] 2=some (gB,[.t 3]):=by kernel_rfl

abbrev mQ:Nat:=267
theorem m4:Tryz.prog.funcs[267]?=some Tryz.f267:=Tryz.func267
def gA:AC:=
 Q [.reg [mb 2 false] [0],
 .reg [m 3 0,ca 4 142 [3],nt' 5 4,m 6 5,gt 6 (m 7 0),gt 6 (o1 8 (.bin .neq (.t 7) (.v (.int .i32 62)))),pa 9 6 8,m 2 9] [2],
 .ret]
theorem mW:aq Tryz.prog Tryz.f267 [[0],[2]] 1=some (gA,[.t 2]):=by kernel_rfl

abbrev sL:Nat:=253
theorem sY:Tryz.prog.funcs[253]?=some Tryz.f253:=Tryz.func253
def kE:AC:=
 Q [.reg [o1 2 (.alc [.int .i64 0,.str [],.nil 2,.str []]),mi 3 0] [0,2],
 .reg [mi 4 2,mv 5 (.str [62])] [0,2,4,5],
 Q [.reg [m 7 0,o1 8 (.call 177 [.t 7,.v (.str [60,33,45,45])])] [0,2,4,5,8],
 C 8 (.reg [mi 4 4,mv 5 (.str [45,45,62])] [0,2,4,5]) (.skip)],
 .reg [m 9 0,m 10 4,o1 11 (.sls (.t 9) (some (.t 10)) none),m 12 5,ca 13 140 [11,12],m 6 13] [0,2,4,5,6],
 Q [.reg [m 14 6,bi 15 .lss 14 0] [0,2,4,5,6,15],
 C 15 (Q [.reg [m 16 0,m 17 4,o1 18 (.sls (.t 16) (some (.t 17)) none),o1 19 (.bld [.int .i64 0,.str [],.nil 2,.str []] [(0,1,(.v (.int .i64 4))),(3,1,(.t 18))]),m 20 0,ls 21 20,st 4 2 19,m 3 21] [2,3],
 .ret]) (.skip)],
 .reg [m 22 0,m 23 4,m 24 4,m 25 6,bt 26 .add 24 25,o1 27 (.sls (.t 22) (some (.t 23)) (some (.t 26))),o1 28 (.bld [.int .i64 0,.str [],.nil 2,.str []] [(0,1,(.v (.int .i64 4))),(3,1,(.t 27))]),m 29 4,m 30 6,bt 31 .add 29 30,m 32 5,ls 33 32,bt 34 .add 31 33,st 4 2 28,m 3 34] [2,3],
 .ret]
theorem sR:aq Tryz.prog Tryz.f253 [[0,2],[0,2,4,5],[0,2,4,5,8],[0,2,4,5],[0,2,4,5,6],[0,2,4,5,6,15],[2,3],[2,3]] 1=some (kE,[.c 2 4 true,.t 3]):=by kernel_rfl

abbrev ul:Nat:=252
theorem uN:Tryz.prog.funcs[252]?=some Tryz.f252:=Tryz.func252
def mc:AC:=
 Q [.reg [o1 2 (.alc [.int .i64 0,.str [],.nil 2,.str []]),mi 3 0] [0,2],
 .reg [m 6 0,o1 7 (.sls (.t 6) (some (.v (.int .i64 2))) none),ca 8 257 [7],m 4 8] [0,2,4],
 Q [.reg [m 9 4,bi 10 .eql 9 0] [0,2,4,10],
 C 10 (Q [Q [.reg [m 11 0,o1 12 (.call 177 [.t 11,.v (.str [60,47,62])])] [0,2,12],
 C 12 (Q [.reg [o1 13 (.bld [.int .i64 0,.str [],.nil 2,.str []] []),st 4 2 13,mi 3 3] [2,3],
 .ret]) (.skip)],
 .reg [m 14 0,ca 15 253 [14],ex 16 15 0,ex 17 15 1,st 4 2 16,m 3 17] [2,3],
 .ret]) (.skip)],
 .reg [m 18 0,o1 19 (.call 202 [.t 18,.v (.int .u8 62)]),m 5 19] [0,2,4,5],
 Q [.reg [m 20 5,bi 21 .lss 20 0] [0,2,4,5,21],
 C 21 (Q [.reg [o1 22 (.bld [.int .i64 0,.str [],.nil 2,.str []] []),m 23 0,ls 24 23,st 4 2 22,m 3 24] [2,3],
 .ret]) (.skip)],
 .reg [m 25 0,m 26 4,o1 27 (.bin .add (.v (.int .i64 2)) (.t 26)),o1 28 (.sls (.t 25) (some (.v (.int .i64 2))) (some (.t 27))),ca 29 258 [28],o1 30 (.bld [.int .i64 0,.str [],.nil 2,.str []] [(0,1,(.v (.int .i64 2))),(1,1,(.t 29))]),m 31 5,bi 32 .add 31 1,st 4 2 30,m 3 32] [2,3],
 .ret]
theorem uA:aq Tryz.prog Tryz.f252 [[0,2],[0,2,4],[0,2,4,10],[0,2,12],[2,3],[2,3],[0,2,4,5],[0,2,4,5,21],[2,3],[2,3]] 1=some (mc,[.c 2 4 true,.t 3]):=by kernel_rfl

abbrev oc:Nat:=249
theorem oz:Tryz.prog.funcs[249]?=some Tryz.f249:=Tryz.func249
def il:AC:=
 Q [.reg [mi 2 0] [0],
 Q [.reg [mi 3 0] [0,3],
 .block 0 (.loop [0,3] (Q [Q [.reg [m 5 3,m 6 0,ls 7 6,bt 8 .lss 5 7] [0,3,8],
 C 8 (.skip) (.exit 0)],
 .block 1 (Q [.reg [m 11 0,m 12 3,o1 13 (.sls (.t 11) (some (.t 12)) none),o1 14 (.call 202 [.t 13,.v (.int .u8 60)]),m 4 14] [0,3,4],
 Q [.reg [m 15 4,bi 16 .lss 15 0] [0,3,4,16],
 C 16 (.exit 0) (.skip)],
 .reg [m 17 3,m 18 4,bt 19 .add 17 18,m 3 19] [0,3],
 .reg [m 20 0,m 21 3,o1 22 (.sls (.t 20) (some (.t 21)) none),ca 23 251 [22]] [0,3,23],
 C 23 (Q [.reg [m 24 3,m 2 24] [2],
 .ret]) (.skip)]),
 .reg [m 9 3,bi 10 .add 9 1,m 3 10] [0,3]]))],
 .reg [m 25 0,ls 26 25,m 2 26] [2],
 .ret]
theorem ot:aq Tryz.prog Tryz.f249 [[0],[0,3],[0,3],[0,3,8],[0,3,4],[0,3,4,16],[0,3],[0,3,23],[2],[0,3],[2]] 1=some (il,[.t 2]):=by kernel_rfl

abbrev BO:Nat:=248
theorem Cw:Tryz.prog.funcs[248]?=some Tryz.f248:=Tryz.func248
def sn:AC:=
 Q [.reg [o1 2 (.alc [.int .i64 0,.str [],.nil 2,.str []]),mi 3 0] [0,2],
 .block 0 (Q [.reg [m 5 0,ca 6 251 [5],nt' 7 6,m 4 7] [0,2,4],
 C 4 (Q [.reg [o1 8 (.bld [.int .i64 0,.str [],.nil 2,.str []] []),st 4 2 8,mi 3 0] [2,3],
 .ret]) (Q [.reg [m 10 0,o1 11 (.ixs (.t 10) (.v (.int .i64 1))),bu 12 .eql 11 47,m 9 12] [0,2,9],
 C 9 (Q [.reg [m 13 0,ca 14 252 [13],ex 15 14 0,ex 16 14 1,st 4 2 15,m 3 16] [2,3],
 .ret]) (Q [.reg [m 18 0,o1 19 (.ixs (.t 18) (.v (.int .i64 1))),bu 20 .eql 19 33,m 21 20,gf 21 (m 22 0),gf 21 (o1 23 (.ixs (.t 22) (.v (.int .i64 1)))),gf 21 (bu 24 .eql 23 63),po 25 21 24,m 17 25] [0,2,17],
 C 17 (Q [.reg [m 26 0,ca 27 253 [26],ex 28 27 0,ex 29 27 1,st 4 2 28,m 3 29] [2,3],
 .ret]) (.skip)])])]),
 .reg [m 30 0,ca 31 254 [30],ex 32 31 0,ex 33 31 1,st 4 2 32,m 3 33] [2,3],
 .ret]
theorem Ce:aq Tryz.prog Tryz.f248 [[0,2],[0,2,4],[2,3],[0,2,9],[2,3],[0,2,17],[2,3],[2,3]] 1=some (sn,[.c 2 4 true,.t 3]):=by kernel_rfl

abbrev pG:Nat:=254
theorem p1:Tryz.prog.funcs[254]?=some Tryz.f254:=Tryz.func254
def iU:AC:=
 Q [.reg [o1 2 (.alc [.int .i64 0,.str [],.nil 2,.str []]),mi 3 0] [0,2],
 .reg [m 11 0,o1 12 (.sls (.t 11) (some (.v (.int .i64 1))) none),ca 13 257 [12],o1 14 (.bin .add (.v (.int .i64 1)) (.t 13)),m 4 14] [0,2,4],
 .reg [m 15 0,m 16 4,o1 17 (.sls (.t 15) (some (.v (.int .i64 1))) (some (.t 16))),ca 18 258 [17],o1 19 (.bld [.int .i64 0,.str [],.nil 2,.str []] [(0,1,(.v (.int .i64 1))),(1,1,(.t 18))]),o1 5 (.alc [.int .i64 0,.str [],.nil 2,.str []]),st 4 5 19] [0,2,4,5],
 .reg [mv 6 (.nilmp)] [0,2,4,5,6],
 .block 0 (.loop [0,2,4,5,6] (.block 1 (Q [.reg [m 20 4,m 21 0,m 22 4,o1 23 (.sls (.t 21) (some (.t 22)) none),o1 24 (.call 259 [.t 23,.v (.fn (.func 260) [] [])]),bt 25 .add 20 24,m 4 25] [0,2,4,5,6],
 Q [.reg [m 26 4,m 27 0,ls 28 27,bt 29 .eql 26 28] [0,2,4,5,6,29],
 C 29 (Q [.reg [o1 30 (.bld [.int .i64 0,.str [],.nil 2,.str []] []),m 31 0,ls 32 31,st 4 2 30,m 3 32] [2,3],
 .ret]) (.skip)],
 Q [.reg [m 33 0,m 34 4,ix 35 33 34,bu 36 .eql 35 62] [0,2,4,5,6,36],
 C 36 (Q [.reg [la 37 5 4,m 38 4,bi 39 .add 38 1,st 4 2 37,m 3 39] [2,3],
 .ret]) (.skip)],
 .reg [m 41 0,m 42 4,o1 43 (.sls (.t 41) (some (.t 42)) none),ca 44 261 [43],m 40 44,ex 45 40 0,ex 46 40 1,o1 7 (.alc [.str [],.str []]),st 2 7 45,m 8 46] [0,2,4,5,6,7,8],
 .reg [m 47 4,m 48 8,bt 49 .add 47 48,m 4 49] [0,2,4,5,6,7],
 Q [.reg [m 51 6,fa 52 7 0,l1 53 52,o1 54 (.lkp ⟨false,[.s]⟩ (.int .i64 0) true (.t 51) (.t 53)),m 50 54,ex 55 50 0,ex 56 50 1,m 9 55,m 10 56] [0,2,4,5,6,7,10],
 .reg [m 57 10] [0,2,4,5,6,7,57],
 C 57 (.exit 1) (.skip)],
 Q [.reg [m 58 6,o1 59 (.nlq 3 false (.t 58))] [0,2,4,5,6,7,59],
 C 59 (.reg [o1 60 (.mkp ⟨false,[.s]⟩),m 6 60] [0,2,4,5,6,7]) (.skip)],
 .reg [m 61 6,fa 62 7 0,l1 63 62,m 64 4,o0 (.mup ⟨false,[.s]⟩ (.t 61) (.t 63) (.t 64))] [0,2,4,5,6,7],
 .reg [fa 65 5 2,l1 66 65,la 67 7 2,o1 68 (.lit 59 2 [.t 67]),o1 69 (.app (.t 66) (.t 68) 59 2 32),fa 70 5 2,st 1 70 69] [0,2,4,5,6]])))]
theorem pR:av Tryz.prog Tryz.f254 [] [9999999] [[0,2],[0,2,4],[0,2,4,5],[0,2,4,5,6],[0,2,4,5,6],[0,2,4,5,6],[0,2,4,5,6,29],[2,3],[0,2,4,5,6,36],[2,3],[0,2,4,5,6,7,8],[0,2,4,5,6,7],[0,2,4,5,6,7,10],[0,2,4,5,6,7,57],[0,2,4,5,6,7,59],[0,2,4,5,6,7],[0,2,4,5,6,7],[0,2,4,5,6]] 1=some (iU,[.c 2 4 true,.t 3]):=by kernel_rfl

abbrev um:Nat:=247
theorem uO:Tryz.prog.funcs[247]?=some Tryz.f247:=Tryz.func247
def md:AC:=
 Q [.reg [mv 2 (.nil 4)] [0],
 .reg [mv 3 (.nil 4)] [0,3],
 .block 0 (.loop [0,3] (Q [Q [.reg [m 6 0,bs 7 .neq 6 []] [0,3,7],
 C 7 (.skip) (.exit 0)],
 .block 1 (Q [.reg [m 9 0,ca 10 248 [9],m 8 10,ex 11 8 0,ex 12 8 1,o1 4 (.alc [.int .i64 0,.str [],.nil 2,.str []]),st 4 4 11,m 5 12] [0,3,4,5],
 Q [.reg [m 13 5,bi 14 .eql 13 0] [0,3,4,5,14],
 C 14 (Q [.reg [m 15 0,ca 16 249 [15],m 5 16] [0,3,5],
 .reg [m 17 3,m 18 0,m 19 5,o1 20 (.sls (.t 18) none (some (.t 19))),ca 21 250 [20],o1 22 (.bld [.int .i64 0,.str [],.nil 2,.str []] [(0,1,(.v (.int .i64 3))),(3,1,(.t 21))]),o1 23 (.ltr 132 4 [.t 22]),o1 24 (.app (.t 17) (.t 23) 132 4 64),m 3 24] [0,3,5],
 .reg [m 25 0,m 26 5,o1 27 (.sls (.t 25) (some (.t 26)) none),m 0 27] [0,3],
 .exit 1]) (.skip)],
 .reg [m 28 0,m 29 5,o1 30 (.sls (.t 28) (some (.t 29)) none),m 0 30] [0,3,4],
 Q [.reg [fa 31 4 0,l1 32 31,bi 33 .eql 32 0] [0,3,4,33],
 C 33 (.exit 1) (.skip)],
 .reg [m 34 3,la 35 4 4,o1 36 (.ltr 132 4 [.t 35]),o1 37 (.app (.t 34) (.t 36) 132 4 64),m 3 37] [0,3,4],
 .reg [fa 38 4 0,l1 39 38,bi 40 .eql 39 1,m 41 40,gt 41 (fa 42 4 1),gt 41 (l1 43 42),gt 41 (ca 44 83 [43]),pa 45 41 44] [0,3,4,45],
 C 45 (Q [.reg [m 46 0,fa 47 4 1,l1 48 47,ca 49 113 [46,48],m 5 49] [0,3,5],
 Q [.reg [m 50 5,bi 51 .lss 50 0] [0,3,5,51],
 C 51 (.reg [m 52 0,ls 53 52,m 5 53] [0,3,5]) (.skip)],
 Q [.reg [m 54 5,bi 55 .gtr 54 0] [0,3,5,55],
 C 55 (.reg [m 56 3,m 57 0,m 58 5,o1 59 (.sls (.t 57) none (some (.t 58))),o1 60 (.bld [.int .i64 0,.str [],.nil 2,.str []] [(0,1,(.v (.int .i64 3))),(3,1,(.t 59))]),o1 61 (.ltr 132 4 [.t 60]),o1 62 (.app (.t 56) (.t 61) 132 4 64),m 3 62] [0,3,5]) (.skip)],
 .reg [m 63 0,m 64 5,o1 65 (.sls (.t 63) (some (.t 64)) none),m 0 65] [0,3]]) (.skip)])])),
 .reg [m 66 3,m 2 66] [2],
 .ret]
theorem uB:av Tryz.prog Tryz.f247 [] [1000001] [[0],[0,3],[0,3],[0,3,7],[0,3,4,5],[0,3,4,5,14],[0,3,5],[0,3,5],[0,3],[0,3,4],[0,3,4,33],[0,3,4],[0,3,4,45],[0,3,5],[0,3,5,51],[0,3,5],[0,3,5,55],[0,3,5],[0,3],[2]] 1=some (md,[.t 2]):=by kernel_rfl

end Go.Abs
