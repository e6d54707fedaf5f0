/- The images of some of the program's functions, as the kernel reckons them. No condition. -/
import Derived.Test.YtedmnakfknbabaaGreatDoorACodeA
set_option linter.all false
set_option maxHeartbeats 0
set_option maxRecDepth 100000
namespace Go.Abs
open Go.Proofs
abbrev DI:Nat:=108
theorem Em:Tryz.prog.funcs[108]?=some Tryz.f108:=Tryz.func108
def tF:AC:=
 Q [.reg [mb 2 false] [0],
 Q [.reg [m 6 0,ls 7 6,mi 8 0] [0,7,8],
 .block 0 (.loop [0,7,8] (Q [.reg [bt 9 .lss 8 7] [0,7,8,9],
 C 9 (.skip) (.exit 0),
 .block 1 (Q [.reg [m 10 8,m 3 10] [0,3,7,8],
 .reg [m 11 0,m 12 3,ix 13 11 12,m 4 13] [0,3,4,7,8],
 .reg [m 14 4,o1 15 (.bin .leq (.v (.int .u8 97)) (.t 14)),m 16 15,gt 16 (m 17 4),gt 16 (bu 18 .leq 17 122),pa 19 16 18,m 5 19] [0,3,4,5,7,8],
 .reg [m 20 5,nt' 21 20,m 22 21,gt 22 (m 23 3),gt 22 (bi 24 .eql 23 0),gt 22 (m 25 24),gf 25 (m 26 4),gf 25 (bu 27 .neq 26 45),gf 25 (m 28 27),gt 28 (m 29 4),gt 28 (bu 30 .lss 29 48),gt 28 (m 31 30),gf 31 (m 32 4),gf 31 (bu 33 .gtr 32 57),gt 28 (po 34 31 33),gf 25 (pa 35 28 34),gt 22 (po 36 25 35),pa 37 22 36] [0,7,8,37],
 C 37 (Q [.reg [mb 2 false] [2],
 .ret]) (.skip)]),
 .reg [bi 38 .add 8 1,m 8 38] [0,7,8]]))],
 .reg [m 39 0,bs 40 .neq 39 [],m 2 40] [2],
 .ret]
theorem D8:am Tryz.prog Tryz.f108 [[0],[0,7,8],[0,7,8],[0,7,8,9],[0,3,7,8],[0,3,4,7,8],[0,3,4,5,7,8],[0,7,8,37],[2],[0,7,8],[2]] 1=some (tF,[.t 2]):=by kernel_rfl
abbrev sa:Nat:=109
theorem sl:Tryz.prog.funcs[109]?=some Tryz.f109:=Tryz.func109
def kD:AC:=
 Q [.reg [mb 2 false] [0],
 Q [.reg [m 5 0,ls 6 5,mi 7 0] [0,6,7],
 .block 0 (.loop [0,6,7] (Q [.reg [bt 8 .lss 7 6] [0,6,7,8],
 C 8 (.skip) (.exit 0),
 .block 1 (Q [.reg [m 9 7,m 3 9] [0,3,6,7],
 .reg [m 10 0,m 11 3,ix 12 10 11,m 4 12] [0,4,6,7],
 .block 2 (Q [Q [.reg [m 14 4,o1 15 (.bin .leq (.v (.int .u8 65)) (.t 14)),m 16 15,gt 16 (m 17 4),gt 16 (bu 18 .leq 17 90),pa 19 16 18,m 13 19] [0,4,6,7,13],
 C 13 (.skip) (Q [.reg [m 20 4,bu 21 .eql 20 9,m 13 21] [0,4,6,7,13],
 C 13 (.skip) (Q [.reg [m 22 4,bu 23 .eql 22 10,m 13 23] [0,4,6,7,13],
 C 13 (.skip) (Q [.reg [m 24 4,bu 25 .eql 24 12,m 13 25] [0,4,6,7,13],
 C 13 (.skip) (Q [.reg [m 26 4,bu 27 .eql 26 32,m 13 27] [0,4,6,7,13],
 C 13 (.skip) (Q [.reg [m 28 4,bu 29 .eql 28 47,m 13 29] [0,4,6,7,13],
 C 13 (.skip) (Q [.reg [m 30 4,bu 31 .eql 30 62,m 13 31] [0,4,6,7,13],
 C 13 (.skip) (.reg [m 32 4,bu 33 .eql 32 61,m 13 33] [0,6,7,13])])])])])])])],
 C 13 (Q [.reg [mb 2 false] [2],
 .ret]) (.skip)])]),
 .reg [bi 34 .add 7 1,m 7 34] [0,6,7]]))],
 .reg [m 35 0,bs 36 .neq 35 [],m 37 36,gt 37 (m 38 0),gt 37 (ca 39 89 [38]),pa 40 37 39,m 2 40] [2],
 .ret]
theorem si:am Tryz.prog Tryz.f109 [[0],[0,6,7],[0,6,7],[0,6,7,8],[0,3,6,7],[0,4,6,7],[0,4,6,7,13],[0,4,6,7,13],[0,4,6,7,13],[0,4,6,7,13],[0,4,6,7,13],[0,4,6,7,13],[0,4,6,7,13],[0,6,7,13],[2],[0,6,7],[2]] 1=some (kD,[.t 2]):=by kernel_rfl
abbrev FX:Nat:=93
theorem Gm:Tryz.prog.funcs[93]?=some Tryz.f93:=Tryz.func93
def w6:AC:=
 Q [.reg [mb 2 false] [0],
 Q [.reg [m 3 0] [3],
 .block 0 (Q [Q [.reg [bs 5 .eql 3 [98,114],m 4 5] [3,4],
 C 4 (.skip) (Q [.reg [bs 6 .eql 3 [104,114],m 4 6] [3,4],
 C 4 (.skip) (Q [.reg [bs 7 .eql 3 [105,109,103],m 4 7] [3,4],
 C 4 (.skip) (Q [.reg [bs 8 .eql 3 [105,110,112,117,116],m 4 8] [3,4],
 C 4 (.skip) (.reg [bs 9 .eql 3 [119,98,114],m 4 9] [4])])])])],
 C 4 (Q [.reg [mb 2 true] [2],
 .ret]) (.skip)])],
 .reg [mb 2 false] [2],
 .ret]
theorem Ge:am Tryz.prog Tryz.f93 [[0],[3],[3,4],[3,4],[3,4],[3,4],[4],[2],[2]] 1=some (w6,[.t 2]):=by kernel_rfl
abbrev I6:Nat:=46
theorem JF:Tryz.prog.funcs[46]?=some Tryz.f46:=Tryz.func46
def Av:AC:=
 Q [.reg [mb 2 false] [0],
 .reg [m 3 0,bs 4 .eql 3 [115,99,114,105,112,116],m 5 4,gf 5 (m 6 0),gf 5 (bs 7 .eql 6 [115,116,121,108,101]),po 8 5 7,m 2 8] [2],
 .ret]
theorem Jy:am Tryz.prog Tryz.f46 [[0],[2]] 1=some (Av,[.t 2]):=by kernel_rfl
abbrev Me:Nat:=89
theorem MP:Tryz.prog.funcs[89]?=some Tryz.f89:=Tryz.func89
def ET:AC:=
 Q [.reg [mb 2 false] [0],
 Q [.reg [m 5 0,ca 6 110 [5],nt' 7 6] [0,7],
 C 7 (Q [.reg [mb 2 false] [2],
 .ret]) (.skip)],
 Q [.reg [m 8 0,o1 9 (.rgs (.t 8))] [9],
 .block 0 (.loop [9] (Q [.reg [o1 10 (.nxs (.t 9)),ex 11 10 0] [9,10,11],
 C 11 (.skip) (.exit 0),
 .block 1 (Q [.reg [ex 12 10 2,m 4 12] [4,9],
 .reg [m 13 4,o1 14 (.bin .eql (.t 13) (.v (.int .i32 0))),m 15 14,gf 15 (m 16 4),gf 15 (o1 17 (.bin .eql (.t 16) (.v (.int .i32 13)))),po 18 15 17] [9,18],
 C 18 (Q [.reg [mb 2 false] [2],
 .ret]) (.skip)])]))],
 .reg [mb 2 true] [2],
 .ret]
theorem ML:am Tryz.prog Tryz.f89 [[0],[0,7],[2],[9],[9],[9,10,11],[4,9],[9,18],[2],[2]] 1=some (ET,[.t 2]):=by kernel_rfl
abbrev Dz:Nat:=127
theorem Ec:Tryz.prog.funcs[127]?=some Tryz.f127:=Tryz.func127
def tv:AC:=
 Q [.reg [mv 2 (.int .u8 0)] [0],
 Q [.reg [m 3 0,o1 4 (.bin .leq (.v (.int .u8 65)) (.t 3)),m 5 4,gt 5 (m 6 0),gt 5 (bu 7 .leq 6 90),pa 8 5 7] [0,8],
 C 8 (Q [.reg [m 9 0,bu 10 .sub 9 65,bu 11 .add 10 97,m 2 11] [2],
 .ret]) (.skip)],
 .reg [m 12 0,m 2 12] [2],
 .ret]
theorem DY:am Tryz.prog Tryz.f127 [[0],[0,8],[2],[2]] 1=some (tv,[.t 2]):=by kernel_rfl
abbrev A5:Nat:=115
theorem BT:Tryz.prog.funcs[115]?=some Tryz.f115:=Tryz.func115
def rt:AC:=
 Q [.reg [mb 4 false] [0,1],
 Q [.reg [m 6 0,ls 7 6,m 8 1,ls 9 8,bt 10 .lss 7 9] [0,1,10],
 C 10 (Q [.reg [mb 4 false] [4],
 .ret]) (.skip)],
 Q [.reg [m 11 1,ls 12 11,mi 13 0] [0,1,12,13],
 .block 0 (.loop [0,1,12,13] (Q [.reg [bt 14 .lss 13 12] [0,1,12,13,14],
 C 14 (.skip) (.exit 0),
 .block 1 (Q [.reg [m 15 13,m 5 15] [0,1,5,12,13],
 .regD [m 16 0,m 17 5,ix 18 16 17,ca 19 127 [18],m 20 1,m 21 5,ix 22 20 21,bt 23 .neq 19 22] [0,1,12,13,23],
 C 23 (Q [.reg [mb 4 false] [4],
 .ret]) (.skip)]),
 .reg [bi 24 .add 13 1,m 13 24] [0,1,12,13]]))],
 .reg [mb 4 true] [4],
 .ret]
theorem Bz:am Tryz.prog Tryz.f115 [[0,1],[0,1,10],[4],[0,1,12,13],[0,1,12,13],[0,1,12,13,14],[0,1,5,12,13],[0,0,0,3,7,0,0,48,127],[0,1,2,3,4,5,6,7],[0,1,12,13,23],[4],[0,1,12,13],[4]] 2=some (rt,[.t 4]):=by kernel_rfl
abbrev xo:Nat:=116
theorem yj:Tryz.prog.funcs[116]?=some Tryz.f116:=Tryz.func116
def oT:AC:=
 Q [.reg [mb 2 false] [0],
 .reg [m 3 0,o1 4 (.bin .eql (.t 3) (.v (.int .i32 9))),m 5 4,gf 5 (m 6 0),gf 5 (o1 7 (.bin .eql (.t 6) (.v (.int .i32 10)))),po 8 5 7,m 9 8,gf 9 (m 10 0),gf 9 (o1 11 (.bin .eql (.t 10) (.v (.int .i32 12)))),po 12 9 11,m 13 12,gf 13 (m 14 0),gf 13 (o1 15 (.bin .eql (.t 14) (.v (.int .i32 32)))),po 16 13 15,m 2 16] [2],
 .ret]
theorem xO:am Tryz.prog Tryz.f116 [[0],[2]] 1=some (oT,[.t 2]):=by kernel_rfl
abbrev A6:Nat:=98
theorem BU:Tryz.prog.funcs[98]?=some Tryz.f98:=Tryz.func98
def ru:AC:=
 Q [.reg [mi 4 0] [0,1],
 .reg [mi 5 0] [0,1,5],
 .block 0 (.loop [0,1,5] (Q [.block 1 (Q [.reg [m 11 0,m 12 5,o1 13 (.sls (.t 11) (some (.t 12)) none),o1 14 (.call 100 [.t 13,.v (.str [60,47])]),m 6 14] [0,1,5,6],
 Q [.reg [m 15 6,bi 16 .lss 15 0] [0,1,5,6,16],
 C 16 (Q [.reg [mi 4 (-1)] [4],
 .ret]) (.skip)],
 .reg [m 17 5,m 18 6,bt 19 .add 17 18,m 5 19] [0,1,5],
 .reg [m 20 0,m 21 5,bi 22 .add 21 2,o1 23 (.sls (.t 20) (some (.t 22)) none),m 7 23] [0,1,5,7],
 Q [.reg [m 24 7,ls 25 24,m 26 1,ls 27 26,bt 28 .eql 25 27,m 29 28,gf 29 (m 30 7),gf 29 (m 31 1),gf 29 (ca 32 115 [30,31]),gf 29 (nt' 33 32),po 34 29 33] [0,1,5,7,34],
 C 34 (.exit 1) (.skip)],
 .reg [m 35 7,m 36 1,ls 37 36,ix 38 35 37,o1 39 (.cii .i32 (.t 38)),m 8 39] [0,1,5,8],
 .reg [m 40 8,ca 41 116 [40],m 42 41,gf 42 (m 43 8),gf 42 (o1 44 (.bin .eql (.t 43) (.v (.int .i32 47)))),po 45 42 44,m 46 45,gf 46 (m 47 8),gf 46 (o1 48 (.bin .eql (.t 47) (.v (.int .i32 62)))),po 49 46 48] [0,1,5,49],
 C 49 (Q [.reg [m 50 5,m 4 50] [4],
 .ret]) (.skip)]),
 .reg [m 9 5,bi 10 .add 9 2,m 5 10] [0,1,5]]))]
theorem BA:am Tryz.prog Tryz.f98 [[0,1],[0,1,5],[0,1,5],[0,1,5,6],[0,1,5,6,16],[4],[0,1,5],[0,1,5,7],[0,1,5,7,34],[0,1,5,8],[0,1,5,49],[4],[0,1,5]] 2=some (ru,[.t 4]):=by kernel_rfl
abbrev tN:Nat:=100
theorem t7:Tryz.prog.funcs[100]?=some Tryz.f100:=Tryz.func100
def lR:AC:=
 Q [.reg [mi 4 0] [0,1],
 .reg [m 5 0,m 6 1,ca 7 118 [5,6],m 4 7] [4],
 .ret]
theorem tU:am Tryz.prog Tryz.f100 [[0,1],[4]] 2=some (lR,[.t 4]):=by kernel_rfl
abbrev pJ:Nat:=76
theorem pU:Tryz.prog.funcs[76]?=some Tryz.f76:=Tryz.func76
def i4:AC:=
 Q [.reg [mb 4 false] [0,1],
 .reg [m 5 0,m 6 1,ca 7 100 [5,6],bi 8 .geq 7 0,m 4 8] [4],
 .ret]
theorem pP:am Tryz.prog Tryz.f76 [[0,1],[4]] 2=some (i4,[.t 4]):=by kernel_rfl
abbrev oc:Nat:=140
theorem ot:Tryz.prog.funcs[140]?=some Tryz.f140:=Tryz.func140
def hZ:AC:=
 Q [.reg [mv 4 (.str []),mb 5 false] [0,1],
 .reg [m 6 0,m 7 1,ca 8 148 [6,7],ex 9 8 0,ex 10 8 1,m 4 9,m 5 10] [4,5],
 .ret]
theorem om:am Tryz.prog Tryz.f140 [[0,1],[4,5]] 2=some (hZ,[.t 4,.t 5]):=by kernel_rfl
abbrev eX:Nat:=148
theorem fj:Tryz.prog.funcs[148]?=some Tryz.f148:=Tryz.func148
def ci:AC:=
 Q [.reg [mv 4 (.str []),mb 5 false] [0,1],
 Q [.reg [m 6 0,m 7 1,ca 8 152 [6,7],nt' 9 8] [0,1,9],
 C 9 (Q [.reg [m 10 0,m 4 10,mb 5 false] [4,5],
 .ret]) (.skip)],
 .reg [m 11 0,m 12 0,ls 13 12,m 14 1,ls 15 14,bt 16 .sub 13 15,o1 17 (.sls (.t 11) none (some (.t 16))),m 4 17,mb 5 true] [4,5],
 .ret]
theorem fd:am Tryz.prog Tryz.f148 [[0,1],[0,1,9],[4,5],[4,5]] 2=some (ci,[.t 4,.t 5]):=by kernel_rfl
abbrev eV:Nat:=152
theorem fg:Tryz.prog.funcs[152]?=some Tryz.f152:=Tryz.func152
def cf:AC:=
 Q [.reg [mb 4 false] [0,1],
 .reg [m 5 0,ls 6 5,m 7 1,ls 8 7,bt 9 .geq 6 8,m 10 9,gt 10 (m 11 0),gt 10 (m 12 0),gt 10 (ls 13 12),gt 10 (m 14 1),gt 10 (ls 15 14),gt 10 (bt 16 .sub 13 15),gt 10 (o1 17 (.sls (.t 11) (some (.t 16)) none)),gt 10 (m 18 1),gt 10 (bt 19 .eql 17 18),pa 20 10 19,m 4 20] [4],
 .ret]
theorem e9:am Tryz.prog Tryz.f152 [[0,1],[4]] 2=some (cf,[.t 4]):=by kernel_rfl
abbrev tS:Nat:=117
theorem ud:Tryz.prog.funcs[117]?=some Tryz.f117:=Tryz.func117
def lW:AC:=
 Q [.reg [mv 0 (.nilmp)] [],
 .reg [o1 1 (.mkp ⟨false,[.s]⟩),o1 2 (.lit 9 1 [.v (.str [98,108,111,99,107,113,117,111,116,101]),.v (.str [100,105,118]),.v (.str [104,49]),.v (.str [104,50]),.v (.str [104,114]),.v (.str [108,105]),.v (.str [111,108]),.v (.str [112]),.v (.str [112,114,101]),.v (.str [116,97,98,108,101]),.v (.str [117,108])]),o0 (.mup ⟨false,[.s]⟩ (.t 1) (.v (.str [112])) (.t 2)),o1 3 (.lit 9 1 [.v (.str [108,105])]),o0 (.mup ⟨false,[.s]⟩ (.t 1) (.v (.str [108,105])) (.t 3)),o1 4 (.lit 9 1 [.v (.str [100,100]),.v (.str [100,116])]),o0 (.mup ⟨false,[.s]⟩ (.t 1) (.v (.str [100,116])) (.t 4)),o1 5 (.lit 9 1 [.v (.str [100,100]),.v (.str [100,116])]),o0 (.mup ⟨false,[.s]⟩ (.t 1) (.v (.str [100,100])) (.t 5)),o1 6 (.lit 9 1 [.v (.str [111,112,116,105,111,110])]),o0 (.mup ⟨false,[.s]⟩ (.t 1) (.v (.str [111,112,116,105,111,110])) (.t 6)),o1 7 (.lit 9 1 [.v (.str [116,100]),.v (.str [116,114])]),o0 (.mup ⟨false,[.s]⟩ (.t 1) (.v (.str [116,100])) (.t 7)),o1 8 (.lit 9 1 [.v (.str [116,114])]),o0 (.mup ⟨false,[.s]⟩ (.t 1) (.v (.str [116,114])) (.t 8)),m 9 1,m 0 9] [0],
 .ret]
theorem tZ:aJ Tryz.prog Tryz.f117 [] [9999999] [[],[0]] 0=some (lW,[.t 0]):=by kernel_rfl
abbrev vA:Nat:=99
theorem wk:Tryz.prog.funcs[99]?=some Tryz.f99:=Tryz.func99
def np:AC:=
 Q [.reg [mb 4 false] [0,1],
 .reg [ch 5 117 [],m 6 0,o1 7 (.lkp ⟨false,[.s]⟩ (.nil 1) false (.t 5) (.t 6)),m 8 1,ca 9 101 [7,8],m 4 9] [4],
 .ret]
theorem vV:aJ Tryz.prog Tryz.f99 [] [117] [[0,1],[4]] 2=some (np,[.t 4]):=by kernel_rfl
abbrev Bk:Nat:=75
theorem Cb:Tryz.prog.funcs[75]?=some Tryz.f75:=Tryz.func75
def rH:AC:=
 Q [.reg [bx 3 1,mb 4 false] [0,3],
 .block 0 (Q [.reg [m 6 0,ca 7 93 [6],m 5 7] [0,3,5],
 C 5 (Q [.reg [mb 4 false] [4],
 .ret]) (Q [.reg [m 9 0,ca 10 46 [9],m 8 10] [0,3,8],
 C 8 (Q [.regD [fa 11 3 0,l1 12 11,bi 13 .eql 12 2,m 14 13,gt 14 (fa 15 3 3),gt 14 (l1 16 15),gt 14 (bs 17 .add 16 [60,47]),gt 14 (m 18 0),gt 14 (bt 19 .add 17 18),gt 14 (bs 20 .add 19 [62]),gt 14 (m 21 0),gt 14 (ca 22 98 [20,21]),gt 14 (fa 23 3 3),gt 14 (l1 24 23),gt 14 (ls 25 24),gt 14 (bt 26 .eql 22 25),pa 27 14 26,m 4 27] [4],
 .ret]) (.skip)])]),
 .reg [fa 28 3 0,l1 29 28,bi 30 .neq 29 1,m 31 30,gf 31 (m 32 0),gf 31 (fa 33 3 1),gf 31 (l1 34 33),gf 31 (ca 35 99 [32,34]),gf 31 (nt' 36 35),po 37 31 36,m 4 37] [4],
 .ret]
theorem BQ:am Tryz.prog Tryz.f75 [[0,3],[0,3,5],[4],[0,3,8],[0,0,1,3,7,15,31,63,15,255,511,15,2047,15,4111,12303,32767,65535,131071],[0,1,2,3,4,5,6,7,8,9,10,11,12,13,14,15,16,17],[4],[4]] 2=some (rH,[.t 4]):=by kernel_rfl
abbrev oF:Nat:=47
theorem yG:Tryz.prog.funcs[47]?=some Tryz.f47:=Tryz.func47
def ph:AC:=
 Q [.reg [mb 4 false] [0,1],
 .reg [m 5 0,m 6 1,o1 7 (.nlc (.t 6)),la 8 7 5,ca 9 75 [5,8],m 10 9,gt 10 (m 11 1),gt 10 (o1 12 (.nlc (.t 11))),gt 10 (fa 13 12 0),gt 10 (l1 14 13),gt 10 (bi 15 .neq 14 3),gt 10 (m 16 15),gf 16 (m 17 1),gf 16 (o1 18 (.nlc (.t 17))),gf 16 (fa 19 18 3),gf 16 (l1 20 19),gf 16 (o1 21 (.call 76 [.t 20,.v (.str [45,45,62])])),gf 16 (nt' 22 21),gt 10 (po 23 16 22),pa 24 10 23,m 4 24] [4],
 .ret]
theorem yc:am Tryz.prog Tryz.f47 [[0,1],[4]] 2=some (ph,[.t 4]):=by kernel_rfl
abbrev xI:Nat:=88
theorem yI:Tryz.prog.funcs[88]?=some Tryz.f88:=Tryz.func88
def pj:AC:=
 Q [.reg [mi 2 0] [0],
 Q [.reg [m 10 0,o1 11 (.nlc (.t 10)),fa 12 11 1,l1 13 12,ca 14 108 [13],nt' 15 14] [0,15],
 C 15 (Q [.reg [mi 2 4] [2],
 .ret]) (.skip)],
 .reg [o1 16 (.mkp ⟨false,[.s]⟩),m 3 16] [0,3],
 Q [.reg [m 17 0,o1 18 (.nlc (.t 17)),fa 19 18 2,l1 20 19,lq 21 20,mi 22 0] [0,3,20,21,22],
 .block 0 (.loop [0,3,20,21,22] (Q [.reg [bt 23 .lss 22 21] [0,3,20,21,22,23],
 C 23 (.skip) (.exit 0),
 .block 1 (Q [.reg [m 24 22,ia 25 20 22 2,la 26 25 2,o1 5 (.alc [.str [],.str []]),m 4 24,st 2 5 26] [0,3,4,5,20,21,22],
 Q [.reg [fa 27 5 0,l1 28 27,ca 29 109 [28],nt' 30 29] [0,3,4,5,20,21,22,30],
 C 30 (Q [.reg [mi 2 4] [2],
 .ret]) (.skip)],
 Q [.reg [m 32 3,fa 33 5 0,l1 34 33,o1 35 (.lkp ⟨false,[.s]⟩ (.int .i64 0) true (.t 32) (.t 34)),m 31 35,ex 36 31 0,ex 37 31 1,m 6 36,m 7 37] [0,3,4,5,7,20,21,22],
 .reg [m 38 7] [0,3,4,5,20,21,22,38],
 C 38 (Q [.reg [mi 2 5] [2],
 .ret]) (.skip)],
 .reg [m 39 3,fa 40 5 0,l1 41 40,m 42 4,o0 (.mup ⟨false,[.s]⟩ (.t 39) (.t 41) (.t 42))] [0,3,20,21,22]]),
 .reg [bi 43 .add 22 1,m 22 43] [0,3,20,21,22]]))],
 Q [.reg [m 44 0,o1 45 (.nlc (.t 44)),fa 46 45 2,l1 47 46,lq 48 47,mi 49 0] [47,48,49],
 .block 2 (.loop [47,48,49] (Q [.reg [bt 50 .lss 49 48] [47,48,49,50],
 C 50 (.skip) (.exit 2),
 .block 3 (Q [.reg [ia 51 47 49 2,la 52 51 2,o1 9 (.alc [.str [],.str []]),st 2 9 52] [9,47,48,49],
 .reg [fa 53 9 1,l1 54 53,ca 55 89 [54],nt' 56 55] [47,48,49,56],
 C 56 (Q [.reg [mi 2 2] [2],
 .ret]) (.skip)]),
 .reg [bi 57 .add 49 1,m 49 57] [47,48,49]]))],
 .reg [mi 2 0] [2],
 .ret]
theorem ye:am Tryz.prog Tryz.f88 [[0],[0,15],[2],[0,3],[0,3,20,21,22],[0,3,20,21,22],[0,3,20,21,22,23],[0,3,4,5,20,21,22],[0,3,4,5,20,21,22,30],[2],[0,3,4,5,7,20,21,22],[0,3,4,5,20,21,22,38],[2],[0,3,20,21,22],[0,3,20,21,22],[47,48,49],[47,48,49],[47,48,49,50],[9,47,48,49],[47,48,49,56],[2],[47,48,49],[2]] 1=some (pj,[.t 2]):=by kernel_rfl
abbrev DH:Nat:=58
theorem El:Tryz.prog.funcs[58]?=some Tryz.f58:=Tryz.func58
def tE:AC:=
 Q [.reg [mi 4 0] [0,1],
 Q [.reg [m 5 0,o1 6 (.nlc (.t 5)),fa 7 6 0,l1 8 7] [0,1,8],
 .block 0 (Q [.reg [bi 10 .eql 8 1,m 9 10] [0,1,8,9],
 C 9 (Q [Q [.reg [m 11 0,o1 12 (.nlc (.t 11)),fa 13 12 3,l1 14 13,bs 15 .neq 14 []] [0,15],
 C 15 (Q [.reg [mi 4 7] [4],
 .ret]) (.skip)],
 .reg [m 16 0,ca 17 88 [16],m 4 17] [4],
 .ret]) (Q [Q [.reg [bi 19 .eql 8 2,m 18 19] [0,1,8,18],
 C 18 (.skip) (.reg [bi 20 .eql 8 3,m 18 20] [0,1,18])],
 C 18 (Q [Q [.reg [m 21 0,o1 22 (.nlc (.t 21)),fa 23 22 1,l1 24 23,bs 25 .neq 24 [],m 26 25,gf 26 (m 27 0),gf 26 (o1 28 (.nlc (.t 27))),gf 26 (fa 29 28 2),gf 26 (l1 30 29),gf 26 (lq 31 30),gf 26 (bi 32 .gtr 31 0),po 33 26 32,m 34 33,gf 34 (m 35 0),gf 34 (o1 36 (.nlc (.t 35))),gf 34 (fa 37 36 4),gf 34 (l1 38 37),gf 34 (lq 39 38),gf 34 (bi 40 .gtr 39 0),po 41 34 40] [0,1,41],
 C 41 (Q [.reg [mi 4 7] [4],
 .ret]) (.skip)],
 Q [.reg [m 42 0,o1 43 (.nlc (.t 42)),fa 44 43 3,l1 45 44,ca 46 89 [45],nt' 47 46,m 48 47,gf 48 (m 49 0),gf 48 (o1 50 (.nlc (.t 49))),gf 48 (fa 51 50 0),gf 48 (l1 52 51),gf 48 (bi 53 .eql 52 2),gf 48 (m 54 53),gt 54 (m 55 0),gt 54 (o1 56 (.nlc (.t 55))),gt 54 (fa 57 56 3),gt 54 (l1 58 57),gt 54 (bs 59 .eql 58 []),gt 54 (m 60 59),gf 60 (m 61 1),gt 54 (po 62 60 61),gf 48 (pa 63 54 62),po 64 48 63] [64],
 C 64 (Q [.reg [mi 4 2] [4],
 .ret]) (.skip)],
 .reg [mi 4 0] [4],
 .ret]) (.skip)])])],
 .reg [mi 4 7] [4],
 .ret]
theorem D7:am Tryz.prog Tryz.f58 [[0,1],[0,1,8],[0,1,8,9],[0,15],[4],[4],[0,1,8,18],[0,1,18],[0,1,41],[4],[64],[4],[4],[4]] 2=some (tE,[.t 4]):=by kernel_rfl
abbrev FW:Nat:=57
theorem Gl:Tryz.prog.funcs[57]?=some Tryz.f57:=Tryz.func57
def w5:AC:=
 Q [.reg [bx 1 0,mv 2 (.nilfn)] [1],
 .reg [o1 3 (.mkf (.func 86) [] [.t 1]),m 2 3] [2],
 .ret]
theorem Gd:aJ Tryz.prog Tryz.f57 [] [9999999] [[1],[2]] 1=some (w5,[.t 2]):=by kernel_rfl
abbrev kW:Nat:=86
theorem qW:Tryz.prog.funcs[86]?=some Tryz.f86:=Tryz.func86
def rI:AC:=
 .reg [l1 3 1,m 4 0,o1 5 (.callH 87 [.t 3,.v (.int .i64 0),.t 4])] [0]
theorem BR:aJ Tryz.prog Tryz.f86 [0] [87] [[0]] 2=some (rI,[]):=by kernel_rfl
abbrev kV:Nat:=87
theorem Gk:Tryz.prog.funcs[87]?=some Tryz.f87:=Tryz.func87
def w4:AC:=
 Q [.reg [mb 6 false] [0,1,2],
 Q [.reg [m 8 1,bi 9 .eql 8 1000] [0,1,2,9],
 C 9 (Q [.reg [m 10 0,m 11 2,ch 12 107 [10,11],m 6 12] [2,6],
 .ret]) (.skip)],
 Q [.reg [m 13 0,lq 14 13,mi 15 0] [0,1,2,14,15],
 .block 0 (.loop [0,1,2,14,15] (Q [.reg [bt 16 .lss 15 14] [0,1,2,14,15,16],
 C 16 (.skip) (.exit 0),
 .block 1 (Q [.reg [m 17 15,m 7 17] [0,1,2,7,14,15],
 .reg [m 18 2,m 19 0,m 20 7,o1 21 (.yld (.t 18) [.t 19,.t 20]),nt' 22 21,m 23 22,gf 23 (m 24 0),gf 23 (m 25 7),gf 23 (ia 26 24 25 5),gf 23 (fa 27 26 4),gf 23 (l1 28 27),gf 23 (m 29 1),gf 23 (bi 30 .add 29 1),gf 23 (m 31 2),gf 23 (ch 32 87 [28,30,31]),gf 23 (nt' 33 32),po 34 23 33] [0,1,2,14,15,34],
 C 34 (Q [.reg [mb 6 false] [2,6],
 .ret]) (.skip)]),
 .reg [bi 35 .add 15 1,m 15 35] [0,1,2,14,15]]))],
 .reg [mb 6 true] [2,6],
 .ret]
theorem Gc:aJ Tryz.prog Tryz.f87 [2] [87,107,1000002] [[0,1,2],[0,1,2,9],[2,6],[0,1,2,14,15],[0,1,2,14,15],[0,1,2,14,15,16],[0,1,2,7,14,15],[0,1,2,14,15,34],[2,6],[0,1,2,14,15],[2,6]] 3=some (w4,[.t 6]):=by kernel_rfl
abbrev I7:Nat:=32
theorem JG:Tryz.prog.funcs[32]?=some Tryz.f32:=Tryz.func32
abbrev Js:List Nat:=[2]
def kC:RImg:=
 ⟨[.reg [o1 2 (.alc [.int .i64 0])] [0,2],.reg [m 7 0,ch 8 57 [7]] [2,8]],(.t 8),[9,10],Q [.reg [m 3 9] [2,3,10],
 .reg [m 4 10] [2,3,4]],.block 1 (Q [.reg [m 11 4,bi 12 .gtr 11 0,m 13 12,gt 13 (m 14 3),gt 13 (m 15 4),gt 13 (bi 16 .sub 15 1),gt 13 (ia 17 14 16 5),gt 13 (fa 18 17 0),gt 13 (l1 19 18),gt 13 (bi 20 .eql 19 2),pa 21 13 20,m 5 21] [2,3,4,5],
 .reg [m 22 3,m 23 4,ia 24 22 23 5,m 25 5,ca 26 58 [24,25],m 6 26] [2,6],
 .reg [m 27 6,bi 28 .neq 27 0] [2,6,28],
 C 28 (Q [.reg [m 29 6,st 1 2 29] [2],
 .ret]) (.skip)]),[.reg [o0 (.st 1 (.t 2) (.v (.int .i64 0)))] [2],.ret],[.c 2 1 false]⟩
theorem Jz:By Tryz.prog Tryz.f32 [57] Js [[0,2],[2,8],[2,3,10],[2,3,4],[2,3,4,5],[2,6],[2,6,28],[2],[2]] 1=some kC:=by kernel_rfl
abbrev vz:Nat:=28
theorem wj:Tryz.prog.funcs[28]?=some Tryz.f28:=Tryz.func28
def nn:AC:=
 Q [.reg [mb 2 false] [0],
 Q [.reg [m 7 0,ca 8 32 [7],bi 9 .neq 8 0] [0,9],
 C 9 (Q [.reg [mb 2 false] [2],
 .ret]) (.skip)],
 .reg [m 10 0,o1 11 (.bld [.str [],.nil 5] [(0,1,(.v (.str []))),(1,1,(.t 10))]),o1 12 (.ltr 72 2 [.t 11]),m 3 12] [3],
 .block 0 (.loop [3] (Q [Q [.reg [m 13 3,lq 14 13,bi 15 .gtr 14 0] [3,15],
 C 15 (.skip) (.exit 0)],
 .block 1 (Q [.reg [m 16 3,m 17 3,lq 18 17,bi 19 .sub 18 1,ia 20 16 19 2,la 21 20 2,o1 4 (.alc [.str [],.nil 5]),st 2 4 21] [3,4],
 .reg [m 22 3,m 23 3,lq 24 23,bi 25 .sub 24 1,o1 26 (.trc (.t 22) (.t 25) 2),m 3 26] [3,4],
 Q [.reg [fa 27 4 0,l1 28 27,ca 29 46 [28],m 30 29,gt 30 (fa 31 4 1),gt 30 (l1 32 31),gt 30 (lq 33 32),gt 30 (bi 34 .gtr 33 1),pa 35 30 34] [3,4,35],
 C 35 (Q [.reg [mb 2 false] [2],
 .ret]) (.skip)],
 .reg [fa 36 4 1,l1 37 36,lq 38 37,mi 39 0] [3,4,38,39],
 .block 2 (.loop [3,4,38,39] (Q [.reg [bt 40 .lss 39 38] [3,4,38,39,40],
 C 40 (.skip) (.exit 2),
 .block 3 (Q [.reg [m 41 39,m 5 41] [3,4,5,38,39],
 .reg [fa 42 4 1,l1 43 42,m 44 5,ia 45 43 44 5,m 6 45] [3,4,6,38,39],
 Q [.reg [fa 46 4 0,l1 47 46,m 48 6,ca 49 47 [47,48],nt' 50 49] [3,4,6,38,39,50],
 C 50 (Q [.reg [mb 2 false] [2],
 .ret]) (.skip)],
 .reg [m 51 6,o1 52 (.nlc (.t 51)),fa 53 52 4,l1 54 53,lq 55 54,bi 56 .gtr 55 0] [3,4,6,38,39,56],
 C 56 (.regD [m 57 3,m 58 6,o1 59 (.nlc (.t 58)),fa 60 59 1,l1 61 60,m 62 6,o1 63 (.nlc (.t 62)),fa 64 63 4,l1 65 64,o1 66 (.bld [.str [],.nil 5] [(0,1,(.t 61)),(1,1,(.t 65))]),o1 67 (.ltr 72 2 [.t 66]),o1 68 (.app (.t 57) (.t 67) 72 2 40),m 3 68] [3,4,38,39]) (.skip)]),
 .reg [bi 69 .add 39 1,m 39 69] [3,4,38,39]]))])])),
 .reg [mb 2 true] [2],
 .ret]
theorem vU:aJ Tryz.prog Tryz.f28 [] [1000000,1000001] [[0],[0,9],[2],[3],[3],[3,15],[3,4],[3,4],[3,4,35],[2],[3,4,38,39],[3,4,38,39],[3,4,38,39,40],[3,4,5,38,39],[3,4,6,38,39],[3,4,6,38,39,50],[2],[3,4,6,38,39,56],[0,0,0,2,6,14,0,32,96,224,510,1022,2047,4095],[0,1,2,3,4,5,6,7,8,9,10,11,12],[3,4,38,39],[3,4,38,39],[2]] 1=some (nn,[.t 2]):=by kernel_rfl
abbrev vw:Nat:=141
theorem wi:Tryz.prog.funcs[141]?=some Tryz.f141:=Tryz.func141
def nl:AC:=
 Q [.reg [mb 2 false] [0],
 .reg [m 3 0,ls 4 3,bi 5 .leq 4 16,m 6 5,gt 6 (m 7 0),gt 6 (ca 8 108 [7]),pa 9 6 8,m 2 9] [2],
 .ret]
theorem vT:am Tryz.prog Tryz.f141 [[0],[2]] 1=some (nl,[.t 2]):=by kernel_rfl
abbrev r9:Nat:=132
theorem sj:Tryz.prog.funcs[132]?=some Tryz.f132:=Tryz.func132
def kB:AC:=
 Q [.reg [mv 2 (.str []),mb 3 false,mb 4 false] [0],
 .reg [m 8 0,o1 9 (.call 140 [.t 8,.v (.str [42])]),m 7 9,ex 10 7 0,ex 11 7 1,m 5 10,m 6 11] [5,6],
 .reg [m 12 5,m 13 6,m 14 5,ca 15 141 [14],m 2 12,m 3 13,m 4 15] [2,3,4],
 .ret]
theorem sh:am Tryz.prog Tryz.f132 [[0],[5,6],[2,3,4]] 1=some (kB,[.t 2,.t 3,.t 4]):=by kernel_rfl
abbrev xF:Nat:=120
theorem yE:Tryz.prog.funcs[120]?=some Tryz.f120:=Tryz.func120
def pf:AC:=
 Q [.reg [mb 4 false] [0,1],
 .reg [m 9 0,ca 10 132 [9],m 8 10,ex 11 8 0,ex 12 8 1,ex 13 8 2,m 5 11,m 6 12,m 7 13] [1,5,6,7],
 .reg [m 14 7,m 15 14,gt 15 (m 16 1),gt 15 (m 17 5),gt 15 (bt 18 .eql 16 17),gt 15 (m 19 18),gf 19 (m 20 6),gf 19 (m 21 20),gt 21 (m 22 1),gt 21 (m 23 5),gt 21 (ca 24 133 [22,23]),gf 19 (pa 25 21 24),gt 15 (po 26 19 25),pa 27 15 26,m 4 27] [4],
 .ret]
theorem ya:am Tryz.prog Tryz.f120 [[0,1],[1,5,6,7],[4]] 2=some (pf,[.t 4]):=by kernel_rfl
abbrev xG:Nat:=50
theorem yF:Tryz.prog.funcs[50]?=some Tryz.f50:=Tryz.func50
def pg:AC:=
 Q [.reg [bx 2 0,o1 4 (.alc [.str [],.nil 1,.nil 5]),mb 5 false] [1,2,4],
 Q [.reg [fa 8 2 1,l1 9 8,lq 10 9,mi 11 0] [1,4,9,10,11],
 .block 0 (.loop [1,4,9,10,11] (Q [.reg [bt 12 .lss 11 10] [1,4,9,10,11,12],
 C 12 (.skip) (.exit 0),
 .block 1 (Q [.reg [ia 13 9 11 3,la 14 13 3,o1 7 (.alc [.str [],.nil 1,.nil 5]),st 3 7 14] [1,4,7,9,10,11],
 .reg [fa 15 7 0,l1 16 15,m 17 1,bt 18 .eql 16 17] [1,4,7,9,10,11,18],
 C 18 (Q [.reg [la 19 7 3,st 3 4 19,mb 5 true] [4,5],
 .ret]) (.skip)]),
 .reg [bi 20 .add 11 1,m 11 20] [1,4,9,10,11]]))],
 .reg [o1 21 (.bld [.str [],.nil 1,.nil 5] []),st 3 4 21,mb 5 false] [4,5],
 .ret]
theorem yb:am Tryz.prog Tryz.f50 [[1,2,4],[1,4,9,10,11],[1,4,9,10,11],[1,4,9,10,11,12],[1,4,7,9,10,11],[1,4,7,9,10,11,18],[4,5],[1,4,9,10,11],[4,5]] 2=some (pg,[.c 4 3 true,.t 5]):=by kernel_rfl
abbrev xE:Nat:=103
theorem yD:Tryz.prog.funcs[103]?=some Tryz.f103:=Tryz.func103
def pe:AC:=
 Q [.reg [bx 2 0,o1 4 (.alc [.str [],.int .i64 0,.nil 1,.str [],.bool false]),mb 5 false] [1,2,4],
 Q [.reg [fa 8 2 2,l1 9 8,lq 10 9,mi 11 0] [1,4,9,10,11],
 .block 0 (.loop [1,4,9,10,11] (Q [.reg [bt 12 .lss 11 10] [1,4,9,10,11,12],
 C 12 (.skip) (.exit 0),
 .block 1 (Q [.reg [ia 13 9 11 5,la 14 13 5,o1 7 (.alc [.str [],.int .i64 0,.nil 1,.str [],.bool false]),st 5 7 14] [1,4,7,9,10,11],
 .reg [fa 15 7 0,l1 16 15,m 17 1,ca 18 120 [16,17]] [1,4,7,9,10,11,18],
 C 18 (Q [.reg [la 19 7 5,st 5 4 19,mb 5 true] [4,5],
 .ret]) (.skip)]),
 .reg [bi 20 .add 11 1,m 11 20] [1,4,9,10,11]]))],
 .reg [o1 21 (.bld [.str [],.int .i64 0,.nil 1,.str [],.bool false] []),st 5 4 21,mb 5 false] [4,5],
 .ret]
theorem x9:am Tryz.prog Tryz.f103 [[1,2,4],[1,4,9,10,11],[1,4,9,10,11],[1,4,9,10,11,12],[1,4,7,9,10,11],[1,4,7,9,10,11,18],[4,5],[1,4,9,10,11],[4,5]] 2=some (pe,[.c 4 5 true,.t 5]):=by kernel_rfl
abbrev qI:Nat:=80
theorem qV:Tryz.prog.funcs[80]?=some Tryz.f80:=Tryz.func80
def jF:AC:=
 Q [.reg [bx 1 0,mv 2 (.nil 1)] [1],
 .reg [mv 3 (.nil 1)] [1,3],
 Q [.reg [fa 6 1 2,l1 7 6,lq 8 7,mi 9 0] [3,7,8,9],
 .block 0 (.loop [3,7,8,9] (Q [.reg [bt 10 .lss 9 8] [3,7,8,9,10],
 C 10 (.skip) (.exit 0),
 .block 1 (Q [.reg [ia 11 7 9 5,la 12 11 5,o1 5 (.alc [.str [],.int .i64 0,.nil 1,.str [],.bool false]),st 5 5 12] [3,5,7,8,9],
 .reg [fa 13 5 4,l1 14 13] [3,5,7,8,9,14],
 C 14 (.reg [m 15 3,fa 16 5 0,l1 17 16,o1 18 (.lit 9 1 [.t 17]),o1 19 (.app (.t 15) (.t 18) 9 1 16),m 3 19] [3,7,8,9]) (.skip)]),
 .reg [bi 20 .add 9 1,m 9 20] [3,7,8,9]]))],
 .reg [m 21 3,m 2 21] [2],
 .ret]
theorem qS:am Tryz.prog Tryz.f80 [[1],[1,3],[3,7,8,9],[3,7,8,9],[3,7,8,9,10],[3,5,7,8,9],[3,5,7,8,9,14],[3,7,8,9],[3,7,8,9],[2]] 1=some (jF,[.t 2]):=by kernel_rfl
abbrev tR:Nat:=78
theorem uc:Tryz.prog.funcs[78]?=some Tryz.f78:=Tryz.func78
def lV:AC:=
 Q [.reg [bx 3 0,bx 5 2,mb 6 false] [1,3,5],
 .reg [fa 12 3 0,l1 13 12,m 7 13] [1,3,5,7],
 Q [.reg [m 14 1,bs 15 .neq 14 []] [1,3,5,7,15],
 C 15 (Q [.reg [la 17 3 3,m 18 1,ca 19 50 [17,18],m 16 19,ex 20 16 0,ex 21 16 1,o1 8 (.alc [.str [],.nil 1,.nil 5]),st 3 8 20,m 9 21] [3,5,8,9],
 Q [.reg [m 22 9,nt' 23 22] [3,5,8,23],
 C 23 (Q [.reg [mb 6 false] [6],
 .ret]) (.skip)],
 .reg [fa 24 8 1,l1 25 24,m 7 25] [3,5,7]]) (.skip)],
 Q [.reg [fa 26 5 0,l1 27 26] [3,5,7,27],
 .block 0 (Q [.reg [bi 29 .eql 27 2,m 28 29] [3,5,7,27,28],
 C 28 (Q [.reg [m 30 7,o1 31 (.call 101 [.t 30,.v (.str [35,116,101,120,116])]),m 6 31] [6],
 .ret]) (Q [.reg [bi 33 .eql 27 3,m 32 33] [3,5,7,27,32],
 C 32 (Q [.reg [m 34 7,o1 35 (.call 101 [.t 34,.v (.str [35,99,111,109,109,101,110,116])]),m 6 35] [6],
 .ret]) (Q [.reg [bi 37 .eql 27 1,m 36 37] [3,5,7,36],
 C 36 (Q [.reg [la 39 3 3,fa 40 5 1,l1 41 40,ca 42 50 [39,41],m 38 42,ex 43 38 0,ex 44 38 1,o1 10 (.alc [.str [],.nil 1,.nil 5]),st 3 10 43,m 11 44] [5,7,11],
 .reg [m 45 11,m 46 45,gt 46 (m 47 7),gt 46 (fa 48 5 1),gt 46 (l1 49 48),gt 46 (ca 50 101 [47,49]),pa 51 46 50,m 6 51] [6],
 .ret]) (.skip)])])])],
 .reg [mb 6 false] [6],
 .ret]
theorem tY:am Tryz.prog Tryz.f78 [[1,3,5],[1,3,5,7],[1,3,5,7,15],[3,5,8,9],[3,5,8,23],[6],[3,5,7],[3,5,7,27],[3,5,7,27,28],[6],[3,5,7,27,32],[6],[3,5,7,36],[5,7,11],[6],[6]] 3=some (lV,[.t 6]):=by kernel_rfl
abbrev xK:Nat:=79
theorem yK:Tryz.prog.funcs[79]?=some Tryz.f79:=Tryz.func79
def pp:AC:=
 Q [.reg [bx 1 0,mv 2 (.nilfn)] [1],
 .reg [o1 3 (.mkf (.func 102) [] [.t 1]),m 2 3] [2],
 .ret]
theorem yg:aJ Tryz.prog Tryz.f79 [] [9999999] [[1],[2]] 1=some (pp,[.t 2]):=by kernel_rfl
abbrev gI:Nat:=102
theorem ue:Tryz.prog.funcs[102]?=some Tryz.f102:=Tryz.func102
def lX:AC:=
 Q [.reg [bx 2 0,mb 3 false] [1,2],
 .reg [la 7 1 3,fa 8 2 0,l1 9 8,ca 10 103 [7,9],m 6 10,ex 11 6 0,ex 12 6 1,o1 4 (.alc [.str [],.int .i64 0,.nil 1,.str [],.bool false]),st 5 4 11,m 5 12] [1,2,4,5],
 .reg [m 13 5,m 14 13,gt 14 (fa 15 4 1),gt 14 (la 16 15 3),gt 14 (fa 17 2 1),gt 14 (l1 18 17),gt 14 (ca 19 104 [16,18]),pa 20 14 19,m 3 20] [1,3],
 .ret]
theorem t6:aJ Tryz.prog Tryz.f102 [1] [9999999] [[1,2],[1,2,4,5],[1,3]] 2=some (lX,[.t 3]):=by kernel_rfl
abbrev oG:Nat:=51
theorem yM:Tryz.prog.funcs[51]?=some Tryz.f51:=Tryz.func51
def pr:AC:=
 Q [.reg [bx 2 0,mb 4 false] [1,2],
 .reg [la 10 2 3,ch 11 79 [10],m 5 11] [1,2,5],
 Q [.reg [m 12 1,lq 13 12,mi 14 0] [1,2,5,12,13,14],
 .block 0 (.loop [1,2,5,12,13,14] (Q [.reg [bt 15 .lss 14 13] [1,2,5,12,13,14,15],
 C 15 (.skip) (.exit 0),
 .block 1 (Q [.reg [ia 16 12 14 2,la 17 16 2,o1 7 (.alc [.str [],.str []]),st 2 7 17] [1,2,5,7,12,13,14],
 .reg [m 18 5,la 19 7 2,cv 20 18 [19],nt' 21 20] [1,2,5,12,13,14,21],
 C 21 (Q [.reg [mb 4 false] [4],
 .ret]) (.skip)]),
 .reg [bi 22 .add 14 1,m 14 22] [1,2,5,12,13,14]]))],
 Q [.reg [la 23 2 3,ca 24 80 [23],lq 25 24,mi 26 0] [1,24,25,26],
 .block 2 (.loop [1,24,25,26] (Q [.reg [bt 27 .lss 26 25] [1,24,25,26,27],
 C 27 (.skip) (.exit 2),
 .block 3 (Q [.reg [ia 28 24 26 1,l1 29 28,m 9 29] [1,9,24,25,26],
 .reg [m 30 1,m 31 9,ca 32 81 [30,31],nt' 33 32] [1,24,25,26,33],
 C 33 (Q [.reg [mb 4 false] [4],
 .ret]) (.skip)]),
 .reg [bi 34 .add 26 1,m 26 34] [1,24,25,26]]))],
 .reg [mb 4 true] [4],
 .ret]
theorem yi:aJ Tryz.prog Tryz.f51 [] [79] [[1,2],[1,2,5],[1,2,5,12,13,14],[1,2,5,12,13,14],[1,2,5,12,13,14,15],[1,2,5,7,12,13,14],[1,2,5,12,13,14,21],[4],[1,2,5,12,13,14],[1,24,25,26],[1,24,25,26],[1,24,25,26,27],[1,9,24,25,26],[1,24,25,26,33],[4],[1,24,25,26],[4]] 2=some (pr,[.t 4]):=by kernel_rfl
abbrev xJ:Nat:=81
theorem yJ:Tryz.prog.funcs[81]?=some Tryz.f81:=Tryz.func81
def pm:AC:=
 Q [.reg [mb 4 false] [0,1],
 Q [.reg [m 7 0,lq 8 7,mi 9 0] [1,7,8,9],
 .block 0 (.loop [1,7,8,9] (Q [.reg [bt 10 .lss 9 8] [1,7,8,9,10],
 C 10 (.skip) (.exit 0),
 .block 1 (Q [.reg [ia 11 7 9 2,la 12 11 2,o1 6 (.alc [.str [],.str []]),st 2 6 12] [1,6,7,8,9],
 .reg [fa 13 6 0,l1 14 13,m 15 1,bt 16 .eql 14 15] [1,7,8,9,16],
 C 16 (Q [.reg [mb 4 true] [4],
 .ret]) (.skip)]),
 .reg [bi 17 .add 9 1,m 9 17] [1,7,8,9]]))],
 .reg [mb 4 false] [4],
 .ret]
theorem yf:am Tryz.prog Tryz.f81 [[0,1],[1,7,8,9],[1,7,8,9],[1,7,8,9,10],[1,6,7,8,9],[1,7,8,9,16],[4],[1,7,8,9],[4]] 2=some (pm,[.t 4]):=by kernel_rfl
abbrev vC:Nat:=49
theorem wm:Tryz.prog.funcs[49]?=some Tryz.f49:=Tryz.func49
def nr:AC:=
 Q [.reg [bx 3 0,bx 4 1,bx 5 2,mb 6 false] [3,4,5],
 Q [.reg [la 7 4 2,o1 8 (.bld [.int .i64 0,.str []] []),o1 9 (.aeq true ⟨true,[.i .i64,.s]⟩ (.t 7) (.t 8)),m 10 9,gt 10 (fa 11 4 0),gt 10 (l1 12 11),gt 10 (bi 13 .neq 12 1),gt 10 (m 14 13),gf 14 (fa 15 4 1),gf 14 (l1 16 15),gf 14 (bs 17 .eql 16 []),gt 10 (po 18 14 17),pa 19 10 18] [3,4,5,19],
 C 19 (Q [.reg [mb 6 false] [6],
 .ret]) (.skip)],
 .reg [la 20 3 3,fa 21 4 1,l1 22 21,la 23 5 5,ca 24 78 [20,22,23],m 6 24] [6],
 .ret]
theorem vX:am Tryz.prog Tryz.f49 [[3,4,5],[3,4,5,19],[6],[6]] 3=some (nr,[.t 6]):=by kernel_rfl
abbrev Bl:Nat:=48
theorem Cc:Tryz.prog.funcs[48]?=some Tryz.f48:=Tryz.func48
def rJ:AC:=
 Q [.reg [bx 1 0,mv 2 (.nilfn)] [1],
 .reg [o1 3 (.mkf (.func 77) [] [.t 1]),m 2 3] [2],
 .ret]
theorem BS:aJ Tryz.prog Tryz.f48 [] [9999999] [[1],[2]] 1=some (rJ,[.t 2]):=by kernel_rfl
abbrev iM:Nat:=77
theorem mW:Tryz.prog.funcs[77]?=some Tryz.f77:=Tryz.func77
def ns:AC:=
 Q [.reg [l1 7 1,o1 8 (.bld [.int .i64 0,.str [],.nil 5] [(2,1,(.t 7))]),o1 9 (.ltr 120 3 [.t 8]),m 3 9] [0,3],
 .block 0 (.loop [0,3] (Q [Q [.reg [m 10 3,lq 11 10,bi 12 .gtr 11 0] [0,3,12],
 C 12 (.skip) (.exit 0)],
 .block 1 (Q [.reg [m 13 3,m 14 3,lq 15 14,bi 16 .sub 15 1,ia 17 13 16 3,m 4 17] [0,3,4],
 Q [.reg [m 18 4,o1 19 (.nlc (.t 18)),fa 20 19 2,l1 21 20,lq 22 21,bi 23 .eql 22 0] [0,3,4,23],
 C 23 (Q [.reg [m 24 3,m 25 3,lq 26 25,bi 27 .sub 26 1,o1 28 (.trc (.t 24) (.t 27) 3),m 3 28] [0,3],
 .exit 1]) (.skip)],
 .regF (OQ [m 29 4,o1 30 (.nlc (.t 29)),fa 31 30 0,la 32 31 2,m 33 4] (.both
 (OQ [o1 34 (.nlc (.t 33))] (.both
 (OQ [fa 35 34 2] (.both
 (OQ [l1 36 35] (.both
 (OQ [o1 37 (.ia (.t 36) (.v (.int .i64 0)) 5)] (.both
 (OQ [la 38 37 5] (.both
 (OQ [o1 5 (.alc [.int .i64 0,.str []]),o1 6 (.alc [.int .i64 0,.str [],.nil 2,.str [],.nil 5]),st 2 5 32,st 5 6 38] .nil)
 (OQ [o1 6 (.alc [.int .i64 0,.str [],.nil 2,.str [],.nil 5]),o1 5 (.alc [.int .i64 0,.str []]),st 2 5 32,st 5 6 38] .nil)))
 ((.both
 (OQ [o1 5 (.alc [.int .i64 0,.str []])] (.both
 (OQ [la 38 37 5,o1 6 (.alc [.int .i64 0,.str [],.nil 2,.str [],.nil 5]),st 2 5 32,st 5 6 38] .nil)
 (OQ [o1 6 (.alc [.int .i64 0,.str [],.nil 2,.str [],.nil 5])] (.both
 (OQ [la 38 37 5,st 2 5 32,st 5 6 38] .nil)
 (OQ [st 2 5 32,la 38 37 5,st 5 6 38] .nil)))))
 (OQ [o1 6 (.alc [.int .i64 0,.str [],.nil 2,.str [],.nil 5])] (.both
 (OQ [la 38 37 5,o1 5 (.alc [.int .i64 0,.str []]),st 2 5 32,st 5 6 38] .nil)
 (OQ [o1 5 (.alc [.int .i64 0,.str []])] (.both
 (OQ [la 38 37 5,st 2 5 32,st 5 6 38] .nil)
 (OQ [st 2 5 32,la 38 37 5,st 5 6 38] .nil)))))))))
 ((.both
 (OQ [o1 5 (.alc [.int .i64 0,.str []])] (.both
 (OQ [o1 37 (.ia (.t 36) (.v (.int .i64 0)) 5)] (.both
 (OQ [la 38 37 5,o1 6 (.alc [.int .i64 0,.str [],.nil 2,.str [],.nil 5]),st 2 5 32,st 5 6 38] .nil)
 (OQ [o1 6 (.alc [.int .i64 0,.str [],.nil 2,.str [],.nil 5])] (.both
 (OQ [la 38 37 5,st 2 5 32,st 5 6 38] .nil)
 (OQ [st 2 5 32,la 38 37 5,st 5 6 38] .nil)))))
 (OQ [o1 6 (.alc [.int .i64 0,.str [],.nil 2,.str [],.nil 5])] (.both
 (OQ [o1 37 (.ia (.t 36) (.v (.int .i64 0)) 5)] (.both
 (OQ [la 38 37 5,st 2 5 32,st 5 6 38] .nil)
 (OQ [st 2 5 32,la 38 37 5,st 5 6 38] .nil)))
 (OQ [st 2 5 32,o1 37 (.ia (.t 36) (.v (.int .i64 0)) 5),la 38 37 5,st 5 6 38] .nil)))))
 (OQ [o1 6 (.alc [.int .i64 0,.str [],.nil 2,.str [],.nil 5])] (.both
 (OQ [o1 37 (.ia (.t 36) (.v (.int .i64 0)) 5)] (.both
 (OQ [la 38 37 5,o1 5 (.alc [.int .i64 0,.str []]),st 2 5 32,st 5 6 38] .nil)
 (OQ [o1 5 (.alc [.int .i64 0,.str []])] (.both
 (OQ [la 38 37 5,st 2 5 32,st 5 6 38] .nil)
 (OQ [st 2 5 32,la 38 37 5,st 5 6 38] .nil)))))
 (OQ [o1 5 (.alc [.int .i64 0,.str []])] (.both
 (OQ [o1 37 (.ia (.t 36) (.v (.int .i64 0)) 5)] (.both
 (OQ [la 38 37 5,st 2 5 32,st 5 6 38] .nil)
 (OQ [st 2 5 32,la 38 37 5,st 5 6 38] .nil)))
 (OQ [st 2 5 32,o1 37 (.ia (.t 36) (.v (.int .i64 0)) 5),la 38 37 5,st 5 6 38] .nil)))))))))
 ((.both
 (OQ [o1 5 (.alc [.int .i64 0,.str []])] (.both
 (OQ [l1 36 35] (.both
 (OQ [o1 37 (.ia (.t 36) (.v (.int .i64 0)) 5)] (.both
 (OQ [la 38 37 5,o1 6 (.alc [.int .i64 0,.str [],.nil 2,.str [],.nil 5]),st 2 5 32,st 5 6 38] .nil)
 (OQ [o1 6 (.alc [.int .i64 0,.str [],.nil 2,.str [],.nil 5])] (.both
 (OQ [la 38 37 5,st 2 5 32,st 5 6 38] .nil)
 (OQ [st 2 5 32,la 38 37 5,st 5 6 38] .nil)))))
 (OQ [o1 6 (.alc [.int .i64 0,.str [],.nil 2,.str [],.nil 5])] (.both
 (OQ [o1 37 (.ia (.t 36) (.v (.int .i64 0)) 5)] (.both
 (OQ [la 38 37 5,st 2 5 32,st 5 6 38] .nil)
 (OQ [st 2 5 32,la 38 37 5,st 5 6 38] .nil)))
 (OQ [st 2 5 32,o1 37 (.ia (.t 36) (.v (.int .i64 0)) 5),la 38 37 5,st 5 6 38] .nil)))))
 (OQ [o1 6 (.alc [.int .i64 0,.str [],.nil 2,.str [],.nil 5])] (.both
 (OQ [l1 36 35] (.both
 (OQ [o1 37 (.ia (.t 36) (.v (.int .i64 0)) 5)] (.both
 (OQ [la 38 37 5,st 2 5 32,st 5 6 38] .nil)
 (OQ [st 2 5 32,la 38 37 5,st 5 6 38] .nil)))
 (OQ [st 2 5 32,o1 37 (.ia (.t 36) (.v (.int .i64 0)) 5),la 38 37 5,st 5 6 38] .nil)))
 (OQ [st 2 5 32,l1 36 35,o1 37 (.ia (.t 36) (.v (.int .i64 0)) 5),la 38 37 5,st 5 6 38] .nil)))))
 (OQ [o1 6 (.alc [.int .i64 0,.str [],.nil 2,.str [],.nil 5])] (.both
 (OQ [l1 36 35] (.both
 (OQ [o1 37 (.ia (.t 36) (.v (.int .i64 0)) 5)] (.both
 (OQ [la 38 37 5,o1 5 (.alc [.int .i64 0,.str []]),st 2 5 32,st 5 6 38] .nil)
 (OQ [o1 5 (.alc [.int .i64 0,.str []])] (.both
 (OQ [la 38 37 5,st 2 5 32,st 5 6 38] .nil)
 (OQ [st 2 5 32,la 38 37 5,st 5 6 38] .nil)))))
 (OQ [o1 5 (.alc [.int .i64 0,.str []])] (.both
 (OQ [o1 37 (.ia (.t 36) (.v (.int .i64 0)) 5)] (.both
 (OQ [la 38 37 5,st 2 5 32,st 5 6 38] .nil)
 (OQ [st 2 5 32,la 38 37 5,st 5 6 38] .nil)))
 (OQ [st 2 5 32,o1 37 (.ia (.t 36) (.v (.int .i64 0)) 5),la 38 37 5,st 5 6 38] .nil)))))
 (OQ [o1 5 (.alc [.int .i64 0,.str []])] (.both
 (OQ [l1 36 35] (.both
 (OQ [o1 37 (.ia (.t 36) (.v (.int .i64 0)) 5)] (.both
 (OQ [la 38 37 5,st 2 5 32,st 5 6 38] .nil)
 (OQ [st 2 5 32,la 38 37 5,st 5 6 38] .nil)))
 (OQ [st 2 5 32,o1 37 (.ia (.t 36) (.v (.int .i64 0)) 5),la 38 37 5,st 5 6 38] .nil)))
 (OQ [st 2 5 32,l1 36 35,o1 37 (.ia (.t 36) (.v (.int .i64 0)) 5),la 38 37 5,st 5 6 38] .nil)))))))))
 ((.both
 (OQ [o1 5 (.alc [.int .i64 0,.str []])] (.both
 (OQ [fa 35 34 2] (.both
 (OQ [l1 36 35] (.both
 (OQ [o1 37 (.ia (.t 36) (.v (.int .i64 0)) 5)] (.both
 (OQ [la 38 37 5,o1 6 (.alc [.int .i64 0,.str [],.nil 2,.str [],.nil 5]),st 2 5 32,st 5 6 38] .nil)
 (OQ [o1 6 (.alc [.int .i64 0,.str [],.nil 2,.str [],.nil 5])] (.both
 (OQ [la 38 37 5,st 2 5 32,st 5 6 38] .nil)
 (OQ [st 2 5 32,la 38 37 5,st 5 6 38] .nil)))))
 (OQ [o1 6 (.alc [.int .i64 0,.str [],.nil 2,.str [],.nil 5])] (.both
 (OQ [o1 37 (.ia (.t 36) (.v (.int .i64 0)) 5)] (.both
 (OQ [la 38 37 5,st 2 5 32,st 5 6 38] .nil)
 (OQ [st 2 5 32,la 38 37 5,st 5 6 38] .nil)))
 (OQ [st 2 5 32,o1 37 (.ia (.t 36) (.v (.int .i64 0)) 5),la 38 37 5,st 5 6 38] .nil)))))
 (OQ [o1 6 (.alc [.int .i64 0,.str [],.nil 2,.str [],.nil 5])] (.both
 (OQ [l1 36 35] (.both
 (OQ [o1 37 (.ia (.t 36) (.v (.int .i64 0)) 5)] (.both
 (OQ [la 38 37 5,st 2 5 32,st 5 6 38] .nil)
 (OQ [st 2 5 32,la 38 37 5,st 5 6 38] .nil)))
 (OQ [st 2 5 32,o1 37 (.ia (.t 36) (.v (.int .i64 0)) 5),la 38 37 5,st 5 6 38] .nil)))
 (OQ [st 2 5 32,l1 36 35,o1 37 (.ia (.t 36) (.v (.int .i64 0)) 5),la 38 37 5,st 5 6 38] .nil)))))
 (OQ [o1 6 (.alc [.int .i64 0,.str [],.nil 2,.str [],.nil 5])] (.both
 (OQ [fa 35 34 2] (.both
 (OQ [l1 36 35] (.both
 (OQ [o1 37 (.ia (.t 36) (.v (.int .i64 0)) 5)] (.both
 (OQ [la 38 37 5,st 2 5 32,st 5 6 38] .nil)
 (OQ [st 2 5 32,la 38 37 5,st 5 6 38] .nil)))
 (OQ [st 2 5 32,o1 37 (.ia (.t 36) (.v (.int .i64 0)) 5),la 38 37 5,st 5 6 38] .nil)))
 (OQ [st 2 5 32,l1 36 35,o1 37 (.ia (.t 36) (.v (.int .i64 0)) 5),la 38 37 5,st 5 6 38] .nil)))
 (OQ [st 2 5 32,fa 35 34 2,l1 36 35,o1 37 (.ia (.t 36) (.v (.int .i64 0)) 5),la 38 37 5,st 5 6 38] .nil)))))
 (OQ [o1 6 (.alc [.int .i64 0,.str [],.nil 2,.str [],.nil 5])] (.both
 (OQ [fa 35 34 2] (.both
 (OQ [l1 36 35] (.both
 (OQ [o1 37 (.ia (.t 36) (.v (.int .i64 0)) 5)] (.both
 (OQ [la 38 37 5,o1 5 (.alc [.int .i64 0,.str []]),st 2 5 32,st 5 6 38] .nil)
 (OQ [o1 5 (.alc [.int .i64 0,.str []])] (.both
 (OQ [la 38 37 5,st 2 5 32,st 5 6 38] .nil)
 (OQ [st 2 5 32,la 38 37 5,st 5 6 38] .nil)))))
 (OQ [o1 5 (.alc [.int .i64 0,.str []])] (.both
 (OQ [o1 37 (.ia (.t 36) (.v (.int .i64 0)) 5)] (.both
 (OQ [la 38 37 5,st 2 5 32,st 5 6 38] .nil)
 (OQ [st 2 5 32,la 38 37 5,st 5 6 38] .nil)))
 (OQ [st 2 5 32,o1 37 (.ia (.t 36) (.v (.int .i64 0)) 5),la 38 37 5,st 5 6 38] .nil)))))
 (OQ [o1 5 (.alc [.int .i64 0,.str []])] (.both
 (OQ [l1 36 35] (.both
 (OQ [o1 37 (.ia (.t 36) (.v (.int .i64 0)) 5)] (.both
 (OQ [la 38 37 5,st 2 5 32,st 5 6 38] .nil)
 (OQ [st 2 5 32,la 38 37 5,st 5 6 38] .nil)))
 (OQ [st 2 5 32,o1 37 (.ia (.t 36) (.v (.int .i64 0)) 5),la 38 37 5,st 5 6 38] .nil)))
 (OQ [st 2 5 32,l1 36 35,o1 37 (.ia (.t 36) (.v (.int .i64 0)) 5),la 38 37 5,st 5 6 38] .nil)))))
 (OQ [o1 5 (.alc [.int .i64 0,.str []])] (.both
 (OQ [fa 35 34 2] (.both
 (OQ [l1 36 35] (.both
 (OQ [o1 37 (.ia (.t 36) (.v (.int .i64 0)) 5)] (.both
 (OQ [la 38 37 5,st 2 5 32,st 5 6 38] .nil)
 (OQ [st 2 5 32,la 38 37 5,st 5 6 38] .nil)))
 (OQ [st 2 5 32,o1 37 (.ia (.t 36) (.v (.int .i64 0)) 5),la 38 37 5,st 5 6 38] .nil)))
 (OQ [st 2 5 32,l1 36 35,o1 37 (.ia (.t 36) (.v (.int .i64 0)) 5),la 38 37 5,st 5 6 38] .nil)))
 (OQ [st 2 5 32,fa 35 34 2,l1 36 35,o1 37 (.ia (.t 36) (.v (.int .i64 0)) 5),la 38 37 5,st 5 6 38] .nil)))))))))
 ((.both
 (OQ [o1 5 (.alc [.int .i64 0,.str []])] (.both
 (OQ [o1 34 (.nlc (.t 33))] (.both
 (OQ [fa 35 34 2] (.both
 (OQ [l1 36 35] (.both
 (OQ [o1 37 (.ia (.t 36) (.v (.int .i64 0)) 5)] (.both
 (OQ [la 38 37 5,o1 6 (.alc [.int .i64 0,.str [],.nil 2,.str [],.nil 5]),st 2 5 32,st 5 6 38] .nil)
 (OQ [o1 6 (.alc [.int .i64 0,.str [],.nil 2,.str [],.nil 5])] (.both
 (OQ [la 38 37 5,st 2 5 32,st 5 6 38] .nil)
 (OQ [st 2 5 32,la 38 37 5,st 5 6 38] .nil)))))
 (OQ [o1 6 (.alc [.int .i64 0,.str [],.nil 2,.str [],.nil 5])] (.both
 (OQ [o1 37 (.ia (.t 36) (.v (.int .i64 0)) 5)] (.both
 (OQ [la 38 37 5,st 2 5 32,st 5 6 38] .nil)
 (OQ [st 2 5 32,la 38 37 5,st 5 6 38] .nil)))
 (OQ [st 2 5 32,o1 37 (.ia (.t 36) (.v (.int .i64 0)) 5),la 38 37 5,st 5 6 38] .nil)))))
 (OQ [o1 6 (.alc [.int .i64 0,.str [],.nil 2,.str [],.nil 5])] (.both
 (OQ [l1 36 35] (.both
 (OQ [o1 37 (.ia (.t 36) (.v (.int .i64 0)) 5)] (.both
 (OQ [la 38 37 5,st 2 5 32,st 5 6 38] .nil)
 (OQ [st 2 5 32,la 38 37 5,st 5 6 38] .nil)))
 (OQ [st 2 5 32,o1 37 (.ia (.t 36) (.v (.int .i64 0)) 5),la 38 37 5,st 5 6 38] .nil)))
 (OQ [st 2 5 32,l1 36 35,o1 37 (.ia (.t 36) (.v (.int .i64 0)) 5),la 38 37 5,st 5 6 38] .nil)))))
 (OQ [o1 6 (.alc [.int .i64 0,.str [],.nil 2,.str [],.nil 5])] (.both
 (OQ [fa 35 34 2] (.both
 (OQ [l1 36 35] (.both
 (OQ [o1 37 (.ia (.t 36) (.v (.int .i64 0)) 5)] (.both
 (OQ [la 38 37 5,st 2 5 32,st 5 6 38] .nil)
 (OQ [st 2 5 32,la 38 37 5,st 5 6 38] .nil)))
 (OQ [st 2 5 32,o1 37 (.ia (.t 36) (.v (.int .i64 0)) 5),la 38 37 5,st 5 6 38] .nil)))
 (OQ [st 2 5 32,l1 36 35,o1 37 (.ia (.t 36) (.v (.int .i64 0)) 5),la 38 37 5,st 5 6 38] .nil)))
 (OQ [st 2 5 32,fa 35 34 2,l1 36 35,o1 37 (.ia (.t 36) (.v (.int .i64 0)) 5),la 38 37 5,st 5 6 38] .nil)))))
 (OQ [o1 6 (.alc [.int .i64 0,.str [],.nil 2,.str [],.nil 5])] (.both
 (OQ [o1 34 (.nlc (.t 33))] (.both
 (OQ [fa 35 34 2] (.both
 (OQ [l1 36 35] (.both
 (OQ [o1 37 (.ia (.t 36) (.v (.int .i64 0)) 5)] (.both
 (OQ [la 38 37 5,st 2 5 32,st 5 6 38] .nil)
 (OQ [st 2 5 32,la 38 37 5,st 5 6 38] .nil)))
 (OQ [st 2 5 32,o1 37 (.ia (.t 36) (.v (.int .i64 0)) 5),la 38 37 5,st 5 6 38] .nil)))
 (OQ [st 2 5 32,l1 36 35,o1 37 (.ia (.t 36) (.v (.int .i64 0)) 5),la 38 37 5,st 5 6 38] .nil)))
 (OQ [st 2 5 32,fa 35 34 2,l1 36 35,o1 37 (.ia (.t 36) (.v (.int .i64 0)) 5),la 38 37 5,st 5 6 38] .nil)))
 (OQ [st 2 5 32,o1 34 (.nlc (.t 33)),fa 35 34 2,l1 36 35,o1 37 (.ia (.t 36) (.v (.int .i64 0)) 5),la 38 37 5,st 5 6 38] .nil)))))
 (OQ [o1 6 (.alc [.int .i64 0,.str [],.nil 2,.str [],.nil 5])] (.both
 (OQ [o1 34 (.nlc (.t 33))] (.both
 (OQ [fa 35 34 2] (.both
 (OQ [l1 36 35] (.both
 (OQ [o1 37 (.ia (.t 36) (.v (.int .i64 0)) 5)] (.both
 (OQ [la 38 37 5,o1 5 (.alc [.int .i64 0,.str []]),st 2 5 32,st 5 6 38] .nil)
 (OQ [o1 5 (.alc [.int .i64 0,.str []])] (.both
 (OQ [la 38 37 5,st 2 5 32,st 5 6 38] .nil)
 (OQ [st 2 5 32,la 38 37 5,st 5 6 38] .nil)))))
 (OQ [o1 5 (.alc [.int .i64 0,.str []])] (.both
 (OQ [o1 37 (.ia (.t 36) (.v (.int .i64 0)) 5)] (.both
 (OQ [la 38 37 5,st 2 5 32,st 5 6 38] .nil)
 (OQ [st 2 5 32,la 38 37 5,st 5 6 38] .nil)))
 (OQ [st 2 5 32,o1 37 (.ia (.t 36) (.v (.int .i64 0)) 5),la 38 37 5,st 5 6 38] .nil)))))
 (OQ [o1 5 (.alc [.int .i64 0,.str []])] (.both
 (OQ [l1 36 35] (.both
 (OQ [o1 37 (.ia (.t 36) (.v (.int .i64 0)) 5)] (.both
 (OQ [la 38 37 5,st 2 5 32,st 5 6 38] .nil)
 (OQ [st 2 5 32,la 38 37 5,st 5 6 38] .nil)))
 (OQ [st 2 5 32,o1 37 (.ia (.t 36) (.v (.int .i64 0)) 5),la 38 37 5,st 5 6 38] .nil)))
 (OQ [st 2 5 32,l1 36 35,o1 37 (.ia (.t 36) (.v (.int .i64 0)) 5),la 38 37 5,st 5 6 38] .nil)))))
 (OQ [o1 5 (.alc [.int .i64 0,.str []])] (.both
 (OQ [fa 35 34 2] (.both
 (OQ [l1 36 35] (.both
 (OQ [o1 37 (.ia (.t 36) (.v (.int .i64 0)) 5)] (.both
 (OQ [la 38 37 5,st 2 5 32,st 5 6 38] .nil)
 (OQ [st 2 5 32,la 38 37 5,st 5 6 38] .nil)))
 (OQ [st 2 5 32,o1 37 (.ia (.t 36) (.v (.int .i64 0)) 5),la 38 37 5,st 5 6 38] .nil)))
 (OQ [st 2 5 32,l1 36 35,o1 37 (.ia (.t 36) (.v (.int .i64 0)) 5),la 38 37 5,st 5 6 38] .nil)))
 (OQ [st 2 5 32,fa 35 34 2,l1 36 35,o1 37 (.ia (.t 36) (.v (.int .i64 0)) 5),la 38 37 5,st 5 6 38] .nil)))))
 (OQ [o1 5 (.alc [.int .i64 0,.str []])] (.both
 (OQ [o1 34 (.nlc (.t 33))] (.both
 (OQ [fa 35 34 2] (.both
 (OQ [l1 36 35] (.both
 (OQ [o1 37 (.ia (.t 36) (.v (.int .i64 0)) 5)] (.both
 (OQ [la 38 37 5,st 2 5 32,st 5 6 38] .nil)
 (OQ [st 2 5 32,la 38 37 5,st 5 6 38] .nil)))
 (OQ [st 2 5 32,o1 37 (.ia (.t 36) (.v (.int .i64 0)) 5),la 38 37 5,st 5 6 38] .nil)))
 (OQ [st 2 5 32,l1 36 35,o1 37 (.ia (.t 36) (.v (.int .i64 0)) 5),la 38 37 5,st 5 6 38] .nil)))
 (OQ [st 2 5 32,fa 35 34 2,l1 36 35,o1 37 (.ia (.t 36) (.v (.int .i64 0)) 5),la 38 37 5,st 5 6 38] .nil)))
 (OQ [st 2 5 32,o1 34 (.nlc (.t 33)),fa 35 34 2,l1 36 35,o1 37 (.ia (.t 36) (.v (.int .i64 0)) 5),la 38 37 5,st 5 6 38] .nil))))))))) [0,3,4,5,6],
 .reg [m 39 4,m 40 4,o1 41 (.nlc (.t 40)),fa 42 41 2,l1 43 42,o1 44 (.slq (.t 43) (some (.v (.int .i64 1))) none 5),o1 45 (.nlc (.t 39)),fa 46 45 2,st 1 46 44] [0,3,5,6],
 Q [.reg [m 47 0,la 48 5 2,la 49 6 5,o1 50 (.yld (.t 47) [.t 48,.t 49]),nt' 51 50] [0,3,6,51],
 C 51 (.ret) (.skip)],
 .reg [m 52 3,fa 53 6 0,l1 54 53,fa 55 6 1,l1 56 55,o1 57 (.bld [.int .i64 0,.str []] [(0,1,(.t 54)),(1,1,(.t 56))]),fa 58 6 4,l1 59 58,o1 60 (.bld [.int .i64 0,.str [],.nil 5] [(0,2,(.t 57)),(2,1,(.t 59))]),o1 61 (.ltr 120 3 [.t 60]),o1 62 (.app (.t 52) (.t 61) 120 3 48),m 3 62] [0,3]])]))]
theorem vY:aJ Tryz.prog Tryz.f77 [0] [1000002,1000000,1000001] [[0,3],[0,3],[0,3,12],[0,3,4],[0,3,4,23],[0,3],[1,0,1,3,7,0,16,48,112,240,496,0,0,3087,8191],[0,3,4,5,6],[0,3,5,6],[0,3,6,51],[0,3]] 2=some (ns,[]):=by kernel_rfl
abbrev DJ:Nat:=29
theorem En:Tryz.prog.funcs[29]?=some Tryz.f29:=Tryz.func29
abbrev DU:List Nat:=[2,4,5]
def gD:RImg:=
 ⟨[.reg [bx 2 0,o1 4 (.alc [.int .i64 0])] [1,2,4],.reg [o1 5 (.alc [.int .i64 0]),o0 (.st 1 (.t 5) (.v (.int .i64 0)))] [1,2,4,5],.reg [m 10 1,ch 11 48 [10]] [2,4,5,11]],(.t 11),[12,13],Q [.reg [o1 6 (.alc [.int .i64 0,.str []]),st 2 6 12] [2,4,5,6,13],
 .reg [o1 7 (.alc [.int .i64 0,.str [],.nil 2,.str [],.nil 5]),st 5 7 13] [2,4,5,6,7]],.block 1 (Q [Q [.reg [la 14 2 3,la 15 6 2,la 16 7 5,ca 17 49 [14,15,16],nt' 18 17] [2,4,5,7,18],
 C 18 (Q [.reg [l1 19 5,st 1 4 19] [2,4,5],
 .ret]) (.skip)],
 Q [.reg [fa 20 7 0,l1 21 20,bi 22 .eql 21 1] [2,4,5,7,22],
 C 22 (Q [.reg [la 24 2 3,fa 25 7 1,l1 26 25,ca 27 50 [24,26],m 23 27,ex 28 23 0,ex 29 23 1,o1 8 (.alc [.str [],.nil 1,.nil 5]),st 3 8 28,m 9 29] [2,4,5,7,8],
 .reg [la 30 8 3,fa 31 7 2,l1 32 31,ca 33 51 [30,32],nt' 34 33] [2,4,5,34],
 C 34 (Q [.reg [l1 35 5,st 1 4 35] [2,4,5],
 .ret]) (.skip)]) (.skip)],
 .reg [l1 36 5,bi 37 .add 36 1,st 1 5 37] [2,4,5]]),[.reg [o0 (.st 1 (.t 4) (.v (.int .i64 (-1))))] [4],.ret],[.c 4 1 false]⟩
theorem D9:By Tryz.prog Tryz.f29 [48] DU [[1,2,4],[1,2,4,5],[2,4,5,11],[2,4,5,6,13],[2,4,5,6,7],[2,4,5,7,18],[2,4,5],[2,4,5,7,22],[2,4,5,7,8],[2,4,5,34],[2,4,5],[2,4,5],[4]] 2=some gD:=by kernel_rfl
abbrev jJ:Nat:=9
theorem yL:Tryz.prog.funcs[9]?=some Tryz.f9:=Tryz.func9
def pq:AC:=
 Q [.reg [bx 2 0,mb 4 false] [1,2],
 .reg [m 5 1,ca 6 28 [5],m 7 6,gt 7 (la 8 2 3),gt 7 (m 9 1),gt 7 (ca 10 29 [8,9]),gt 7 (bi 11 .lss 10 0),pa 12 7 11,m 4 12] [4],
 .ret]
theorem yh:am Tryz.prog Tryz.f9 [[1,2],[4]] 2=some (pq,[.t 4]):=by kernel_rfl
abbrev xH:Nat:=10
theorem yH:Tryz.prog.funcs[10]?=some Tryz.f10:=Tryz.func10
def pi:AC:=
 Q [.reg [mb 0 false] [],
 .reg [o1 2 (.bld [.int .i64 0,.str [],.nil 2,.str [],.nil 5] [(0,1,(.v (.int .i64 2))),(3,1,(.v (.str [120])))]),o1 3 (.lit 48 5 [.t 2]),m 1 3] [1],
 .reg [o1 4 (.bld [.nil 1,.nil 3,.nil 1] []),o1 5 (.call 9 [.t 4,.v (.nil 5)]),m 6 5,gt 6 (o1 7 (.bld [.nil 1,.nil 3,.nil 1] [])),gt 6 (m 8 1),gt 6 (ca 9 9 [7,8]),gt 6 (nt' 10 9),pa 11 6 10,m 12 11,gt 12 (o1 13 (.lit 9 1 [.v (.str [35,116,101,120,116])])),gt 12 (o1 14 (.bld [.nil 1,.nil 3,.nil 1] [(0,1,(.t 13))])),gt 12 (m 15 1),gt 12 (ca 16 9 [14,15]),pa 17 12 16,m 18 17,gt 18 (o1 19 (.bld [.nil 1,.nil 3,.nil 1] [])),gt 18 (m 20 1),gt 18 (ca 21 29 [19,20]),gt 18 (bi 22 .eql 21 0),pa 23 18 22,m 0 23] [0],
 .ret]
theorem yd:am Tryz.prog Tryz.f10 [[],[1],[0]] 0=some (pi,[.t 0]):=by kernel_rfl
abbrev bE:Nat:=3
theorem jB:Tryz.prog.funcs[3]?=some Tryz.f3:=Tryz.func3
end Go.Abs
