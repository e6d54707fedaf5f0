/-
  The images of some of the program's functions, as the kernel reckons them. Made by program. No condition.
-/
import Derived.Test.YtnnbodoijkbceaaGreatDoorLCodeA
set_option linter.all false
set_option maxHeartbeats 0
set_option maxRecDepth 100000
namespace Go.Abs
open Go.Proofs

abbrev BX:Nat:=107
theorem CG:Tryz.prog.funcs[107]?=some Tryz.f107:=Tryz.func107
def sA:AC:=
 Q [.reg [mb 2 false] [0],
 Q [.reg [m 6 0,ls 7 6,mi 8 0] [0,7,8],
 .block 0 (.loop [0,7,8] (Q [.reg [bt 9 .lss 8 7] [0,7,8,9],
 C 9 (.skip) (.exit 0),
 .block 1 (Q [.reg [m 10 8,m 3 10] [0,3,7,8],
 .reg [m 11 0,m 12 3,ix 13 11 12,m 4 13] [0,3,4,7,8],
 .reg [m 14 4,o1 15 (.bin .leq (.v (.int .u8 97)) (.t 14)),m 16 15,gt 16 (m 17 4),gt 16 (bu 18 .leq 17 122),pa 19 16 18,m 5 19] [0,3,4,5,7,8],
 .reg [m 20 5,nt' 21 20,m 22 21,gt 22 (m 23 3),gt 22 (bi 24 .eql 23 0),gt 22 (m 25 24),gf 25 (m 26 4),gf 25 (bu 27 .neq 26 45),gf 25 (m 28 27),gt 28 (m 29 4),gt 28 (bu 30 .lss 29 48),gt 28 (m 31 30),gf 31 (m 32 4),gf 31 (bu 33 .gtr 32 57),gt 28 (po 34 31 33),gf 25 (pa 35 28 34),gt 22 (po 36 25 35),pa 37 22 36] [0,7,8,37],
 C 37 (Q [.reg [mb 2 false] [2],
 .ret]) (.skip)]),
 .reg [bi 38 .add 8 1,m 8 38] [0,7,8]]))],
 .reg [m 39 0,bs 40 .neq 39 [],m 2 40] [2],
 .ret]
theorem Cp:aq Tryz.prog Tryz.f107 [[0],[0,7,8],[0,7,8],[0,7,8,9],[0,3,7,8],[0,3,4,7,8],[0,3,4,5,7,8],[0,7,8,37],[2],[0,7,8],[2]] 1=some (sA,[.t 2]):=by kernel_rfl

abbrev qY:Nat:=108
theorem ri:Tryz.prog.funcs[108]?=some Tryz.f108:=Tryz.func108
def jE:AC:=
 Q [.reg [mb 2 false] [0],
 Q [.reg [m 5 0,ls 6 5,mi 7 0] [0,6,7],
 .block 0 (.loop [0,6,7] (Q [.reg [bt 8 .lss 7 6] [0,6,7,8],
 C 8 (.skip) (.exit 0),
 .block 1 (Q [.reg [m 9 7,m 3 9] [0,3,6,7],
 .reg [m 10 0,m 11 3,ix 12 10 11,m 4 12] [0,4,6,7],
 .block 2 (Q [Q [.reg [m 14 4,o1 15 (.bin .leq (.v (.int .u8 65)) (.t 14)),m 16 15,gt 16 (m 17 4),gt 16 (bu 18 .leq 17 90),pa 19 16 18,m 13 19] [0,4,6,7,13],
 C 13 (.skip) (Q [.reg [m 20 4,bu 21 .eql 20 9,m 13 21] [0,4,6,7,13],
 C 13 (.skip) (Q [.reg [m 22 4,bu 23 .eql 22 10,m 13 23] [0,4,6,7,13],
 C 13 (.skip) (Q [.reg [m 24 4,bu 25 .eql 24 12,m 13 25] [0,4,6,7,13],
 C 13 (.skip) (Q [.reg [m 26 4,bu 27 .eql 26 32,m 13 27] [0,4,6,7,13],
 C 13 (.skip) (Q [.reg [m 28 4,bu 29 .eql 28 47,m 13 29] [0,4,6,7,13],
 C 13 (.skip) (Q [.reg [m 30 4,bu 31 .eql 30 62,m 13 31] [0,4,6,7,13],
 C 13 (.skip) (.reg [m 32 4,bu 33 .eql 32 61,m 13 33] [0,6,7,13])])])])])])])],
 C 13 (Q [.reg [mb 2 false] [2],
 .ret]) (.skip)])]),
 .reg [bi 34 .add 7 1,m 7 34] [0,6,7]]))],
 .reg [m 35 0,bs 36 .neq 35 [],m 37 36,gt 37 (m 38 0),gt 37 (ca 39 80 [38]),pa 40 37 39,m 2 40] [2],
 .ret]
theorem rf:aq Tryz.prog Tryz.f108 [[0],[0,6,7],[0,6,7],[0,6,7,8],[0,3,6,7],[0,4,6,7],[0,4,6,7,13],[0,4,6,7,13],[0,4,6,7,13],[0,4,6,7,13],[0,4,6,7,13],[0,4,6,7,13],[0,4,6,7,13],[0,6,7,13],[2],[0,6,7],[2]] 1=some (jE,[.t 2]):=by kernel_rfl

abbrev ut:Nat:=112
theorem uU:Tryz.prog.funcs[112]?=some Tryz.f112:=Tryz.func112
def oP:AC:=
 Q [.reg [mb 2 false] [0],
 Q [.reg [m 3 0] [3],
 .block 0 (Q [Q [.reg [bs 5 .eql 3 [98,114],m 4 5] [3,4],
 C 4 (.skip) (Q [.reg [bs 6 .eql 3 [104,114],m 4 6] [3,4],
 C 4 (.skip) (Q [.reg [bs 7 .eql 3 [105,109,103],m 4 7] [3,4],
 C 4 (.skip) (Q [.reg [bs 8 .eql 3 [105,110,112,117,116],m 4 8] [3,4],
 C 4 (.skip) (.reg [bs 9 .eql 3 [119,98,114],m 4 9] [4])])])])],
 C 4 (Q [.reg [mb 2 true] [2],
 .ret]) (.skip)])],
 .reg [mb 2 false] [2],
 .ret]
theorem uH:aq Tryz.prog Tryz.f112 [[0],[3],[3,4],[3,4],[3,4],[3,4],[4],[2],[2]] 1=some (oP,[.t 2]):=by kernel_rfl

abbrev yp:Nat:=83
theorem yI:Tryz.prog.funcs[83]?=some Tryz.f83:=Tryz.func83
def ru:AC:=
 Q [.reg [mb 2 false] [0],
 .reg [m 3 0,bs 4 .eql 3 [115,99,114,105,112,116],m 5 4,gf 5 (m 6 0),gf 5 (bs 7 .eql 6 [115,116,121,108,101]),po 8 5 7,m 2 8] [2],
 .ret]
theorem yE:aq Tryz.prog Tryz.f83 [[0],[2]] 1=some (ru,[.t 2]):=by kernel_rfl

abbrev Ji:Nat:=80
theorem JK:Tryz.prog.funcs[80]?=some Tryz.f80:=Tryz.func80
def Dh:AC:=
 Q [.reg [mb 2 false] [0],
 Q [.reg [m 5 0,ca 6 109 [5],nt' 7 6] [0,7],
 C 7 (Q [.reg [mb 2 false] [2],
 .ret]) (.skip)],
 Q [.reg [m 8 0,o1 9 (.rgs (.t 8))] [9],
 .block 0 (.loop [9] (Q [.reg [o1 10 (.nxs (.t 9)),ex 11 10 0] [9,10,11],
 C 11 (.skip) (.exit 0),
 .block 1 (Q [.reg [ex 12 10 2,m 4 12] [4,9],
 .reg [m 13 4,o1 14 (.bin .eql (.t 13) (.v (.int .i32 0))),m 15 14,gf 15 (m 16 4),gf 15 (o1 17 (.bin .eql (.t 16) (.v (.int .i32 13)))),po 18 15 17] [9,18],
 C 18 (Q [.reg [mb 2 false] [2],
 .ret]) (.skip)])]))],
 .reg [mb 2 true] [2],
 .ret]
theorem JF:aq Tryz.prog Tryz.f80 [[0],[0,7],[2],[9],[9],[9,10,11],[4,9],[9,18],[2],[2]] 1=some (Dh,[.t 2]):=by kernel_rfl

abbrev rY:Nat:=155
theorem sb:Tryz.prog.funcs[155]?=some Tryz.f155:=Tryz.func155
def l9:AC:=
 Q [.reg [mv 2 (.int .u8 0)] [0],
 Q [.reg [m 3 0,o1 4 (.bin .leq (.v (.int .u8 65)) (.t 3)),m 5 4,gt 5 (m 6 0),gt 5 (bu 7 .leq 6 90),pa 8 5 7] [0,8],
 C 8 (Q [.reg [m 9 0,bu 10 .sub 9 65,bu 11 .add 10 97,m 2 11] [2],
 .ret]) (.skip)],
 .reg [m 12 0,m 2 12] [2],
 .ret]
theorem r9:aq Tryz.prog Tryz.f155 [[0],[0,8],[2],[2]] 1=some (l9,[.t 2]):=by kernel_rfl

abbrev pF:Nat:=141
theorem pZ:Tryz.prog.funcs[141]?=some Tryz.f141:=Tryz.func141
def kf:AC:=
 Q [.reg [mb 4 false] [0,1],
 Q [.reg [m 6 0,ls 7 6,m 8 1,ls 9 8,bt 10 .lss 7 9] [0,1,10],
 C 10 (Q [.reg [mb 4 false] [4],
 .ret]) (.skip)],
 Q [.reg [m 11 1,ls 12 11,mi 13 0] [0,1,12,13],
 .block 0 (.loop [0,1,12,13] (Q [.reg [bt 14 .lss 13 12] [0,1,12,13,14],
 C 14 (.skip) (.exit 0),
 .block 1 (Q [.reg [m 15 13,m 5 15] [0,1,5,12,13],
 .regD [m 16 0,m 17 5,ix 18 16 17,ca 19 155 [18],m 20 1,m 21 5,ix 22 20 21,bt 23 .neq 19 22] [0,1,12,13,23],
 C 23 (Q [.reg [mb 4 false] [4],
 .ret]) (.skip)]),
 .reg [bi 24 .add 13 1,m 13 24] [0,1,12,13]]))],
 .reg [mb 4 true] [4],
 .ret]
theorem pQ:aq Tryz.prog Tryz.f141 [[0,1],[0,1,10],[4],[0,1,12,13],[0,1,12,13],[0,1,12,13,14],[0,1,5,12,13],[0,0,0,3,7,0,0,48,127],[0,1,2,3,4,5,6,7],[0,1,12,13,23],[4],[0,1,12,13],[4]] 2=some (kf,[.t 4]):=by kernel_rfl

abbrev nk:Nat:=142
theorem np:Tryz.prog.funcs[142]?=some Tryz.f142:=Tryz.func142
def jb:AC:=
 Q [.reg [mb 2 false] [0],
 .reg [m 3 0,o1 4 (.bin .eql (.t 3) (.v (.int .i32 9))),m 5 4,gf 5 (m 6 0),gf 5 (o1 7 (.bin .eql (.t 6) (.v (.int .i32 10)))),po 8 5 7,m 9 8,gf 9 (m 10 0),gf 9 (o1 11 (.bin .eql (.t 10) (.v (.int .i32 12)))),po 12 9 11,m 13 12,gf 13 (m 14 0),gf 13 (o1 15 (.bin .eql (.t 14) (.v (.int .i32 32)))),po 16 13 15,m 2 16] [2],
 .ret]
theorem nn:aq Tryz.prog Tryz.f142 [[0],[2]] 1=some (jb,[.t 2]):=by kernel_rfl

abbrev pI:Nat:=113
theorem p3:Tryz.prog.funcs[113]?=some Tryz.f113:=Tryz.func113
def kg:AC:=
 Q [.reg [mi 4 0] [0,1],
 .reg [mi 5 0] [0,1,5],
 .block 0 (.loop [0,1,5] (Q [.block 1 (Q [.reg [m 11 0,m 12 5,o1 13 (.sls (.t 11) (some (.t 12)) none),o1 14 (.call 140 [.t 13,.v (.str [60,47])]),m 6 14] [0,1,5,6],
 Q [.reg [m 15 6,bi 16 .lss 15 0] [0,1,5,6,16],
 C 16 (Q [.reg [mi 4 (-1)] [4],
 .ret]) (.skip)],
 .reg [m 17 5,m 18 6,bt 19 .add 17 18,m 5 19] [0,1,5],
 .reg [m 20 0,m 21 5,bi 22 .add 21 2,o1 23 (.sls (.t 20) (some (.t 22)) none),m 7 23] [0,1,5,7],
 Q [.reg [m 24 7,ls 25 24,m 26 1,ls 27 26,bt 28 .eql 25 27,m 29 28,gf 29 (m 30 7),gf 29 (m 31 1),gf 29 (ca 32 141 [30,31]),gf 29 (nt' 33 32),po 34 29 33] [0,1,5,7,34],
 C 34 (.exit 1) (.skip)],
 .reg [m 35 7,m 36 1,ls 37 36,ix 38 35 37,o1 39 (.cii .i32 (.t 38)),m 8 39] [0,1,5,8],
 .reg [m 40 8,ca 41 142 [40],m 42 41,gf 42 (m 43 8),gf 42 (o1 44 (.bin .eql (.t 43) (.v (.int .i32 47)))),po 45 42 44,m 46 45,gf 46 (m 47 8),gf 46 (o1 48 (.bin .eql (.t 47) (.v (.int .i32 62)))),po 49 46 48] [0,1,5,49],
 C 49 (Q [.reg [m 50 5,m 4 50] [4],
 .ret]) (.skip)]),
 .reg [m 9 5,bi 10 .add 9 2,m 5 10] [0,1,5]]))]
theorem pT:aq Tryz.prog Tryz.f113 [[0,1],[0,1,5],[0,1,5],[0,1,5,6],[0,1,5,6,16],[4],[0,1,5],[0,1,5,7],[0,1,5,7,34],[0,1,5,8],[0,1,5,49],[4],[0,1,5]] 2=some (kg,[.t 4]):=by kernel_rfl

abbrev sM:Nat:=140
theorem sZ:Tryz.prog.funcs[140]?=some Tryz.f140:=Tryz.func140
def kF:AC:=
 Q [.reg [mi 4 0] [0,1],
 .reg [m 5 0,m 6 1,ca 7 154 [5,6],m 4 7] [4],
 .ret]
theorem sS:aq Tryz.prog Tryz.f140 [[0,1],[4]] 2=some (kF,[.t 4]):=by kernel_rfl

abbrev oe:Nat:=110
theorem oA:Tryz.prog.funcs[110]?=some Tryz.f110:=Tryz.func110
def io:AC:=
 Q [.reg [mb 4 false] [0,1],
 .reg [m 5 0,m 6 1,ca 7 140 [5,6],bi 8 .geq 7 0,m 4 8] [4],
 .ret]
theorem ou:aq Tryz.prog Tryz.f110 [[0,1],[4]] 2=some (io,[.t 4]):=by kernel_rfl

abbrev gr:Nat:=184
theorem gx:Tryz.prog.funcs[184]?=some Tryz.f184:=Tryz.func184
def dQ:AC:=
 Q [.reg [mv 4 (.str []),mb 5 false] [0,1],
 .reg [m 6 0,m 7 1,ca 8 199 [6,7],ex 9 8 0,ex 10 8 1,m 4 9,m 5 10] [4,5],
 .ret]
theorem gv:aq Tryz.prog Tryz.f184 [[0,1],[4,5]] 2=some (dQ,[.t 4,.t 5]):=by kernel_rfl

abbrev eJ:Nat:=199
theorem eS:Tryz.prog.funcs[199]?=some Tryz.f199:=Tryz.func199
def cn:AC:=
 Q [.reg [mv 4 (.str []),mb 5 false] [0,1],
 Q [.reg [m 6 0,m 7 1,ca 8 204 [6,7],nt' 9 8] [0,1,9],
 C 9 (Q [.reg [m 10 0,m 4 10,mb 5 false] [4,5],
 .ret]) (.skip)],
 .reg [m 11 0,m 12 0,ls 13 12,m 14 1,ls 15 14,bt 16 .sub 13 15,o1 17 (.sls (.t 11) none (some (.t 16))),m 4 17,mb 5 true] [4,5],
 .ret]
theorem eP:aq Tryz.prog Tryz.f199 [[0,1],[0,1,9],[4,5],[4,5]] 2=some (cn,[.t 4,.t 5]):=by kernel_rfl

abbrev eI:Nat:=204
theorem eR:Tryz.prog.funcs[204]?=some Tryz.f204:=Tryz.func204
def cm:AC:=
 Q [.reg [mb 4 false] [0,1],
 .reg [m 5 0,ls 6 5,m 7 1,ls 8 7,bt 9 .geq 6 8,m 10 9,gt 10 (m 11 0),gt 10 (m 12 0),gt 10 (ls 13 12),gt 10 (m 14 1),gt 10 (ls 15 14),gt 10 (bt 16 .sub 13 15),gt 10 (o1 17 (.sls (.t 11) (some (.t 16)) none)),gt 10 (m 18 1),gt 10 (bt 19 .eql 17 18),pa 20 10 19,m 4 20] [4],
 .ret]
theorem eO:aq Tryz.prog Tryz.f204 [[0,1],[4]] 2=some (cm,[.t 4]):=by kernel_rfl

abbrev ku:Nat:=143
theorem ky:Tryz.prog.funcs[143]?=some Tryz.f143:=Tryz.func143
def gg:AC:=
 Q [.reg [mv 0 (.nilmp)] [],
 .reg [o1 1 (.mkp ⟨false,[.s]⟩),o1 2 (.lit 9 1 [.v (.str [98,108,111,99,107,113,117,111,116,101]),.v (.str [100,105,118]),.v (.str [104,49]),.v (.str [104,50]),.v (.str [104,114]),.v (.str [108,105]),.v (.str [111,108]),.v (.str [112]),.v (.str [112,114,101]),.v (.str [116,97,98,108,101]),.v (.str [117,108])]),o0 (.mup ⟨false,[.s]⟩ (.t 1) (.v (.str [112])) (.t 2)),o1 3 (.lit 9 1 [.v (.str [108,105])]),o0 (.mup ⟨false,[.s]⟩ (.t 1) (.v (.str [108,105])) (.t 3)),o1 4 (.lit 9 1 [.v (.str [100,100]),.v (.str [100,116])]),o0 (.mup ⟨false,[.s]⟩ (.t 1) (.v (.str [100,116])) (.t 4)),o1 5 (.lit 9 1 [.v (.str [100,100]),.v (.str [100,116])]),o0 (.mup ⟨false,[.s]⟩ (.t 1) (.v (.str [100,100])) (.t 5)),o1 6 (.lit 9 1 [.v (.str [111,112,116,105,111,110])]),o0 (.mup ⟨false,[.s]⟩ (.t 1) (.v (.str [111,112,116,105,111,110])) (.t 6)),o1 7 (.lit 9 1 [.v (.str [116,100]),.v (.str [116,114])]),o0 (.mup ⟨false,[.s]⟩ (.t 1) (.v (.str [116,100])) (.t 7)),o1 8 (.lit 9 1 [.v (.str [116,114])]),o0 (.mup ⟨false,[.s]⟩ (.t 1) (.v (.str [116,114])) (.t 8)),m 9 1,m 0 9] [0],
 .ret]
theorem kx:av Tryz.prog Tryz.f143 [] [9999999] [[],[0]] 0=some (gg,[.t 0]):=by kernel_rfl

abbrev lB:Nat:=114
theorem lQ:Tryz.prog.funcs[114]?=some Tryz.f114:=Tryz.func114
def iu:AC:=
 Q [.reg [mb 4 false] [0,1],
 .reg [ch 5 143 [],m 6 0,o1 7 (.lkp ⟨false,[.s]⟩ (.nil 1) false (.t 5) (.t 6)),m 8 1,ca 9 87 [7,8],m 4 9] [4],
 .ret]
theorem lL:av Tryz.prog Tryz.f114 [] [143] [[0,1],[4]] 2=some (iu,[.t 4]):=by kernel_rfl

abbrev zG:Nat:=84
theorem At:Tryz.prog.funcs[84]?=some Tryz.f84:=Tryz.func84
def qx:AC:=
 Q [.reg [bx 3 1,mb 4 false] [0,3],
 .block 0 (Q [.reg [m 6 0,ca 7 112 [6],m 5 7] [0,3,5],
 C 5 (Q [.reg [mb 4 false] [4],
 .ret]) (Q [.reg [m 9 0,ca 10 83 [9],m 8 10] [0,3,8],
 C 8 (Q [.regD [fa 11 3 0,l1 12 11,bi 13 .eql 12 2,m 14 13,gt 14 (fa 15 3 3),gt 14 (l1 16 15),gt 14 (bs 17 .add 16 [60,47]),gt 14 (m 18 0),gt 14 (bt 19 .add 17 18),gt 14 (bs 20 .add 19 [62]),gt 14 (m 21 0),gt 14 (ca 22 113 [20,21]),gt 14 (fa 23 3 3),gt 14 (l1 24 23),gt 14 (ls 25 24),gt 14 (bt 26 .eql 22 25),pa 27 14 26,m 4 27] [4],
 .ret]) (.skip)])]),
 .reg [fa 28 3 0,l1 29 28,bi 30 .neq 29 1,m 31 30,gf 31 (m 32 0),gf 31 (fa 33 3 1),gf 31 (l1 34 33),gf 31 (ca 35 114 [32,34]),gf 31 (nt' 36 35),po 37 31 36,m 4 37] [4],
 .ret]
theorem Ad:aq Tryz.prog Tryz.f84 [[0,3],[0,3,5],[4],[0,3,8],[0,0,1,3,7,15,31,63,15,255,511,15,2047,15,4111,12303,32767,65535,131071],[0,1,2,3,4,5,6,7,8,9,10,11,12,13,14,15,16,17],[4],[4]] 2=some (qx,[.t 4]):=by kernel_rfl

abbrev wg:Nat:=81
abbrev wi:Nat:=79
theorem xn:Tryz.prog.funcs[79]?=some Tryz.f79:=Tryz.func79
def nM:AC:=
 Q [.reg [mi 2 0] [0],
 Q [.reg [m 10 0,o1 11 (.nlc (.t 10)),fa 12 11 1,l1 13 12,ca 14 107 [13],nt' 15 14] [0,15],
 C 15 (Q [.reg [mi 2 4] [2],
 .ret]) (.skip)],
 .reg [o1 16 (.mkp ⟨false,[.s]⟩),m 3 16] [0,3],
 Q [.reg [m 17 0,o1 18 (.nlc (.t 17)),fa 19 18 2,l1 20 19,lq 21 20,mi 22 0] [0,3,20,21,22],
 .block 0 (.loop [0,3,20,21,22] (Q [.reg [bt 23 .lss 22 21] [0,3,20,21,22,23],
 C 23 (.skip) (.exit 0),
 .block 1 (Q [.reg [m 24 22,ia 25 20 22 2,la 26 25 2,o1 5 (.alc [.str [],.str []]),m 4 24,st 2 5 26] [0,3,4,5,20,21,22],
 Q [.reg [fa 27 5 0,l1 28 27,ca 29 108 [28],nt' 30 29] [0,3,4,5,20,21,22,30],
 C 30 (Q [.reg [mi 2 4] [2],
 .ret]) (.skip)],
 Q [.reg [m 32 3,fa 33 5 0,l1 34 33,o1 35 (.lkp ⟨false,[.s]⟩ (.int .i64 0) true (.t 32) (.t 34)),m 31 35,ex 36 31 0,ex 37 31 1,m 6 36,m 7 37] [0,3,4,5,7,20,21,22],
 .reg [m 38 7] [0,3,4,5,20,21,22,38],
 C 38 (Q [.reg [mi 2 5] [2],
 .ret]) (.skip)],
 .reg [m 39 3,fa 40 5 0,l1 41 40,m 42 4,o0 (.mup ⟨false,[.s]⟩ (.t 39) (.t 41) (.t 42))] [0,3,20,21,22]]),
 .reg [bi 43 .add 22 1,m 22 43] [0,3,20,21,22]]))],
 Q [.reg [m 44 0,o1 45 (.nlc (.t 44)),fa 46 45 2,l1 47 46,lq 48 47,mi 49 0] [47,48,49],
 .block 2 (.loop [47,48,49] (Q [.reg [bt 50 .lss 49 48] [47,48,49,50],
 C 50 (.skip) (.exit 2),
 .block 3 (Q [.reg [ia 51 47 49 2,la 52 51 2,o1 9 (.alc [.str [],.str []]),st 2 9 52] [9,47,48,49],
 .reg [fa 53 9 1,l1 54 53,ca 55 80 [54],nt' 56 55] [47,48,49,56],
 C 56 (Q [.reg [mi 2 2] [2],
 .ret]) (.skip)]),
 .reg [bi 57 .add 49 1,m 49 57] [47,48,49]]))],
 .reg [mi 2 0] [2],
 .ret]
theorem wQ:aq Tryz.prog Tryz.f79 [[0],[0,15],[2],[0,3],[0,3,20,21,22],[0,3,20,21,22],[0,3,20,21,22,23],[0,3,4,5,20,21,22],[0,3,4,5,20,21,22,30],[2],[0,3,4,5,7,20,21,22],[0,3,4,5,20,21,22,38],[2],[0,3,20,21,22],[0,3,20,21,22],[47,48,49],[47,48,49],[47,48,49,50],[9,47,48,49],[47,48,49,56],[2],[47,48,49],[2]] 1=some (nM,[.t 2]):=by kernel_rfl

abbrev BW:Nat:=53
theorem CF:Tryz.prog.funcs[53]?=some Tryz.f53:=Tryz.func53
def sy:AC:=
 Q [.reg [mi 4 0] [0,1],
 Q [.reg [m 5 0,o1 6 (.nlc (.t 5)),fa 7 6 0,l1 8 7] [0,1,8],
 .block 0 (Q [.reg [bi 10 .eql 8 1,m 9 10] [0,1,8,9],
 C 9 (Q [Q [.reg [m 11 0,o1 12 (.nlc (.t 11)),fa 13 12 3,l1 14 13,bs 15 .neq 14 []] [0,15],
 C 15 (Q [.reg [mi 4 7] [4],
 .ret]) (.skip)],
 .reg [m 16 0,ca 17 79 [16],m 4 17] [4],
 .ret]) (Q [Q [.reg [bi 19 .eql 8 2,m 18 19] [0,1,8,18],
 C 18 (.skip) (.reg [bi 20 .eql 8 3,m 18 20] [0,1,18])],
 C 18 (Q [Q [.reg [m 21 0,o1 22 (.nlc (.t 21)),fa 23 22 1,l1 24 23,bs 25 .neq 24 [],m 26 25,gf 26 (m 27 0),gf 26 (o1 28 (.nlc (.t 27))),gf 26 (fa 29 28 2),gf 26 (l1 30 29),gf 26 (lq 31 30),gf 26 (bi 32 .gtr 31 0),po 33 26 32,m 34 33,gf 34 (m 35 0),gf 34 (o1 36 (.nlc (.t 35))),gf 34 (fa 37 36 4),gf 34 (l1 38 37),gf 34 (lq 39 38),gf 34 (bi 40 .gtr 39 0),po 41 34 40] [0,1,41],
 C 41 (Q [.reg [mi 4 7] [4],
 .ret]) (.skip)],
 Q [.reg [m 42 0,o1 43 (.nlc (.t 42)),fa 44 43 3,l1 45 44,ca 46 80 [45],nt' 47 46,m 48 47,gf 48 (m 49 0),gf 48 (o1 50 (.nlc (.t 49))),gf 48 (fa 51 50 0),gf 48 (l1 52 51),gf 48 (bi 53 .eql 52 2),gf 48 (m 54 53),gt 54 (m 55 0),gt 54 (o1 56 (.nlc (.t 55))),gt 54 (fa 57 56 3),gt 54 (l1 58 57),gt 54 (bs 59 .eql 58 []),gt 54 (m 60 59),gf 60 (m 61 1),gt 54 (po 62 60 61),gf 48 (pa 63 54 62),po 64 48 63] [64],
 C 64 (Q [.reg [mi 4 2] [4],
 .ret]) (.skip)],
 .reg [mi 4 0] [4],
 .ret]) (.skip)])])],
 .reg [mi 4 7] [4],
 .ret]
theorem Co:aq Tryz.prog Tryz.f53 [[0,1],[0,1,8],[0,1,8,9],[0,15],[4],[4],[0,1,8,18],[0,1,18],[0,1,41],[4],[64],[4],[4],[4]] 2=some (sy,[.t 4]):=by kernel_rfl

abbrev D6:Nat:=52
theorem Eu:Tryz.prog.funcs[52]?=some Tryz.f52:=Tryz.func52
def vw:AC:=
 Q [.reg [bx 1 0,mv 2 (.nilfn)] [1],
 .reg [o1 3 (.mkf (.func 77) [] [.t 1]),m 2 3] [2],
 .ret]
theorem En:av Tryz.prog Tryz.f52 [] [9999999] [[1],[2]] 1=some (vw,[.t 2]):=by kernel_rfl

abbrev jU:Nat:=77
theorem p6:Tryz.prog.funcs[77]?=some Tryz.f77:=Tryz.func77
def qy:AC:=
 .reg [l1 3 1,m 4 0,o1 5 (.callH 78 [.t 3,.v (.int .i64 0),.t 4])] [0]
theorem Ae:av Tryz.prog Tryz.f77 [0] [78] [[0]] 2=some (qy,[]):=by kernel_rfl

abbrev jT:Nat:=78
theorem Et:Tryz.prog.funcs[78]?=some Tryz.f78:=Tryz.func78
def vv:AC:=
 Q [.reg [mb 6 false] [0,1,2],
 Q [.reg [m 8 1,bi 9 .eql 8 1000] [0,1,2,9],
 C 9 (Q [.reg [m 10 0,m 11 2,ch 12 106 [10,11],m 6 12] [2,6],
 .ret]) (.skip)],
 Q [.reg [m 13 0,lq 14 13,mi 15 0] [0,1,2,14,15],
 .block 0 (.loop [0,1,2,14,15] (Q [.reg [bt 16 .lss 15 14] [0,1,2,14,15,16],
 C 16 (.skip) (.exit 0),
 .block 1 (Q [.reg [m 17 15,m 7 17] [0,1,2,7,14,15],
 .reg [m 18 2,m 19 0,m 20 7,o1 21 (.yld (.t 18) [.t 19,.t 20]),nt' 22 21,m 23 22,gf 23 (m 24 0),gf 23 (m 25 7),gf 23 (ia 26 24 25 5),gf 23 (fa 27 26 4),gf 23 (l1 28 27),gf 23 (m 29 1),gf 23 (bi 30 .add 29 1),gf 23 (m 31 2),gf 23 (ch 32 78 [28,30,31]),gf 23 (nt' 33 32),po 34 23 33] [0,1,2,14,15,34],
 C 34 (Q [.reg [mb 6 false] [2,6],
 .ret]) (.skip)]),
 .reg [bi 35 .add 15 1,m 15 35] [0,1,2,14,15]]))],
 .reg [mb 6 true] [2,6],
 .ret]
theorem Em:av Tryz.prog Tryz.f78 [2] [78,106,1000002] [[0,1,2],[0,1,2,9],[2,6],[0,1,2,14,15],[0,1,2,14,15],[0,1,2,14,15,16],[0,1,2,7,14,15],[0,1,2,14,15,34],[2,6],[0,1,2,14,15],[2,6]] 3=some (vv,[.t 6]):=by kernel_rfl

abbrev Gt:Nat:=31
theorem GV:Tryz.prog.funcs[31]?=some Tryz.f31:=Tryz.func31
abbrev GK:List Nat:=[2]
def jD:RImg:=
 ⟨[.reg [o1 2 (.alc [.int .i64 0])] [0,2],.reg [m 7 0,ch 8 52 [7]] [2,8]],(.t 8),[9,10],Q [.reg [m 3 9] [2,3,10],
 .reg [m 4 10] [2,3,4]],.block 1 (Q [.reg [m 11 4,bi 12 .gtr 11 0,m 13 12,gt 13 (m 14 3),gt 13 (m 15 4),gt 13 (bi 16 .sub 15 1),gt 13 (ia 17 14 16 5),gt 13 (fa 18 17 0),gt 13 (l1 19 18),gt 13 (bi 20 .eql 19 2),pa 21 13 20,m 5 21] [2,3,4,5],
 .reg [m 22 3,m 23 4,ia 24 22 23 5,m 25 5,ca 26 53 [24,25],m 6 26] [2,6],
 .reg [m 27 6,bi 28 .neq 27 0] [2,6,28],
 C 28 (Q [.reg [m 29 6,st 1 2 29] [2],
 .ret]) (.skip)]),[.reg [o0 (.st 1 (.t 2) (.v (.int .i64 0)))] [2],.ret],[.c 2 1 false]⟩
theorem GR:Ei Tryz.prog Tryz.f31 [52] GK [[0,2],[2,8],[2,3,10],[2,3,4],[2,3,4,5],[2,6],[2,6,28],[2],[2]] 1=some jD:=by kernel_rfl

abbrev uq:Nat:=185
theorem uQ:Tryz.prog.funcs[185]?=some Tryz.f185:=Tryz.func185
def mg:AC:=
 Q [.reg [mb 2 false] [0],
 .reg [m 3 0,ls 4 3,bi 5 .leq 4 16,m 6 5,gt 6 (m 7 0),gt 6 (ca 8 107 [7]),pa 9 6 8,m 2 9] [2],
 .ret]
theorem uD:aq Tryz.prog Tryz.f185 [[0],[2]] 1=some (mg,[.t 2]):=by kernel_rfl

abbrev qX:Nat:=176
theorem rh:Tryz.prog.funcs[176]?=some Tryz.f176:=Tryz.func176
def jC:AC:=
 Q [.reg [mv 2 (.str []),mb 3 false,mb 4 false] [0],
 .reg [m 8 0,o1 9 (.call 184 [.t 8,.v (.str [42])]),m 7 9,ex 10 7 0,ex 11 7 1,m 5 10,m 6 11] [5,6],
 .reg [m 12 5,m 13 6,m 14 5,ca 15 185 [14],m 2 12,m 3 13,m 4 15] [2,3,4],
 .ret]
theorem re:aq Tryz.prog Tryz.f176 [[0],[5,6],[2,3,4]] 1=some (jC,[.t 2,.t 3,.t 4]):=by kernel_rfl

abbrev wd:Nat:=166
theorem xj:Tryz.prog.funcs[166]?=some Tryz.f166:=Tryz.func166
def nI:AC:=
 Q [.reg [mb 4 false] [0,1],
 .reg [m 9 0,ca 10 176 [9],m 8 10,ex 11 8 0,ex 12 8 1,ex 13 8 2,m 5 11,m 6 12,m 7 13] [1,5,6,7],
 .reg [m 14 7,m 15 14,gt 15 (m 16 1),gt 15 (m 17 5),gt 15 (bt 18 .eql 16 17),gt 15 (m 19 18),gf 19 (m 20 6),gf 19 (m 21 20),gt 21 (m 22 1),gt 21 (m 23 5),gt 21 (ca 24 177 [22,23]),gf 19 (pa 25 21 24),gt 15 (po 26 19 25),pa 27 15 26,m 4 27] [4],
 .ret]
theorem wM:aq Tryz.prog Tryz.f166 [[0,1],[1,5,6,7],[4]] 2=some (nI,[.t 4]):=by kernel_rfl

abbrev we:Nat:=115
theorem xk:Tryz.prog.funcs[115]?=some Tryz.f115:=Tryz.func115
def nJ:AC:=
 Q [.reg [bx 2 0,o1 4 (.alc [.str [],.nil 1,.nil 5]),mb 5 false] [1,2,4],
 Q [.reg [fa 8 2 1,l1 9 8,lq 10 9,mi 11 0] [1,4,9,10,11],
 .block 0 (.loop [1,4,9,10,11] (Q [.reg [bt 12 .lss 11 10] [1,4,9,10,11,12],
 C 12 (.skip) (.exit 0),
 .block 1 (Q [.reg [ia 13 9 11 3,la 14 13 3,o1 7 (.alc [.str [],.nil 1,.nil 5]),st 3 7 14] [1,4,7,9,10,11],
 .reg [fa 15 7 0,l1 16 15,m 17 1,bt 18 .eql 16 17] [1,4,7,9,10,11,18],
 C 18 (Q [.reg [la 19 7 3,st 3 4 19,mb 5 true] [4,5],
 .ret]) (.skip)]),
 .reg [bi 20 .add 11 1,m 11 20] [1,4,9,10,11]]))],
 .reg [o1 21 (.bld [.str [],.nil 1,.nil 5] []),st 3 4 21,mb 5 false] [4,5],
 .ret]
theorem wN:aq Tryz.prog Tryz.f115 [[1,2,4],[1,4,9,10,11],[1,4,9,10,11],[1,4,9,10,11,12],[1,4,7,9,10,11],[1,4,7,9,10,11,18],[4,5],[1,4,9,10,11],[4,5]] 2=some (nJ,[.c 4 3 true,.t 5]):=by kernel_rfl

abbrev wc:Nat:=157
theorem xi:Tryz.prog.funcs[157]?=some Tryz.f157:=Tryz.func157
def nH:AC:=
 Q [.reg [bx 2 0,o1 4 (.alc [.str [],.int .i64 0,.nil 1,.str [],.bool false]),mb 5 false] [1,2,4],
 Q [.reg [fa 8 2 2,l1 9 8,lq 10 9,mi 11 0] [1,4,9,10,11],
 .block 0 (.loop [1,4,9,10,11] (Q [.reg [bt 12 .lss 11 10] [1,4,9,10,11,12],
 C 12 (.skip) (.exit 0),
 .block 1 (Q [.reg [ia 13 9 11 5,la 14 13 5,o1 7 (.alc [.str [],.int .i64 0,.nil 1,.str [],.bool false]),st 5 7 14] [1,4,7,9,10,11],
 .reg [fa 15 7 0,l1 16 15,m 17 1,ca 18 166 [16,17]] [1,4,7,9,10,11,18],
 C 18 (Q [.reg [la 19 7 5,st 5 4 19,mb 5 true] [4,5],
 .ret]) (.skip)]),
 .reg [bi 20 .add 11 1,m 11 20] [1,4,9,10,11]]))],
 .reg [o1 21 (.bld [.str [],.int .i64 0,.nil 1,.str [],.bool false] []),st 5 4 21,mb 5 false] [4,5],
 .ret]
theorem wL:aq Tryz.prog Tryz.f157 [[1,2,4],[1,4,9,10,11],[1,4,9,10,11],[1,4,9,10,11,12],[1,4,7,9,10,11],[1,4,7,9,10,11,18],[4,5],[1,4,9,10,11],[4,5]] 2=some (nH,[.c 4 5 true,.t 5]):=by kernel_rfl

abbrev pL:Nat:=145
theorem p5:Tryz.prog.funcs[145]?=some Tryz.f145:=Tryz.func145
def iX:AC:=
 Q [.reg [bx 1 0,mv 2 (.nil 1)] [1],
 .reg [mv 3 (.nil 1)] [1,3],
 Q [.reg [fa 6 1 2,l1 7 6,lq 8 7,mi 9 0] [3,7,8,9],
 .block 0 (.loop [3,7,8,9] (Q [.reg [bt 10 .lss 9 8] [3,7,8,9,10],
 C 10 (.skip) (.exit 0),
 .block 1 (Q [.reg [ia 11 7 9 5,la 12 11 5,o1 5 (.alc [.str [],.int .i64 0,.nil 1,.str [],.bool false]),st 5 5 12] [3,5,7,8,9],
 .reg [fa 13 5 4,l1 14 13] [3,5,7,8,9,14],
 C 14 (.reg [m 15 3,fa 16 5 0,l1 17 16,o1 18 (.lit 9 1 [.t 17]),o1 19 (.app (.t 15) (.t 18) 9 1 16),m 3 19] [3,7,8,9]) (.skip)]),
 .reg [bi 20 .add 9 1,m 9 20] [3,7,8,9]]))],
 .reg [m 21 3,m 2 21] [2],
 .ret]
theorem pV:aq Tryz.prog Tryz.f145 [[1],[1,3],[3,7,8,9],[3,7,8,9],[3,7,8,9,10],[3,5,7,8,9],[3,5,7,8,9,14],[3,7,8,9],[3,7,8,9],[2]] 1=some (iX,[.t 2]):=by kernel_rfl

abbrev sO:Nat:=85
theorem s5:Tryz.prog.funcs[85]?=some Tryz.f85:=Tryz.func85
def kH:AC:=
 Q [.reg [bx 3 0,bx 5 2,mb 6 false] [1,3,5],
 .reg [fa 12 3 0,l1 13 12,m 7 13] [1,3,5,7],
 Q [.reg [m 14 1,bs 15 .neq 14 []] [1,3,5,7,15],
 C 15 (Q [.reg [la 17 3 3,m 18 1,ca 19 115 [17,18],m 16 19,ex 20 16 0,ex 21 16 1,o1 8 (.alc [.str [],.nil 1,.nil 5]),st 3 8 20,m 9 21] [3,5,8,9],
 Q [.reg [m 22 9,nt' 23 22] [3,5,8,23],
 C 23 (Q [.reg [mb 6 false] [6],
 .ret]) (.skip)],
 .reg [fa 24 8 1,l1 25 24,m 7 25] [3,5,7]]) (.skip)],
 Q [.reg [fa 26 5 0,l1 27 26] [3,5,7,27],
 .block 0 (Q [.reg [bi 29 .eql 27 2,m 28 29] [3,5,7,27,28],
 C 28 (Q [.reg [m 30 7,o1 31 (.call 87 [.t 30,.v (.str [35,116,101,120,116])]),m 6 31] [6],
 .ret]) (Q [.reg [bi 33 .eql 27 3,m 32 33] [3,5,7,27,32],
 C 32 (Q [.reg [m 34 7,o1 35 (.call 87 [.t 34,.v (.str [35,99,111,109,109,101,110,116])]),m 6 35] [6],
 .ret]) (Q [.reg [bi 37 .eql 27 1,m 36 37] [3,5,7,36],
 C 36 (Q [.reg [la 39 3 3,fa 40 5 1,l1 41 40,ca 42 115 [39,41],m 38 42,ex 43 38 0,ex 44 38 1,o1 10 (.alc [.str [],.nil 1,.nil 5]),st 3 10 43,m 11 44] [5,7,11],
 .reg [m 45 11,m 46 45,gt 46 (m 47 7),gt 46 (fa 48 5 1),gt 46 (l1 49 48),gt 46 (ca 50 87 [47,49]),pa 51 46 50,m 6 51] [6],
 .ret]) (.skip)])])])],
 .reg [mb 6 false] [6],
 .ret]
theorem sU:aq Tryz.prog Tryz.f85 [[1,3,5],[1,3,5,7],[1,3,5,7,15],[3,5,8,9],[3,5,8,23],[6],[3,5,7],[3,5,7,27],[3,5,7,27,28],[6],[3,5,7,27,32],[6],[3,5,7,36],[5,7,11],[6],[6]] 3=some (kH,[.t 6]):=by kernel_rfl

abbrev wn:Nat:=144
theorem xu:Tryz.prog.funcs[144]?=some Tryz.f144:=Tryz.func144
def nR:AC:=
 Q [.reg [bx 1 0,mv 2 (.nilfn)] [1],
 .reg [o1 3 (.mkf (.func 156) [] [.t 1]),m 2 3] [2],
 .ret]
theorem wV:av Tryz.prog Tryz.f144 [] [9999999] [[1],[2]] 1=some (nR,[.t 2]):=by kernel_rfl

abbrev dV:Nat:=156
theorem s7:Tryz.prog.funcs[156]?=some Tryz.f156:=Tryz.func156
def kJ:AC:=
 Q [.reg [bx 2 0,mb 3 false] [1,2],
 .reg [la 7 1 3,fa 8 2 0,l1 9 8,ca 10 157 [7,9],m 6 10,ex 11 6 0,ex 12 6 1,o1 4 (.alc [.str [],.int .i64 0,.nil 1,.str [],.bool false]),st 5 4 11,m 5 12] [1,2,4,5],
 .reg [m 13 5,m 14 13,gt 14 (fa 15 4 1),gt 14 (la 16 15 3),gt 14 (fa 17 2 1),gt 14 (l1 18 17),gt 14 (ca 19 158 [16,18]),pa 20 14 19,m 3 20] [1,3],
 .ret]
theorem sW:av Tryz.prog Tryz.f156 [1] [9999999] [[1,2],[1,2,4,5],[1,3]] 2=some (kJ,[.t 3]):=by kernel_rfl

abbrev wo:Nat:=117
theorem xv:Tryz.prog.funcs[117]?=some Tryz.f117:=Tryz.func117
def nS:AC:=
 Q [.reg [bx 2 0,mb 4 false] [1,2],
 .reg [la 10 2 3,ch 11 144 [10],m 5 11] [1,2,5],
 Q [.reg [m 12 1,lq 13 12,mi 14 0] [1,2,5,12,13,14],
 .block 0 (.loop [1,2,5,12,13,14] (Q [.reg [bt 15 .lss 14 13] [1,2,5,12,13,14,15],
 C 15 (.skip) (.exit 0),
 .block 1 (Q [.reg [ia 16 12 14 2,la 17 16 2,o1 7 (.alc [.str [],.str []]),st 2 7 17] [1,2,5,7,12,13,14],
 .reg [m 18 5,la 19 7 2,cv 20 18 [19],nt' 21 20] [1,2,5,12,13,14,21],
 C 21 (Q [.reg [mb 4 false] [4],
 .ret]) (.skip)]),
 .reg [bi 22 .add 14 1,m 14 22] [1,2,5,12,13,14]]))],
 Q [.reg [la 23 2 3,ca 24 145 [23],lq 25 24,mi 26 0] [1,24,25,26],
 .block 2 (.loop [1,24,25,26] (Q [.reg [bt 27 .lss 26 25] [1,24,25,26,27],
 C 27 (.skip) (.exit 2),
 .block 3 (Q [.reg [ia 28 24 26 1,l1 29 28,m 9 29] [1,9,24,25,26],
 .reg [m 30 1,m 31 9,ca 32 146 [30,31],nt' 33 32] [1,24,25,26,33],
 C 33 (Q [.reg [mb 4 false] [4],
 .ret]) (.skip)]),
 .reg [bi 34 .add 26 1,m 26 34] [1,24,25,26]]))],
 .reg [mb 4 true] [4],
 .ret]
theorem wW:av Tryz.prog Tryz.f117 [] [144] [[1,2],[1,2,5],[1,2,5,12,13,14],[1,2,5,12,13,14],[1,2,5,12,13,14,15],[1,2,5,7,12,13,14],[1,2,5,12,13,14,21],[4],[1,2,5,12,13,14],[1,24,25,26],[1,24,25,26],[1,24,25,26,27],[1,9,24,25,26],[1,24,25,26,33],[4],[1,24,25,26],[4]] 2=some (nS,[.t 4]):=by kernel_rfl

abbrev wm:Nat:=146
theorem xr:Tryz.prog.funcs[146]?=some Tryz.f146:=Tryz.func146
def nQ:AC:=
 Q [.reg [mb 4 false] [0,1],
 Q [.reg [m 7 0,lq 8 7,mi 9 0] [1,7,8,9],
 .block 0 (.loop [1,7,8,9] (Q [.reg [bt 10 .lss 9 8] [1,7,8,9,10],
 C 10 (.skip) (.exit 0),
 .block 1 (Q [.reg [ia 11 7 9 2,la 12 11 2,o1 6 (.alc [.str [],.str []]),st 2 6 12] [1,6,7,8,9],
 .reg [fa 13 6 0,l1 14 13,m 15 1,bt 16 .eql 14 15] [1,7,8,9,16],
 C 16 (Q [.reg [mb 4 true] [4],
 .ret]) (.skip)]),
 .reg [bi 17 .add 9 1,m 9 17] [1,7,8,9]]))],
 .reg [mb 4 false] [4],
 .ret]
theorem wU:aq Tryz.prog Tryz.f146 [[0,1],[1,7,8,9],[1,7,8,9],[1,7,8,9,10],[1,6,7,8,9],[1,7,8,9,16],[4],[1,7,8,9],[4]] 2=some (nQ,[.t 4]):=by kernel_rfl

end Go.Abs
