/- The images of some of the program's functions, as. -/
import Derived.Test.YtedmnakfknbabaaGreatDoorPCodeA
set_option linter.all false
set_option maxHeartbeats 0
set_option maxRecDepth 100000
namespace Go.Abs
open Go.Proofs
abbrev F4:Nat:=108
theorem GY:Tryz.prog.funcs[108]?=some Tryz.f108:=Tryz.func108
def wh:AC:=
 Q [.reg [mb 2 false] [0],
 Q [.reg [m 6 0,ls 7 6,mi 8 0] [0,7,8],
 .block 0 (.loop [0,7,8] (Q [.reg [bt 9 .lss 8 7] [0,7,8,9],
 C 9 (.skip) (.exit 0),
 .block 1 (Q [.reg [m 10 8,m 3 10] [0,3,7,8],
 .reg [m 11 0,m 12 3,ix 13 11 12,m 4 13] [0,3,4,7,8],
 .reg [m 14 4,o1 15 (.bin .leq (.v (.int .u8 97)) (.t 14)),m 16 15,gt 16 (m 17 4),gt 16 (bu 18 .leq 17 122),pa 19 16 18,m 5 19] [0,3,4,5,7,8],
 .reg [m 20 5,nt' 21 20,m 22 21,gt 22 (m 23 3),gt 22 (bi 24 .eql 23 0),gt 22 (m 25 24),gf 25 (m 26 4),gf 25 (bu 27 .neq 26 45),gf 25 (m 28 27),gt 28 (m 29 4),gt 28 (bu 30 .lss 29 48),gt 28 (m 31 30),gf 31 (m 32 4),gf 31 (bu 33 .gtr 32 57),gt 28 (po 34 31 33),gf 25 (pa 35 28 34),gt 22 (po 36 25 35),pa 37 22 36] [0,7,8,37],
 C 37 (Q [.reg [mb 2 false] [2],
 .ret]) (.skip)]),
 .reg [bi 38 .add 8 1,m 8 38] [0,7,8]]))],
 .reg [m 39 0,bs 40 .neq 39 [],m 2 40] [2],
 .ret]
theorem GC:au Tryz.prog Tryz.f108 [[0],[0,7,8],[0,7,8],[0,7,8,9],[0,3,7,8],[0,3,4,7,8],[0,3,4,5,7,8],[0,7,8,37],[2],[0,7,8],[2]] 1=some (wh,[.t 2]):=by kernel_rfl
abbrev uw:Nat:=109
theorem uJ:Tryz.prog.funcs[109]?=some Tryz.f109:=Tryz.func109
def mu:AC:=
 Q [.reg [mb 2 false] [0],
 Q [.reg [m 5 0,ls 6 5,mi 7 0] [0,6,7],
 .block 0 (.loop [0,6,7] (Q [.reg [bt 8 .lss 7 6] [0,6,7,8],
 C 8 (.skip) (.exit 0),
 .block 1 (Q [.reg [m 9 7,m 3 9] [0,3,6,7],
 .reg [m 10 0,m 11 3,ix 12 10 11,m 4 12] [0,4,6,7],
 .block 2 (Q [Q [.reg [m 14 4,o1 15 (.bin .leq (.v (.int .u8 65)) (.t 14)),m 16 15,gt 16 (m 17 4),gt 16 (bu 18 .leq 17 90),pa 19 16 18,m 13 19] [0,4,6,7,13],
 C 13 (.skip) (Q [.reg [m 20 4,bu 21 .eql 20 9,m 13 21] [0,4,6,7,13],
 C 13 (.skip) (Q [.reg [m 22 4,bu 23 .eql 22 10,m 13 23] [0,4,6,7,13],
 C 13 (.skip) (Q [.reg [m 24 4,bu 25 .eql 24 12,m 13 25] [0,4,6,7,13],
 C 13 (.skip) (Q [.reg [m 26 4,bu 27 .eql 26 32,m 13 27] [0,4,6,7,13],
 C 13 (.skip) (Q [.reg [m 28 4,bu 29 .eql 28 47,m 13 29] [0,4,6,7,13],
 C 13 (.skip) (Q [.reg [m 30 4,bu 31 .eql 30 62,m 13 31] [0,4,6,7,13],
 C 13 (.skip) (.reg [m 32 4,bu 33 .eql 32 61,m 13 33] [0,6,7,13])])])])])])])],
 C 13 (Q [.reg [mb 2 false] [2],
 .ret]) (.skip)])]),
 .reg [bi 34 .add 7 1,m 7 34] [0,6,7]]))],
 .reg [m 35 0,bs 36 .neq 35 [],m 37 36,gt 37 (m 38 0),gt 37 (ca 39 89 [38]),pa 40 37 39,m 2 40] [2],
 .ret]
theorem uG:au Tryz.prog Tryz.f109 [[0],[0,6,7],[0,6,7],[0,6,7,8],[0,3,6,7],[0,4,6,7],[0,4,6,7,13],[0,4,6,7,13],[0,4,6,7,13],[0,4,6,7,13],[0,4,6,7,13],[0,4,6,7,13],[0,4,6,7,13],[0,6,7,13],[2],[0,6,7],[2]] 1=some (mu,[.t 2]):=by kernel_rfl
abbrev II:Nat:=93
theorem Jg:Tryz.prog.funcs[93]?=some Tryz.f93:=Tryz.func93
def zq:AC:=
 Q [.reg [mb 2 false] [0],
 Q [.reg [m 3 0] [3],
 .block 0 (Q [Q [.reg [bs 5 .eql 3 [98,114],m 4 5] [3,4],
 C 4 (.skip) (Q [.reg [bs 6 .eql 3 [104,114],m 4 6] [3,4],
 C 4 (.skip) (Q [.reg [bs 7 .eql 3 [105,109,103],m 4 7] [3,4],
 C 4 (.skip) (Q [.reg [bs 8 .eql 3 [105,110,112,117,116],m 4 8] [3,4],
 C 4 (.skip) (.reg [bs 9 .eql 3 [119,98,114],m 4 9] [4])])])])],
 C 4 (Q [.reg [mb 2 true] [2],
 .ret]) (.skip)])],
 .reg [mb 2 false] [2],
 .ret]
theorem I9:au Tryz.prog Tryz.f93 [[0],[3],[3,4],[3,4],[3,4],[3,4],[4],[2],[2]] 1=some (zq,[.t 2]):=by kernel_rfl
abbrev LI:Nat:=46
theorem Mh:Tryz.prog.funcs[46]?=some Tryz.f46:=Tryz.func46
def Cq:AC:=
 Q [.reg [mb 2 false] [0],
 .reg [m 3 0,bs 4 .eql 3 [115,99,114,105,112,116],m 5 4,gf 5 (m 6 0),gf 5 (bs 7 .eql 6 [115,116,121,108,101]),po 8 5 7,m 2 8] [2],
 .ret]
theorem Md:au Tryz.prog Tryz.f46 [[0],[2]] 1=some (Cq,[.t 2]):=by kernel_rfl
abbrev OC:Nat:=89
theorem Pa:Tryz.prog.funcs[89]?=some Tryz.f89:=Tryz.func89
def HL:AC:=
 Q [.reg [mb 2 false] [0],
 Q [.reg [m 5 0,ca 6 110 [5],nt' 7 6] [0,7],
 C 7 (Q [.reg [mb 2 false] [2],
 .ret]) (.skip)],
 Q [.reg [m 8 0,o1 9 (.rgs (.t 8))] [9],
 .block 0 (.loop [9] (Q [.reg [o1 10 (.nxs (.t 9)),ex 11 10 0] [9,10,11],
 C 11 (.skip) (.exit 0),
 .block 1 (Q [.reg [ex 12 10 2,m 4 12] [4,9],
 .reg [m 13 4,o1 14 (.bin .eql (.t 13) (.v (.int .i32 0))),m 15 14,gf 15 (m 16 4),gf 15 (o1 17 (.bin .eql (.t 16) (.v (.int .i32 13)))),po 18 15 17] [9,18],
 C 18 (Q [.reg [mb 2 false] [2],
 .ret]) (.skip)])]))],
 .reg [mb 2 true] [2],
 .ret]
theorem O5:au Tryz.prog Tryz.f89 [[0],[0,7],[2],[9],[9],[9,10,11],[4,9],[9,18],[2],[2]] 1=some (HL,[.t 2]):=by kernel_rfl
abbrev FSQ:Nat:=127
theorem GG:Tryz.prog.funcs[127]?=some Tryz.f127:=Tryz.func127
def vT:AC:=
 Q [.reg [mv 2 (.int .u8 0)] [0],
 Q [.reg [m 3 0,o1 4 (.bin .leq (.v (.int .u8 65)) (.t 3)),m 5 4,gt 5 (m 6 0),gt 5 (bu 7 .leq 6 90),pa 8 5 7] [0,8],
 C 8 (Q [.reg [m 9 0,bu 10 .sub 9 65,bu 11 .add 10 97,m 2 11] [2],
 .ret]) (.skip)],
 .reg [m 12 0,m 2 12] [2],
 .ret]
theorem Gk:au Tryz.prog Tryz.f127 [[0],[0,8],[2],[2]] 1=some (vT,[.t 2]):=by kernel_rfl
abbrev C6:Nat:=115
theorem DY:Tryz.prog.funcs[115]?=some Tryz.f115:=Tryz.func115
def tB:AC:=
 Q [.reg [mb 4 false] [0,1],
 Q [.reg [m 6 0,ls 7 6,m 8 1,ls 9 8,bt 10 .lss 7 9] [0,1,10],
 C 10 (Q [.reg [mb 4 false] [4],
 .ret]) (.skip)],
 Q [.reg [m 11 1,ls 12 11,mi 13 0] [0,1,12,13],
 .block 0 (.loop [0,1,12,13] (Q [.reg [bt 14 .lss 13 12] [0,1,12,13,14],
 C 14 (.skip) (.exit 0),
 .block 1 (Q [.reg [m 15 13,m 5 15] [0,1,5,12,13],
 .regD [m 16 0,m 17 5,ix 18 16 17,ca 19 127 [18],m 20 1,m 21 5,ix 22 20 21,bt 23 .neq 19 22] [0,1,12,13,23],
 C 23 (Q [.reg [mb 4 false] [4],
 .ret]) (.skip)]),
 .reg [bi 24 .add 13 1,m 13 24] [0,1,12,13]]))],
 .reg [mb 4 true] [4],
 .ret]
theorem DC:au Tryz.prog Tryz.f115 [[0,1],[0,1,10],[4],[0,1,12,13],[0,1,12,13],[0,1,12,13,14],[0,1,5,12,13],[0,0,0,3,7,0,0,48,127],[0,1,2,3,4,5,6,7],[0,1,12,13,23],[4],[0,1,12,13],[4]] 2=some (tB,[.t 4]):=by kernel_rfl
abbrev iE:Nat:=116
theorem qj:Tryz.prog.funcs[116]?=some Tryz.f116:=Tryz.func116
def lQ:AC:=
 Q [.reg [mb 2 false] [0],
 .reg [m 3 0,o1 4 (.bin .eql (.t 3) (.v (.int .i32 9))),m 5 4,gf 5 (m 6 0),gf 5 (o1 7 (.bin .eql (.t 6) (.v (.int .i32 10)))),po 8 5 7,m 9 8,gf 9 (m 10 0),gf 9 (o1 11 (.bin .eql (.t 10) (.v (.int .i32 12)))),po 12 9 11,m 13 12,gf 13 (m 14 0),gf 13 (o1 15 (.bin .eql (.t 14) (.v (.int .i32 32)))),po 16 13 15,m 2 16] [2],
 .ret]
theorem qi:au Tryz.prog Tryz.f116 [[0],[2]] 1=some (lQ,[.t 2]):=by kernel_rfl
abbrev C7:Nat:=98
theorem D0:Tryz.prog.funcs[98]?=some Tryz.f98:=Tryz.func98
def tD:AC:=
 Q [.reg [mi 4 0] [0,1],
 .reg [mi 5 0] [0,1,5],
 .block 0 (.loop [0,1,5] (Q [.block 1 (Q [.reg [m 11 0,m 12 5,o1 13 (.sls (.t 11) (some (.t 12)) none),o1 14 (.call 100 [.t 13,.v (.str [60,47])]),m 6 14] [0,1,5,6],
 Q [.reg [m 15 6,bi 16 .lss 15 0] [0,1,5,6,16],
 C 16 (Q [.reg [mi 4 (-1)] [4],
 .ret]) (.skip)],
 .reg [m 17 5,m 18 6,bt 19 .add 17 18,m 5 19] [0,1,5],
 .reg [m 20 0,m 21 5,bi 22 .add 21 2,o1 23 (.sls (.t 20) (some (.t 22)) none),m 7 23] [0,1,5,7],
 Q [.reg [m 24 7,ls 25 24,m 26 1,ls 27 26,bt 28 .eql 25 27,m 29 28,gf 29 (m 30 7),gf 29 (m 31 1),gf 29 (ca 32 115 [30,31]),gf 29 (nt' 33 32),po 34 29 33] [0,1,5,7,34],
 C 34 (.exit 1) (.skip)],
 .reg [m 35 7,m 36 1,ls 37 36,ix 38 35 37,o1 39 (.cii .i32 (.t 38)),m 8 39] [0,1,5,8],
 .reg [m 40 8,ca 41 116 [40],m 42 41,gf 42 (m 43 8),gf 42 (o1 44 (.bin .eql (.t 43) (.v (.int .i32 47)))),po 45 42 44,m 46 45,gf 46 (m 47 8),gf 46 (o1 48 (.bin .eql (.t 47) (.v (.int .i32 62)))),po 49 46 48] [0,1,5,49],
 C 49 (Q [.reg [m 50 5,m 4 50] [4],
 .ret]) (.skip)]),
 .reg [m 9 5,bi 10 .add 9 2,m 5 10] [0,1,5]]))]
theorem DE:au Tryz.prog Tryz.f98 [[0,1],[0,1,5],[0,1,5],[0,1,5,6],[0,1,5,6,16],[4],[0,1,5],[0,1,5,7],[0,1,5,7,34],[0,1,5,8],[0,1,5,49],[4],[0,1,5]] 2=some (tD,[.t 4]):=by kernel_rfl
abbrev ww:Nat:=100
theorem wM:Tryz.prog.funcs[100]?=some Tryz.f100:=Tryz.func100
def nB:AC:=
 Q [.reg [mi 4 0] [0,1],
 .reg [m 5 0,m 6 1,ca 7 118 [5,6],m 4 7] [4],
 .ret]
theorem wE:au Tryz.prog Tryz.f100 [[0,1],[4]] 2=some (nB,[.t 4]):=by kernel_rfl
abbrev wA:Nat:=117
theorem wR:Tryz.prog.funcs[117]?=some Tryz.f117:=Tryz.func117
def nF:AC:=
 Q [.reg [mv 0 (.nilmp)] [],
 .reg [o1 1 (.mkp ⟨false,[.s]⟩),o1 2 (.lit 9 1 [.v (.str [98,108,111,99,107,113,117,111,116,101]),.v (.str [100,105,118]),.v (.str [104,49]),.v (.str [104,50]),.v (.str [104,114]),.v (.str [108,105]),.v (.str [111,108]),.v (.str [112]),.v (.str [112,114,101]),.v (.str [116,97,98,108,101]),.v (.str [117,108])]),o0 (.mup ⟨false,[.s]⟩ (.t 1) (.v (.str [112])) (.t 2)),o1 3 (.lit 9 1 [.v (.str [108,105])]),o0 (.mup ⟨false,[.s]⟩ (.t 1) (.v (.str [108,105])) (.t 3)),o1 4 (.lit 9 1 [.v (.str [100,100]),.v (.str [100,116])]),o0 (.mup ⟨false,[.s]⟩ (.t 1) (.v (.str [100,116])) (.t 4)),o1 5 (.lit 9 1 [.v (.str [100,100]),.v (.str [100,116])]),o0 (.mup ⟨false,[.s]⟩ (.t 1) (.v (.str [100,100])) (.t 5)),o1 6 (.lit 9 1 [.v (.str [111,112,116,105,111,110])]),o0 (.mup ⟨false,[.s]⟩ (.t 1) (.v (.str [111,112,116,105,111,110])) (.t 6)),o1 7 (.lit 9 1 [.v (.str [116,100]),.v (.str [116,114])]),o0 (.mup ⟨false,[.s]⟩ (.t 1) (.v (.str [116,100])) (.t 7)),o1 8 (.lit 9 1 [.v (.str [116,114])]),o0 (.mup ⟨false,[.s]⟩ (.t 1) (.v (.str [116,114])) (.t 8)),m 9 1,m 0 9] [0],
 .ret]
theorem wJ:aP Tryz.prog Tryz.f117 [] [9999999] [[],[0]] 0=some (nF,[.t 0]):=by kernel_rfl
abbrev ye:Nat:=99
theorem yI:Tryz.prog.funcs[99]?=some Tryz.f99:=Tryz.func99
def pe:AC:=
 Q [.reg [mb 4 false] [0,1],
 .reg [ch 5 117 [],m 6 0,o1 7 (.lkp ⟨false,[.s]⟩ (.nil 1) false (.t 5) (.t 6)),m 8 1,ca 9 101 [7,8],m 4 9] [4],
 .ret]
theorem yw:aP Tryz.prog Tryz.f99 [] [117] [[0,1],[4]] 2=some (pe,[.t 4]):=by kernel_rfl
abbrev z8:Nat:=88
theorem AU:Tryz.prog.funcs[88]?=some Tryz.f88:=Tryz.func88
def qK:AC:=
 Q [.reg [mi 2 0] [0],
 Q [.reg [m 10 0,o1 11 (.nlc (.t 10)),fa 12 11 1,l1 13 12,ca 14 108 [13],nt' 15 14] [0,15],
 C 15 (Q [.reg [mi 2 4] [2],
 .ret]) (.skip)],
 .reg [o1 16 (.mkp ⟨false,[.s]⟩),m 3 16] [0,3],
 Q [.reg [m 17 0,o1 18 (.nlc (.t 17)),fa 19 18 2,l1 20 19,lq 21 20,mi 22 0] [0,3,20,21,22],
 .block 0 (.loop [0,3,20,21,22] (Q [.reg [bt 23 .lss 22 21] [0,3,20,21,22,23],
 C 23 (.skip) (.exit 0),
 .block 1 (Q [.reg [m 24 22,ia 25 20 22 2,la 26 25 2,o1 5 (.alc [.str [],.str []]),m 4 24,st 2 5 26] [0,3,4,5,20,21,22],
 Q [.reg [fa 27 5 0,l1 28 27,ca 29 109 [28],nt' 30 29] [0,3,4,5,20,21,22,30],
 C 30 (Q [.reg [mi 2 4] [2],
 .ret]) (.skip)],
 Q [.reg [m 32 3,fa 33 5 0,l1 34 33,o1 35 (.lkp ⟨false,[.s]⟩ (.int .i64 0) true (.t 32) (.t 34)),m 31 35,ex 36 31 0,ex 37 31 1,m 6 36,m 7 37] [0,3,4,5,7,20,21,22],
 .reg [m 38 7] [0,3,4,5,20,21,22,38],
 C 38 (Q [.reg [mi 2 5] [2],
 .ret]) (.skip)],
 .reg [m 39 3,fa 40 5 0,l1 41 40,m 42 4,o0 (.mup ⟨false,[.s]⟩ (.t 39) (.t 41) (.t 42))] [0,3,20,21,22]]),
 .reg [bi 43 .add 22 1,m 22 43] [0,3,20,21,22]]))],
 Q [.reg [m 44 0,o1 45 (.nlc (.t 44)),fa 46 45 2,l1 47 46,lq 48 47,mi 49 0] [47,48,49],
 .block 2 (.loop [47,48,49] (Q [.reg [bt 50 .lss 49 48] [47,48,49,50],
 C 50 (.skip) (.exit 2),
 .block 3 (Q [.reg [ia 51 47 49 2,la 52 51 2,o1 9 (.alc [.str [],.str []]),st 2 9 52] [9,47,48,49],
 .reg [fa 53 9 1,l1 54 53,ca 55 89 [54],nt' 56 55] [47,48,49,56],
 C 56 (Q [.reg [mi 2 2] [2],
 .ret]) (.skip)]),
 .reg [bi 57 .add 49 1,m 49 57] [47,48,49]]))],
 .reg [mi 2 0] [2],
 .ret]
theorem Ay:au Tryz.prog Tryz.f88 [[0],[0,15],[2],[0,3],[0,3,20,21,22],[0,3,20,21,22],[0,3,20,21,22,23],[0,3,4,5,20,21,22],[0,3,4,5,20,21,22,30],[2],[0,3,4,5,7,20,21,22],[0,3,4,5,20,21,22,38],[2],[0,3,20,21,22],[0,3,20,21,22],[47,48,49],[47,48,49],[47,48,49,50],[9,47,48,49],[47,48,49,56],[2],[47,48,49],[2]] 1=some (qK,[.t 2]):=by kernel_rfl
abbrev F3:Nat:=58
theorem GX:Tryz.prog.funcs[58]?=some Tryz.f58:=Tryz.func58
def wg:AC:=
 Q [.reg [mi 4 0] [0,1],
 Q [.reg [m 5 0,o1 6 (.nlc (.t 5)),fa 7 6 0,l1 8 7] [0,1,8],
 .block 0 (Q [.reg [bi 10 .eql 8 1,m 9 10] [0,1,8,9],
 C 9 (Q [Q [.reg [m 11 0,o1 12 (.nlc (.t 11)),fa 13 12 3,l1 14 13,bs 15 .neq 14 []] [0,15],
 C 15 (Q [.reg [mi 4 7] [4],
 .ret]) (.skip)],
 .reg [m 16 0,ca 17 88 [16],m 4 17] [4],
 .ret]) (Q [Q [.reg [bi 19 .eql 8 2,m 18 19] [0,1,8,18],
 C 18 (.skip) (.reg [bi 20 .eql 8 3,m 18 20] [0,1,18])],
 C 18 (Q [Q [.reg [m 21 0,o1 22 (.nlc (.t 21)),fa 23 22 1,l1 24 23,bs 25 .neq 24 [],m 26 25,gf 26 (m 27 0),gf 26 (o1 28 (.nlc (.t 27))),gf 26 (fa 29 28 2),gf 26 (l1 30 29),gf 26 (lq 31 30),gf 26 (bi 32 .gtr 31 0),po 33 26 32,m 34 33,gf 34 (m 35 0),gf 34 (o1 36 (.nlc (.t 35))),gf 34 (fa 37 36 4),gf 34 (l1 38 37),gf 34 (lq 39 38),gf 34 (bi 40 .gtr 39 0),po 41 34 40] [0,1,41],
 C 41 (Q [.reg [mi 4 7] [4],
 .ret]) (.skip)],
 Q [.reg [m 42 0,o1 43 (.nlc (.t 42)),fa 44 43 3,l1 45 44,ca 46 89 [45],nt' 47 46,m 48 47,gf 48 (m 49 0),gf 48 (o1 50 (.nlc (.t 49))),gf 48 (fa 51 50 0),gf 48 (l1 52 51),gf 48 (bi 53 .eql 52 2),gf 48 (m 54 53),gt 54 (m 55 0),gt 54 (o1 56 (.nlc (.t 55))),gt 54 (fa 57 56 3),gt 54 (l1 58 57),gt 54 (bs 59 .eql 58 []),gt 54 (m 60 59),gf 60 (m 61 1),gt 54 (po 62 60 61),gf 48 (pa 63 54 62),po 64 48 63] [64],
 C 64 (Q [.reg [mi 4 2] [4],
 .ret]) (.skip)],
 .reg [mi 4 0] [4],
 .ret]) (.skip)])])],
 .reg [mi 4 7] [4],
 .ret]
theorem GB:au Tryz.prog Tryz.f58 [[0,1],[0,1,8],[0,1,8,9],[0,15],[4],[4],[0,1,8,18],[0,1,18],[0,1,41],[4],[64],[4],[4],[4]] 2=some (wg,[.t 4]):=by kernel_rfl
abbrev IH:Nat:=57
theorem Jf:Tryz.prog.funcs[57]?=some Tryz.f57:=Tryz.func57
def zp:AC:=
 Q [.reg [bx 1 0,mv 2 (.nilfn)] [1],
 .reg [o1 3 (.mkf (.func 86) [] [.t 1]),m 2 3] [2],
 .ret]
theorem I8:aP Tryz.prog Tryz.f57 [] [9999999] [[1],[2]] 1=some (zp,[.t 2]):=by kernel_rfl
abbrev mS:Nat:=86
theorem sV:Tryz.prog.funcs[86]?=some Tryz.f86:=Tryz.func86
def tS:AC:=
 .reg [l1 3 1,m 4 0,o1 5 (.callH 87 [.t 3,.v (.int .i64 0),.t 4])] [0]
theorem DU:aP Tryz.prog Tryz.f86 [0] [87] [[0]] 2=some (tS,[]):=by kernel_rfl
abbrev mR:Nat:=87
theorem Je:Tryz.prog.funcs[87]?=some Tryz.f87:=Tryz.func87
def zn:AC:=
 Q [.reg [mb 6 false] [0,1,2],
 Q [.reg [m 8 1,bi 9 .eql 8 1000] [0,1,2,9],
 C 9 (Q [.reg [m 10 0,m 11 2,ch 12 107 [10,11],m 6 12] [2,6],
 .ret]) (.skip)],
 Q [.reg [m 13 0,lq 14 13,mi 15 0] [0,1,2,14,15],
 .block 0 (.loop [0,1,2,14,15] (Q [.reg [bt 16 .lss 15 14] [0,1,2,14,15,16],
 C 16 (.skip) (.exit 0),
 .block 1 (Q [.reg [m 17 15,m 7 17] [0,1,2,7,14,15],
 .reg [m 18 2,m 19 0,m 20 7,o1 21 (.yld (.t 18) [.t 19,.t 20]),nt' 22 21,m 23 22,gf 23 (m 24 0),gf 23 (m 25 7),gf 23 (ia 26 24 25 5),gf 23 (fa 27 26 4),gf 23 (l1 28 27),gf 23 (m 29 1),gf 23 (bi 30 .add 29 1),gf 23 (m 31 2),gf 23 (ch 32 87 [28,30,31]),gf 23 (nt' 33 32),po 34 23 33] [0,1,2,14,15,34],
 C 34 (Q [.reg [mb 6 false] [2,6],
 .ret]) (.skip)]),
 .reg [bi 35 .add 15 1,m 15 35] [0,1,2,14,15]]))],
 .reg [mb 6 true] [2,6],
 .ret]
theorem I7:aP Tryz.prog Tryz.f87 [2] [87,107,1000002] [[0,1,2],[0,1,2,9],[2,6],[0,1,2,14,15],[0,1,2,14,15],[0,1,2,14,15,16],[0,1,2,7,14,15],[0,1,2,14,15,34],[2,6],[0,1,2,14,15],[2,6]] 3=some (zn,[.t 6]):=by kernel_rfl
abbrev LJ:Nat:=32
theorem Mj:Tryz.prog.funcs[32]?=some Tryz.f32:=Tryz.func32
abbrev L6:List Nat:=[2]
def mt:RImg:=
 ⟨[.reg [o1 2 (.alc [.int .i64 0])] [0,2],.reg [m 7 0,ch 8 57 [7]] [2,8]],(.t 8),[9,10],Q [.reg [m 3 9] [2,3,10],
 .reg [m 4 10] [2,3,4]],.block 1 (Q [.reg [m 11 4,bi 12 .gtr 11 0,m 13 12,gt 13 (m 14 3),gt 13 (m 15 4),gt 13 (bi 16 .sub 15 1),gt 13 (ia 17 14 16 5),gt 13 (fa 18 17 0),gt 13 (l1 19 18),gt 13 (bi 20 .eql 19 2),pa 21 13 20,m 5 21] [2,3,4,5],
 .reg [m 22 3,m 23 4,ia 24 22 23 5,m 25 5,ca 26 58 [24,25],m 6 26] [2,6],
 .reg [m 27 6,bi 28 .neq 27 0] [2,6,28],
 C 28 (Q [.reg [m 29 6,st 1 2 29] [2],
 .ret]) (.skip)]),[.reg [o0 (.st 1 (.t 2) (.v (.int .i64 0)))] [2],.ret],[.c 2 1 false]⟩
theorem Me:I3 Tryz.prog Tryz.f32 [57] L6 [[0,2],[2,8],[2,3,10],[2,3,4],[2,3,4,5],[2,6],[2,6,28],[2],[2]] 1=some mt:=by kernel_rfl
end Go.Abs
