/- The images of some of the program's functions, as the kernel reckons them. No condition. -/
import Derived.Test.YtnnbodoijkbceaaGreatDoorICodeA
set_option linter.all false
set_option maxHeartbeats 0
set_option maxRecDepth 100000
namespace Go.Abs
open Go.Proofs
abbrev MY:Nat:=107
def NE:=ymI Tryz.func107 1
abbrev xQ:Nat:=108
def x6:=ymI Tryz.func108 1
abbrev BU:Nat:=112
def Ct:=ymI Tryz.func112 1
abbrev Hx:Nat:=83
def HP:=ymI Tryz.func83 1
abbrev Wx:Nat:=80
def WY:=ymI Tryz.func80 1
abbrev y9:Nat:=155
def zi:=ymI Tryz.func155 1
abbrev vG:Nat:=141
def vU:=ymI Tryz.func141 2 [[0,0,0,3,7,0,0,48,127],[0,1,2,3,4,5,6,7]]
abbrev sU:Nat:=142
def sZ:=ymI Tryz.func142 1
abbrev vJ:Nat:=113
def vX:=ymI Tryz.func113 2
abbrev Ac:Nat:=140
def Al:=ymI Tryz.func140 2
abbrev ut:Nat:=110
def uC:=ymI Tryz.func110 2
abbrev jM:Nat:=184
def jQ:=ymI Tryz.func184 2
abbrev gJ:Nat:=199
def gP:=ymI Tryz.func199 2
abbrev gI:Nat:=204
def gO:=ymI Tryz.func204 2
abbrev oO:Nat:=143
def oU:=ymE Tryz.func143 [] [9999999] 0
abbrev qp:Nat:=114
def qF:=ymE Tryz.func114 [] [143] 2
abbrev Jh:Nat:=84
def J5:=ymI Tryz.func84 2 [[0,0,1,3,7,15,31,63,15,255,511,15,2047,15,4111,12303,32767,65535,131071],[0,1,2,3,4,5,6,7,8,9,10,11,12,13,14,15,16,17]]
abbrev Ew:Nat:=81
abbrev Ez:Nat:=79
def Fm:=ymI Tryz.func79 1
abbrev MX:Nat:=53
def ND:=ymI Tryz.func53 2
abbrev Qb:Nat:=52
def Qu:=ymE Tryz.func52 [] [9999999] 1
abbrev nT:Nat:=77
def J6:=ymE Tryz.func77 [0] [78] 2
abbrev nS:Nat:=78
def Qt:=ymE Tryz.func78 [2] [78,106,1000002] 3
abbrev Tn:Nat:=31
abbrev TJ:List Nat:=[2]
def nn:RImg:=
 ⟨[.reg [o1 2 (.alc [.int .i64 0])] [0,2],.reg [m 7 0,ch 8 52 [7]] [2,8]],(.t 8),[9,10],Q [.reg [m 3 9] [2,3,10],
 .reg [m 4 10] [2,3,4]],.block 1 (Q [.reg [m 11 4,bi 12 .gtr 11 0,m 13 12,gt 13 (m 14 3),gt 13 (m 15 4),gt 13 (bi 16 .sub 15 1),gt 13 (ia 17 14 16 5),gt 13 (fa 18 17 0),gt 13 (l1 19 18),gt 13 (bi 20 .eql 19 2),pa 21 13 20,m 5 21] [2,3,4,5],
 .reg [m 22 3,m 23 4,ia 24 22 23 5,m 25 5,ca 26 53 [24,25],m 6 26] [2,6],
 .reg [m 27 6,bi 28 .neq 27 0] [2,6,28],
 C 28 (Q [.reg [m 29 6,st 1 2 29] [2],
 .ret]) (.skip)]),[.reg [o0 (.st 1 (.t 2) (.v (.int .i64 0)))] [2],.ret],[.c 2 1 false]⟩
theorem TP:Qo Tryz.prog Tryz.f31 [52] TJ [[0,2],[2,8],[2,3,10],[2,3,4],[2,3,4,5],[2,6],[2,6,28],[2],[2]] 1=some nn:=by kernel_rfl
abbrev BR:Nat:=185
def Co:=ymI Tryz.func185 1
abbrev xP:Nat:=176
def x5:=ymI Tryz.func176 1
abbrev Eu:Nat:=166
def Fi:=ymI Tryz.func166 2
abbrev Ev:Nat:=115
def Fj:=ymI Tryz.func115 2
abbrev Et:Nat:=157
def Fh:=ymI Tryz.func157 2
abbrev vM:Nat:=145
def v6:=ymI Tryz.func145 1
abbrev Ah:Nat:=85
def Aq:=ymI Tryz.func85 3
abbrev ED:Nat:=144
def Fs:=ymE Tryz.func144 [] [9999999] 1
abbrev fS:Nat:=156
def As:=ymE Tryz.func156 [1] [9999999] 2
abbrev EE:Nat:=117
def Ft:=ymE Tryz.func117 [] [144] 2
abbrev EC:Nat:=146
def Fr:=ymI Tryz.func146 2
end Go.Abs
