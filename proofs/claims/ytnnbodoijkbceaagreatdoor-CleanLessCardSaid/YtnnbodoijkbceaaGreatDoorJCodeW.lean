/- The images of some of the program's functions, as the kernel reckons them. No condition. -/
import Derived.Test.YtnnbodoijkbceaaGreatDoorJCodeA
set_option linter.all false
set_option maxHeartbeats 0
set_option maxRecDepth 100000
namespace Go.Abs
open Go.Proofs
abbrev Iy:Nat:=107
def I2:=ymI Tryz.func107 1
abbrev vC:Nat:=108
def vL:=ymI Tryz.func108 1
abbrev zm:Nat:=112
def zR:=ymI Tryz.func112 1
abbrev DX:Nat:=83
def Ef:=ymI Tryz.func83 1
abbrev RA:Nat:=80
def R1:=ymI Tryz.func80 1
abbrev wJ:Nat:=155
def wO:=ymI Tryz.func155 1
abbrev tM:Nat:=141
def tZ:=ymI Tryz.func141 2 [[0,0,0,3,7,0,0,48,127],[0,1,2,3,4,5,6,7]]
abbrev ri:Nat:=142
def rm:=ymI Tryz.func142 1
abbrev tP:Nat:=113
def t8:=ymI Tryz.func113 2
abbrev xC:Nat:=140
def xL:=ymI Tryz.func140 2
abbrev sq:Nat:=110
def sC:=ymI Tryz.func110 2
abbrev i1:Nat:=184
def i6:=ymI Tryz.func184 2
abbrev fP:Nat:=199
def fU:=ymI Tryz.func199 2
abbrev fO:Nat:=204
def fT:=ymI Tryz.func204 2
abbrev nl:Nat:=143
def ns:=ymE Tryz.func143 [] [9999999] 0
abbrev oQ:Nat:=114
def pf:=ymE Tryz.func114 [] [143] 2
abbrev Fm:Nat:=84
def FY:=ymI Tryz.func84 2 [[0,0,1,3,7,15,31,63,15,255,511,15,2047,15,4111,12303,32767,65535,131071],[0,1,2,3,4,5,6,7,8,9,10,11,12,13,14,15,16,17]]
abbrev BM:Nat:=81
abbrev BO:Nat:=79
def Cp:=ymI Tryz.func79 1
abbrev Ix:Nat:=53
def I1:=ymI Tryz.func53 2
abbrev Lc:Nat:=52
def Lu:=ymE Tryz.func52 [] [9999999] 1
abbrev jt:Nat:=77
def FZ:=ymE Tryz.func77 [0] [78] 2
abbrev mJ:Nat:=78
def Lt:=ymE Tryz.func78 [2] [78,106,1000002] 3
abbrev Oy:Nat:=31
abbrev OV:List Nat:=[2]
def ma:RImg:=
 ⟨[.reg [o1 2 (.alc [.int .i64 0])] [0,2],.reg [m 7 0,ch 8 52 [7]] [2,8]],(.t 8),[9,10],Q [.reg [m 3 9] [2,3,10],
 .reg [m 4 10] [2,3,4]],.block 1 (Q [.reg [m 11 4,bi 12 .gtr 11 0,m 13 12,gt 13 (m 14 3),gt 13 (m 15 4),gt 13 (bi 16 .sub 15 1),gt 13 (ia 17 14 16 5),gt 13 (fa 18 17 0),gt 13 (l1 19 18),gt 13 (bi 20 .eql 19 2),pa 21 13 20,m 5 21] [2,3,4,5],
 .reg [m 22 3,m 23 4,ia 24 22 23 5,m 25 5,ca 26 53 [24,25],m 6 26] [2,6],
 .reg [m 27 6,bi 28 .neq 27 0] [2,6,28],
 C 28 (Q [.reg [m 29 6,st 1 2 29] [2],
 .ret]) (.skip)]),[.reg [o0 (.st 1 (.t 2) (.v (.int .i64 0)))] [2],.ret],[.c 2 1 false]⟩
theorem O1:FG Tryz.prog Tryz.f31 [52] OV [[0,2],[2,8],[2,3,10],[2,3,4],[2,3,4,5],[2,6],[2,6,28],[2],[2]] 1=some ma:=by kernel_rfl
abbrev zi:Nat:=185
def zL:=ymI Tryz.func185 1
abbrev vB:Nat:=176
def vK:=ymI Tryz.func176 1
abbrev BK:Nat:=166
def Ck:=ymI Tryz.func166 2
abbrev BL:Nat:=115
def Cl:=ymI Tryz.func115 2
abbrev BJ:Nat:=157
def Cj:=ymI Tryz.func157 2
abbrev tS:Nat:=145
def uc:=ymI Tryz.func145 1
abbrev xF:Nat:=85
def xO:=ymI Tryz.func85 3
abbrev BS:Nat:=144
def Cu:=ymE Tryz.func144 [] [9999999] 1
abbrev eZ:Nat:=156
def xQ:=ymE Tryz.func156 [1] [9999999] 2
abbrev BT:Nat:=117
def Cv:=ymE Tryz.func117 [] [144] 2
abbrev BR:Nat:=146
def Ct:=ymI Tryz.func146 2
end Go.Abs
