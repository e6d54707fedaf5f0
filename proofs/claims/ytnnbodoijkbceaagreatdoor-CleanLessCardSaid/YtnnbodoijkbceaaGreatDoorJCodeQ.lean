/- The images of some of the program's functions, as the kernel reckons them. No condition. -/
import Derived.Test.YtnnbodoijkbceaaGreatDoorJCodeP
set_option linter.all false
set_option maxHeartbeats 0
set_option maxRecDepth 100000
namespace Go.Abs
open Go.Proofs
abbrev mF:Nat:=283
def mP:=ymE Tryz.func283 [0] [] 1 [[0,0,1,3,7,0,16,48,112,240,496,1023,2047,4095,8191,16383],[0,1,2,3,4,5,6,7,8,9,10,11,12,13,14]]
abbrev oL:Nat:=282
def pd:=ymE Tryz.func282 [0] [283,3000012] 2
abbrev nT:Nat:=281
def nX:=ymE Tryz.func281 [0] [1000000] 1
abbrev mH:Nat:=277
def GX:AC:=
 Q [.regD [fa 34 3 1,l1 35 34,fa 36 3 2,l1 37 36,o1 38 (.apz (.t 37) 59 2 32),o1 39 (.bld [.int .i64 0,.str [],.nil 2,.str [],.nil 5] [(0,1,(.v (.int .i64 1))),(1,1,(.t 35)),(2,1,(.t 38))]),o1 40 (.bld [.int .i64 0,.str [],.nil 2,.str [],.nil 5,.nil 1,.nil 1] [(0,5,(.t 39))]),o1 41 (.bxq (.t 40)),m 4 41] [0,3,4],
 .reg [m 42 0,m 43 4,ch 44 282 [42,43]] [0,3,4],
 .reg [fa 45 3 1,l1 46 45,ca 47 112 [46],nt' 48 47] [0,3,4,48],
 C 48 (Q [.reg [m 49 0,m 50 0,o1 51 (.nlc (.t 50)),fa 52 51 1,l1 53 52,m 54 4,o1 55 (.ltr 317 1 [.t 54]),o1 56 (.app (.t 53) (.t 55) 317 1 8),o1 57 (.nlc (.t 49)),fa 58 57 1,st 1 58 56] [0,3],
 .regD [m 59 0,o1 60 (.nlc (.t 59)),fa 61 60 2,l1 62 61,fa 63 3 1,l1 64 63,o1 65 (.lkp ⟨false,[.s]⟩ (.int .i64 0) false (.t 62) (.t 64)),bi 66 .add 65 1,o0 (.mup ⟨false,[.s]⟩ (.t 62) (.t 64) (.t 66))] [0]]) (.skip)]
def mR:=ymF Tryz.func277 [0] [282,281,3000038,3000041,3000055] [[0,3],[0,3],[0,0,1,3,7,15,31,63,127,255,511,1023,127,2175,6271,14463,30847,63615,131071,262143,524287,1048575,2097151,4194303,127,8388735,33554431,67108863],[0,1,2,3,4,5,6,7,8,9,10,11,12,13,14,15,16,17,18,19,20,21,22,23,24,25,26],[0,3,31],[0,3],[0,0,1,0,4,12,31,63,127,255],[0,1,2,3,4,5,6,7,8],[0,3,4],[0,3,4],[0,3,4,48],[0,3],[0,0,1,3,7,0,16,63,127,255],[0,1,2,3,4,5,6,7,8],[0]] 2
abbrev oK:Nat:=278
def iz:AC:=
 Q [.reg [bx 3 1] [0,3],
 Q [.regD [m 4 0,o1 5 (.nlc (.t 4)),fa 6 5 2,l1 7 6,fa 8 3 1,l1 9 8,o1 10 (.lkp ⟨false,[.s]⟩ (.int .i64 0) false (.t 7) (.t 9)),bi 11 .eql 10 0] [0,3,11],
 C 11 (.ret) (.skip)],
 .block 0 (.loop [0,3] (Q [Q [.regF (OQ [m 12 0] (.both
 (OQ [ch 13 281 [12],fa 14 3 1,l1 15 14,bt 16 .neq 13 15] .nil)
 (OQ [fa 14 3 1] (.both
 (OQ [ch 13 281 [12],l1 15 14,bt 16 .neq 13 15] .nil)
 (OQ [l1 15 14,ch 13 281 [12],bt 16 .neq 13 15] .nil))))) [0,3,16],
 C 16 (.skip) (.exit 0)],
 .block 1 (.skip)]))]
theorem pc:yiY Tryz.f278 278 [0] [281] (ysK iz [[0,0,1,3,7,0,16,63,127],[0,1,2,3,4,5,6,7],[1,0,1,0,4,15]]).1 2 iz []:=⟨Tryz.func278,by kernel_rfl⟩
abbrev mG:Nat:=279
def mQ:=ymE Tryz.func279 [0] [283,282,3000049,3000051] 2 [[0,0,0,2,6,14,0,32,126,255,511,1023],[0,1,2,3,4,5,6,7,8,9,10]]
abbrev lR:Nat:=280
def lV:=ymE Tryz.func280 [0] [282,3000009] 2
abbrev BQ:Nat:=276
def Cs:=ymE Tryz.func276 [] [9999999] 0
abbrev oO:Nat:=274
def iB:AC:=
 Q [.reg [bx 3 1] [0,3],
 .regF ((.both
 (OQ [ch 7 276 [],fa 8 3 0,l1 9 8,o1 10 (.lkp ⟨false,[.i .i64]⟩ (.nilfn) true (.t 7) (.t 9)),m 6 10,ex 11 6 0,ex 12 6 1,m 4 11,m 5 12] .nil)
 (OQ [fa 8 3 0] (.both
 (OQ [ch 7 276 [],l1 9 8,o1 10 (.lkp ⟨false,[.i .i64]⟩ (.nilfn) true (.t 7) (.t 9)),m 6 10,ex 11 6 0,ex 12 6 1,m 4 11,m 5 12] .nil)
 (OQ [l1 9 8,ch 7 276 [],o1 10 (.lkp ⟨false,[.i .i64]⟩ (.nilfn) true (.t 7) (.t 9)),m 6 10,ex 11 6 0,ex 12 6 1,m 4 11,m 5 12] .nil))))) [0,3,4,5],
 .reg [m 13 5] [0,3,4,13],
 C 13 (.reg [m 14 4,m 15 0,la 16 3 4,cv 17 14 [15,16]] [0]) (.skip)]
theorem pe:yiY Tryz.f274 274 [0] [276] (ysK iB [[1,0,0,2,7,15,31,31,63,255]]).1 2 iB []:=⟨Tryz.func274,by kernel_rfl⟩
abbrev mI:Nat:=275
def mS:=ymE Tryz.func275 [0] [1000000,3000003,3000014,3000032,3000055,3000089] 1 [[0,0,0,2,6,14,0,0,96,224,510,1022,2047,4095],[0,1,2,3,4,5,6,7,8,9,10,11,12]]
abbrev IB:Nat:=273
def I5:=ymE Tryz.func273 [] [9999999] 0
abbrev Ft:Nat:=272
def F7:=ymE Tryz.func272 [] [273,274,275] 1
end Go.Abs
