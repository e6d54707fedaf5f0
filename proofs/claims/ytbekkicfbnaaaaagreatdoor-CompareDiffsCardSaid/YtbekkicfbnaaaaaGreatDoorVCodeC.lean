/- The images of some of the program's functions, as the kernel reckons them. No condition. -/
import Derived.Test.YtbekkicfbnaaaaaGreatDoorVCodeW
set_option linter.all false set_option maxRecDepth 100000
namespace Go.Abs
open Go.Proofs
abbrev we:Nat:=14
def Kh:=ymE Tryz.func14 [] [33,34,31,2000000+61] 2 [[0,0,1,0,7,15,31,63],[0,1,2,3,4,5,6],[0,0,0,0,0,0,0,0,96,254,511,1023],[0,1,2,3,4,5,6,7,8,9,10]]
abbrev iN:Nat:=36
def A8:=ymI Tryz.func36 5 [[0,0,0,0,0,8,0,32,0,128,408,920,1944,3992,0,8192,25496,58264,123800,254872,524286,1048574,2097151,4194303],[0,1,2,3,4,5,6,7,8,9,10,11,12,13,14,15,16,17,18,19,20,21,22]]
abbrev JH:Nat:=35
def Kk:=ymE Tryz.func35 [] [33,34] 3 [[0,0,0,3,0,0,31,63,127,0],[0,1,2,3,4,5,6,7,8]]
abbrev Hl:Nat:=37
def HD:=ymE Tryz.func37 [] [9999999] 2
abbrev qe:Nat:=57
def CO:=ymE Tryz.func57 [1,2] [9999999] 3
abbrev wb:Nat:=56
def pL:AC:=
 Q [.reg [bx 4 0,bx 5 1,o1 8 (.alc [.str [],.str [],.str [],.str []])] [2,3,4,5,8],
 .reg [la 22 4 3,m 23 2,m 24 3,ca 25 88 [22,23,24],m 21 25,ex 26 21 0,ex 27 21 1,o1 9 (.alc [.int .i64 0,.nil 1,.str []]),st 3 9 26,m 10 27] [2,3,5,8,9,10],
 .reg [la 29 5 3,m 30 2,m 31 3,ca 32 88 [29,30,31],m 28 32,ex 33 28 0,ex 34 28 1,o1 11 (.alc [.int .i64 0,.nil 1,.str []]),st 3 11 33,m 12 34] [8,9,10,11,12],
 Q [.reg [m 35 10,m 36 35,gt 36 (m 37 12),pa 38 36 37] [8,9,10,11,12,38],
 C 38 (Q [.reg [la 39 9 3,la 40 11 3,ca 41 89 [39,40],st 4 8 41] [8],
 .ret]) (.skip)],
 .reg [ca 42 90 [],ca 43 90 [],o1 13 (.alc [.nil 1,.nil 1]),o1 14 (.alc [.nil 1,.nil 1]),st 2 13 42,st 2 14 43] [8,9,10,11,12,13,14],
 Q [.reg [m 44 10] [8,9,11,12,13,14,44],
 C 44 (.reg [la 45 9 3,ca 46 91 [45],st 2 13 46] [8,11,12,13,14]) (.skip)],
 Q [.reg [m 47 12] [8,11,13,14,47],
 C 47 (.reg [la 48 11 3,ca 49 91 [48],st 2 14 49] [8,13,14]) (.skip)],
 .reg [o1 15 (.alc [.str [],.str [],.str [],.str []])] [8,13,14,15],
 Q [.reg [mi 50 0] [8,13,14,15,50],
 .block 0 (.loop [8,13,14,15,50] (Q [.reg [bi 51 .lss 50 4] [8,13,14,15,50,51],
 C 51 (.skip) (.exit 0),
 .block 1 (Q [.reg [m 52 50,m 16 52] [8,13,14,15,16,50],
 .regF (OQ [la 53 13 2] (.both
 (OQ [la 54 14 2] (.both
 (OQ [o1 17 (.alc [.nil 1,.nil 1]),o1 18 (.alc [.nil 1,.nil 1]),st 2 17 53,st 2 18 54] .nil)
 (OQ [o1 18 (.alc [.nil 1,.nil 1]),o1 17 (.alc [.nil 1,.nil 1]),st 2 17 53,st 2 18 54] .nil)))
 ((.both
 (OQ [o1 17 (.alc [.nil 1,.nil 1])] (.both
 (OQ [la 54 14 2,o1 18 (.alc [.nil 1,.nil 1]),st 2 17 53,st 2 18 54] .nil)
 (OQ [o1 18 (.alc [.nil 1,.nil 1])] (.both
 (OQ [la 54 14 2,st 2 17 53,st 2 18 54] .nil)
 (OQ [st 2 17 53,la 54 14 2,st 2 18 54] .nil)))))
 (OQ [o1 18 (.alc [.nil 1,.nil 1])] (.both
 (OQ [la 54 14 2,o1 17 (.alc [.nil 1,.nil 1]),st 2 17 53,st 2 18 54] .nil)
 (OQ [o1 17 (.alc [.nil 1,.nil 1])] (.both
 (OQ [la 54 14 2,st 2 17 53,st 2 18 54] .nil)
 (OQ [st 2 17 53,la 54 14 2,st 2 18 54] .nil))))))))) [8,13,14,15,16,17,18,50],
 Q [.reg [m 55 16,bi 56 .geq 55 2] [8,13,14,15,16,17,18,50,56],
 C 56 (.reg [la 57 13 2,ca 58 92 [57],st 2 17 58] [8,13,14,15,16,17,18,50]) (.skip)],
 Q [.reg [m 59 16,bi 60 .rem 59 2,bi 61 .eql 60 1] [8,13,14,15,16,17,18,50,61],
 C 61 (.reg [la 62 14 2,ca 63 92 [62],st 2 18 63] [8,13,14,15,16,17,18,50]) (.skip)],
 .reg [la 65 17 2,la 66 18 2,ca 67 93 [65,66],m 64 67,ex 68 64 0,ex 69 64 1,m 19 68,m 20 69] [8,13,14,15,16,19,20,50],
 .reg [m 70 20] [8,13,14,15,16,19,50,70],
 C 70 (.reg [m 71 16,m 72 19,o1 73 (.bin .add (.v (.str [43])) (.t 72)),o1 74 (.iaa (.t 15) (.t 71) 4 1),st 1 74 73] [8,13,14,15,50]) (.skip)]),
 .reg [bi 75 .add 50 1,m 50 75] [8,13,14,15,50]]))],
 .reg [la 76 15 4,st 4 8 76] [8],
 .ret]
theorem wC:yiX Tryz.f56 56 (ysK pL [[1,0,0,0,0,13,31]]).1 4 pL [.c 8 4 true]:=⟨Tryz.func56,by kernel_rfl⟩
abbrev RX:Nat:=55
def SU:=ymI Tryz.func55 1
abbrev MQ:Nat:=54
def NG:=ymI Tryz.func54 2
abbrev RU:Nat:=88
def SR:=ymI Tryz.func88 3
abbrev Jz:Nat:=32
def J7:=ymE Tryz.func32 [] [33] 1
abbrev kP:Nat:=31
def kV:=ymE Tryz.func31 [] [51] 1
abbrev fv:Nat:=33
abbrev d9:Nat:=34
abbrev fw:Nat:=51
abbrev yC:Nat:=87
def yJ:=ymI Tryz.func87 2
end Go.Abs
