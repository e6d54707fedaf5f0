/- The images of some of the program's functions, as the kernel reckons them. No condition. -/
import Derived.Test.YtnnbodoijkbceaaGreatDoorJCodeD
set_option linter.all false
set_option maxHeartbeats 0
set_option maxRecDepth 100000
namespace Go.Abs
open Go.Proofs
abbrev BC:Nat:=70
def Cc:=ymI Tryz.func70 1
abbrev BE:Nat:=41
def Ce:=ymI Tryz.func41 1
abbrev Bz:Nat:=24
def B9:=ymI Tryz.func24 1
abbrev Fg:Nat:=25
def FQ:=ymI Tryz.func25 2
abbrev zf:Nat:=103
def zI:=ymI Tryz.func103 1
abbrev BB:Nat:=104
def Cb:=ymI Tryz.func104 1
abbrev BA:Nat:=71
def Ca:=ymI Tryz.func71 2 [[0,0,0,3,7,0,0,48,112,255],[0,1,2,3,4,5,6,7,8]]
abbrev Fh:Nat:=42
def FSk:=ymI Tryz.func42 1
abbrev Fc:Nat:=43
def FM:=ymI Tryz.func43 1
abbrev Iq:Nat:=19
def IT:=ymI Tryz.func19 2
abbrev By:Nat:=26
def B8:=ymI Tryz.func26 1 [[0,0,0,3,7,15,0,0,96,224,480,992,0,0,6144,14336,30720,65535,0,262143],[0,1,2,3,4,5,6,7,8,9,10,11,12,13,14,15,16,17,18]]
abbrev Fj:Nat:=67
def FV:=ymI Tryz.func67 1
abbrev Is:Nat:=69
def IV:=ymI Tryz.func69 1
abbrev zg:Nat:=72
def zJ:=ymI Tryz.func72 2
abbrev Fd:Nat:=73
def FN:=ymI Tryz.func73 1 [[0,0,0,3,0,0,24,56,127,255],[0,1,2,3,4,5,6,7,8]]
abbrev Fe:Nat:=44
def FO:=ymI Tryz.func44 3 [[0,0,0,0,6,14,31,63,127,127,0,767,2047],[0,1,2,3,4,5,6,7,8,9,10,11]]
abbrev xD:Nat:=27
def xM:=ymI Tryz.func27 3 [[0,0,1,0,0,12,28,60,127,255],[0,2,3,4,5,6,1,7,8]]
abbrev Ff:Nat:=7
def FP:=ymI Tryz.func7 1 [[0,0,1,0,0,8,0,56,120,248,504,1020,2044,4095,8191,16383],[0,1,2,3,4,5,6,7,8,9,10,11,12,13,14],[0,0,1,0,0,0,16,0,112,240,496,0,2040,4095,8191,16383],[0,1,2,3,4,5,6,7,8,9,10,11,12,13,14],[0,0,1,0,4,0,28,60,127,255],[0,1,2,3,4,5,6,7,8],[0,0,1,0,4,0,28,60,124,255,511,1023],[0,1,2,3,4,5,6,7,8,9,10]]
abbrev Ir:Nat:=75
def IU:=ymI Tryz.func75 1
abbrev kN:Nat:=49
def IX:=ymI Tryz.func49 2 [[0,0,0,2,0,14,30,62,126,0,256,0,1792,3840,7936,16382,32766,65534,131071,262143],[0,1,2,3,4,5,6,7,8,9,10,11,12,13,14,15,16,17,18]]
abbrev It:Nat:=29
def IW:=ymI Tryz.func29 1
abbrev xE:Nat:=138
def xN:=ymI Tryz.func138 1
abbrev Iv:Nat:=101
def IZ:=ymI Tryz.func101 1
abbrev BH:Nat:=64
def Ch:=ymI Tryz.func64 1
abbrev BG:Nat:=102
def Cg:=ymI Tryz.func102 1
abbrev Fl:Nat:=65
def FX:=ymI Tryz.func65 1
abbrev BI:Nat:=38
def Ci:=ymI Tryz.func38 1
abbrev Fi:Nat:=45
def FT:=ymI Tryz.func45 1
abbrev Lb:Nat:=105
def Ls:=ymI Tryz.func105 1
abbrev sr:Nat:=74
def sD:=ymI Tryz.func74 1
abbrev tR:Nat:=46
def ub:=ymI Tryz.func46 1
abbrev BD:Nat:=47
def Cd:=ymI Tryz.func47 2
abbrev BF:Nat:=48
def Cf:=ymI Tryz.func48 1 [[0,0,0,0,0,12,28,60,0,0,384,896,1920,4092,8191,16383,32767],[0,1,2,3,4,5,6,7,8,9,10,11,12,13,14,15]]
abbrev jr:Nat:=28
def FU:=ymI Tryz.func28 1 [[0,0,0,3,7,15,0,63,127,255,511,0,0,3072,7168,15360,0,64512,130048,261120,523264,1048575,2097151,0,8388607],[0,1,2,3,4,5,6,7,8,9,10,11,12,13,14,15,16,17,18,19,20,21,22,23]]
abbrev Fk:Nat:=8
def FW:=ymI Tryz.func8 1
abbrev dj:Nat:=118
def dk:=ymI Tryz.func118 2
abbrev cB:Nat:=87
def cE:=ymI Tryz.func87 2
abbrev cC:Nat:=186
def cF:=ymI Tryz.func186 2
abbrev iZ:Nat:=177
def i5:=ymI Tryz.func177 2
abbrev zl:Nat:=167
def zQ:=ymI Tryz.func167 1
abbrev bj:Nat:=154
def iL:=ymI Tryz.func154 2
abbrev jR:Nat:=178
def jW:=ymI Tryz.func178 2 [[0,0,0,3,0,0,0,32,112,248,7,1023,2047],[0,1,2,3,4,5,6,7,8,9,10,11]]
abbrev Bt:Nat:=168
def B1:=ymI Tryz.func168 2
abbrev bv:Nat:=158
def ro:=ymI Tryz.func158 2
abbrev d7:Nat:=170
def iy:AC:=
 Q [.reg [mb 4 false] [0,1],
 .reg [m 18 0,ca 19 180 [18],o1 5 (.alc [.int .i64 0,.int .i64 0,.int .i64 0,.nil 4]),st 4 5 19] [1,5],
 .reg [fa 20 5 0,l1 21 20,o1 22 (.mkm 224 24 230 4 (.t 21)),m 6 22] [1,5,6],
 Q [.reg [fa 23 5 3,l1 24 23,lq 25 24,mi 26 0] [1,5,6,24,25,26],
 .block 0 (.loop [1,5,6,24,25,26] (Q [.reg [bt 27 .lss 26 25] [1,5,6,24,25,26,27],
 C 27 (.skip) (.exit 0),
 .block 1 (Q [.reg [ia 28 24 26 4,la 29 28 4,o1 8 (.alc [.int .i64 0,.int .i64 0,.int .u8 0,.int .u8 0]),st 4 8 29] [1,5,6,8,24,25,26],
 .regF (OQ [m 30 6,m 33 6,fa 34 8 0,l1 35 34,ia 36 33 35 1,l1 37 36,la 38 8 4,o1 39 (.lit 230 4 [.t 38])] (.both
 (OQ [fa 31 8 0] (.both
 (OQ [l1 32 31,o1 40 (.app (.t 37) (.t 39) 230 4 24),ia 41 30 32 1,st 1 41 40] .nil)
 (OQ [o1 40 (.app (.t 37) (.t 39) 230 4 24),l1 32 31,ia 41 30 32 1,st 1 41 40] .nil)))
 (OQ [o1 40 (.app (.t 37) (.t 39) 230 4 24),fa 31 8 0,l1 32 31,ia 41 30 32 1,st 1 41 40] .nil))) [1,5,6,24,25,26]]),
 .reg [bi 42 .add 26 1,m 26 42] [1,5,6,24,25,26]]))],
 .reg [fa 43 5 0,l1 44 43,o1 45 (.mks 3 1 8 (.int .i64 0) (.t 44)),m 9 45] [1,5,6,9],
 .reg [m 46 9,fa 47 5 1,l1 48 47,ia 49 46 48 1,o0 (.st 1 (.t 49) (.v (.int .i64 1)))] [1,5,6,9],
 .reg [m 50 6,m 51 9,fa 52 5 1,l1 53 52,o1 54 (.ltr 3 1 [.t 53]),o1 55 (.callH 181 [.t 50,.t 51,.v (.int .i64 1),.t 54]),m 10 55] [1,5,6,9,10],
 .reg [mv 11 (.nil 1)] [1,5,6,9,10,11],
 Q [.reg [mi 12 0] [1,5,6,9,10,11,12],
 .block 2 (.loop [1,5,6,9,10,11,12] (Q [Q [.reg [m 56 12,m 57 1,ls 58 57,bt 59 .lss 56 58] [1,5,6,9,10,11,12,59],
 C 59 (.skip) (.exit 2)],
 .block 3 (Q [Q [.reg [m 62 10,lq 63 62,bi 64 .eql 63 0] [1,5,6,9,10,11,12,64],
 C 64 (Q [.reg [mb 4 false] [4],
 .ret]) (.skip)],
 .reg [m 65 12,bi 66 .add 65 2,m 13 66] [1,5,6,9,10,11,12,13],
 .reg [m 67 11,o1 68 (.trc (.t 67) (.v (.int .i64 0)) 1),m 11 68] [1,5,6,9,10,11,12,13],
 Q [.reg [m 69 10,lq 70 69,mi 71 0] [1,5,6,9,10,11,12,13,69,70,71],
 .block 4 (.loop [1,5,6,9,10,11,12,13,69,70,71] (Q [.reg [bt 72 .lss 71 70] [1,5,6,9,10,11,12,13,69,70,71,72],
 C 72 (.skip) (.exit 4),
 .block 5 (Q [.reg [ia 73 69 71 1,l1 74 73,m 15 74] [1,5,6,9,10,11,12,13,15,69,70,71],
 .reg [m 75 6,m 76 15,ia 77 75 76 1,l1 78 77,lq 79 78,mi 80 0] [1,5,6,9,10,11,12,13,69,70,71,78,79,80],
 .block 6 (.loop [1,5,6,9,10,11,12,13,69,70,71,78,79,80] (Q [.reg [bt 81 .lss 80 79] [1,5,6,9,10,11,12,13,69,70,71,78,79,80,81],
 C 81 (.skip) (.exit 6),
 .block 7 (Q [.reg [ia 82 78 80 4,la 83 82 4,o1 17 (.alc [.int .i64 0,.int .i64 0,.int .u8 0,.int .u8 0]),st 4 17 83] [1,5,6,9,10,11,12,13,17,69,70,71,78,79,80],
 .regD [fa 84 17 2,l1 85 84,m 86 1,m 87 12,ix 88 86 87,bt 89 .leq 85 88,m 90 89,gt 90 (m 91 1),gt 90 (m 92 12),gt 90 (ix 93 91 92),gt 90 (fa 94 17 3),gt 90 (l1 95 94),gt 90 (bt 96 .leq 93 95),pa 97 90 96,m 98 97,gt 98 (m 99 9),gt 98 (fa 100 17 1),gt 98 (l1 101 100),gt 98 (ia 102 99 101 1),gt 98 (l1 103 102),gt 98 (m 104 13),gt 98 (bt 105 .neq 103 104),pa 106 98 105] [1,5,6,9,10,11,12,13,17,69,70,71,78,79,80,106],
 C 106 (Q [.reg [m 107 9,fa 108 17 1,l1 109 108,m 110 13,ia 111 107 109 1,st 1 111 110] [1,5,6,9,10,11,12,13,17,69,70,71,78,79,80],
 .reg [m 112 11,fa 113 17 1,l1 114 113,o1 115 (.ltr 3 1 [.t 114]),o1 116 (.app (.t 112) (.t 115) 3 1 8),m 11 116] [1,5,6,9,10,11,12,13,69,70,71,78,79,80]]) (.skip)]),
 .reg [bi 117 .add 80 1,m 80 117] [1,5,6,9,10,11,12,13,69,70,71,78,79,80]]))]),
 .reg [bi 118 .add 71 1,m 71 118] [1,5,6,9,10,11,12,13,69,70,71]]))],
 .reg [m 119 6,m 120 9,m 121 13,m 122 11,ch 123 181 [119,120,121,122],m 124 10,m 10 123,m 11 124] [1,5,6,9,10,11,12]]),
 .reg [m 60 12,bi 61 .add 60 1,m 12 61] [1,5,6,9,10,11,12]]))],
 .reg [m 125 9,fa 126 5 2,l1 127 126,ia 128 125 127 1,l1 129 128,m 130 1,ls 131 130,bi 132 .add 131 1,bt 133 .eql 129 132,m 4 133] [4],
 .ret]
theorem pb:yiY Tryz.f170 170 [] [181,1000000,2000003] (ysK iy [[1,0,0,2,0,0,16,56,120,0,256,1016,2047,4095],[0,0,1,0,0,12,31,63,127,127,511,127,1151,4095,8191,16383,32767,32767,98303,262143,524287,32767,2097151,4194303],[0,1,2,3,4,5,6,7,8,9,10,11,12,13,14,15,16,17,18,19,20,21,22]]).1 2 iy [.t 4]:=⟨Tryz.func170,by kernel_rfl⟩
abbrev ze:Nat:=181
def zH:=ymE Tryz.func181 [1] [] 4
end Go.Abs
