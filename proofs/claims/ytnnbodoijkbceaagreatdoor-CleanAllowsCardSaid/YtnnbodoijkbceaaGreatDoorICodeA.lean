/- The images of some of the program's functions, as the kernel reckons them. No condition. -/
import Derived.Test.YtnnbodoijkbceaaGreatDoorICodeD
set_option linter.all false
set_option maxHeartbeats 0
set_option maxRecDepth 100000
namespace Go.Abs
open Go.Proofs
abbrev El:Nat:=70
def Fa:=ymI Tryz.func70 1
abbrev En:Nat:=41
def Fc:=ymI Tryz.func41 1
abbrev Eb:Nat:=24
def EY:=ymI Tryz.func24 1
abbrev I3:Nat:=25
def JO:=ymI Tryz.func25 2
abbrev BN:Nat:=103
def Ch:=ymI Tryz.func103 1
abbrev Ed:Nat:=104
def E0:=ymI Tryz.func104 1
abbrev Ec:Nat:=71
def EZ:=ymI Tryz.func71 2 [[0,0,0,3,7,0,0,48,112,255],[0,1,2,3,4,5,6,7,8]]
abbrev I4:Nat:=42
def JP:=ymI Tryz.func42 1
abbrev IW:Nat:=43
def JH:=ymI Tryz.func43 1
abbrev MP:Nat:=19
def Nq:=ymI Tryz.func19 2
abbrev Ea:Nat:=26
def EX:=ymI Tryz.func26 1 [[0,0,0,3,7,15,0,0,96,224,480,992,0,0,6144,14336,30720,65535,0,262143],[0,1,2,3,4,5,6,7,8,9,10,11,12,13,14,15,16,17,18]]
abbrev Jd:Nat:=67
def JZ:=ymI Tryz.func67 1
abbrev MT:Nat:=69
def Nw:=ymI Tryz.func69 1
abbrev BQ:Nat:=72
def Cm:=ymI Tryz.func72 2
abbrev IX:Nat:=73
def JI:=ymI Tryz.func73 1 [[0,0,0,3,0,0,24,56,127,255],[0,1,2,3,4,5,6,7,8]]
abbrev IY:Nat:=44
def JJ:=ymI Tryz.func44 3 [[0,0,0,0,6,14,31,63,127,127,0,767,2047],[0,1,2,3,4,5,6,7,8,9,10,11]]
abbrev Ad:Nat:=27
def Am:=ymI Tryz.func27 3 [[0,0,1,0,0,12,28,60,127,255],[0,2,3,4,5,6,1,7,8]]
abbrev I1:Nat:=7
def JM:=ymI Tryz.func7 1 [[0,0,1,0,0,8,0,56,120,248,504,1020,2044,4095,8191,16383],[0,1,2,3,4,5,6,7,8,9,10,11,12,13,14],[0,0,1,0,0,0,16,0,112,240,496,0,2040,4095,8191,16383],[0,1,2,3,4,5,6,7,8,9,10,11,12,13,14],[0,0,1,0,4,0,28,60,127,255],[0,1,2,3,4,5,6,7,8],[0,0,1,0,4,0,28,60,124,255,511,1023],[0,1,2,3,4,5,6,7,8,9,10]]
abbrev MS:Nat:=75
def Nv:=ymI Tryz.func75 1
abbrev lX:Nat:=49
def NA:=ymI Tryz.func49 2 [[0,0,0,2,0,14,30,62,126,0,256,0,1792,3840,7936,16382,32766,65534,131071,262143],[0,1,2,3,4,5,6,7,8,9,10,11,12,13,14,15,16,17,18]]
abbrev MU:Nat:=29
def Nz:=ymI Tryz.func29 1
abbrev Ag:Nat:=138
def Ap:=ymI Tryz.func138 1
abbrev MV:Nat:=101
def NB:=ymI Tryz.func101 1
abbrev Er:Nat:=64
def Ff:=ymI Tryz.func64 1
abbrev Ep:Nat:=102
def Fe:=ymI Tryz.func102 1
abbrev Jf:Nat:=65
def J3:=ymI Tryz.func65 1
abbrev Es:Nat:=38
def Fg:=ymI Tryz.func38 1
abbrev Jc:Nat:=45
def JX:=ymI Tryz.func45 1
abbrev Qa:Nat:=105
def Qs:=ymI Tryz.func105 1
abbrev uu:Nat:=74
def uD:=ymI Tryz.func74 1
abbrev vL:Nat:=46
def vZ:=ymI Tryz.func46 1
abbrev Em:Nat:=47
def Fb:=ymI Tryz.func47 2
abbrev Eo:Nat:=48
def Fd:=ymI Tryz.func48 1 [[0,0,0,0,0,12,28,60,0,0,384,896,1920,4092,8191,16383,32767],[0,1,2,3,4,5,6,7,8,9,10,11,12,13,14,15]]
abbrev j9:Nat:=28
def JY:=ymI Tryz.func28 1 [[0,0,0,3,7,15,0,63,127,255,511,0,0,3072,7168,15360,0,64512,130048,261120,523264,1048575,2097151,0,8388607],[0,1,2,3,4,5,6,7,8,9,10,11,12,13,14,15,16,17,18,19,20,21,22,23]]
abbrev Je:Nat:=8
def J2:=ymI Tryz.func8 1
abbrev MR:Nat:=50
def Ns:=ymI Tryz.func50 2
abbrev Jg:Nat:=136
def J4:=ymI Tryz.func136 1
abbrev Ek:Nat:=137
def E9:=ymI Tryz.func137 1
abbrev Ja:Nat:=100
def JW:=ymI Tryz.func100 2
abbrev I9:Nat:=76
def JV:=ymI Tryz.func76 2 [[0,0,1,3,7,15,31,63,15,255,511,15,2047,15,4111,12303,32767,65535,131071],[0,1,2,3,4,5,6,7,8,9,10,11,12,13,14,15,16,17]]
abbrev Ae:Nat:=51
def An:=ymI Tryz.func51 2
abbrev gG:Nat:=30
def Ck:=ymI Tryz.func30 1 [[0,0,1,0,4,0,16,60,124,255,511,1023],[0,1,2,3,4,5,6,7,8,9,10]]
abbrev I8:Nat:=9
def JU:=ymI Tryz.func9 1
abbrev Af:Nat:=119
def Ao:=ymI Tryz.func119 1 [[0,0,1,0,7,15,31,0,64,0,448,960,1984,4095],[0,1,2,3,4,5,6,7,8,9,10,11,12]]
abbrev za:Nat:=88
def Nu:=ymI Tryz.func88 2
abbrev lW:Nat:=57
def Ny:=ymI Tryz.func57 1 [[0,0,0,3,7,0,16,48,112,112,368,1008,2032,4080,8176,16368,32767,65535],[0,1,2,3,4,5,6,7,8,9,10,11,12,13,14,15,16]]
abbrev lV:Nat:=58
def Nt:=ymI Tryz.func58 1 [[0,0,0,3,7,15,0,0,96,224,480,0,2016,4064,8191,16383],[0,1,2,3,4,5,6,7,8,9,10,11,12,13,14]]
abbrev BP:Nat:=34
def Cl:=ymI Tryz.func34 1
abbrev I0:Nat:=120
def JL:=ymI Tryz.func120 2
abbrev BM:Nat:=89
def Cg:=ymI Tryz.func89 3
abbrev I2:Nat:=171
def JN:=ymI Tryz.func171 2
abbrev IZ:Nat:=159
def JK:=ymI Tryz.func159 2
abbrev Eh:Nat:=192
def E6:=ymI Tryz.func192 2
abbrev P9:Nat:=195
def Qr:=ymI Tryz.func195 2
abbrev Ee:Nat:=209
def E2:=ymI Tryz.func209 3
abbrev MQ:Nat:=194
def zH:AC:=
 Q [.reg [bx 2 0,bx 3 1,o1 4 (.alc [.nil 3,.str [],.int .i64 0,.bool false]),mi 5 0] [2,3,4],
 .reg [mv 6 (.nil 3)] [2,3,4,6],
 .reg [m 7 6,fa 8 2 0,l1 9 8,o1 10 (.app (.t 7) (.t 9) 255 3 56),m 6 10] [2,3,4,6],
 .reg [m 11 6,la 12 3 3,o1 13 (.lit 255 3 [.t 12]),o1 14 (.app (.t 11) (.t 13) 255 3 56),fa 15 2 0,st 1 15 14] [2,4],
 .regF (OQ [la 16 2 4] (.both
 (OQ [fa 17 2 0] (.both
 (OQ [l1 18 17] (.both
 (OQ [lq 19 18,bi 20 .sub 19 1,st 4 4 16,m 5 20] .nil)
 (OQ [st 4 4 16,lq 19 18,bi 20 .sub 19 1,m 5 20] .nil)))
 (OQ [st 4 4 16,l1 18 17,lq 19 18,bi 20 .sub 19 1,m 5 20] .nil)))
 (OQ [st 4 4 16,fa 17 2 0,l1 18 17,lq 19 18,bi 20 .sub 19 1,m 5 20] .nil))) [4,5],
 .ret]
theorem Nr:yiX Tryz.f194 194 (ysK zH [[1,0,0,2,6,14,1,63]]).1 2 zH [.c 4 4 true,.t 5]:=⟨Tryz.func194,by kernel_rfl⟩
abbrev I6:Nat:=196
def JR:=ymI Tryz.func196 1
abbrev Ef:Nat:=211
def E3:=ymI Tryz.func211 2
abbrev Eg:Nat:=210
def E5:=ymI Tryz.func210 1
abbrev nM:Nat:=203
def JT:=ymI Tryz.func203 1 [[0,0,0,2,7,15,15,63,127],[0,1,2,3,4,5,6,7],[0,0,0,0,6,14,31,63,63,255,511],[0,1,2,3,4,5,6,7,8,9]]
abbrev mo:Nat:=193
def E4:=ymI Tryz.func193 1
abbrev iq:Nat:=182
def x0:=ymI Tryz.func182 1
abbrev Ei:Nat:=172
def E7:=ymI Tryz.func172 1
abbrev I7:Nat:=197
def JS:=ymI Tryz.func197 2 [[0,0,0,3,7,0,0,0,96,224,0,992,2016,4064,8160,8160,32736,65504,8160,262112,524256,1048544,2097151,4194303],[0,1,2,3,4,5,6,7,8,9,10,11,12,13,14,15,16,17,18,19,20,21,22]]
abbrev BO:Nat:=198
def Cj:=ymI Tryz.func198 2 [[0,0,0,3,7,0,0,0,96,224,0,992,2016,4064,8160,8160,32736,65504,8160,262112,524256,1048544,2097151,4194303],[0,1,2,3,4,5,6,7,8,9,10,11,12,13,14,15,16,17,18,19,20,21,22]]
abbrev I5:Nat:=183
def JQ:=ymI Tryz.func183 4 [[0,0,0,3,7,0,0,0,96,224,480,992,2016,4064,4064,16352,32736,65504,131040,262112,524287,1048575],[0,1,2,3,4,5,6,7,8,9,10,11,12,13,14,15,16,17,18,19,20],[0,0,0,3,7,0,16,0,0,192,448,960,0,0,6144,14336,30720,65472,131008,262143,524287],[0,1,2,3,4,5,6,7,8,9,10,11,12,13,14,15,16,17,18,19]]
abbrev Ej:Nat:=173
def E8:=ymI Tryz.func173 3
abbrev dC:Nat:=160
def Ci:=ymI Tryz.func160 2 [[0,0,1,0,7,15,0,0,96,255],[0,1,2,3,4,5,6,7,8]]
abbrev IV:Nat:=147
def JG:=ymI Tryz.func147 2
abbrev IU:Nat:=121
def JF:=ymI Tryz.func121 2 [[0,0,0,0,6,14,31,63],[0,1,2,3,4,5,6]]
abbrev D8:Nat:=122
def EU:=ymI Tryz.func122 2
abbrev D9:Nat:=90
def EW:=ymI Tryz.func90 2
abbrev lU:Nat:=59
def No:=ymI Tryz.func59 3 [[0,0,0,0,0,12,28,63,127],[0,1,2,3,4,5,6,7],[0,0,0,0,6,14,30,63,127,255,255,0,1535,4095],[0,1,2,3,4,5,6,7,8,9,10,11,12],[0,0,1,3,7,7,31,63,127,255,511,1023,1023,1023,7167,15359,31743,65535,131071,262143,524287],[0,1,2,3,4,5,6,7,8,9,10,11,12,13,14,15,16,17,18,19],[0,0,0,0,6,14,30,0,0,192,448,960,2047,4095,8191,8191,16383,65535],[0,1,2,3,4,5,6,7,8,9,10,11,12,13,14,15,16]]
abbrev MO:Nat:=35
def Np:=ymI Tryz.func35 2
abbrev sW:Nat:=11
def EV:=ymI Tryz.func11 2
abbrev dM:Nat:=118
def dN:=ymI Tryz.func118 2
abbrev cW:Nat:=87
def c5:=ymI Tryz.func87 2
abbrev cX:Nat:=186
def c6:=ymI Tryz.func186 2
abbrev jL:Nat:=177
def jP:=ymI Tryz.func177 2
abbrev BT:Nat:=167
def Cs:=ymI Tryz.func167 1
abbrev bv:Nat:=154
def jx:=ymI Tryz.func154 2
abbrev kP:Nat:=178
def kW:=ymI Tryz.func178 2 [[0,0,0,3,0,0,0,32,112,248,7,1023,2047],[0,1,2,3,4,5,6,7,8,9,10,11]]
abbrev D3:Nat:=168
def EN:=ymI Tryz.func168 2
abbrev bG:Nat:=158
def s5:=ymI Tryz.func158 2
abbrev eN:Nat:=170
def jg:AC:=
 Q [.reg [mb 4 false] [0,1],
 .reg [m 18 0,ca 19 180 [18],o1 5 (.alc [.int .i64 0,.int .i64 0,.int .i64 0,.nil 4]),st 4 5 19] [1,5],
 .reg [fa 20 5 0,l1 21 20,o1 22 (.mkm 224 24 230 4 (.t 21)),m 6 22] [1,5,6],
 Q [.reg [fa 23 5 3,l1 24 23,lq 25 24,mi 26 0] [1,5,6,24,25,26],
 .block 0 (.loop [1,5,6,24,25,26] (Q [.reg [bt 27 .lss 26 25] [1,5,6,24,25,26,27],
 C 27 (.skip) (.exit 0),
 .block 1 (Q [.reg [ia 28 24 26 4,la 29 28 4,o1 8 (.alc [.int .i64 0,.int .i64 0,.int .u8 0,.int .u8 0]),st 4 8 29] [1,5,6,8,24,25,26],
 .regF (OQ [m 30 6,m 33 6,fa 34 8 0,l1 35 34,ia 36 33 35 1,l1 37 36,la 38 8 4,o1 39 (.lit 230 4 [.t 38])] (.both
 (OQ [fa 31 8 0] (.both
 (OQ [l1 32 31,o1 40 (.app (.t 37) (.t 39) 230 4 24),ia 41 30 32 1,st 1 41 40] .nil)
 (OQ [o1 40 (.app (.t 37) (.t 39) 230 4 24),l1 32 31,ia 41 30 32 1,st 1 41 40] .nil)))
 (OQ [o1 40 (.app (.t 37) (.t 39) 230 4 24),fa 31 8 0,l1 32 31,ia 41 30 32 1,st 1 41 40] .nil))) [1,5,6,24,25,26]]),
 .reg [bi 42 .add 26 1,m 26 42] [1,5,6,24,25,26]]))],
 .reg [fa 43 5 0,l1 44 43,o1 45 (.mks 3 1 8 (.int .i64 0) (.t 44)),m 9 45] [1,5,6,9],
 .reg [m 46 9,fa 47 5 1,l1 48 47,ia 49 46 48 1,o0 (.st 1 (.t 49) (.v (.int .i64 1)))] [1,5,6,9],
 .reg [m 50 6,m 51 9,fa 52 5 1,l1 53 52,o1 54 (.ltr 3 1 [.t 53]),o1 55 (.callH 181 [.t 50,.t 51,.v (.int .i64 1),.t 54]),m 10 55] [1,5,6,9,10],
 .reg [mv 11 (.nil 1)] [1,5,6,9,10,11],
 Q [.reg [mi 12 0] [1,5,6,9,10,11,12],
 .block 2 (.loop [1,5,6,9,10,11,12] (Q [Q [.reg [m 56 12,m 57 1,ls 58 57,bt 59 .lss 56 58] [1,5,6,9,10,11,12,59],
 C 59 (.skip) (.exit 2)],
 .block 3 (Q [Q [.reg [m 62 10,lq 63 62,bi 64 .eql 63 0] [1,5,6,9,10,11,12,64],
 C 64 (Q [.reg [mb 4 false] [4],
 .ret]) (.skip)],
 .reg [m 65 12,bi 66 .add 65 2,m 13 66] [1,5,6,9,10,11,12,13],
 .reg [m 67 11,o1 68 (.trc (.t 67) (.v (.int .i64 0)) 1),m 11 68] [1,5,6,9,10,11,12,13],
 Q [.reg [m 69 10,lq 70 69,mi 71 0] [1,5,6,9,10,11,12,13,69,70,71],
 .block 4 (.loop [1,5,6,9,10,11,12,13,69,70,71] (Q [.reg [bt 72 .lss 71 70] [1,5,6,9,10,11,12,13,69,70,71,72],
 C 72 (.skip) (.exit 4),
 .block 5 (Q [.reg [ia 73 69 71 1,l1 74 73,m 15 74] [1,5,6,9,10,11,12,13,15,69,70,71],
 .reg [m 75 6,m 76 15,ia 77 75 76 1,l1 78 77,lq 79 78,mi 80 0] [1,5,6,9,10,11,12,13,69,70,71,78,79,80],
 .block 6 (.loop [1,5,6,9,10,11,12,13,69,70,71,78,79,80] (Q [.reg [bt 81 .lss 80 79] [1,5,6,9,10,11,12,13,69,70,71,78,79,80,81],
 C 81 (.skip) (.exit 6),
 .block 7 (Q [.reg [ia 82 78 80 4,la 83 82 4,o1 17 (.alc [.int .i64 0,.int .i64 0,.int .u8 0,.int .u8 0]),st 4 17 83] [1,5,6,9,10,11,12,13,17,69,70,71,78,79,80],
 .regD [fa 84 17 2,l1 85 84,m 86 1,m 87 12,ix 88 86 87,bt 89 .leq 85 88,m 90 89,gt 90 (m 91 1),gt 90 (m 92 12),gt 90 (ix 93 91 92),gt 90 (fa 94 17 3),gt 90 (l1 95 94),gt 90 (bt 96 .leq 93 95),pa 97 90 96,m 98 97,gt 98 (m 99 9),gt 98 (fa 100 17 1),gt 98 (l1 101 100),gt 98 (ia 102 99 101 1),gt 98 (l1 103 102),gt 98 (m 104 13),gt 98 (bt 105 .neq 103 104),pa 106 98 105] [1,5,6,9,10,11,12,13,17,69,70,71,78,79,80,106],
 C 106 (Q [.reg [m 107 9,fa 108 17 1,l1 109 108,m 110 13,ia 111 107 109 1,st 1 111 110] [1,5,6,9,10,11,12,13,17,69,70,71,78,79,80],
 .reg [m 112 11,fa 113 17 1,l1 114 113,o1 115 (.ltr 3 1 [.t 114]),o1 116 (.app (.t 112) (.t 115) 3 1 8),m 11 116] [1,5,6,9,10,11,12,13,69,70,71,78,79,80]]) (.skip)]),
 .reg [bi 117 .add 80 1,m 80 117] [1,5,6,9,10,11,12,13,69,70,71,78,79,80]]))]),
 .reg [bi 118 .add 71 1,m 71 118] [1,5,6,9,10,11,12,13,69,70,71]]))],
 .reg [m 119 6,m 120 9,m 121 13,m 122 11,ch 123 181 [119,120,121,122],m 124 10,m 10 123,m 11 124] [1,5,6,9,10,11,12]]),
 .reg [m 60 12,bi 61 .add 60 1,m 12 61] [1,5,6,9,10,11,12]]))],
 .reg [m 125 9,fa 126 5 2,l1 127 126,ia 128 125 127 1,l1 129 128,m 130 1,ls 131 130,bi 132 .add 131 1,bt 133 .eql 129 132,m 4 133] [4],
 .ret]
theorem qB:yiY Tryz.f170 170 [] [181,1000000,2000003] (ysK jg [[1,0,0,2,0,0,16,56,120,0,256,1016,2047,4095],[0,0,1,0,0,12,31,63,127,127,511,127,1151,4095,8191,16383,32767,32767,98303,262143,524287,32767,2097151,4194303],[0,1,2,3,4,5,6,7,8,9,10,11,12,13,14,15,16,17,18,19,20,21,22]]).1 2 jg [.t 4]:=⟨Tryz.func170,by kernel_rfl⟩
abbrev BL:Nat:=181
def Cf:=ymE Tryz.func181 [1] [] 4
end Go.Abs
