/- The images of some of the program's functions, as the kernel reckons them. No condition. -/
import Derived.Test.YtloaikaippankaaGreatDoorQCodeD
set_option linter.all false set_option maxRecDepth 100000 open Bool renaming false→ğ
namespace Go.Abs
open Go.Proofs
abbrev Mv:Nat:=92
def Nj:=ymI Tryz.func92 1
abbrev My:Nat:=54
def Nl:=ymI Tryz.func54 1
abbrev Mj:Nat:=28
def M8:=ymI Tryz.func28 1
abbrev Ry:Nat:=29
def Sq:=ymI Tryz.func29 2
abbrev Ju:Nat:=141
def JZ:=ymI Tryz.func141 1
abbrev Ml:Nat:=142
def Na:=ymI Tryz.func142 1
abbrev Mk:Nat:=93
def M9:=ymI Tryz.func93 2 [[0,0,0,3,7,0,0,48,112,255],[0,1,2,3,4,5,6,7,8]]
abbrev Rz:Nat:=55
def Sr:=ymI Tryz.func55 1
abbrev Rp:Nat:=56
def Sj:=ymI Tryz.func56 1
abbrev Vm:Nat:=32
def VR:=ymI Tryz.func32 2
abbrev Mi:Nat:=30
def M7:=ymI Tryz.func30 1 [[0,0,0,3,7,15,0,0,96,224,480,992,0,0,6144,14336,30720,65535,0,262143],[0,1,2,3,4,5,6,7,8,9,10,11,12,13,14,15,16,17,18]]
abbrev RH:Nat:=94
def SC:=ymI Tryz.func94 1
abbrev Vq:Nat:=95
def VX:=ymI Tryz.func95 1
abbrev Jx:Nat:=96
def J4:=ymI Tryz.func96 2
abbrev Rq:Nat:=97
def Sk:=ymI Tryz.func97 1 [[0,0,0,3,0,0,24,56,127,255],[0,1,2,3,4,5,6,7,8]]
abbrev Rr:Nat:=57
def Sl:=ymI Tryz.func57 3 [[0,0,0,0,6,14,31,63,127,127,0,767,2047],[0,1,2,3,4,5,6,7,8,9,10,11]]
abbrev G9:Nat:=31
def Ho:=ymI Tryz.func31 3 [[0,0,1,0,0,12,28,60,127,255],[0,2,3,4,5,6,1,7,8]]
abbrev Ru:Nat:=9
def So:=ymI Tryz.func9 1 [[0,0,1,0,0,8,0,56,120,248,504,1020,2044,4095,8191,16383],[0,1,2,3,4,5,6,7,8,9,10,11,12,13,14],[0,0,1,0,0,0,16,0,112,240,496,0,2040,4095,8191,16383],[0,1,2,3,4,5,6,7,8,9,10,11,12,13,14],[0,0,1,0,4,0,28,60,127,255],[0,1,2,3,4,5,6,7,8],[0,0,1,0,4,0,28,60,124,255,511,1023],[0,1,2,3,4,5,6,7,8,9,10]]
abbrev Vp:Nat:=122
def VW:=ymI Tryz.func122 1
abbrev p7:Nat:=71
def V0:=ymI Tryz.func71 2 [[0,0,0,2,0,14,30,62,126,0,256,0,1792,3840,7936,16382,32766,65534,131071,262143],[0,1,2,3,4,5,6,7,8,9,10,11,12,13,14,15,16,17,18]]
abbrev Vr:Nat:=41
def VZ:=ymI Tryz.func41 1
abbrev Hd:Nat:=204
def Hr:=ymI Tryz.func204 1
abbrev Vs:Nat:=162
def V3:=ymI Tryz.func162 1
abbrev MB:Nat:=119
def No:=ymI Tryz.func119 1
abbrev MA:Nat:=163
def Nn:=ymI Tryz.func163 1
abbrev RJ:Nat:=120
def SF:=ymI Tryz.func120 1
abbrev MC:Nat:=66
def Np:=ymI Tryz.func66 1
abbrev RG:Nat:=67
def SA:=ymI Tryz.func67 1
abbrev Yw:Nat:=164
def YP:=ymI Tryz.func164 1
abbrev AN:Nat:=121
def AZ:=ymI Tryz.func121 1
abbrev Cm:Nat:=68
def CH:=ymI Tryz.func68 1
abbrev Mw:Nat:=69
def Nk:=ymI Tryz.func69 2
abbrev Mz:Nat:=70
def Nm:=ymI Tryz.func70 1 [[0,0,0,0,0,12,28,60,0,0,384,896,1920,4092,8191,16383,32767],[0,1,2,3,4,5,6,7,8,9,10,11,12,13,14,15]]
abbrev nk:Nat:=40
def SB:=ymI Tryz.func40 1 [[0,0,0,3,7,15,0,63,127,255,511,0,0,3072,7168,15360,0,64512,130048,261120,523264,1048575,2097151,0,8388607],[0,1,2,3,4,5,6,7,8,9,10,11,12,13,14,15,16,17,18,19,20,21,22,23]]
abbrev RI:Nat:=12
def SE:=ymI Tryz.func12 1
abbrev Vo:Nat:=81
def VT:=ymI Tryz.func81 2
abbrev RK:Nat:=208
def SG:=ymI Tryz.func208 1
abbrev Mu:Nat:=209
def Ni:=ymI Tryz.func209 1
abbrev RF:Nat:=168
def Sz:=ymI Tryz.func168 2
abbrev RE:Nat:=127
def Sy:=ymI Tryz.func127 2 [[0,0,1,3,7,15,31,63,15,255,511,15,2047,15,4111,12303,32767,65535,131071],[0,1,2,3,4,5,6,7,8,9,10,11,12,13,14,15,16,17]]
abbrev Ha:Nat:=82
def Hp:=ymI Tryz.func82 2
abbrev jy:Nat:=47
def J2:=ymI Tryz.func47 1 [[0,0,1,0,4,0,16,60,124,255,511,1023],[0,1,2,3,4,5,6,7,8,9,10]]
abbrev RD:Nat:=21
def Sx:=ymI Tryz.func21 1
abbrev Hb:Nat:=174
def Hq:=ymI Tryz.func174 1 [[0,0,1,0,7,15,31,0,64,0,448,960,1984,4095],[0,1,2,3,4,5,6,7,8,9,10,11,12]]
abbrev Gc:Nat:=138
def VV:=ymI Tryz.func138 2
abbrev p6:Nat:=89
def VY:=ymI Tryz.func89 1 [[0,0,0,3,7,0,16,48,112,112,368,1008,2032,4080,8176,16368,32767,65535],[0,1,2,3,4,5,6,7,8,9,10,11,12,13,14,15,16]]
abbrev p5:Nat:=90
def VU:=ymI Tryz.func90 1 [[0,0,0,3,7,15,0,0,96,224,480,0,2016,4064,8191,16383],[0,1,2,3,4,5,6,7,8,9,10,11,12,13,14]]
abbrev Jw:Nat:=51
def J3:=ymI Tryz.func51 1
abbrev Rt:Nat:=175
def Sn:=ymI Tryz.func175 2
abbrev Jt:Nat:=139
def JY:=ymI Tryz.func139 3
abbrev Rv:Nat:=266
def Sp:=ymI Tryz.func266 2
abbrev Rs:Nat:=247
def Sm:=ymI Tryz.func247 2
abbrev Mq:Nat:=283
def Nf:=ymI Tryz.func283 2
abbrev Yv:Nat:=286
def YO:=ymI Tryz.func286 2
abbrev Mm:Nat:=297
def Nb:=ymI Tryz.func297 3
abbrev Vn:Nat:=285
def GM:AC:=
 Q [.reg [bx 2 0,bx 3 1,o1 4 (.alc [.nil 3,.str [],.int .i64 0,.bool ğ]),mi 5 0] [2,3,4],
 .reg [mv 6 (.nil 3)] [2,3,4,6],
 .reg [m 7 6,fa 8 2 0,l1 9 8,o1 10 (.app (.t 7) (.t 9) 353 3 56),m 6 10] [2,3,4,6],
 .reg [m 11 6,la 12 3 3,o1 13 (.lit 353 3 [.t 12]),o1 14 (.app (.t 11) (.t 13) 353 3 56),fa 15 2 0,st 1 15 14] [2,4],
 .regF (OQ [la 16 2 4] (.both
 (OQ [fa 17 2 0] (.both
 (OQ [l1 18 17] (.both
 (OQ [lq 19 18,bi 20 .sub 19 1,st 4 4 16,m 5 20] .nil)
 (OQ [st 4 4 16,lq 19 18,bi 20 .sub 19 1,m 5 20] .nil)))
 (OQ [st 4 4 16,l1 18 17,lq 19 18,bi 20 .sub 19 1,m 5 20] .nil)))
 (OQ [st 4 4 16,fa 17 2 0,l1 18 17,lq 19 18,bi 20 .sub 19 1,m 5 20] .nil))) [4,5],
 .ret]
theorem VS:yiX Tryz.f285 285 (ysK GM [[1,0,0,2,6,14,1,63]]).1 2 GM [.c 4 4 true,.t 5]:=⟨Tryz.func285,by kernel_rfl⟩
abbrev RB:Nat:=287
def Su:=ymI Tryz.func287 1
abbrev Mo:Nat:=299
def Nc:=ymI Tryz.func299 2
abbrev Mp:Nat:=298
def Ne:=ymI Tryz.func298 1
abbrev sW:Nat:=295
def Sw:=ymI Tryz.func295 1 [[0,0,0,2,7,15,15,63,127],[0,1,2,3,4,5,6,7],[0,0,0,0,6,14,31,63,63,255,511],[0,1,2,3,4,5,6,7,8,9]]
abbrev qJ:Nat:=284
def Nd:=ymI Tryz.func284 1
abbrev kQ:Nat:=275
def EI:=ymI Tryz.func275 1
abbrev Ms:Nat:=267
def Ng:=ymI Tryz.func267 1
abbrev RC:Nat:=288
def Sv:=ymI Tryz.func288 2 [[0,0,0,3,7,0,0,0,96,224,0,992,2016,4064,8160,8160,32736,65504,8160,262112,524256,1048544,2097151,4194303],[0,1,2,3,4,5,6,7,8,9,10,11,12,13,14,15,16,17,18,19,20,21,22]]
abbrev Jv:Nat:=289
def J1:=ymI Tryz.func289 2 [[0,0,0,3,7,0,0,0,96,224,0,992,2016,4064,8160,8160,32736,65504,8160,262112,524256,1048544,2097151,4194303],[0,1,2,3,4,5,6,7,8,9,10,11,12,13,14,15,16,17,18,19,20,21,22]]
abbrev RA:Nat:=276
def Ss:=ymI Tryz.func276 4 [[0,0,0,3,7,0,0,0,96,224,480,992,2016,4064,4064,16352,32736,65504,131040,262112,524287,1048575],[0,1,2,3,4,5,6,7,8,9,10,11,12,13,14,15,16,17,18,19,20],[0,0,0,3,7,0,16,0,0,192,448,960,0,0,6144,14336,30720,65472,131008,262143,524287],[0,1,2,3,4,5,6,7,8,9,10,11,12,13,14,15,16,17,18,19]]
abbrev Mt:Nat:=268
def Nh:=ymI Tryz.func268 3
abbrev eB:Nat:=248
def J0:=ymI Tryz.func248 2 [[0,0,1,0,7,15,0,0,96,255],[0,1,2,3,4,5,6,7,8]]
abbrev Ro:Nat:=212
def Si:=ymI Tryz.func212 2
abbrev Rn:Nat:=176
def Sh:=ymI Tryz.func176 2 [[0,0,0,0,6,14,31,63],[0,1,2,3,4,5,6]]
abbrev Mg:Nat:=177
def M4:=ymI Tryz.func177 2
abbrev Mh:Nat:=140
def M6:=ymI Tryz.func140 2
abbrev p4:Nat:=91
def VP:=ymI Tryz.func91 3 [[0,0,0,0,0,12,28,63,127],[0,1,2,3,4,5,6,7],[0,0,0,0,6,14,30,63,127,255,255,0,1535,4095],[0,1,2,3,4,5,6,7,8,9,10,11,12],[0,0,1,3,7,7,31,63,127,255,511,1023,1023,1023,7167,15359,31743,65535,131071,262143,524287],[0,1,2,3,4,5,6,7,8,9,10,11,12,13,14,15,16,17,18,19],[0,0,0,0,6,14,30,0,0,192,448,960,2047,4095,8191,8191,16383,65535],[0,1,2,3,4,5,6,7,8,9,10,11,12,13,14,15,16]]
abbrev Vl:Nat:=52
def VQ:=ymI Tryz.func52 2
abbrev zh:Nat:=25
def M5:=ymI Tryz.func25 2
abbrev lR:Nat:=169
def lZ:=ymI Tryz.func169 2
abbrev jx:Nat:=171
def jN:=ymI Tryz.func171 2
abbrev jE:Nat:=161
def jR:=ymI Tryz.func161 2
abbrev yD:Nat:=118
def yK:=ymI Tryz.func118 2
abbrev JB:Nat:=213
def J9:=ymI Tryz.func213 1
abbrev fx:Nat:=273
def mI:=ymI Tryz.func273 2
abbrev oJ:Nat:=261
def oY:=ymI Tryz.func261 2 [[0,0,0,3,0,0,0,32,112,248,7,1023,2047],[0,1,2,3,4,5,6,7,8,9,10,11]]
abbrev Md:Nat:=236
def MU:=ymI Tryz.func236 2
abbrev dr:Nat:=207
def zn:=ymI Tryz.func207 2
abbrev uc:Nat:=258
def Hm:=ymE Tryz.func258 [] [9999999] 1
abbrev Me:Nat:=257
def MV:=ymI Tryz.func257 1
abbrev Js:Nat:=228
def YN:=ymE Tryz.func228 [] [9999999] 1
abbrev Cl:Nat:=230
def Sf:=ymE Tryz.func230 [] [9999999] 1
abbrev gg:Nat:=237
def mq:AC:=
 Q [.reg [mb 4 ğ] [0,1],
 .reg [m 18 0,ca 19 155 [18],o1 5 (.alc [.int .i64 0,.int .i64 0,.int .i64 0,.nil 4]),st 4 5 19] [1,5],
 .reg [fa 20 5 0,l1 21 20,o1 22 (.mkm 189 24 260 4 (.t 21)),m 6 22] [1,5,6],
 Q [.reg [fa 23 5 3,l1 24 23,lq 25 24,mi 26 0] [1,5,6,24,25,26],
 .block 0 (.loop [1,5,6,24,25,26] (Q [.reg [bt 27 .lss 26 25] [1,5,6,24,25,26,27],
 C 27 (.skip) (.exit 0),
 .block 1 (Q [.reg [ia 28 24 26 4,la 29 28 4,o1 8 (.alc [.int .i64 0,.int .i64 0,.int .u8 0,.int .u8 0]),st 4 8 29] [1,5,6,8,24,25,26],
 .regF (OQ [m 30 6,m 33 6,fa 34 8 0,l1 35 34,ia 36 33 35 1,l1 37 36,la 38 8 4,o1 39 (.lit 260 4 [.t 38])] (.both
 (OQ [fa 31 8 0] (.both
 (OQ [l1 32 31,o1 40 (.app (.t 37) (.t 39) 260 4 24),ia 41 30 32 1,st 1 41 40] .nil)
 (OQ [o1 40 (.app (.t 37) (.t 39) 260 4 24),l1 32 31,ia 41 30 32 1,st 1 41 40] .nil)))
 (OQ [o1 40 (.app (.t 37) (.t 39) 260 4 24),fa 31 8 0,l1 32 31,ia 41 30 32 1,st 1 41 40] .nil))) [1,5,6,24,25,26]]),
 .reg [bi 42 .add 26 1,m 26 42] [1,5,6,24,25,26]]))],
 .reg [fa 43 5 0,l1 44 43,o1 45 (.mks 3 1 8 (.int .i64 0) (.t 44)),m 9 45] [1,5,6,9],
 .reg [m 46 9,fa 47 5 1,l1 48 47,ia 49 46 48 1,o0 (.st 1 (.t 49) (.v (.int .i64 1)))] [1,5,6,9],
 .reg [m 50 6,m 51 9,fa 52 5 1,l1 53 52,o1 54 (.ltr 3 1 [.t 53]),o1 55 (.callH 262 [.t 50,.t 51,.v (.int .i64 1),.t 54]),m 10 55] [1,5,6,9,10],
 .reg [mv 11 (.nil 1)] [1,5,6,9,10,11],
 Q [.reg [mi 12 0] [1,5,6,9,10,11,12],
 .block 2 (.loop [1,5,6,9,10,11,12] (Q [Q [.reg [m 56 12,m 57 1,ls 58 57,bt 59 .lss 56 58] [1,5,6,9,10,11,12,59],
 C 59 (.skip) (.exit 2)],
 .block 3 (Q [Q [.reg [m 62 10,lq 63 62,bi 64 .eql 63 0] [1,5,6,9,10,11,12,64],
 C 64 (Q [.reg [mb 4 ğ] [4],
 .ret]) (.skip)],
 .reg [m 65 12,bi 66 .add 65 2,m 13 66] [1,5,6,9,10,11,12,13],
 .reg [m 67 11,o1 68 (.trc (.t 67) (.v (.int .i64 0)) 1),m 11 68] [1,5,6,9,10,11,12,13],
 Q [.reg [m 69 10,lq 70 69,mi 71 0] [1,5,6,9,10,11,12,13,69,70,71],
 .block 4 (.loop [1,5,6,9,10,11,12,13,69,70,71] (Q [.reg [bt 72 .lss 71 70] [1,5,6,9,10,11,12,13,69,70,71,72],
 C 72 (.skip) (.exit 4),
 .block 5 (Q [.reg [ia 73 69 71 1,l1 74 73,m 15 74] [1,5,6,9,10,11,12,13,15,69,70,71],
 .reg [m 75 6,m 76 15,ia 77 75 76 1,l1 78 77,lq 79 78,mi 80 0] [1,5,6,9,10,11,12,13,69,70,71,78,79,80],
 .block 6 (.loop [1,5,6,9,10,11,12,13,69,70,71,78,79,80] (Q [.reg [bt 81 .lss 80 79] [1,5,6,9,10,11,12,13,69,70,71,78,79,80,81],
 C 81 (.skip) (.exit 6),
 .block 7 (Q [.reg [ia 82 78 80 4,la 83 82 4,o1 17 (.alc [.int .i64 0,.int .i64 0,.int .u8 0,.int .u8 0]),st 4 17 83] [1,5,6,9,10,11,12,13,17,69,70,71,78,79,80],
 .regD [fa 84 17 2,l1 85 84,m 86 1,m 87 12,ix 88 86 87,bt 89 .leq 85 88,m 90 89,gt 90 (m 91 1),gt 90 (m 92 12),gt 90 (ix 93 91 92),gt 90 (fa 94 17 3),gt 90 (l1 95 94),gt 90 (bt 96 .leq 93 95),pa 97 90 96,m 98 97,gt 98 (m 99 9),gt 98 (fa 100 17 1),gt 98 (l1 101 100),gt 98 (ia 102 99 101 1),gt 98 (l1 103 102),gt 98 (m 104 13),gt 98 (bt 105 .neq 103 104),pa 106 98 105] [1,5,6,9,10,11,12,13,17,69,70,71,78,79,80,106],
 C 106 (Q [.reg [m 107 9,fa 108 17 1,l1 109 108,m 110 13,ia 111 107 109 1,st 1 111 110] [1,5,6,9,10,11,12,13,17,69,70,71,78,79,80],
 .reg [m 112 11,fa 113 17 1,l1 114 113,o1 115 (.ltr 3 1 [.t 114]),o1 116 (.app (.t 112) (.t 115) 3 1 8),m 11 116] [1,5,6,9,10,11,12,13,69,70,71,78,79,80]]) (.skip)]),
 .reg [bi 117 .add 80 1,m 80 117] [1,5,6,9,10,11,12,13,69,70,71,78,79,80]]))]),
 .reg [bi 118 .add 71 1,m 71 118] [1,5,6,9,10,11,12,13,69,70,71]]))],
 .reg [m 119 6,m 120 9,m 121 13,m 122 11,ch 123 262 [119,120,121,122],m 124 10,m 10 123,m 11 124] [1,5,6,9,10,11,12]]),
 .reg [m 60 12,bi 61 .add 60 1,m 12 61] [1,5,6,9,10,11,12]]))],
 .reg [m 125 9,fa 126 5 2,l1 127 126,ia 128 125 127 1,l1 129 128,m 130 1,ls 131 130,bi 132 .add 131 1,bt 133 .eql 129 132,m 4 133] [4],
 .ret]
theorem wv:yiY Tryz.f237 237 [] [262,1000000,2000003] (ysK mq [[1,0,0,2,0,0,16,56,120,0,256,1016,2047,4095],[0,0,1,0,0,12,31,63,127,127,511,127,1151,4095,8191,16383,32767,32767,98303,262143,524287,32767,2097151,4194303],[0,1,2,3,4,5,6,7,8,9,10,11,12,13,14,15,16,17,18,19,20,21,22]]).1 2 mq [.t 4]:=⟨Tryz.func237,by kernel_rfl⟩
abbrev Jr:Nat:=262
def JW:=ymE Tryz.func262 [1] [] 4
abbrev Gd:Nat:=114
def GV:AC:=
 Q [.reg [bx 1 0,o1 2 (.alc [.nil 1,.nil 1])] [1,2],
 Q [.reg [la 5 1 3,ca 6 152 [5],bi 7 .neq 6 0] [1,2,7],
 C 7 (Q [.reg [o1 8 (.bld [.nil 1,.nil 1] []),st 2 2 8] [2],
 .ret]) (.skip)],
 .regF ((.both
 (OQ [ch 10 154 [],fa 11 1 0,l1 12 11,o1 13 (.lkp ⟨ğ,[.i .i64]⟩ (.nilfn) ğ (.t 10) (.t 12)),la 14 1 3,cv 15 13 [14],ca 16 155 [15],ca 17 153 [16],m 9 17,ex 18 9 0,ex 19 9 1,o1 3 (.alc [.nil 1,.nil 1]),st 2 3 18,m 4 19] .nil)
 ((.both
 (OQ [fa 11 1 0] (.both
 (OQ [ch 10 154 [],l1 12 11,o1 13 (.lkp ⟨ğ,[.i .i64]⟩ (.nilfn) ğ (.t 10) (.t 12)),la 14 1 3,cv 15 13 [14],ca 16 155 [15],ca 17 153 [16],m 9 17,ex 18 9 0,ex 19 9 1,o1 3 (.alc [.nil 1,.nil 1]),st 2 3 18,m 4 19] .nil)
 ((.both
 (OQ [l1 12 11] (.both
 (OQ [ch 10 154 [],o1 13 (.lkp ⟨ğ,[.i .i64]⟩ (.nilfn) ğ (.t 10) (.t 12)),la 14 1 3,cv 15 13 [14],ca 16 155 [15],ca 17 153 [16],m 9 17,ex 18 9 0,ex 19 9 1,o1 3 (.alc [.nil 1,.nil 1]),st 2 3 18,m 4 19] .nil)
 ((.both
 (OQ [la 14 1 3] (.both
 (OQ [ch 10 154 [],o1 13 (.lkp ⟨ğ,[.i .i64]⟩ (.nilfn) ğ (.t 10) (.t 12)),cv 15 13 [14],ca 16 155 [15],ca 17 153 [16],m 9 17,ex 18 9 0,ex 19 9 1,o1 3 (.alc [.nil 1,.nil 1]),st 2 3 18,m 4 19] .nil)
 (OQ [o1 3 (.alc [.nil 1,.nil 1]),ch 10 154 [],o1 13 (.lkp ⟨ğ,[.i .i64]⟩ (.nilfn) ğ (.t 10) (.t 12)),cv 15 13 [14],ca 16 155 [15],ca 17 153 [16],m 9 17,ex 18 9 0,ex 19 9 1,st 2 3 18,m 4 19] .nil)))
 (OQ [o1 3 (.alc [.nil 1,.nil 1])] (.both
 (OQ [ch 10 154 [],o1 13 (.lkp ⟨ğ,[.i .i64]⟩ (.nilfn) ğ (.t 10) (.t 12)),la 14 1 3,cv 15 13 [14],ca 16 155 [15],ca 17 153 [16],m 9 17,ex 18 9 0,ex 19 9 1,st 2 3 18,m 4 19] .nil)
 (OQ [la 14 1 3,ch 10 154 [],o1 13 (.lkp ⟨ğ,[.i .i64]⟩ (.nilfn) ğ (.t 10) (.t 12)),cv 15 13 [14],ca 16 155 [15],ca 17 153 [16],m 9 17,ex 18 9 0,ex 19 9 1,st 2 3 18,m 4 19] .nil)))))))
 ((.both
 (OQ [la 14 1 3] (.both
 (OQ [ch 10 154 [],l1 12 11,o1 13 (.lkp ⟨ğ,[.i .i64]⟩ (.nilfn) ğ (.t 10) (.t 12)),cv 15 13 [14],ca 16 155 [15],ca 17 153 [16],m 9 17,ex 18 9 0,ex 19 9 1,o1 3 (.alc [.nil 1,.nil 1]),st 2 3 18,m 4 19] .nil)
 ((.both
 (OQ [l1 12 11] (.both
 (OQ [ch 10 154 [],o1 13 (.lkp ⟨ğ,[.i .i64]⟩ (.nilfn) ğ (.t 10) (.t 12)),cv 15 13 [14],ca 16 155 [15],ca 17 153 [16],m 9 17,ex 18 9 0,ex 19 9 1,o1 3 (.alc [.nil 1,.nil 1]),st 2 3 18,m 4 19] .nil)
 (OQ [o1 3 (.alc [.nil 1,.nil 1]),ch 10 154 [],o1 13 (.lkp ⟨ğ,[.i .i64]⟩ (.nilfn) ğ (.t 10) (.t 12)),cv 15 13 [14],ca 16 155 [15],ca 17 153 [16],m 9 17,ex 18 9 0,ex 19 9 1,st 2 3 18,m 4 19] .nil)))
 (OQ [o1 3 (.alc [.nil 1,.nil 1])] (.both
 (OQ [ch 10 154 [],l1 12 11,o1 13 (.lkp ⟨ğ,[.i .i64]⟩ (.nilfn) ğ (.t 10) (.t 12)),cv 15 13 [14],ca 16 155 [15],ca 17 153 [16],m 9 17,ex 18 9 0,ex 19 9 1,st 2 3 18,m 4 19] .nil)
 (OQ [l1 12 11,ch 10 154 [],o1 13 (.lkp ⟨ğ,[.i .i64]⟩ (.nilfn) ğ (.t 10) (.t 12)),cv 15 13 [14],ca 16 155 [15],ca 17 153 [16],m 9 17,ex 18 9 0,ex 19 9 1,st 2 3 18,m 4 19] .nil)))))))
 (OQ [o1 3 (.alc [.nil 1,.nil 1])] (.both
 (OQ [ch 10 154 [],l1 12 11,o1 13 (.lkp ⟨ğ,[.i .i64]⟩ (.nilfn) ğ (.t 10) (.t 12)),la 14 1 3,cv 15 13 [14],ca 16 155 [15],ca 17 153 [16],m 9 17,ex 18 9 0,ex 19 9 1,st 2 3 18,m 4 19] .nil)
 ((.both
 (OQ [l1 12 11] (.both
 (OQ [ch 10 154 [],o1 13 (.lkp ⟨ğ,[.i .i64]⟩ (.nilfn) ğ (.t 10) (.t 12)),la 14 1 3,cv 15 13 [14],ca 16 155 [15],ca 17 153 [16],m 9 17,ex 18 9 0,ex 19 9 1,st 2 3 18,m 4 19] .nil)
 (OQ [la 14 1 3,ch 10 154 [],o1 13 (.lkp ⟨ğ,[.i .i64]⟩ (.nilfn) ğ (.t 10) (.t 12)),cv 15 13 [14],ca 16 155 [15],ca 17 153 [16],m 9 17,ex 18 9 0,ex 19 9 1,st 2 3 18,m 4 19] .nil)))
 (OQ [la 14 1 3] (.both
 (OQ [ch 10 154 [],l1 12 11,o1 13 (.lkp ⟨ğ,[.i .i64]⟩ (.nilfn) ğ (.t 10) (.t 12)),cv 15 13 [14],ca 16 155 [15],ca 17 153 [16],m 9 17,ex 18 9 0,ex 19 9 1,st 2 3 18,m 4 19] .nil)
 (OQ [l1 12 11,ch 10 154 [],o1 13 (.lkp ⟨ğ,[.i .i64]⟩ (.nilfn) ğ (.t 10) (.t 12)),cv 15 13 [14],ca 16 155 [15],ca 17 153 [16],m 9 17,ex 18 9 0,ex 19 9 1,st 2 3 18,m 4 19] .nil)))))))))))))
 ((.both
 (OQ [la 14 1 3] (.both
 (OQ [ch 10 154 [],fa 11 1 0,l1 12 11,o1 13 (.lkp ⟨ğ,[.i .i64]⟩ (.nilfn) ğ (.t 10) (.t 12)),cv 15 13 [14],ca 16 155 [15],ca 17 153 [16],m 9 17,ex 18 9 0,ex 19 9 1,o1 3 (.alc [.nil 1,.nil 1]),st 2 3 18,m 4 19] .nil)
 ((.both
 (OQ [fa 11 1 0] (.both
 (OQ [ch 10 154 [],l1 12 11,o1 13 (.lkp ⟨ğ,[.i .i64]⟩ (.nilfn) ğ (.t 10) (.t 12)),cv 15 13 [14],ca 16 155 [15],ca 17 153 [16],m 9 17,ex 18 9 0,ex 19 9 1,o1 3 (.alc [.nil 1,.nil 1]),st 2 3 18,m 4 19] .nil)
 ((.both
 (OQ [l1 12 11] (.both
 (OQ [ch 10 154 [],o1 13 (.lkp ⟨ğ,[.i .i64]⟩ (.nilfn) ğ (.t 10) (.t 12)),cv 15 13 [14],ca 16 155 [15],ca 17 153 [16],m 9 17,ex 18 9 0,ex 19 9 1,o1 3 (.alc [.nil 1,.nil 1]),st 2 3 18,m 4 19] .nil)
 (OQ [o1 3 (.alc [.nil 1,.nil 1]),ch 10 154 [],o1 13 (.lkp ⟨ğ,[.i .i64]⟩ (.nilfn) ğ (.t 10) (.t 12)),cv 15 13 [14],ca 16 155 [15],ca 17 153 [16],m 9 17,ex 18 9 0,ex 19 9 1,st 2 3 18,m 4 19] .nil)))
 (OQ [o1 3 (.alc [.nil 1,.nil 1])] (.both
 (OQ [ch 10 154 [],l1 12 11,o1 13 (.lkp ⟨ğ,[.i .i64]⟩ (.nilfn) ğ (.t 10) (.t 12)),cv 15 13 [14],ca 16 155 [15],ca 17 153 [16],m 9 17,ex 18 9 0,ex 19 9 1,st 2 3 18,m 4 19] .nil)
 (OQ [l1 12 11,ch 10 154 [],o1 13 (.lkp ⟨ğ,[.i .i64]⟩ (.nilfn) ğ (.t 10) (.t 12)),cv 15 13 [14],ca 16 155 [15],ca 17 153 [16],m 9 17,ex 18 9 0,ex 19 9 1,st 2 3 18,m 4 19] .nil)))))))
 (OQ [o1 3 (.alc [.nil 1,.nil 1])] (.both
 (OQ [ch 10 154 [],fa 11 1 0,l1 12 11,o1 13 (.lkp ⟨ğ,[.i .i64]⟩ (.nilfn) ğ (.t 10) (.t 12)),cv 15 13 [14],ca 16 155 [15],ca 17 153 [16],m 9 17,ex 18 9 0,ex 19 9 1,st 2 3 18,m 4 19] .nil)
 (OQ [fa 11 1 0] (.both
 (OQ [ch 10 154 [],l1 12 11,o1 13 (.lkp ⟨ğ,[.i .i64]⟩ (.nilfn) ğ (.t 10) (.t 12)),cv 15 13 [14],ca 16 155 [15],ca 17 153 [16],m 9 17,ex 18 9 0,ex 19 9 1,st 2 3 18,m 4 19] .nil)
 (OQ [l1 12 11,ch 10 154 [],o1 13 (.lkp ⟨ğ,[.i .i64]⟩ (.nilfn) ğ (.t 10) (.t 12)),cv 15 13 [14],ca 16 155 [15],ca 17 153 [16],m 9 17,ex 18 9 0,ex 19 9 1,st 2 3 18,m 4 19] .nil)))))))))
 (OQ [o1 3 (.alc [.nil 1,.nil 1])] (.both
 (OQ [ch 10 154 [],fa 11 1 0,l1 12 11,o1 13 (.lkp ⟨ğ,[.i .i64]⟩ (.nilfn) ğ (.t 10) (.t 12)),la 14 1 3,cv 15 13 [14],ca 16 155 [15],ca 17 153 [16],m 9 17,ex 18 9 0,ex 19 9 1,st 2 3 18,m 4 19] .nil)
 ((.both
 (OQ [fa 11 1 0] (.both
 (OQ [ch 10 154 [],l1 12 11,o1 13 (.lkp ⟨ğ,[.i .i64]⟩ (.nilfn) ğ (.t 10) (.t 12)),la 14 1 3,cv 15 13 [14],ca 16 155 [15],ca 17 153 [16],m 9 17,ex 18 9 0,ex 19 9 1,st 2 3 18,m 4 19] .nil)
 ((.both
 (OQ [l1 12 11] (.both
 (OQ [ch 10 154 [],o1 13 (.lkp ⟨ğ,[.i .i64]⟩ (.nilfn) ğ (.t 10) (.t 12)),la 14 1 3,cv 15 13 [14],ca 16 155 [15],ca 17 153 [16],m 9 17,ex 18 9 0,ex 19 9 1,st 2 3 18,m 4 19] .nil)
 (OQ [la 14 1 3,ch 10 154 [],o1 13 (.lkp ⟨ğ,[.i .i64]⟩ (.nilfn) ğ (.t 10) (.t 12)),cv 15 13 [14],ca 16 155 [15],ca 17 153 [16],m 9 17,ex 18 9 0,ex 19 9 1,st 2 3 18,m 4 19] .nil)))
 (OQ [la 14 1 3] (.both
 (OQ [ch 10 154 [],l1 12 11,o1 13 (.lkp ⟨ğ,[.i .i64]⟩ (.nilfn) ğ (.t 10) (.t 12)),cv 15 13 [14],ca 16 155 [15],ca 17 153 [16],m 9 17,ex 18 9 0,ex 19 9 1,st 2 3 18,m 4 19] .nil)
 (OQ [l1 12 11,ch 10 154 [],o1 13 (.lkp ⟨ğ,[.i .i64]⟩ (.nilfn) ğ (.t 10) (.t 12)),cv 15 13 [14],ca 16 155 [15],ca 17 153 [16],m 9 17,ex 18 9 0,ex 19 9 1,st 2 3 18,m 4 19] .nil)))))))
 (OQ [la 14 1 3] (.both
 (OQ [ch 10 154 [],fa 11 1 0,l1 12 11,o1 13 (.lkp ⟨ğ,[.i .i64]⟩ (.nilfn) ğ (.t 10) (.t 12)),cv 15 13 [14],ca 16 155 [15],ca 17 153 [16],m 9 17,ex 18 9 0,ex 19 9 1,st 2 3 18,m 4 19] .nil)
 (OQ [fa 11 1 0] (.both
 (OQ [ch 10 154 [],l1 12 11,o1 13 (.lkp ⟨ğ,[.i .i64]⟩ (.nilfn) ğ (.t 10) (.t 12)),cv 15 13 [14],ca 16 155 [15],ca 17 153 [16],m 9 17,ex 18 9 0,ex 19 9 1,st 2 3 18,m 4 19] .nil)
 (OQ [l1 12 11,ch 10 154 [],o1 13 (.lkp ⟨ğ,[.i .i64]⟩ (.nilfn) ğ (.t 10) (.t 12)),cv 15 13 [14],ca 16 155 [15],ca 17 153 [16],m 9 17,ex 18 9 0,ex 19 9 1,st 2 3 18,m 4 19] .nil))))))))))))))) [2,3],
 .reg [la 20 3 2,st 2 2 20] [2],
 .ret]
theorem V4:yiY Tryz.f114 114 [] [154] (ysK GV [[1,0,0,2,7,0,31,63,127,255,511,511,0,3071,8191]]).1 1 GV [.c 2 2 true]:=⟨Tryz.func114,by kernel_rfl⟩
abbrev ML:Nat:=154
def Nz:=ymE Tryz.func154 [] [9999999] 0
abbrev Yx:Nat:=152
def YR:=ymI Tryz.func152 1
abbrev RP:Nat:=179
def SJ:=ymI Tryz.func179 2
abbrev zj:Nat:=180
def NA:=ymI Tryz.func180 1
abbrev ue:Nat:=181
def Hw:=ymI Tryz.func181 1
abbrev JA:Nat:=182
def J8:=ymI Tryz.func182 1
abbrev MJ:Nat:=227
def Ny:=ymI Tryz.func227 1
abbrev Hg:Nat:=229
def Hu:=ymI Tryz.func229 2
abbrev mF:Nat:=193
def Hv:=ymI Tryz.func193 1
abbrev kS:Nat:=194
def EM:=ymI Tryz.func194 1
abbrev iM:Nat:=195
def A3:=ymI Tryz.func195 1 [[0,0,0,0,5,15,31,63,127,255],[0,1,2,3,4,5,6,7,8]]
abbrev jC:Nat:=196
def CK:=ymI Tryz.func196 1
abbrev RQ:Nat:=112
def DQ:AC:=
 Q [.reg [bx 2 0,bx 3 1,o1 4 (.alc [.str [],.str [],.str [],.str []])] [2,3,4],
 .regF (OQ [la 15 2 3,ca 16 114 [15],la 17 3 3,ca 18 114 [17]] (.both
 (OQ [o1 5 (.alc [.nil 1,.nil 1]),o1 6 (.alc [.nil 1,.nil 1]),st 2 5 16,st 2 6 18] .nil)
 (OQ [o1 6 (.alc [.nil 1,.nil 1]),o1 5 (.alc [.nil 1,.nil 1]),st 2 5 16,st 2 6 18] .nil))) [4,5,6],
 .regF (OQ [la 19 5 2,ca 20 115 [19],la 21 6 2,ca 22 115 [21]] (.both
 (OQ [o1 7 (.alc [.nil 1,.nil 1]),o1 8 (.alc [.nil 1,.nil 1]),st 2 7 20,st 2 8 22] .nil)
 (OQ [o1 8 (.alc [.nil 1,.nil 1]),o1 7 (.alc [.nil 1,.nil 1]),st 2 7 20,st 2 8 22] .nil))) [4,5,6,7,8],
 .reg [la 23 5 2,la 24 6 2,o1 25 (.bld [.nil 1,.nil 1,.nil 1,.nil 1] [(0,2,(.t 23)),(2,2,(.t 24))]),la 26 5 2,la 27 8 2,o1 28 (.bld [.nil 1,.nil 1,.nil 1,.nil 1] [(0,2,(.t 26)),(2,2,(.t 27))]),la 29 7 2,la 30 6 2,o1 31 (.bld [.nil 1,.nil 1,.nil 1,.nil 1] [(0,2,(.t 29)),(2,2,(.t 30))]),la 32 7 2,la 33 8 2,o1 34 (.bld [.nil 1,.nil 1,.nil 1,.nil 1] [(0,2,(.t 32)),(2,2,(.t 33))]),o1 35 (.bld (zs 16 (.nil 1)) [(0,4,(.t 25)),(4,4,(.t 28)),(8,4,(.t 31)),(12,4,(.t 34))]),o1 9 (.alc (zs 16 (.nil 1))),st 16 9 35] [4,9],
 .reg [o1 10 (.alc [.str [],.str [],.str [],.str []])] [4,9,10],
 Q [.reg [la 36 9 16,mi 37 0] [4,10,36,37],
 .block 0 (.loop [4,10,36,37] (Q [.reg [bi 38 .lss 37 4] [4,10,36,37,38],
 C 38 (.skip) (.exit 0),
 .block 1 (Q [.reg [m 39 37,o1 40 (.ixa (.t 36) (.t 37) 4 4 true),o1 12 (.alc [.nil 1,.nil 1,.nil 1,.nil 1]),m 11 39,st 4 12 40] [4,10,11,12,36,37],
 .reg [o1 42 (.iaa (.t 12) (.v (.int .i64 0)) 2 2),la 43 42 2,o1 44 (.iaa (.t 12) (.v (.int .i64 1)) 2 2),la 45 44 2,ca 46 116 [43,45],m 41 46,ex 47 41 0,ex 48 41 1,m 13 47,m 14 48] [4,10,11,13,14,36,37],
 .reg [m 49 14] [4,10,11,13,36,37,49],
 C 49 (.reg [m 50 11,m 51 13,o1 52 (.bin .add (.v (.str [43])) (.t 51)),o1 53 (.iaa (.t 10) (.t 50) 4 1),st 1 53 52] [4,10,36,37]) (.skip)]),
 .reg [bi 54 .add 37 1,m 37 54] [4,10,36,37]]))],
 .reg [la 55 10 4,st 4 4 55] [4],
 .ret]
theorem SK:yiX Tryz.f112 112 (ysK DQ [[1,0,1,0,7,0,0,63,127],[1,0,1,0,7,0,0,63,127]]).1 2 DQ [.c 4 4 true]:=⟨Tryz.func112,by kernel_rfl⟩
end Go.Abs
