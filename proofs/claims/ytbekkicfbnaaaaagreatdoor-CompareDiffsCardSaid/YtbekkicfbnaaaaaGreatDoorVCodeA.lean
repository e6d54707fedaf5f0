/- The images of some of the program's functions, as the kernel reckons them. No condition. -/
import Derived.Test.YtbekkicfbnaaaaaGreatDoorVCodeD
set_option linter.all false set_option maxRecDepth 100000 open Bool renaming false→ğ
namespace Go.Abs
open Go.Proofs
abbrev Mv:Nat:=60
def Nj:=ymI Tryz.func60 1
abbrev My:Nat:=40
def Nl:=ymI Tryz.func40 1
abbrev Mj:Nat:=17
def M8:=ymI Tryz.func17 1
abbrev Ry:Nat:=18
def Sq:=ymI Tryz.func18 2
abbrev Ju:Nat:=98
def JZ:=ymI Tryz.func98 1
abbrev Ml:Nat:=99
def Na:=ymI Tryz.func99 1
abbrev Mk:Nat:=61
def M9:=ymI Tryz.func61 2 [[0,0,0,3,7,0,0,48,112,255],[0,1,2,3,4,5,6,7,8]]
abbrev Rz:Nat:=41
def Sr:=ymI Tryz.func41 1
abbrev Rp:Nat:=42
def Sj:=ymI Tryz.func42 1
abbrev Vm:Nat:=21
def VR:=ymI Tryz.func21 2
abbrev Mi:Nat:=19
def M7:=ymI Tryz.func19 1 [[0,0,0,3,7,15,0,0,96,224,480,992,0,0,6144,14336,30720,65535,0,262143],[0,1,2,3,4,5,6,7,8,9,10,11,12,13,14,15,16,17,18]]
abbrev RH:Nat:=62
def SC:=ymI Tryz.func62 1
abbrev Vq:Nat:=63
def VX:=ymI Tryz.func63 1
abbrev Jx:Nat:=64
def J4:=ymI Tryz.func64 2
abbrev Rq:Nat:=65
def Sk:=ymI Tryz.func65 1 [[0,0,0,3,0,0,24,56,127,255],[0,1,2,3,4,5,6,7,8]]
abbrev Rr:Nat:=43
def Sl:=ymI Tryz.func43 3 [[0,0,0,0,6,14,31,63,127,127,0,767,2047],[0,1,2,3,4,5,6,7,8,9,10,11]]
abbrev G9:Nat:=20
def Ho:=ymI Tryz.func20 3 [[0,0,1,0,0,12,28,60,127,255],[0,2,3,4,5,6,1,7,8]]
abbrev Ru:Nat:=7
def So:=ymI Tryz.func7 1 [[0,0,1,0,0,8,0,56,120,248,504,1020,2044,4095,8191,16383],[0,1,2,3,4,5,6,7,8,9,10,11,12,13,14],[0,0,1,0,0,0,16,0,112,240,496,0,2040,4095,8191,16383],[0,1,2,3,4,5,6,7,8,9,10,11,12,13,14],[0,0,1,0,4,0,28,60,127,255],[0,1,2,3,4,5,6,7,8],[0,0,1,0,4,0,28,60,124,255,511,1023],[0,1,2,3,4,5,6,7,8,9,10]]
abbrev lR:Nat:=176
def lZ:=ymI Tryz.func176 2
abbrev jx:Nat:=178
def jN:=ymI Tryz.func178 2
abbrev jE:Nat:=130
def jR:=ymI Tryz.func130 2
abbrev yD:Nat:=95
def yK:=ymI Tryz.func95 2
abbrev JB:Nat:=181
def J9:=ymI Tryz.func181 1
abbrev uc:Nat:=215
def Hm:=ymE Tryz.func215 [] [9999999] 1
abbrev Me:Nat:=214
def MV:=ymI Tryz.func214 1
abbrev Js:Nat:=196
def YN:=ymE Tryz.func196 [] [9999999] 1
abbrev Cl:Nat:=198
def Sf:=ymE Tryz.func198 [] [9999999] 1
abbrev Gd:Nat:=91
def GV:AC:=
 Q [.reg [bx 1 0,o1 2 (.alc [.nil 1,.nil 1])] [1,2],
 Q [.reg [la 5 1 3,ca 6 121 [5],bi 7 .neq 6 0] [1,2,7],
 C 7 (Q [.reg [o1 8 (.bld [.nil 1,.nil 1] []),st 2 2 8] [2],
 .ret]) (.skip)],
 .regF ((.both
 (OQ [ch 10 123 [],fa 11 1 0,l1 12 11,o1 13 (.lkp ⟨ğ,[.i .i64]⟩ (.nilfn) ğ (.t 10) (.t 12)),la 14 1 3,cv 15 13 [14],ca 16 124 [15],ca 17 122 [16],m 9 17,ex 18 9 0,ex 19 9 1,o1 3 (.alc [.nil 1,.nil 1]),st 2 3 18,m 4 19] .nil)
 ((.both
 (OQ [fa 11 1 0] (.both
 (OQ [ch 10 123 [],l1 12 11,o1 13 (.lkp ⟨ğ,[.i .i64]⟩ (.nilfn) ğ (.t 10) (.t 12)),la 14 1 3,cv 15 13 [14],ca 16 124 [15],ca 17 122 [16],m 9 17,ex 18 9 0,ex 19 9 1,o1 3 (.alc [.nil 1,.nil 1]),st 2 3 18,m 4 19] .nil)
 ((.both
 (OQ [l1 12 11] (.both
 (OQ [ch 10 123 [],o1 13 (.lkp ⟨ğ,[.i .i64]⟩ (.nilfn) ğ (.t 10) (.t 12)),la 14 1 3,cv 15 13 [14],ca 16 124 [15],ca 17 122 [16],m 9 17,ex 18 9 0,ex 19 9 1,o1 3 (.alc [.nil 1,.nil 1]),st 2 3 18,m 4 19] .nil)
 ((.both
 (OQ [la 14 1 3] (.both
 (OQ [ch 10 123 [],o1 13 (.lkp ⟨ğ,[.i .i64]⟩ (.nilfn) ğ (.t 10) (.t 12)),cv 15 13 [14],ca 16 124 [15],ca 17 122 [16],m 9 17,ex 18 9 0,ex 19 9 1,o1 3 (.alc [.nil 1,.nil 1]),st 2 3 18,m 4 19] .nil)
 (OQ [o1 3 (.alc [.nil 1,.nil 1]),ch 10 123 [],o1 13 (.lkp ⟨ğ,[.i .i64]⟩ (.nilfn) ğ (.t 10) (.t 12)),cv 15 13 [14],ca 16 124 [15],ca 17 122 [16],m 9 17,ex 18 9 0,ex 19 9 1,st 2 3 18,m 4 19] .nil)))
 (OQ [o1 3 (.alc [.nil 1,.nil 1])] (.both
 (OQ [ch 10 123 [],o1 13 (.lkp ⟨ğ,[.i .i64]⟩ (.nilfn) ğ (.t 10) (.t 12)),la 14 1 3,cv 15 13 [14],ca 16 124 [15],ca 17 122 [16],m 9 17,ex 18 9 0,ex 19 9 1,st 2 3 18,m 4 19] .nil)
 (OQ [la 14 1 3,ch 10 123 [],o1 13 (.lkp ⟨ğ,[.i .i64]⟩ (.nilfn) ğ (.t 10) (.t 12)),cv 15 13 [14],ca 16 124 [15],ca 17 122 [16],m 9 17,ex 18 9 0,ex 19 9 1,st 2 3 18,m 4 19] .nil)))))))
 ((.both
 (OQ [la 14 1 3] (.both
 (OQ [ch 10 123 [],l1 12 11,o1 13 (.lkp ⟨ğ,[.i .i64]⟩ (.nilfn) ğ (.t 10) (.t 12)),cv 15 13 [14],ca 16 124 [15],ca 17 122 [16],m 9 17,ex 18 9 0,ex 19 9 1,o1 3 (.alc [.nil 1,.nil 1]),st 2 3 18,m 4 19] .nil)
 ((.both
 (OQ [l1 12 11] (.both
 (OQ [ch 10 123 [],o1 13 (.lkp ⟨ğ,[.i .i64]⟩ (.nilfn) ğ (.t 10) (.t 12)),cv 15 13 [14],ca 16 124 [15],ca 17 122 [16],m 9 17,ex 18 9 0,ex 19 9 1,o1 3 (.alc [.nil 1,.nil 1]),st 2 3 18,m 4 19] .nil)
 (OQ [o1 3 (.alc [.nil 1,.nil 1]),ch 10 123 [],o1 13 (.lkp ⟨ğ,[.i .i64]⟩ (.nilfn) ğ (.t 10) (.t 12)),cv 15 13 [14],ca 16 124 [15],ca 17 122 [16],m 9 17,ex 18 9 0,ex 19 9 1,st 2 3 18,m 4 19] .nil)))
 (OQ [o1 3 (.alc [.nil 1,.nil 1])] (.both
 (OQ [ch 10 123 [],l1 12 11,o1 13 (.lkp ⟨ğ,[.i .i64]⟩ (.nilfn) ğ (.t 10) (.t 12)),cv 15 13 [14],ca 16 124 [15],ca 17 122 [16],m 9 17,ex 18 9 0,ex 19 9 1,st 2 3 18,m 4 19] .nil)
 (OQ [l1 12 11,ch 10 123 [],o1 13 (.lkp ⟨ğ,[.i .i64]⟩ (.nilfn) ğ (.t 10) (.t 12)),cv 15 13 [14],ca 16 124 [15],ca 17 122 [16],m 9 17,ex 18 9 0,ex 19 9 1,st 2 3 18,m 4 19] .nil)))))))
 (OQ [o1 3 (.alc [.nil 1,.nil 1])] (.both
 (OQ [ch 10 123 [],l1 12 11,o1 13 (.lkp ⟨ğ,[.i .i64]⟩ (.nilfn) ğ (.t 10) (.t 12)),la 14 1 3,cv 15 13 [14],ca 16 124 [15],ca 17 122 [16],m 9 17,ex 18 9 0,ex 19 9 1,st 2 3 18,m 4 19] .nil)
 ((.both
 (OQ [l1 12 11] (.both
 (OQ [ch 10 123 [],o1 13 (.lkp ⟨ğ,[.i .i64]⟩ (.nilfn) ğ (.t 10) (.t 12)),la 14 1 3,cv 15 13 [14],ca 16 124 [15],ca 17 122 [16],m 9 17,ex 18 9 0,ex 19 9 1,st 2 3 18,m 4 19] .nil)
 (OQ [la 14 1 3,ch 10 123 [],o1 13 (.lkp ⟨ğ,[.i .i64]⟩ (.nilfn) ğ (.t 10) (.t 12)),cv 15 13 [14],ca 16 124 [15],ca 17 122 [16],m 9 17,ex 18 9 0,ex 19 9 1,st 2 3 18,m 4 19] .nil)))
 (OQ [la 14 1 3] (.both
 (OQ [ch 10 123 [],l1 12 11,o1 13 (.lkp ⟨ğ,[.i .i64]⟩ (.nilfn) ğ (.t 10) (.t 12)),cv 15 13 [14],ca 16 124 [15],ca 17 122 [16],m 9 17,ex 18 9 0,ex 19 9 1,st 2 3 18,m 4 19] .nil)
 (OQ [l1 12 11,ch 10 123 [],o1 13 (.lkp ⟨ğ,[.i .i64]⟩ (.nilfn) ğ (.t 10) (.t 12)),cv 15 13 [14],ca 16 124 [15],ca 17 122 [16],m 9 17,ex 18 9 0,ex 19 9 1,st 2 3 18,m 4 19] .nil)))))))))))))
 ((.both
 (OQ [la 14 1 3] (.both
 (OQ [ch 10 123 [],fa 11 1 0,l1 12 11,o1 13 (.lkp ⟨ğ,[.i .i64]⟩ (.nilfn) ğ (.t 10) (.t 12)),cv 15 13 [14],ca 16 124 [15],ca 17 122 [16],m 9 17,ex 18 9 0,ex 19 9 1,o1 3 (.alc [.nil 1,.nil 1]),st 2 3 18,m 4 19] .nil)
 ((.both
 (OQ [fa 11 1 0] (.both
 (OQ [ch 10 123 [],l1 12 11,o1 13 (.lkp ⟨ğ,[.i .i64]⟩ (.nilfn) ğ (.t 10) (.t 12)),cv 15 13 [14],ca 16 124 [15],ca 17 122 [16],m 9 17,ex 18 9 0,ex 19 9 1,o1 3 (.alc [.nil 1,.nil 1]),st 2 3 18,m 4 19] .nil)
 ((.both
 (OQ [l1 12 11] (.both
 (OQ [ch 10 123 [],o1 13 (.lkp ⟨ğ,[.i .i64]⟩ (.nilfn) ğ (.t 10) (.t 12)),cv 15 13 [14],ca 16 124 [15],ca 17 122 [16],m 9 17,ex 18 9 0,ex 19 9 1,o1 3 (.alc [.nil 1,.nil 1]),st 2 3 18,m 4 19] .nil)
 (OQ [o1 3 (.alc [.nil 1,.nil 1]),ch 10 123 [],o1 13 (.lkp ⟨ğ,[.i .i64]⟩ (.nilfn) ğ (.t 10) (.t 12)),cv 15 13 [14],ca 16 124 [15],ca 17 122 [16],m 9 17,ex 18 9 0,ex 19 9 1,st 2 3 18,m 4 19] .nil)))
 (OQ [o1 3 (.alc [.nil 1,.nil 1])] (.both
 (OQ [ch 10 123 [],l1 12 11,o1 13 (.lkp ⟨ğ,[.i .i64]⟩ (.nilfn) ğ (.t 10) (.t 12)),cv 15 13 [14],ca 16 124 [15],ca 17 122 [16],m 9 17,ex 18 9 0,ex 19 9 1,st 2 3 18,m 4 19] .nil)
 (OQ [l1 12 11,ch 10 123 [],o1 13 (.lkp ⟨ğ,[.i .i64]⟩ (.nilfn) ğ (.t 10) (.t 12)),cv 15 13 [14],ca 16 124 [15],ca 17 122 [16],m 9 17,ex 18 9 0,ex 19 9 1,st 2 3 18,m 4 19] .nil)))))))
 (OQ [o1 3 (.alc [.nil 1,.nil 1])] (.both
 (OQ [ch 10 123 [],fa 11 1 0,l1 12 11,o1 13 (.lkp ⟨ğ,[.i .i64]⟩ (.nilfn) ğ (.t 10) (.t 12)),cv 15 13 [14],ca 16 124 [15],ca 17 122 [16],m 9 17,ex 18 9 0,ex 19 9 1,st 2 3 18,m 4 19] .nil)
 (OQ [fa 11 1 0] (.both
 (OQ [ch 10 123 [],l1 12 11,o1 13 (.lkp ⟨ğ,[.i .i64]⟩ (.nilfn) ğ (.t 10) (.t 12)),cv 15 13 [14],ca 16 124 [15],ca 17 122 [16],m 9 17,ex 18 9 0,ex 19 9 1,st 2 3 18,m 4 19] .nil)
 (OQ [l1 12 11,ch 10 123 [],o1 13 (.lkp ⟨ğ,[.i .i64]⟩ (.nilfn) ğ (.t 10) (.t 12)),cv 15 13 [14],ca 16 124 [15],ca 17 122 [16],m 9 17,ex 18 9 0,ex 19 9 1,st 2 3 18,m 4 19] .nil)))))))))
 (OQ [o1 3 (.alc [.nil 1,.nil 1])] (.both
 (OQ [ch 10 123 [],fa 11 1 0,l1 12 11,o1 13 (.lkp ⟨ğ,[.i .i64]⟩ (.nilfn) ğ (.t 10) (.t 12)),la 14 1 3,cv 15 13 [14],ca 16 124 [15],ca 17 122 [16],m 9 17,ex 18 9 0,ex 19 9 1,st 2 3 18,m 4 19] .nil)
 ((.both
 (OQ [fa 11 1 0] (.both
 (OQ [ch 10 123 [],l1 12 11,o1 13 (.lkp ⟨ğ,[.i .i64]⟩ (.nilfn) ğ (.t 10) (.t 12)),la 14 1 3,cv 15 13 [14],ca 16 124 [15],ca 17 122 [16],m 9 17,ex 18 9 0,ex 19 9 1,st 2 3 18,m 4 19] .nil)
 ((.both
 (OQ [l1 12 11] (.both
 (OQ [ch 10 123 [],o1 13 (.lkp ⟨ğ,[.i .i64]⟩ (.nilfn) ğ (.t 10) (.t 12)),la 14 1 3,cv 15 13 [14],ca 16 124 [15],ca 17 122 [16],m 9 17,ex 18 9 0,ex 19 9 1,st 2 3 18,m 4 19] .nil)
 (OQ [la 14 1 3,ch 10 123 [],o1 13 (.lkp ⟨ğ,[.i .i64]⟩ (.nilfn) ğ (.t 10) (.t 12)),cv 15 13 [14],ca 16 124 [15],ca 17 122 [16],m 9 17,ex 18 9 0,ex 19 9 1,st 2 3 18,m 4 19] .nil)))
 (OQ [la 14 1 3] (.both
 (OQ [ch 10 123 [],l1 12 11,o1 13 (.lkp ⟨ğ,[.i .i64]⟩ (.nilfn) ğ (.t 10) (.t 12)),cv 15 13 [14],ca 16 124 [15],ca 17 122 [16],m 9 17,ex 18 9 0,ex 19 9 1,st 2 3 18,m 4 19] .nil)
 (OQ [l1 12 11,ch 10 123 [],o1 13 (.lkp ⟨ğ,[.i .i64]⟩ (.nilfn) ğ (.t 10) (.t 12)),cv 15 13 [14],ca 16 124 [15],ca 17 122 [16],m 9 17,ex 18 9 0,ex 19 9 1,st 2 3 18,m 4 19] .nil)))))))
 (OQ [la 14 1 3] (.both
 (OQ [ch 10 123 [],fa 11 1 0,l1 12 11,o1 13 (.lkp ⟨ğ,[.i .i64]⟩ (.nilfn) ğ (.t 10) (.t 12)),cv 15 13 [14],ca 16 124 [15],ca 17 122 [16],m 9 17,ex 18 9 0,ex 19 9 1,st 2 3 18,m 4 19] .nil)
 (OQ [fa 11 1 0] (.both
 (OQ [ch 10 123 [],l1 12 11,o1 13 (.lkp ⟨ğ,[.i .i64]⟩ (.nilfn) ğ (.t 10) (.t 12)),cv 15 13 [14],ca 16 124 [15],ca 17 122 [16],m 9 17,ex 18 9 0,ex 19 9 1,st 2 3 18,m 4 19] .nil)
 (OQ [l1 12 11,ch 10 123 [],o1 13 (.lkp ⟨ğ,[.i .i64]⟩ (.nilfn) ğ (.t 10) (.t 12)),cv 15 13 [14],ca 16 124 [15],ca 17 122 [16],m 9 17,ex 18 9 0,ex 19 9 1,st 2 3 18,m 4 19] .nil))))))))))))))) [2,3],
 .reg [la 20 3 2,st 2 2 20] [2],
 .ret]
theorem V4:yiY Tryz.f91 91 [] [123] (ysK GV [[1,0,0,2,7,0,31,63,127,255,511,511,0,3071,8191]]).1 1 GV [.c 2 2 true]:=⟨Tryz.func91,by kernel_rfl⟩
abbrev ML:Nat:=123
def Nz:=ymE Tryz.func123 [] [9999999] 0
abbrev Yx:Nat:=121
def YR:=ymI Tryz.func121 1
abbrev RP:Nat:=149
def SJ:=ymI Tryz.func149 2
abbrev zj:Nat:=150
def NA:=ymI Tryz.func150 1
abbrev ue:Nat:=151
def Hw:=ymI Tryz.func151 1
abbrev JA:Nat:=152
def J8:=ymI Tryz.func152 1
abbrev MJ:Nat:=195
def Ny:=ymI Tryz.func195 1
abbrev Hg:Nat:=197
def Hu:=ymI Tryz.func197 2
abbrev mF:Nat:=163
def Hv:=ymI Tryz.func163 1
abbrev kS:Nat:=164
def EM:=ymI Tryz.func164 1
abbrev iM:Nat:=165
def A3:=ymI Tryz.func165 1 [[0,0,0,0,5,15,31,63,127,255],[0,1,2,3,4,5,6,7,8]]
abbrev jC:Nat:=166
def CK:=ymI Tryz.func166 1
abbrev RQ:Nat:=89
def DQ:AC:=
 Q [.reg [bx 2 0,bx 3 1,o1 4 (.alc [.str [],.str [],.str [],.str []])] [2,3,4],
 .regF (OQ [la 15 2 3,ca 16 91 [15],la 17 3 3,ca 18 91 [17]] (.both
 (OQ [o1 5 (.alc [.nil 1,.nil 1]),o1 6 (.alc [.nil 1,.nil 1]),st 2 5 16,st 2 6 18] .nil)
 (OQ [o1 6 (.alc [.nil 1,.nil 1]),o1 5 (.alc [.nil 1,.nil 1]),st 2 5 16,st 2 6 18] .nil))) [4,5,6],
 .regF (OQ [la 19 5 2,ca 20 92 [19],la 21 6 2,ca 22 92 [21]] (.both
 (OQ [o1 7 (.alc [.nil 1,.nil 1]),o1 8 (.alc [.nil 1,.nil 1]),st 2 7 20,st 2 8 22] .nil)
 (OQ [o1 8 (.alc [.nil 1,.nil 1]),o1 7 (.alc [.nil 1,.nil 1]),st 2 7 20,st 2 8 22] .nil))) [4,5,6,7,8],
 .reg [la 23 5 2,la 24 6 2,o1 25 (.bld [.nil 1,.nil 1,.nil 1,.nil 1] [(0,2,(.t 23)),(2,2,(.t 24))]),la 26 5 2,la 27 8 2,o1 28 (.bld [.nil 1,.nil 1,.nil 1,.nil 1] [(0,2,(.t 26)),(2,2,(.t 27))]),la 29 7 2,la 30 6 2,o1 31 (.bld [.nil 1,.nil 1,.nil 1,.nil 1] [(0,2,(.t 29)),(2,2,(.t 30))]),la 32 7 2,la 33 8 2,o1 34 (.bld [.nil 1,.nil 1,.nil 1,.nil 1] [(0,2,(.t 32)),(2,2,(.t 33))]),o1 35 (.bld (zs 16 (.nil 1)) [(0,4,(.t 25)),(4,4,(.t 28)),(8,4,(.t 31)),(12,4,(.t 34))]),o1 9 (.alc (zs 16 (.nil 1))),st 16 9 35] [4,9],
 .reg [o1 10 (.alc [.str [],.str [],.str [],.str []])] [4,9,10],
 Q [.reg [la 36 9 16,mi 37 0] [4,10,36,37],
 .block 0 (.loop [4,10,36,37] (Q [.reg [bi 38 .lss 37 4] [4,10,36,37,38],
 C 38 (.skip) (.exit 0),
 .block 1 (Q [.reg [m 39 37,o1 40 (.ixa (.t 36) (.t 37) 4 4 true),o1 12 (.alc [.nil 1,.nil 1,.nil 1,.nil 1]),m 11 39,st 4 12 40] [4,10,11,12,36,37],
 .reg [o1 42 (.iaa (.t 12) (.v (.int .i64 0)) 2 2),la 43 42 2,o1 44 (.iaa (.t 12) (.v (.int .i64 1)) 2 2),la 45 44 2,ca 46 93 [43,45],m 41 46,ex 47 41 0,ex 48 41 1,m 13 47,m 14 48] [4,10,11,13,14,36,37],
 .reg [m 49 14] [4,10,11,13,36,37,49],
 C 49 (.reg [m 50 11,m 51 13,o1 52 (.bin .add (.v (.str [43])) (.t 51)),o1 53 (.iaa (.t 10) (.t 50) 4 1),st 1 53 52] [4,10,36,37]) (.skip)]),
 .reg [bi 54 .add 37 1,m 37 54] [4,10,36,37]]))],
 .reg [la 55 10 4,st 4 4 55] [4],
 .ret]
theorem SK:yiX Tryz.f89 89 (ysK DQ [[1,0,1,0,7,0,0,63,127],[1,0,1,0,7,0,0,63,127]]).1 2 DQ [.c 4 4 true]:=⟨Tryz.func89,by kernel_rfl⟩
end Go.Abs
