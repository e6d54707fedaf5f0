/- The images of some of the program's functions, as the kernel reckons them. No condition. -/
import Derived.Test.YtbekkicfbnaaaaaGreatDoorVAbs14
import Derived.Test.YtbekkicfbnaaaaaGreatDoorProg
import Derived.KernelRfl
set_option linter.all false open List renaming replicate→zAa
set_option maxRecDepth 100000 open Go.Proofs.Tryz renaming prog→ŷ
namespace Go.Abs
open Go.Proofs
abbrev zs(n:Nat)(v:V):List V:=zAa n v
abbrev kz(n:Nat)(k:KK):List KK:=zAa n k
abbrev ap:Nat:=3
abbrev aH:Nat:=4
abbrev c7:Nat:=5
abbrev aA:Nat:=9
abbrev rA:Nat:=21
abbrev iJ:Nat:=22
abbrev mC:Nat:=23
abbrev aS:Nat:=25
abbrev jp:Nat:=61
abbrev bN:Nat:=30
abbrev aN:Nat:=54
abbrev vp:Nat:=87
abbrev sC:Nat:=40
abbrev cR:Nat:=42
abbrev sE:Nat:=107
abbrev aL:Nat:=109
abbrev bG:Nat:=123
abbrev bW:Nat:=174
abbrev fJ:Nat:=74
abbrev fU:Nat:=76
abbrev fp:Nat:=141
abbrev sD:Nat:=190
abbrev mB:Nat:=193
abbrev cr:Nat:=237
abbrev qD:Nat:=252
abbrev dN:Nat:=255
abbrev cQ:Nat:=259
abbrev dk:Nat:=283
abbrev ll:Nat:=284
abbrev BM:Nat:=305
abbrev kI:Nat:=338
abbrev BP:Nat:=354
abbrev BN:Nat:=356
abbrev BO:Nat:=360
def ysM(l:List Nat):Nat:=l.foldr (λt m=>Nat.lor (2^t) m) 0
def ysB(m:Nat):List Nat:=(List.range (m.log2+1)).filter m.testBit
def ysL(x:List AOp)(o:Nat):Nat:=x.foldr (λx l=>Nat.lor (ysM x.rds) (match x.d with
 |some d=>Nat.xor (Nat.lor l (2^d)) (2^d)
 |_=>l)) o
def ysT:OT->List AOp
 |.op x t=>x::ysT t
 |.both a _=>ysT a
 |_=>[]
def ysA(r:Nat):AC->Nat->(Nat->Nat)->AC×Nat
 |.reg x _,o,_=>(.reg x (ysB o),ysL x o)
 |.regD x _,o,_=>(.regD x (ysB o),ysL x o)
 |.regF t _,o,_=>(.regF t (ysB o),ysL (ysT t) o)
 |.seq a b,o,e=>match ysA r b o e with
  |(y,l)=>match ysA r a l e with
   |(x,k)=>(.seq x y,k)
 |.cond c a b,o,e=>match ysA r a o e,ysA r b o e with
  |(x,k),(y,l)=>(.cond c x y,Nat.lor (ysM c.rd) (Nat.lor k l))
 |.block i c,o,e=>match ysA r c o λj=>if j=i then o else e j with
  |(x,k)=>(.block i x,k)
 |.loop _ c,_,e=>match ysA r c 0 e with
  |(_,l)=>(.loop (ysB l) (ysA r c l e).1,l)
 |.exit i,_,e=>(.exit i,e i)
 |.ret,_,_=>(.ret,r)
 |x,o,_=>(x,o)
def ysD:Code->List (List Nat)->List (List Nat)×List (List Nat)
 |.region _ _ d,e=>if d then if (e.headD []).headD 1=0 then(e.take 2++[[]],e.drop 2) else(e.take 1++[[]],e.drop 1) else([[]],e)
 |.seq a b,e=>((ysD a e).1++(ysD b (ysD a e).2).1,(ysD b (ysD a e).2).2)
 |.cond _ a b,e=>((ysD a e).1++(ysD b (ysD a e).2).1,(ysD b (ysD a e).2).2)
 |.block _ a,e=>ysD a e
 |.loop a,e=>([]::(ysD a e).1,(ysD a e).2)
 |_,e=>([],e)
def ysK:AC->List (List Nat)->List (List Nat)×List (List Nat)
 |.reg _ k,e=>([k],e)
 |.regD _ k,e=>(e.take 2++[k],e.drop 2)
 |.regF _ k,e=>(e.take 1++[k],e.drop 1)
 |.seq a b,e=>((ysK a e).1++(ysK b (ysK a e).2).1,(ysK b (ysK a e).2).2)
 |.cond _ a b,e=>((ysK a e).1++(ysK b (ysK a e).2).1,(ysK b (ysK a e).2).2)
 |.block _ a,e=>ysK a e
 |.loop k a,e=>(k::(ysK a e).1,(ysK a e).2)
 |_,e=>([],e)
def ysR:List RV->List Nat
 |.t n::r=>n::ysR r
 |.c a _ _::r=>a::ysR r
 |[]=>[]
def ysZ(i:Option (AC×List RV))(p:List Nat)(e:List (List Nat)):List (List Nat):=match i with
 |some (x,r)=>(ysK (ysA (ysM (p++ysR r)) x (ysM (p++ysR r)) λ_=>0).1 e).1
 |_=>[]
noncomputable abbrev yjK(g:Func)(n:Nat)(e:List (List Nat)):List (List Nat):=ysZ (aj ŷ g (ysD (g.body.getD .skip) e).1 n) [] e
noncomputable abbrev yyK(g:Func)(p E:List Nat)(n:Nat)(e:List (List Nat)):List (List Nat):=ysZ (ay ŷ g p E (ysD (g.body.getD .skip) e).1 n) p e
abbrev yiX(g:Func)(f:Nat)(K:List (List Nat))(n:Nat)(x:AC)(r:List RV):Prop:=ŷ.funcs[f]?=some g∧aj ŷ g K n=some (x,r)
abbrev yiY(g:Func)(f:Nat)(p E:List Nat)(K:List (List Nat))(n:Nat)(x:AC)(r:List RV):Prop:=ŷ.funcs[f]?=some g∧ay ŷ g p E K n=some (x,r)
theorem yU8(n:Nat)(h:n<2^8):UInt8.ofBitVec (BitVec.ofFin (Fin.mk n h))=UInt8.ofNat n:=by apply UInt8.toBitVec_inj.1;apply BitVec.eq_of_toNat_eq;simp[Nat.mod_eq_of_lt h]
theorem yN1:Int.negSucc 0=-1:=rfl
theorem ymR{α}(x:α){y:α}(h:x=y:=by conv=>lhs;reduce;try simp only[Int.ofNat_eq_natCast,Int.cast_ofNat_Int]):y=x:=h.symm
def y95:=ymR (zs 95 (.bool false))
def y96:=ymR (zs 96 (.int .u16 0))
def y08:=ymR (zs 8 (.int .u64 0))
def y16:=ymR (zs 16 (.nil 1))
def yk8:=ymR (kz 8 (.i .u64))
def y9k:=ymR (kz 96 (.i .u16))
theorem ymI{f g x r}(h:ŷ.funcs[f]?=some g)(n:Nat)(e:List (List Nat):=[])(i:aj ŷ g (yjK g n e) n=some (x,r):=by conv=>lhs;reduce;try simp only[yU8,UInt8.reduceOfNat,Int.ofNat_eq_natCast,Int.cast_ofNat_Int,yN1,y95,y96,y08,y16,yk8,y9k,-List.reduceReplicate]):yiX g f (yjK g n e) n x r:=⟨h,i⟩
theorem ymE{f g x r}(h:ŷ.funcs[f]?=some g)(p E:List Nat)(n:Nat)(e:List (List Nat):=[])(i:ay ŷ g p E (yyK g p E n e) n=some (x,r):=by conv=>lhs;reduce;try simp only[yU8,UInt8.reduceOfNat,Int.ofNat_eq_natCast,Int.cast_ofNat_Int,yN1,y95,y96,y08,y16,yk8,y9k,-List.reduceReplicate]):yiY g f p E (yyK g p E n e) n x r:=⟨h,i⟩
theorem ymF{f g x r}(h:ŷ.funcs[f]?=some g)(p E:List Nat)(K:List (List Nat))(n:Nat)(i:ay ŷ g p E K n=some (x,r):=by conv=>lhs;reduce;try simp only[yU8,UInt8.reduceOfNat,Int.ofNat_eq_natCast,Int.cast_ofNat_Int,yN1,y95,y96,y08,y16,yk8,y9k,-List.reduceReplicate]):yiY g f p E K n x r:=⟨h,i⟩
abbrev zOc{f g p E x K r n}(_:yiY f g p E K n x r):AC:=x
abbrev zOb{f g x K r n}(_:yiX f g K n x r):AC:=x
theorem yoA{f g us r x K rs n}(i:yiX g f K n x rs)(w:W (Cn ŷ) x (Res rs (·=r)) ⟨ent 0 us,[]⟩)(l:us.length=n:=by rfl):Fn ŷ f us r:=Fn.of_image (by kernel_rfl) i.1 i.2 l λ_=>w
theorem yoB{f g us r x K rs n}(i:yiX g f K n x rs)(w:oks us->W (Cn ŷ) x (Res rs (·=r)) ⟨ent 0 us,[]⟩)(l:us.length=n:=by rfl):Fn ŷ f us r:=Fn.of_image (by kernel_rfl) i.1 i.2 l w
theorem yoE{f g E us r x K rs n}(i:yiY g f [] E K n x rs)(w:W (Cn ŷ) x (Res rs (·=r)) ⟨ent 0 us,[]⟩)(l:us.length=n:=by rfl):Fn ŷ f us r:=Fn.of_imageE (by kernel_rfl) i.1 i.2 l λ_=>w
theorem yoH{f g p E us H H' r x K rs n}(i:yiY g f p E K n x rs)(w:W (Cn ŷ) x (Xy rs p us r H') ⟨ent 0 us,H⟩)(l:us.length=n:=by rfl):FnH ŷ f p us H r H':=FnH.of_image (by kernel_rfl) i.1 i.2 l λ_ _=>w
abbrev yE1:List Nat:=[182,124,168,206,227,228,235,240,239,167,273,278,274,279,276,277,275,184,210,187,212,209,186,211,208,156,158,191,192,194,199,201,169,170,202,171,217]
attribute [simp] ll mC sE sD bN sC fp aN iJ cR bW fJ dk jp aL aS fU vp bG aH kI cQ cr ap rA mB BP dN qD BO BN BM aA c7
abbrev Vv:Nat:=122
def Xk:AC:=
 Q [.reg [bx 1 0,o1 2 (.alc [.nil 1,.nil 1]),mi 3 0] [1,2],
 Q [.reg [la 14 1 4,ca 15 153 [14],bi 16 .neq 15 0] [1,2,16],
 C 16 (Q [.reg [o1 17 (.bld [.nil 1,.nil 1] []),st 2 2 17,mi 3 1] [2,3],
 .ret]) (.skip)],
 .regF (OQ [la 18 1 4,ca 19 154 [18],la 20 1 4,ca 21 155 [20]] (.both
 (OQ [o1 4 (.alc [.nil 760]),o1 5 (.alc (zs 95 (.bool false))),st 1 4 19,st 95 5 21] .nil)
 (OQ [o1 5 (.alc (zs 95 (.bool false))),o1 4 (.alc [.nil 760]),st 1 4 19,st 95 5 21] .nil))) [1,2,4,5],
 .reg [o1 6 (.alc (zs 8 (.int .u64 0)))] [1,2,4,5,6],
 .reg [o1 22 (.mkf (.func 156) [] [.t 5,.t 4,.t 6]),m 7 22] [1,2,7],
 .reg [la 24 1 4,fa 25 1 1,l1 26 25,o1 27 (.lit 3 1 [.t 26]),ca 28 160 [24,27],ca 29 159 [28],m 30 7,o1 31 (.callH 158 [.t 29,.t 30,.v (.int .i64 500)]),m 23 31,ex 32 23 0,ex 33 23 1,ex 34 23 2,m 8 32,m 9 33,m 10 34] [1,2,8,9,10],
 Q [.reg [m 35 10,nt' 36 35] [1,2,8,9,36],
 C 36 (Q [.reg [o1 37 (.bld [.nil 1,.nil 1] []),st 2 2 37,mi 3 3] [2,3],
 .ret]) (.skip)],
 .reg [m 38 8,lq 39 38,o1 40 (.mks 4 1 1 (.bool false) (.t 39)),m 11 40] [1,2,8,9,11],
 Q [.reg [m 41 8,lq 42 41,mi 43 0] [1,2,9,11,41,42,43],
 .block 0 (.loop [1,2,9,11,41,42,43] (Q [.reg [bt 44 .lss 43 42] [1,2,9,11,41,42,43,44],
 C 44 (.skip) (.exit 0),
 .block 1 (Q [.reg [m 45 43,ia 46 41 43 8,la 47 46 8,o1 13 (.alc (zs 8 (.int .u64 0))),m 12 45,st 8 13 47] [1,2,9,11,12,13,41,42,43],
 .reg [m 48 11,m 49 12,la 50 13 8,fa 51 1 2,l1 52 51,ca 53 161 [50,52],ia 54 48 49 1,st 1 54 53] [1,2,9,11,41,42,43]]),
 .reg [bi 55 .add 43 1,m 43 55] [1,2,9,11,41,42,43]]))],
 .reg [m 56 9,m 57 11,ca 58 162 [56,57],st 2 2 58,mi 3 0] [2,3],
 .ret]
theorem afH:yiY Tryz.f122 122 [] yE1 (ysK Xk [[1,0,1,0,7,0,0,63,127]]).1 1 Xk [.c 2 2 true,.t 3]:=⟨Tryz.func122,by kernel_rfl⟩
abbrev EA:Nat:=125
def acG:=ymI Tryz.func125 1
abbrev vY:Nat:=213
def wo:=ymI Tryz.func213 1
abbrev Ga:Nat:=216
def Gn:=ymI Tryz.func216 1
abbrev Mf:Nat:=238
def MW:=ymI Tryz.func238 0
abbrev vW:Nat:=230
def wm:=ymI Tryz.func230 1
abbrev Ck:Nat:=242
def CG:=ymI Tryz.func242 1
abbrev vX:Nat:=229
def wn:=ymI Tryz.func229 1
abbrev acb:Nat:=153
def acF:=ymI Tryz.func153 1
abbrev zi:Nat:=183
def Nu:=ymI Tryz.func183 2
abbrev Co:Nat:=160
def SI:=ymI Tryz.func160 2
abbrev MG:Nat:=189
def Nt:=ymE Tryz.func189 [] yE1 3
abbrev MH:Nat:=207
def Ai:AC:=
 Q [.reg [bx 2 0,o1 4 (.alc [.nil 4,.nil 1,.nil 1])] [1,2,4],
 .regF (OQ [fa 8 2 3,l1 9 8,fa 10 2 0,l1 11 10,fa 13 2 3,l1 14 13,lq 15 14] (.both
 (OQ [o1 12 (.mks 3 1 8 (.int .i64 0) (.t 11))] (.both
 (OQ [o1 16 (.mks 3 1 8 (.int .i64 0) (.t 15)),o1 17 (.bld [.nil 4,.nil 1,.nil 1] [(0,1,(.t 9)),(1,1,(.t 12)),(2,1,(.t 16))]),o1 5 (.alc [.nil 4,.nil 1,.nil 1]),st 3 5 17] .nil)
 (OQ [o1 5 (.alc [.nil 4,.nil 1,.nil 1]),o1 16 (.mks 3 1 8 (.int .i64 0) (.t 15)),o1 17 (.bld [.nil 4,.nil 1,.nil 1] [(0,1,(.t 9)),(1,1,(.t 12)),(2,1,(.t 16))]),st 3 5 17] .nil)))
 ((.both
 (OQ [o1 16 (.mks 3 1 8 (.int .i64 0) (.t 15))] (.both
 (OQ [o1 12 (.mks 3 1 8 (.int .i64 0) (.t 11)),o1 17 (.bld [.nil 4,.nil 1,.nil 1] [(0,1,(.t 9)),(1,1,(.t 12)),(2,1,(.t 16))]),o1 5 (.alc [.nil 4,.nil 1,.nil 1]),st 3 5 17] .nil)
 (OQ [o1 5 (.alc [.nil 4,.nil 1,.nil 1]),o1 12 (.mks 3 1 8 (.int .i64 0) (.t 11)),o1 17 (.bld [.nil 4,.nil 1,.nil 1] [(0,1,(.t 9)),(1,1,(.t 12)),(2,1,(.t 16))]),st 3 5 17] .nil)))
 (OQ [o1 5 (.alc [.nil 4,.nil 1,.nil 1])] (.both
 (OQ [o1 12 (.mks 3 1 8 (.int .i64 0) (.t 11)),o1 16 (.mks 3 1 8 (.int .i64 0) (.t 15)),o1 17 (.bld [.nil 4,.nil 1,.nil 1] [(0,1,(.t 9)),(1,1,(.t 12)),(2,1,(.t 16))]),st 3 5 17] .nil)
 (OQ [o1 16 (.mks 3 1 8 (.int .i64 0) (.t 15)),o1 12 (.mks 3 1 8 (.int .i64 0) (.t 11)),o1 17 (.bld [.nil 4,.nil 1,.nil 1] [(0,1,(.t 9)),(1,1,(.t 12)),(2,1,(.t 16))]),st 3 5 17] .nil))))))) [1,2,4,5],
 Q [.reg [fa 18 2 3,l1 19 18,lq 20 19,mi 21 0] [1,4,5,19,20,21],
 .block 0 (.loop [1,4,5,19,20,21] (Q [.reg [bt 22 .lss 21 20] [1,4,5,19,20,21,22],
 C 22 (.skip) (.exit 0),
 .block 1 (Q [.reg [m 23 21,ia 24 19 21 4,la 25 24 4,o1 7 (.alc [.int .i64 0,.int .i64 0,.int .u8 0,.int .u8 0]),m 6 23,st 4 7 25] [1,4,5,6,7,19,20,21],
 .reg [m 26 1,la 27 7 4,cv 28 26 [27]] [1,4,5,6,7,19,20,21,28],
 C 28 (Q [.regD [fa 29 5 2,l1 30 29,m 31 6,fa 32 5 1,l1 33 32,fa 34 7 0,l1 35 34,ia 36 33 35 1,l1 37 36,ia 38 30 31 1,st 1 38 37] [1,4,5,6,7,19,20,21],
 .reg [fa 39 5 1,l1 40 39,fa 41 7 0,l1 42 41,m 43 6,bi 44 .add 43 1,ia 45 40 42 1,st 1 45 44] [1,4,5,19,20,21]]) (.skip)]),
 .reg [bi 46 .add 21 1,m 21 46] [1,4,5,19,20,21]]))],
 .reg [la 47 5 3,st 3 4 47] [4],
 .ret]
theorem Nv:yiX Tryz.f207 207 (ysK Ai [[1,0,1,0,4,12,0,32,96,224,511,0,2047],[0,0,1,0,0,8,0,32,120,248,511,1023],[0,1,2,3,4,5,6,7,8,9,10]]).1 2 Ai [.c 4 3 true]:=⟨Tryz.func207,by kernel_rfl⟩
abbrev kR:Nat:=190
def YQ:=ymI Tryz.func190 1
abbrev RM:Nat:=188
def SH:=ymI Tryz.func188 1
abbrev Vu:Nat:=159
def V6:=ymI Tryz.func159 1 [[0,0,1,3,7,0,16,48,127,255,511],[0,1,2,3,4,5,6,7,8,9]]
abbrev MN:Nat:=161
def NC:=ymI Tryz.func161 2 [[0,0,1,3,7,0,16,48,127,255,511],[0,1,2,3,4,5,6,7,8,9]]
abbrev MM:Nat:=154
def An:AC:=
 Q [.reg [bx 1 0,mv 2 (.nil 760)] [1],
 .reg [fa 9 1 0,l1 10 9,o1 11 (.mks 237 8 64 (.strct (zs 8 (.int .u64 0))) (.t 10)),m 3 11] [1,3],
 Q [.reg [m 12 3,lq 13 12,mi 14 0] [1,3,13,14],
 .block 0 (.loop [1,3,13,14] (Q [.reg [bt 15 .lss 14 13] [1,3,13,14,15],
 C 15 (.skip) (.exit 0),
 .block 1 (Q [.reg [m 16 14,m 4 16] [1,3,4,13,14],
 .reg [m 17 3,m 18 4,la 19 1 4,m 20 4,o1 21 (.lit 3 1 [.t 20]),ca 22 160 [19,21],ca 23 159 [22],ia 24 17 18 8,st 8 24 23] [1,3,13,14]]),
 .reg [bi 25 .add 14 1,m 14 25] [1,3,13,14]]))],
 .reg [fa 26 1 0,l1 27 26,o1 28 (.mks 284 760 6080 (.strct (zs 760 (.int .u64 0))) (.t 27)),m 5 28] [1,3,5],
 Q [.reg [fa 29 1 3,l1 30 29,lq 31 30,mi 32 0] [3,5,30,31,32],
 .block 2 (.loop [3,5,30,31,32] (Q [.reg [bt 33 .lss 32 31] [3,5,30,31,32,33],
 C 33 (.skip) (.exit 2),
 .block 3 (Q [.reg [ia 34 30 32 4,la 35 34 4,o1 7 (.alc [.int .i64 0,.int .i64 0,.int .u8 0,.int .u8 0]),st 4 7 35] [3,5,7,30,31,32],
 .reg [fa 36 7 2,l1 37 36,o1 38 (.cii .i64 (.t 37)),o1 39 (.mm true (.t 38) (.v (.int .i64 32))),m 8 39] [3,5,7,8,30,31,32],
 .block 4 (.loop [3,5,7,8,30,31,32] (Q [Q [.reg [m 40 8,fa 41 7 3,l1 42 41,o1 43 (.cii .i64 (.t 42)),o1 44 (.mm false (.t 43) (.v (.int .i64 126))),bt 45 .leq 40 44] [3,5,7,8,30,31,32,45],
 C 45 (.skip) (.exit 4)],
 .block 5 (.regD [m 48 5,fa 49 7 0,l1 50 49,m 51 8,bi 52 .sub 51 32,ia 53 48 50 760,o1 54 (.iaa (.t 53) (.t 52) 95 8),m 55 3,fa 56 7 1,l1 57 56,ia 58 55 57 8,ch 59 184 [54,58]] [3,5,7,8,30,31,32]),
 .reg [m 46 8,bi 47 .add 46 1,m 8 47] [3,5,7,8,30,31,32]]))]),
 .reg [bi 60 .add 32 1,m 32 60] [3,5,30,31,32]]))],
 .reg [m 61 5,m 2 61] [2],
 .ret]
theorem NB:yiY Tryz.f154 154 [] yE1 (ysK An [[0,0,0,2,0,8,7,63,0,0,256,896,2047],[0,1,2,3,4,5,6,7,8,9,10,11]]).1 1 An [.t 2]:=⟨Tryz.func154,by kernel_rfl⟩
abbrev MP:Nat:=155
def NF:=ymI Tryz.func155 1 [[0,0,1,3,7,0,16,48,112,15,511],[0,1,2,3,4,5,6,7,8,9]]
abbrev JC:Nat:=157
def Ka:=ymE Tryz.func157 [] yE1 3
abbrev nn:Nat:=185
def nD:=ymI Tryz.func185 1
abbrev Yz:Nat:=162
def YT:=ymE Tryz.func162 [] yE1 2 [[0,0,1,3,0,0,16,63,127,255,255,255,511,3071,8191],[0,1,2,3,4,5,6,7,8,9,10,11,12,13],[0,0,1,0,0,0,24,56,124,252,508,1023,2047,4095],[0,1,2,3,4,5,6,7,8,9,10,11,12]]
abbrev MO:Nat:=193
def NE:=ymE Tryz.func193 [] yE1 2 [[0,0,0,2,6,14,30,1,127],[0,1,2,3,4,5,6,7]]
abbrev Yy:Nat:=200
def YS:=ymE Tryz.func200 [] yE1 3
abbrev yB:Nat:=236
def yI:=ymI Tryz.func236 2
abbrev dP:Nat:=241
def dS:=ymI Tryz.func241 2
abbrev b9:Nat:=243
abbrev Vw:Nat:=90
def V8:=ymI Tryz.func90 0
abbrev acd:Nat:=92
abbrev sY:Nat:=93
def SQ:=ymI Tryz.func93 2
abbrev RS:Nat:=120
def SL:=ymI Tryz.func120 1
abbrev RT:Nat:=126
def SM:=ymE Tryz.func126 [] yE1 3
abbrev JE:Nat:=127
def Kd:=ymI Tryz.func127 2
abbrev aM:Nat:=182
def MX:=ymE Tryz.func182 [] yE1 1
abbrev dE:Nat:=124
def oW:=ymE Tryz.func124 [] [182,124,168,206,227,228,235,240,239,167,273,278,274,279,276,277,275,184,210,187,212,209,186,211,208,156,158,191,192,194,199,201,169,170,202,171,217,1000000] 1 [[0,0,1,3,7,0,16,48,112,255,511],[0,1,2,3,4,5,6,7,8,9]]
abbrev zg:Nat:=168
def zm:=ymI Tryz.func168 1
abbrev oH:Nat:=206
def oV:=ymE Tryz.func206 [0] yE1 1
abbrev sX:Nat:=227
def td:=ymE Tryz.func227 [0] yE1 1 [[0,0,1,3,7,0,16,48,112,240,511,1023,2047,4095,8191,16383],[0,1,2,3,4,5,6,7,8,9,10,11,12,13,14],[0,0,0,2,6,14,0,32,96,224,510,1023,2047,4095],[0,1,2,3,4,5,6,7,8,9,10,11,12]]
abbrev AP:Nat:=228
def A0:=ymE Tryz.func228 [0] yE1 2 [[0,0,1,3,7,0,16,48,112,240,511,1023,2047,2047,6143,14335,30719,2047,67583,198655,460799,1046527,2097151,4194303,8388607,16777215],[0,1,2,3,4,5,6,7,8,9,10,11,12,13,14,15,16,17,18,19,20,21,22,23,24]]
abbrev v6:Nat:=235
def wu:=ymE Tryz.func235 [0] yE1 1
abbrev vZ:Nat:=240
def wq:=ymE Tryz.func240 [0] yE1 2 [[0,0,1,3,7,0,16,48,112,240,511,1023,2047,4095,8191,16383,2047,34815,100351,231423,524287,1048575,2097151,4194303,8388607,16777215,16777215,67108863,134217727],[0,1,2,3,4,5,6,7,8,9,10,11,12,13,14,15,16,17,18,19,20,21,22,23,24,25,26,27],[0,0,1,3,7,0,16,48,112,240,511,1023,2047],[0,1,2,3,4,5,6,7,8,9,10,11]]
abbrev uV:Nat:=239
def uZ:=ymE Tryz.func239 [0] yE1 1
abbrev g8:Nat:=167
def hO:=ymE Tryz.func167 [0] yE1 4
abbrev lS:Nat:=273
def l4:=ymE Tryz.func273 [0] yE1 1
abbrev mU:Nat:=278
def mX:=ymE Tryz.func278 [0] yE1 3
abbrev t7:Nat:=274
def uh:=ymE Tryz.func274 [1] yE1 4
abbrev ua:Nat:=279
def uj:=ymE Tryz.func279 [1] yE1 4
abbrev ub:Nat:=276
def uk:=ymE Tryz.func276 [1] yE1 4
abbrev t8:Nat:=277
def ui:=ymE Tryz.func277 [1] yE1 4
abbrev rJ:Nat:=275
def rQ:=ymE Tryz.func275 [0] yE1 2
abbrev ud:Nat:=184
def ul:=ymE Tryz.func184 [0,1] yE1 2 [[0,0,0,2,6,1,31],[0,1,2,3,4,5],[0,0,0,1,7,15,0,63,1,255,511],[0,1,2,3,4,5,6,7,8,9]]
abbrev oI:Nat:=210
def oX:=ymE Tryz.func210 [0] yE1 2
abbrev jA:Nat:=187
def jO:=ymE Tryz.func187 [0] yE1 2 [[0,0,1,3,7,0,31,63,127,127,255,1023],[0,1,2,3,4,5,6,7,8,9,10],[0,0,1,3,7,0,0,63],[0,1,2,3,4,5,6],[0,0,0,2,6,14,0,32,126,255,511,1023],[0,1,2,3,4,5,6,7,8,9,10]]
abbrev jB:Nat:=212
def jP:=ymE Tryz.func212 [0] yE1 2 [[0,0,1,3,7,0,31,63,127,127,255,1023],[0,1,2,3,4,5,6,7,8,9,10],[0,0,1,3,7,0,0,63],[0,1,2,3,4,5,6],[0,0,0,2,6,14,0,32,126,255,511,1023],[0,1,2,3,4,5,6,7,8,9,10]]
abbrev JD:Nat:=209
def Kc:=ymE Tryz.func209 [] yE1 1
abbrev AR:Nat:=186
def A5:=ymE Tryz.func186 [] yE1 1
abbrev AS:Nat:=211
def A6:=ymE Tryz.func211 [] yE1 1
abbrev Ez:Nat:=208
def EK:=ymF Tryz.func208 [1] yE1 [[1,2,3],[0,1,2,3,7],[1,2,3,7],[1,2,3,7,13],[0,0,1,0,0,12,28,63,127,255],[0,1,2,3,4,5,6,7,8],[1,2,3,7,8],[1,2,3,7,8],[1,2,3,7,8,23],[1,2,3,7,8,9],[1,2,3,7,8,9,41],[1,2,3,7,8,9],[1,2,3,7,8],[1,2,3,7,8],[1,2,3,7],[1,6]] 3
abbrev kT:Nat:=156
def YV:=ymE Tryz.func156 [2,3,4] yE1 5
abbrev AQ:Nat:=158
def pG:AC:=
 Q [.reg [bx 3 0,mv 6 (.nil 8),mv 7 (.nil 1),mb 8 false] [1,2,3],
 .reg [la 17 3 8,o1 18 (.lit 237 8 [.t 17]),ch 19 186 [18],m 9 19] [1,2,9],
 .reg [mv 10 (.nil 1)] [1,2,9,10],
 Q [.reg [mi 11 0] [1,2,9,10,11],
 .block 0 (.loop [1,2,9,10,11] (Q [Q [.reg [m 20 11,m 21 9,o1 22 (.nlc (.t 21)),fa 23 22 1,l1 24 23,lq 25 24,bt 26 .lss 20 25] [1,2,9,10,11,26],
 C 26 (.skip) (.exit 0)],
 .block 1 (Q [.reg [o1 29 (.mks 3 1 8 (.int .i64 0) (.v (.int .i64 95))),m 12 29] [1,2,9,10,11,12],
 .reg [m 30 9,o1 31 (.nlc (.t 30)),fa 32 31 1,l1 33 32,m 34 11,ia 35 33 34 8,la 36 35 8,m 37 11,o1 13 (.alc (zs 8 (.int .u64 0))),st 8 13 36,m 14 37] [1,2,9,10,11,12,13,14],
 Q [.reg [m 38 12,lq 39 38,mi 40 0] [1,2,9,10,11,12,13,14,39,40],
 .block 2 (.loop [1,2,9,10,11,12,13,14,39,40] (Q [.reg [bt 41 .lss 40 39] [1,2,9,10,11,12,13,14,39,40,41],
 C 41 (.skip) (.exit 2),
 .block 3 (Q [.reg [m 42 40,m 15 42] [1,2,9,10,11,12,13,14,15,39,40],
 Q [.reg [m 43 1,m 44 9,o1 45 (.nlc (.t 44)),fa 46 45 1,l1 47 46,m 48 11,ia 49 47 48 8,la 50 49 8,m 51 15,cv 52 43 [50,51],o1 16 (.alc (zs 8 (.int .u64 0))),st 8 16 52] [1,2,9,10,11,12,13,14,15,16,39,40],
 .reg [la 53 16 8,la 54 13 8,o1 55 (.aeq true ⟨true,kz 8 (.i .u64)⟩ (.t 53) (.t 54))] [1,2,9,10,11,12,13,14,15,16,39,40,55],
 C 55 (.regF (OQ [m 57 9,la 58 16 8] (.both
 (OQ [la 56 16 8,ch 59 187 [57,58],st 8 13 56,m 14 59] .nil)
 (OQ [ch 59 187 [57,58],la 56 16 8,st 8 13 56,m 14 59] .nil))) [1,2,9,10,11,12,13,14,15,39,40]) (.skip)],
 .reg [m 60 12,m 61 15,m 62 14,ia 63 60 61 1,st 1 63 62] [1,2,9,10,11,12,13,14,39,40]]),
 .reg [bi 64 .add 40 1,m 40 64] [1,2,9,10,11,12,13,14,39,40]]))],
 Q [.reg [m 65 9,o1 66 (.nlc (.t 65)),fa 67 66 1,l1 68 67,lq 69 68,m 70 2,bt 71 .gtr 69 70] [1,2,9,10,11,12,71],
 C 71 (Q [.reg [mv 6 (.nil 8),mv 7 (.nil 1),mb 8 false] [1,6,7,8],
 .ret]) (.skip)],
 .reg [m 72 10,m 73 12,o1 74 (.lit 54 1 [.t 73]),o1 75 (.app (.t 72) (.t 74) 54 1 24),m 10 75] [1,2,9,10,11]]),
 .reg [m 27 11,bi 28 .add 27 1,m 11 28] [1,2,9,10,11]]))],
 .reg [m 76 9,o1 77 (.nlc (.t 76)),fa 78 77 1,l1 79 78,m 80 10,m 6 79,m 7 80,mb 8 true] [1,6,7,8],
 .ret]
theorem A4:yiY Tryz.f158 158 [1] yE1 (ysK pG [[1,0,0,0,6,15,31]]).1 3 pG [.t 6,.t 7,.t 8]:=⟨Tryz.func158,by kernel_rfl⟩
abbrev v7:Nat:=191
def wy:=ymE Tryz.func191 [1] yE1 3
abbrev jH:Nat:=192
def SO:=ymE Tryz.func192 [2] yE1 3
abbrev eW:Nat:=194
def SN:=ymE Tryz.func194 [2,3,4] yE1 5 [[0,0,0,0,0,12,28,62,126,0,510,1022,2047,4095,8191],[0,1,2,3,4,5,6,7,8,9,10,11,12,13]]
abbrev yF:Nat:=199
def m9:AC:=
 Q [.reg [mv 2 (.nilptr)] [0],
 .reg [o1 6 (.mkp ⟨true,[.i .i64,.i .i64]⟩),o1 7 (.bld [.junk,.nil 2] [(0,1,(.t 6))]),bx 8 7,m 3 8] [0,3],
 Q [.reg [m 9 0,lq 10 9,mi 11 0] [3,9,10,11],
 .block 0 (.loop [3,9,10,11] (Q [.reg [bt 12 .lss 11 10] [3,9,10,11,12],
 C 12 (.skip) (.exit 0),
 .block 1 (Q [.reg [ia 13 9 11 2,la 14 13 2,o1 5 (.alc [.int .i64 0,.int .i64 0]),st 2 5 14] [3,5,9,10,11],
 .reg [m 15 3,la 16 5 2,ch 17 201 [15,16]] [3,9,10,11]]),
 .reg [bi 18 .add 11 1,m 11 18] [3,9,10,11]]))],
 .reg [m 19 3,m 2 19] [2],
 .ret]
theorem yM:yiY Tryz.f199 199 [] yE1 (ysK m9 []).1 1 m9 [.t 2]:=⟨Tryz.func199,by kernel_rfl⟩
abbrev i7:Nat:=201
def eG:AC:=
 Q [.reg [bx 3 1,mi 4 0] [0,3],
 .regD [m 8 0,o1 9 (.nlc (.t 8)),fa 10 9 0,l1 11 10,la 12 3 2,o1 13 (.lkp ⟨true,[.i .i64,.i .i64]⟩ (.int .i64 0) true (.t 11) (.t 12)),m 7 13,ex 14 7 0,ex 15 7 1,m 5 14,m 6 15] [0,3,5,6],
 Q [.reg [m 16 6,nt' 17 16] [0,3,5,17],
 C 17 (Q [.reg [m 18 0,o1 19 (.nlc (.t 18)),fa 20 19 1,l1 21 20,lq 22 21,m 5 22] [0,3,5],
 .regD [m 23 0,o1 24 (.nlc (.t 23)),fa 25 24 0,l1 26 25,la 27 3 2,m 28 5,o0 (.mup ⟨true,[.i .i64,.i .i64]⟩ (.t 26) (.t 27) (.t 28))] [0,3,5],
 .regD [m 29 0,m 30 0,o1 31 (.nlc (.t 30)),fa 32 31 1,l1 33 32,la 34 3 2,o1 35 (.lit 259 2 [.t 34]),o1 36 (.app (.t 33) (.t 35) 259 2 16),o1 37 (.nlc (.t 29)),fa 38 37 1,st 1 38 36] [0,5]]) (.skip)],
 .reg [m 39 5,m 4 39] [0,4],
 .ret]
theorem i8:yiY Tryz.f201 201 [0] yE1 (ysK eG [[0,0,1,3,7,0,31,63,127,127,255,1023],[0,1,2,3,4,5,6,7,8,9,10],[0,0,1,3,7,0,0,63],[0,1,2,3,4,5,6],[0,0,0,2,6,14,0,32,126,255,511,1023],[0,1,2,3,4,5,6,7,8,9,10]]).1 2 eG [.t 4]:=⟨Tryz.func201,by kernel_rfl⟩
abbrev v8:Nat:=169
def mu:AC:=
 Q [.reg [bx 3 0,mv 6 (.str []),mb 7 false] [1,2,3],
 .reg [la 15 3 2,o1 16 (.ltr 259 2 [.t 15]),ch 17 199 [16],m 8 17] [1,2,8],
 .reg [o1 18 (.ltr 3 1 [.v (.int .i64 0)]),o1 19 (.ltr 5 1 [.v (.int .u8 0)]),m 9 18,m 10 19] [1,2,8,9,10],
 Q [.reg [mi 11 0] [1,2,8,9,10,11],
 .block 0 (.loop [1,2,8,9,10,11] (Q [Q [.reg [m 20 11,m 21 8,o1 22 (.nlc (.t 21)),fa 23 22 1,l1 24 23,lq 25 24,bt 26 .lss 20 25] [1,2,8,9,10,11,26],
 C 26 (.skip) (.exit 0)],
 .block 1 (Q [Q [.reg [m 29 2,m 30 8,o1 31 (.nlc (.t 30)),fa 32 31 1,l1 33 32,m 34 11,ia 35 33 34 2,la 36 35 2,cv 37 29 [36]] [1,2,8,9,10,11,37],
 C 37 (Q [.reg [m 38 9,m 39 10,m 40 11,ca 41 200 [38,39,40],m 6 41,mb 7 true] [1,2,6,7],
 .ret]) (.skip)],
 .reg [m 42 8,o1 43 (.nlc (.t 42)),fa 44 43 1,l1 45 44,m 46 11,ia 47 45 46 2,la 48 47 2,o1 12 (.alc [.int .i64 0,.int .i64 0]),st 2 12 48] [1,2,8,9,10,11,12],
 .reg [mi 49 0] [1,2,8,9,10,11,12,49],
 .block 2 (.loop [1,2,8,9,10,11,12,49] (Q [.reg [bi 50 .lss 49 95] [1,2,8,9,10,11,12,49,50],
 C 50 (.skip) (.exit 2),
 .block 3 (Q [.reg [m 51 49,m 13 51] [1,2,8,9,10,11,12,13,49],
 .reg [m 52 1,m 53 8,o1 54 (.nlc (.t 53)),fa 55 54 1,l1 56 55,m 57 11,ia 58 56 57 2,la 59 58 2,m 60 13,cv 61 52 [59,60],o1 14 (.alc [.int .i64 0,.int .i64 0]),st 2 14 61] [1,2,8,9,10,11,12,13,14,49],
 Q [.reg [la 62 14 2,la 63 12 2,o1 64 (.aeq false ⟨true,[.i .i64,.i .i64]⟩ (.t 62) (.t 63))] [1,2,8,9,10,11,12,13,14,49,64],
 C 64 (.exit 3) (.skip)],
 .reg [la 65 14 2,st 2 12 65] [1,2,8,9,10,11,12,13,14,49],
 .reg [m 66 8,la 67 14 2,ch 68 201 [66,67],m 69 9,lq 70 69,bt 71 .eql 68 70] [1,2,8,9,10,11,12,13,49,71],
 C 71 (Q [.reg [m 72 9,m 73 11,o1 74 (.ltr 3 1 [.t 73]),o1 75 (.app (.t 72) (.t 74) 3 1 8),m 9 75] [1,2,8,9,10,11,12,13,49],
 .reg [m 76 10,m 77 13,o1 78 (.bin .add (.v (.int .i64 32)) (.t 77)),o1 79 (.cii .u8 (.t 78)),o1 80 (.ltr 5 1 [.t 79]),o1 81 (.app (.t 76) (.t 80) 5 1 1),m 10 81] [1,2,8,9,10,11,12,49]]) (.skip)]),
 .reg [bi 82 .add 49 1,m 49 82] [1,2,8,9,10,11,12,49]]))]),
 .reg [m 27 11,bi 28 .add 27 1,m 11 28] [1,2,8,9,10,11]]))],
 .reg [mv 6 (.str []),mb 7 false] [1,2,6,7],
 .ret]
theorem wz:yiY Tryz.f169 169 [1,2] [182,124,168,206,227,228,235,240,239,167,273,278,274,279,276,277,275,184,210,187,212,209,186,211,208,156,158,191,192,194,199,201,169,170,202,171,217,1000001] (ysK mu []).1 3 mu [.t 6,.t 7]:=⟨Tryz.func169,by kernel_rfl⟩
abbrev YA:Nat:=170
def YU:=ymI Tryz.func170 2
abbrev jI:Nat:=202
def SP:=ymE Tryz.func202 [2,3] yE1 4 [[0,0,1,0,4,15,31,0,127,255,0,512,0,2048,7680,15872,0,65024,130560,262143,524287],[0,1,2,3,4,5,6,7,8,9,10,11,12,13,14,15,16,17,18,19]]
abbrev jG:Nat:=171
def Kb:=ymE Tryz.func171 [1,2,3] yE1 4 [[0,0,0,2,0,8,30,62,0,128,0,512,1920,3968,8191,16383],[0,1,2,3,4,5,6,7,8,9,10,11,12,13,14]]
abbrev ni:Nat:=217
def nB:=ymE Tryz.func217 [0] yE1 1 [[0,0,0,0,0,0,0,48,112,0,0,768,1792,4083,8179,16383,32767],[0,1,2,3,4,5,6,7,8,9,10,11,12,13,14,15]]
end Go.Abs
