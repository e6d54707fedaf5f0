/- The images of some of the program's functions, as the kernel reckons them. No condition. -/
import Derived.Test.YtnnbodoijkbceaaGreatDoorIAbs15
import Derived.Test.YtnnbodoijkbceaaGreatDoorProg
import Derived.KernelRfl
set_option linter.all false
set_option maxHeartbeats 0
set_option maxRecDepth 100000
namespace Go.Abs
open Go.Proofs
abbrev zs(n:Nat)(v:V):List V:=List.replicate n v
abbrev bz:Nat:=3
abbrev co:Nat:=4
abbrev kD:Nat:=5
abbrev aX:Nat:=9
abbrev mR:Nat:=21
abbrev fT:Nat:=22
abbrev jm:Nat:=23
abbrev ee:Nat:=25
abbrev dR:Nat:=26
abbrev GS:Nat:=33
abbrev ny:Nat:=39
abbrev aC:Nat:=41
abbrev nu:Nat:=47
abbrev b9:Nat:=49
abbrev bT:Nat:=59
abbrev ez:Nat:=66
abbrev eF:Nat:=68
abbrev dQ:Nat:=117
abbrev AM:Nat:=127
abbrev nv:Nat:=224
abbrev cr:Nat:=230
abbrev xC:Nat:=237
abbrev dZ:Nat:=239
abbrev cR:Nat:=250
abbrev vk:Nat:=259
abbrev vi:Nat:=261
abbrev vl:Nat:=263
abbrev vj:Nat:=268
def ysM(l:List Nat):Nat:=l.foldr (fun t m=>Nat.lor (2^t) m) 0
def ysB(m:Nat):List Nat:=(List.range (m.log2+1)).filter m.testBit
def ysL(x:List AOp)(o:Nat):Nat:=x.foldr (fun x l=>Nat.lor (ysM x.rds) (match x.d with
 |some d=>Nat.xor (Nat.lor l (2^d)) (2^d)
 |_=>l)) o
def ysT:OT->List AOp
 |.op x t=>x::ysT t
 |.both a _=>ysT a
 |_=>[]
def ysA(r:Nat):AC->Nat->(Nat->Nat)->AC×Nat
 |.reg x _,o,_=>(.reg x (ysB o),ysL x o)
 |.regD x _,o,_=>(.regD x (ysB o),ysL x o)
 |.regF t _,o,_=>(.regF t (ysB o),ysL (ysT t) o)
 |.seq a b,o,e=>match ysA r b o e with
  |(y,l)=>match ysA r a l e with
   |(x,k)=>(.seq x y,k)
 |.cond c a b,o,e=>match ysA r a o e,ysA r b o e with
  |(x,k),(y,l)=>(.cond c x y,Nat.lor (ysM c.rd) (Nat.lor k l))
 |.block i c,o,e=>match ysA r c o fun j=>if j=i then o else e j with
  |(x,k)=>(.block i x,k)
 |.loop _ c,_,e=>match ysA r c 0 e with
  |(_,l)=>(.loop (ysB l) (ysA r c l e).1,l)
 |.exit i,_,e=>(.exit i,e i)
 |.ret,_,_=>(.ret,r)
 |x,o,_=>(x,o)
def ysD:Code->List (List Nat)->List (List Nat)×List (List Nat)
 |.region _ _ d,e=>if d then if (e.headD []).headD 1=0 then(e.take 2++[[]],e.drop 2) else(e.take 1++[[]],e.drop 1) else([[]],e)
 |.seq a b,e=>((ysD a e).1++(ysD b (ysD a e).2).1,(ysD b (ysD a e).2).2)
 |.cond _ a b,e=>((ysD a e).1++(ysD b (ysD a e).2).1,(ysD b (ysD a e).2).2)
 |.block _ a,e=>ysD a e
 |.loop a,e=>([]::(ysD a e).1,(ysD a e).2)
 |_,e=>([],e)
def ysK:AC->List (List Nat)->List (List Nat)×List (List Nat)
 |.reg _ k,e=>([k],e)
 |.regD _ k,e=>(e.take 2++[k],e.drop 2)
 |.regF _ k,e=>(e.take 1++[k],e.drop 1)
 |.seq a b,e=>((ysK a e).1++(ysK b (ysK a e).2).1,(ysK b (ysK a e).2).2)
 |.cond _ a b,e=>((ysK a e).1++(ysK b (ysK a e).2).1,(ysK b (ysK a e).2).2)
 |.block _ a,e=>ysK a e
 |.loop k a,e=>(k::(ysK a e).1,(ysK a e).2)
 |_,e=>([],e)
def ysR:List RV->List Nat
 |.t n::r=>n::ysR r
 |.c a _ _::r=>a::ysR r
 |[]=>[]
def ysZ(i:Option (AC×List RV))(p:List Nat)(e:List (List Nat)):List (List Nat):=match i with
 |some (x,r)=>(ysK (ysA (ysM (p++ysR r)) x (ysM (p++ysR r)) fun _=>0).1 e).1
 |_=>[]
noncomputable abbrev yjK(g:Func)(n:Nat)(e:List (List Nat)):List (List Nat):=ysZ (aj Tryz.prog g (ysD (g.body.getD .skip) e).1 n) [] e
noncomputable abbrev yyK(g:Func)(p E:List Nat)(n:Nat)(e:List (List Nat)):List (List Nat):=ysZ (au Tryz.prog g p E (ysD (g.body.getD .skip) e).1 n) p e
abbrev yiX(g:Func)(f:Nat)(K:List (List Nat))(n:Nat)(x:AC)(r:List RV):Prop:=Tryz.prog.funcs[f]?=some g∧aj Tryz.prog g K n=some (x,r)
abbrev yiY(g:Func)(f:Nat)(p E:List Nat)(K:List (List Nat))(n:Nat)(x:AC)(r:List RV):Prop:=Tryz.prog.funcs[f]?=some g∧au Tryz.prog g p E K n=some (x,r)
theorem yU8(n:Nat)(h:n<2^8):UInt8.ofBitVec (BitVec.ofFin (Fin.mk n h))=UInt8.ofNat n:=by apply UInt8.toBitVec_inj.1;apply BitVec.eq_of_toNat_eq;simp[Nat.mod_eq_of_lt h]
theorem yN1:Int.negSucc 0=-1:=rfl
theorem ymR{α}(x:α){y:α}(h:x=y:=by conv=>lhs;reduce;try simp only[Int.ofNat_eq_natCast,Int.cast_ofNat_Int]):y=x:=h.symm
def y95:=ymR (zs 95 (.bool false))
theorem ymI{f g x r}(h:Tryz.prog.funcs[f]?=some g)(n:Nat)(e:List (List Nat):=[])(i:aj Tryz.prog g (yjK g n e) n=some (x,r):=by conv=>lhs;reduce;try simp only[yU8,UInt8.reduceOfNat,Int.ofNat_eq_natCast,Int.cast_ofNat_Int,yN1,y95,-List.reduceReplicate]):yiX g f (yjK g n e) n x r:=⟨h,i⟩
theorem ymE{f g x r}(h:Tryz.prog.funcs[f]?=some g)(p E:List Nat)(n:Nat)(e:List (List Nat):=[])(i:au Tryz.prog g p E (yyK g p E n e) n=some (x,r):=by conv=>lhs;reduce;try simp only[yU8,UInt8.reduceOfNat,Int.ofNat_eq_natCast,Int.cast_ofNat_Int,yN1,y95,-List.reduceReplicate]):yiY g f p E (yyK g p E n e) n x r:=⟨h,i⟩
theorem ymF{f g x r}(h:Tryz.prog.funcs[f]?=some g)(p E:List Nat)(K:List (List Nat))(n:Nat)(i:au Tryz.prog g p E K n=some (x,r):=by conv=>lhs;reduce;try simp only[yU8,UInt8.reduceOfNat,Int.ofNat_eq_natCast,Int.cast_ofNat_Int,yN1,y95,-List.reduceReplicate]):yiY g f p E K n x r:=⟨h,i⟩
abbrev zOc{f g p E x K r n}(_:yiY f g p E K n x r):AC:=x
abbrev zOb{f g x K r n}(_:yiX f g K n x r):AC:=x
theorem yoA{f g us r x K rs n}(i:yiX g f K n x rs)(w:W (Cn Tryz.prog) x (Res rs (·=r)) ⟨ent 0 us,[]⟩)(l:us.length=n:=by rfl):Fn Tryz.prog f us r:=Fn.of_image (by kernel_rfl) i.1 i.2 l fun _=>w
theorem yoB{f g us r x K rs n}(i:yiX g f K n x rs)(w:oks us->W (Cn Tryz.prog) x (Res rs (·=r)) ⟨ent 0 us,[]⟩)(l:us.length=n:=by rfl):Fn Tryz.prog f us r:=Fn.of_image (by kernel_rfl) i.1 i.2 l w
theorem yoE{f g E us r x K rs n}(i:yiY g f [] E K n x rs)(w:W (Cn Tryz.prog) x (Res rs (·=r)) ⟨ent 0 us,[]⟩)(l:us.length=n:=by rfl):Fn Tryz.prog f us r:=Fn.of_imageE (by kernel_rfl) i.1 i.2 l fun _=>w
theorem yoH{f g p E us H H' r x K rs n}(i:yiY g f p E K n x rs)(w:W (Cn Tryz.prog) x (Lx rs p us r H') ⟨ent 0 us,H⟩)(l:us.length=n:=by rfl):FnH Tryz.prog f p us H r H':=FnH.of_image (by kernel_rfl) i.1 i.2 l fun _ _=>w
attribute [simp] xC jm ny nv dR nu dZ AM fT GS b9 bT ez cr aC ee eF co bz mR vl cR vk vj vi aX dQ kD
abbrev BK:Nat:=189
def Ce:=ymI Tryz.func189 1
abbrev MM:Nat:=201
def Nm:=ymI Tryz.func201 1
abbrev D4:Nat:=205
def EO:=ymI Tryz.func205 0
abbrev BI:Nat:=208
def Cc:=ymI Tryz.func208 1
abbrev vK:Nat:=212
def vY:=ymI Tryz.func212 1
abbrev BJ:Nat:=213
def Cd:=ymI Tryz.func213 1
abbrev jK:Nat:=202
def jO:=ymI Tryz.func202 2
abbrev bL:Nat:=162
def bM:=ymI Tryz.func162 2
abbrev bA:Nat:=174
abbrev aI:Nat:=169
def EP:=ymE Tryz.func169 [] [169,180,191,179,187,188,200,207,206,190,238,240,241,239,243,244,242] 1
abbrev dU:Nat:=180
def kV:=ymE Tryz.func180 [] [169,180,191,179,187,188,200,207,206,190,238,240,241,239,243,244,242,1000000] 1 [[0,0,1,3,7,0,16,48,112,255,511],[0,1,2,3,4,5,6,7,8,9]]
abbrev sV:Nat:=191
def s4:=ymI Tryz.func191 1
abbrev kO:Nat:=179
def kU:=ymE Tryz.func179 [0] [169,180,191,179,187,188,200,207,206,190,238,240,241,239,243,244,242] 1
abbrev nN:Nat:=187
def nY:=ymE Tryz.func187 [0] [169,180,191,179,187,188,200,207,206,190,238,240,241,239,243,244,242] 1 [[0,0,1,3,7,0,16,48,112,240,511,1023,2047,4095,8191,16383],[0,1,2,3,4,5,6,7,8,9,10,11,12,13,14],[0,0,0,2,6,14,0,32,96,224,510,1023,2047,4095],[0,1,2,3,4,5,6,7,8,9,10,11,12]]
abbrev uv:Nat:=188
def uE:=ymE Tryz.func188 [0] [169,180,191,179,187,188,200,207,206,190,238,240,241,239,243,244,242] 2 [[0,0,1,3,7,0,16,48,112,240,511,1023,2047,2047,6143,14335,30719,2047,67583,198655,460799,1046527,2097151,4194303,8388607,16777215],[0,1,2,3,4,5,6,7,8,9,10,11,12,13,14,15,16,17,18,19,20,21,22,23,24]]
abbrev qk:Nat:=200
def qA:=ymE Tryz.func200 [0] [169,180,191,179,187,188,200,207,206,190,238,240,241,239,243,244,242] 1
abbrev qj:Nat:=207
def qz:=ymE Tryz.func207 [0] [169,180,191,179,187,188,200,207,206,190,238,240,241,239,243,244,242] 2 [[0,0,1,3,7,0,16,48,112,240,511,1023,2047,4095,8191,16383,2047,34815,100351,231423,524287,1048575,2097151,4194303,8388607,16777215,16777215,67108863,134217727],[0,1,2,3,4,5,6,7,8,9,10,11,12,13,14,15,16,17,18,19,20,21,22,23,24,25,26,27],[0,0,1,3,7,0,16,48,112,240,511,1023,2047],[0,1,2,3,4,5,6,7,8,9,10,11]]
abbrev pE:Nat:=206
def pH:=ymE Tryz.func206 [0] [169,180,191,179,187,188,200,207,206,190,238,240,241,239,243,244,242] 1
abbrev fA:Nat:=190
def fC:=ymE Tryz.func190 [0] [169,180,191,179,187,188,200,207,206,190,238,240,241,239,243,244,242] 4
abbrev iX:Nat:=238
def i4:=ymE Tryz.func238 [0] [169,180,191,179,187,188,200,207,206,190,238,240,241,239,243,244,242] 1
abbrev jN:Nat:=240
def jR:=ymE Tryz.func240 [0] [169,180,191,179,187,188,200,207,206,190,238,240,241,239,243,244,242] 3
abbrev oI:Nat:=241
def oP:=ymE Tryz.func241 [1] [169,180,191,179,187,188,200,207,206,190,238,240,241,239,243,244,242] 4
abbrev oK:Nat:=239
def oS:=ymE Tryz.func239 [1] [169,180,191,179,187,188,200,207,206,190,238,240,241,239,243,244,242] 4
abbrev oL:Nat:=243
def oT:=ymE Tryz.func243 [1] [169,180,191,179,187,188,200,207,206,190,238,240,241,239,243,244,242] 4
abbrev oJ:Nat:=244
def oQ:=ymE Tryz.func244 [1] [169,180,191,179,187,188,200,207,206,190,238,240,241,239,243,244,242] 4
abbrev mX:Nat:=242
def m3:=ymE Tryz.func242 [0] [169,180,191,179,187,188,200,207,206,190,238,240,241,239,243,244,242] 2
end Go.Abs
