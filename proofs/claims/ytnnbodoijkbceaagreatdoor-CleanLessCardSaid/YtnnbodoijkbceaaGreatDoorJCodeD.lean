/- The images of some of the program's functions, as the kernel reckons them. No condition. -/
import Derived.Test.YtnnbodoijkbceaaGreatDoorJAbs15
import Derived.Test.YtnnbodoijkbceaaGreatDoorProg
import Derived.KernelRfl
set_option linter.all false
set_option maxHeartbeats 0
set_option maxRecDepth 100000
namespace Go.Abs
open Go.Proofs
abbrev zs(n:Nat)(v:V):List V:=List.replicate n v
abbrev bQ:Nat:=3
abbrev ya:Nat:=4
abbrev tl:Nat:=5
abbrev aU:Nat:=9
abbrev lL:Nat:=21
abbrev e9:Nat:=22
abbrev iD:Nat:=23
abbrev dF:Nat:=25
abbrev dp:Nat:=26
abbrev Dt:Nat:=33
abbrev mo:Nat:=39
abbrev aG:Nat:=41
abbrev ml:Nat:=47
abbrev bR:Nat:=49
abbrev b7:Nat:=59
abbrev dR:Nat:=66
abbrev dW:Nat:=68
abbrev dn:Nat:=117
abbrev yb:Nat:=127
abbrev mn:Nat:=224
abbrev b6:Nat:=230
abbrev cw:Nat:=250
abbrev tq:Nat:=259
abbrev tm:Nat:=261
abbrev tr:Nat:=263
abbrev tp:Nat:=268
def ysM(l:List Nat):Nat:=l.foldr (fun t m=>Nat.lor (2^t) m) 0
def ysB(m:Nat):List Nat:=(List.range (m.log2+1)).filter m.testBit
def ysL(x:List AOp)(o:Nat):Nat:=x.foldr (fun x l=>Nat.lor (ysM x.rds) (match x.d with
 |some d=>Nat.xor (Nat.lor l (2^d)) (2^d)
 |_=>l)) o
def ysT:OT->List AOp
 |.op x t=>x::ysT t
 |.both a _=>ysT a
 |_=>[]
def ysA(r:Nat):AC->Nat->(Nat->Nat)->AC×Nat
 |.reg x _,o,_=>(.reg x (ysB o),ysL x o)
 |.regD x _,o,_=>(.regD x (ysB o),ysL x o)
 |.regF t _,o,_=>(.regF t (ysB o),ysL (ysT t) o)
 |.seq a b,o,e=>match ysA r b o e with
  |(y,l)=>match ysA r a l e with
   |(x,k)=>(.seq x y,k)
 |.cond c a b,o,e=>match ysA r a o e,ysA r b o e with
  |(x,k),(y,l)=>(.cond c x y,Nat.lor (ysM c.rd) (Nat.lor k l))
 |.block i c,o,e=>match ysA r c o fun j=>if j=i then o else e j with
  |(x,k)=>(.block i x,k)
 |.loop _ c,_,e=>match ysA r c 0 e with
  |(_,l)=>(.loop (ysB l) (ysA r c l e).1,l)
 |.exit i,_,e=>(.exit i,e i)
 |.ret,_,_=>(.ret,r)
 |x,o,_=>(x,o)
def ysD:Code->List (List Nat)->List (List Nat)×List (List Nat)
 |.region _ _ d,e=>if d then if (e.headD []).headD 1=0 then(e.take 2++[[]],e.drop 2) else(e.take 1++[[]],e.drop 1) else([[]],e)
 |.seq a b,e=>((ysD a e).1++(ysD b (ysD a e).2).1,(ysD b (ysD a e).2).2)
 |.cond _ a b,e=>((ysD a e).1++(ysD b (ysD a e).2).1,(ysD b (ysD a e).2).2)
 |.block _ a,e=>ysD a e
 |.loop a,e=>([]::(ysD a e).1,(ysD a e).2)
 |_,e=>([],e)
def ysK:AC->List (List Nat)->List (List Nat)×List (List Nat)
 |.reg _ k,e=>([k],e)
 |.regD _ k,e=>(e.take 2++[k],e.drop 2)
 |.regF _ k,e=>(e.take 1++[k],e.drop 1)
 |.seq a b,e=>((ysK a e).1++(ysK b (ysK a e).2).1,(ysK b (ysK a e).2).2)
 |.cond _ a b,e=>((ysK a e).1++(ysK b (ysK a e).2).1,(ysK b (ysK a e).2).2)
 |.block _ a,e=>ysK a e
 |.loop k a,e=>(k::(ysK a e).1,(ysK a e).2)
 |_,e=>([],e)
def ysR:List RV->List Nat
 |.t n::r=>n::ysR r
 |.c a _ _::r=>a::ysR r
 |[]=>[]
def ysZ(i:Option (AC×List RV))(p:List Nat)(e:List (List Nat)):List (List Nat):=match i with
 |some (x,r)=>(ysK (ysA (ysM (p++ysR r)) x (ysM (p++ysR r)) fun _=>0).1 e).1
 |_=>[]
noncomputable abbrev yjK(g:Func)(n:Nat)(e:List (List Nat)):List (List Nat):=ysZ (al Tryz.prog g (ysD (g.body.getD .skip) e).1 n) [] e
noncomputable abbrev yyK(g:Func)(p E:List Nat)(n:Nat)(e:List (List Nat)):List (List Nat):=ysZ (aq Tryz.prog g p E (ysD (g.body.getD .skip) e).1 n) p e
abbrev yiX(g:Func)(f:Nat)(K:List (List Nat))(n:Nat)(x:AC)(r:List RV):Prop:=Tryz.prog.funcs[f]?=some g∧al Tryz.prog g K n=some (x,r)
abbrev yiY(g:Func)(f:Nat)(p E:List Nat)(K:List (List Nat))(n:Nat)(x:AC)(r:List RV):Prop:=Tryz.prog.funcs[f]?=some g∧aq Tryz.prog g p E K n=some (x,r)
theorem yU8(n:Nat)(h:n<2^8):UInt8.ofBitVec (BitVec.ofFin (Fin.mk n h))=UInt8.ofNat n:=by apply UInt8.toBitVec_inj.1;apply BitVec.eq_of_toNat_eq;simp[Nat.mod_eq_of_lt h]
theorem yN1:Int.negSucc 0=-1:=rfl
theorem ymR{α}(x:α){y:α}(h:x=y:=by conv=>lhs;reduce;try simp only[Int.ofNat_eq_natCast,Int.cast_ofNat_Int]):y=x:=h.symm
def y95:=ymR (zs 95 (.bool false))
theorem ymI{f g x r}(h:Tryz.prog.funcs[f]?=some g)(n:Nat)(e:List (List Nat):=[])(i:al Tryz.prog g (yjK g n e) n=some (x,r):=by conv=>lhs;reduce;try simp only[yU8,UInt8.reduceOfNat,Int.ofNat_eq_natCast,Int.cast_ofNat_Int,yN1,y95,-List.reduceReplicate]):yiX g f (yjK g n e) n x r:=⟨h,i⟩
theorem ymE{f g x r}(h:Tryz.prog.funcs[f]?=some g)(p E:List Nat)(n:Nat)(e:List (List Nat):=[])(i:aq Tryz.prog g p E (yyK g p E n e) n=some (x,r):=by conv=>lhs;reduce;try simp only[yU8,UInt8.reduceOfNat,Int.ofNat_eq_natCast,Int.cast_ofNat_Int,yN1,y95,-List.reduceReplicate]):yiY g f p E (yyK g p E n e) n x r:=⟨h,i⟩
theorem ymF{f g x r}(h:Tryz.prog.funcs[f]?=some g)(p E:List Nat)(K:List (List Nat))(n:Nat)(i:aq Tryz.prog g p E K n=some (x,r):=by conv=>lhs;reduce;try simp only[yU8,UInt8.reduceOfNat,Int.ofNat_eq_natCast,Int.cast_ofNat_Int,yN1,y95,-List.reduceReplicate]):yiY g f p E K n x r:=⟨h,i⟩
abbrev zOc{f g p E x K r n}(_:yiY f g p E K n x r):AC:=x
abbrev zOb{f g x K r n}(_:yiX f g K n x r):AC:=x
theorem yoA{f g us r x K rs n}(i:yiX g f K n x rs)(w:W (Cn Tryz.prog) x (Res rs (·=r)) ⟨ent 0 us,[]⟩)(l:us.length=n:=by rfl):Fn Tryz.prog f us r:=Fn.of_image (by kernel_rfl) i.1 i.2 l fun _=>w
theorem yoB{f g us r x K rs n}(i:yiX g f K n x rs)(w:oks us->W (Cn Tryz.prog) x (Res rs (·=r)) ⟨ent 0 us,[]⟩)(l:us.length=n:=by rfl):Fn Tryz.prog f us r:=Fn.of_image (by kernel_rfl) i.1 i.2 l w
theorem yoE{f g E us r x K rs n}(i:yiY g f [] E K n x rs)(w:W (Cn Tryz.prog) x (Res rs (·=r)) ⟨ent 0 us,[]⟩)(l:us.length=n:=by rfl):Fn Tryz.prog f us r:=Fn.of_imageE (by kernel_rfl) i.1 i.2 l fun _=>w
theorem yoH{f g p E us H H' r x K rs n}(i:yiY g f p E K n x rs)(w:W (Cn Tryz.prog) x (G7 rs p us r H') ⟨ent 0 us,H⟩)(l:us.length=n:=by rfl):FnH Tryz.prog f p us H r H':=FnH.of_image (by kernel_rfl) i.1 i.2 l fun _ _=>w
attribute [simp] iD mo mn dp ml yb e9 Dt bR b7 dR b6 aG dF dW ya bQ lL tr cw tq tp tm aU dn tl
abbrev zd:Nat:=189
def zG:=ymI Tryz.func189 1
abbrev Io:Nat:=201
def IR:=ymI Tryz.func201 1
abbrev Bu:Nat:=205
def B3:=ymI Tryz.func205 0
abbrev za:Nat:=208
def zE:=ymI Tryz.func208 1
abbrev tQ:Nat:=212
def ua:=ymI Tryz.func212 1
abbrev zb:Nat:=213
def zF:=ymI Tryz.func213 1
abbrev iY:Nat:=202
def i4:=ymI Tryz.func202 2
abbrev bC:Nat:=162
def bD:=ymI Tryz.func162 2
abbrev bm:Nat:=174
abbrev aF:Nat:=169
def B4:=ymE Tryz.func169 [] [169,180,191,179,187,188,200,207,206,190,238,240,241,239,243,244,242] 1
abbrev dt:Nat:=180
def jV:=ymE Tryz.func180 [] [169,180,191,179,187,188,200,207,206,190,238,240,241,239,243,244,242,1000000] 1 [[0,0,1,3,7,0,16,48,112,255,511],[0,1,2,3,4,5,6,7,8,9]]
abbrev rj:Nat:=191
def rn:=ymI Tryz.func191 1
abbrev jQ:Nat:=179
def jU:=ymE Tryz.func179 [0] [169,180,191,179,187,188,200,207,206,190,238,240,241,239,243,244,242] 1
abbrev mE:Nat:=187
def mO:=ymE Tryz.func187 [0] [169,180,191,179,187,188,200,207,206,190,238,240,241,239,243,244,242] 1 [[0,0,1,3,7,0,16,48,112,240,511,1023,2047,4095,8191,16383],[0,1,2,3,4,5,6,7,8,9,10,11,12,13,14],[0,0,0,2,6,14,0,32,96,224,510,1023,2047,4095],[0,1,2,3,4,5,6,7,8,9,10,11,12]]
abbrev su:Nat:=188
def sE:=ymE Tryz.func188 [0] [169,180,191,179,187,188,200,207,206,190,238,240,241,239,243,244,242] 2 [[0,0,1,3,7,0,16,48,112,240,511,1023,2047,2047,6143,14335,30719,2047,67583,198655,460799,1046527,2097151,4194303,8388607,16777215],[0,1,2,3,4,5,6,7,8,9,10,11,12,13,14,15,16,17,18,19,20,21,22,23,24]]
abbrev oJ:Nat:=200
def o9:=ymE Tryz.func200 [0] [169,180,191,179,187,188,200,207,206,190,238,240,241,239,243,244,242] 1
abbrev oI:Nat:=207
def oZ:=ymE Tryz.func207 [0] [169,180,191,179,187,188,200,207,206,190,238,240,241,239,243,244,242] 2 [[0,0,1,3,7,0,16,48,112,240,511,1023,2047,4095,8191,16383,2047,34815,100351,231423,524287,1048575,2097151,4194303,8388607,16777215,16777215,67108863,134217727],[0,1,2,3,4,5,6,7,8,9,10,11,12,13,14,15,16,17,18,19,20,21,22,23,24,25,26,27],[0,0,1,3,7,0,16,48,112,240,511,1023,2047],[0,1,2,3,4,5,6,7,8,9,10,11]]
abbrev nS:Nat:=206
def nW:=ymE Tryz.func206 [0] [169,180,191,179,187,188,200,207,206,190,238,240,241,239,243,244,242] 1
abbrev eM:Nat:=190
def eO:=ymE Tryz.func190 [0] [169,180,191,179,187,188,200,207,206,190,238,240,241,239,243,244,242] 4
abbrev ig:Nat:=238
def il:=ymE Tryz.func238 [0] [169,180,191,179,187,188,200,207,206,190,238,240,241,239,243,244,242] 1
abbrev i3:Nat:=240
def i7:=ymE Tryz.func240 [0] [169,180,191,179,187,188,200,207,206,190,238,240,241,239,243,244,242] 3
abbrev nh:Nat:=241
def nn:=ymE Tryz.func241 [1] [169,180,191,179,187,188,200,207,206,190,238,240,241,239,243,244,242] 4
abbrev nj:Nat:=239
def nq:=ymE Tryz.func239 [1] [169,180,191,179,187,188,200,207,206,190,238,240,241,239,243,244,242] 4
abbrev nk:Nat:=243
def nr:=ymE Tryz.func243 [1] [169,180,191,179,187,188,200,207,206,190,238,240,241,239,243,244,242] 4
abbrev ni:Nat:=244
def np:=ymE Tryz.func244 [1] [169,180,191,179,187,188,200,207,206,190,238,240,241,239,243,244,242] 4
abbrev lQ:Nat:=242
def lU:=ymE Tryz.func242 [0] [169,180,191,179,187,188,200,207,206,190,238,240,241,239,243,244,242] 2
end Go.Abs
