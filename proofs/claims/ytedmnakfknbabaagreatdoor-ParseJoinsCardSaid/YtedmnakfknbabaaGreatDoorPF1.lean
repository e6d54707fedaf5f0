/- What the first functions of the document's package. -/
import Derived.Test.YtedmnakfknbabaaGreatDoorPCodeA
import Derived.Lib.Bytealg
import Derived.Test.YtedmnakfknbabaaGreatDoorPCodeW
set_option linter.all false
set_option maxHeartbeats 0
set_option maxRecDepth 100000
open List renaming reduceReplicate→zAa,mem_of_getElem?→zAb,length_cons→zAc,eq_nil_of_length_eq_zero→zAd,mem_cons→zAe,map_cons→zAf,length_append→zAg,take_of_length_le→zAh,length_take→zAi,mem_append→zAj,flatMap_cons→zBa,filter_cons→zBb,mem_map_of_mem→zBd,getElem?_take→zBf,all_cons→zBg,mem_or_eq_of_mem_set→zBi,length_nil→zBj,mem_filter→zCa,sum_cons→zCb,length_pos_iff→zCc,mem_singleton→zCe,mem_map→zCf,set_cons_succ→zCg,flatten_cons→zCh,mem_flatMap→zCj,any_cons→zDa
open Nat renaming eq_zero_or_pos→zBc,le_refl→zBe,mul_le_mul_left→zCd,mod_lt→zDb
open Option renaming not_isSome→zBh
open Bool renaming not_eq_true→zCi
open Option.some renaming injEq→zDc
open List.cons renaming injEq→zDd
section
namespace Go.Abs.F
open Go.Proofs
attribute [-simp] getElem?_pos
theorem mixed:Tryz.prog.follows .mixedOrders=true:=by kernel_rfl
abbrev Str:=List UInt8
def js(b:UInt8):Bool:=97<=b.toNat&&b.toNat<=122
theorem lN(b:UInt8):Fn Tryz.prog zS [.int .u8 b.toNat] (.bool (js b)):=by
 refine Fn.of_image mixed AI An rfl fun ho=>?_;unfold lR;simp only[oks,ok,and_true]at ho;simp(disch:=omega) [-zAa,lR,js]
 repeat' (first|(refine BrKd.mk (fun h=>?_) (fun h=>?_)<;>simp(disch:=omega) [*])|(refine BrK.mk (fun h=>?_) (fun h=>?_)<;>simp(disch:=omega) [*]))
def cG(b:UInt8):Bool:=js b||(48<=b.toNat&&b.toNat<=57)||decide (b.toNat=45)
def named:Str->Bool
 |[]=>false
 |b::s=>js b&&(b::s).all cG
theorem qo(s:Str):Fn Tryz.prog zU [.str s] (.bool (named s)):=by
 refine Fn.of_image mixed AK Ap rfl fun ho=>?_;unfold iH;simp only[oks,ok,and_true]at ho;cases s with
 |nil=>simp(disch:=omega) [-zAa,iH,named]
 |cons b t=>
   simp(disch:=omega) [-zAa,iH];refine ac (lN b) rfl fun _=>?_;simp(disch:=omega) [-zAa];generalize hr:named (b::t)=r;generalize hs:b::t=s at *;refine ay (fun k:Nat=>⟨[(0,.str s),(3,.bool (js b)),(4,.int .i64 k)],[]⟩) (fun k=>k<=s.length/\(js b&&(s.drop k).all cG)=r) (fun k=>s.length-k) [] _ 0 rfl (by simp) (by simp[<-hr,<-hs,named]) ?_
   rintro k ⟨hk,hi⟩ N hN;rcases place s k hk with⟨he,hd⟩|⟨hlt,x,hx,hd⟩<;>rw[hd]at hi<;>replace hi:=hid hi
   ·simp(disch:=omega) [-zAa,he]
    simpa using hi.out
   ·simp(disch:=omega) [-zAa,hx]
    repeat' (first|(refine BrKd.mk (fun h=>?_) (fun h=>?_)<;>simp(disch:=omega) [*])|(refine BrK.mk (fun h=>?_) (fun h=>?_)<;>simp(disch:=omega) [*])|(refine ac (lN _) rfl (fun _=>?_)<;>simp(disch:=omega) [*])|(refine a6 (lN _) rfl ?_<;>simp(disch:=omega) [*]))
    all_goals first
     |(refine hN.out _<|Nx.mk (k+1) (by simp[*]) ⟨by omega,?_⟩ (by omega);simpa(disch:=omega) [*,decide_eq_true,decide_eq_false,cG]using hi.out)
     |(first|simpa(disch:=omega) [*,decide_eq_true,decide_eq_false,cG]using hi.out.symm|simpa(disch:=omega) [*,decide_eq_true,decide_eq_false,cG]using hi.out)
def plain(s:Str):Bool:=named s&&s.length<=16
structure Attr where
 name:Str
 value:Str
structure Constraint where
 kind:Int
 words:List Str
 regex:Str
structure Rule where
 name:Str
 value:Constraint
 req:Bool
structure Allowed where
 name:Str
 kids:List Str
 rules:List Rule
structure Policy where
 top:List Str
 elements:List Allowed
 unwrap:List Str
@[simp] def Attr.v (a:Attr):V:=.strct [.str a.name,.str a.value]
def Constraint.c(c:Constraint):List V:=[.int .i64 c.kind,.seq 1 (c.words.map .str),.str c.regex]
@[simp] def Constraint.v (c:Constraint):V:=.strct c.c
@[simp] def Rule.v (r:Rule):V:=.strct [.str r.name,.int .i64 r.value.kind,.seq 1 (r.value.words.map .str),.str r.value.regex,.bool r.req]
@[simp] def Allowed.v (a:Allowed):V:=.strct [.str a.name,.seq 1 (a.kids.map .str),.seq 5 (a.rules.map Rule.v)]
@[simp] def Policy.v (p:Policy):V:=.strct [.seq 1 (p.top.map .str),.seq 3 (p.elements.map Allowed.v),.seq 1 (p.unwrap.map .str)]
attribute [simp] Constraint.c
def To:List Allowed->Str->Option Allowed
 |[],_=>none
 |e::l,s=>if e.name=s then some e else To l s
def RF(s:Str):Str×Bool:=match s[s.length-1]? with
 |some x=>if x.toNat=42 then(s.take (s.length-1),true)else(s,false)
 |none=>(s,false)
def sR:List Str->Str->Bool
 |[],_=>false
 |x::l,s=>if x=s then true else sR l s
def RN(b:UInt8):Bool:=32<=b.toNat&&b.toNat<=126
def Uq(s:Str):Bool:=s.all js&&(1<=s.length&&s.length<=16)
theorem fP{α:Type}{l:List α}{k:Nat}{x:α}(h:l[k]?=some x):l.take (k+1)=l.take k++[x]:=by rw[List.take_add_one,h];rfl
theorem take_drop{α:Type}{l:List α}{k j:Nat}{x:α}(h:l[j]?=some x)(hj:j<k):(l.take k).drop j=x::(l.take k).drop (j+1):=
 uU (by rw[zBf,if_pos hj,h])
def Tq(sch:Bool)(x:Str):Bool:=if sch then Uq x else(x.all RN&&decide (x.length<=40))
def JT(sch:Bool):List Str->List Str->Bool
 |_,[]=>true
 |pre,x::l=>Tq sch x&&(!(sR pre x)&&JT sch (pre++[x]) l)
def words(l:List Str)(sch:Bool):Bool:=JT sch [] l&&decide (l.length<=8)
def E9:Str->Nat
 |[]=>0
 |b::s=>b.toNat+E9 s
theorem Pm{l:List V}{sz:Nat}:gU (if l=[]then V.seq sz l else V.junk)=true:=by split<;>simp[gU, *]
theorem Pl{α:Type}{f:α->V}{l:List α}{sz:Nat}:gU (if l=[]then V.seq sz (l.map f)else V.junk)=true:=by split<;>simp[gU, *]
theorem Cd:∀{l:List Str},fT (l.map V.str)=true
 |[]=>rfl
 |_::l=>by simp[fT,gU,Cd (l:=l)]
attribute [simp] Pm Pl Cd
def ew(s:Str):Bool:=decide (s=[98,114])||(decide (s=[104,114])||(decide (s=[105,109,103])||(decide (s=[105,110,112,117,116])||decide (s=[119,98,114]))))
theorem td(s:Str):Fn Tryz.prog Dg [.str s] (.bool (ew s)):=by
 refine Fn.of_image mixed Ea DO rfl fun ho=>?_;unfold ng;simp only[oks,ok,and_true]at ho;simp(disch:=omega) [-zAa,ng,ew]
 repeat' (first|(refine BrKd.mk (fun h=>?_) (fun h=>?_)<;>simp(disch:=omega) [*])|(refine BrK.mk (fun h=>?_) (fun h=>?_)<;>simp(disch:=omega) [*]))
def raw(s:Str):Bool:=decide (s=[115,99,114,105,112,116])||decide (s=[115,116,121,108,101])
theorem vN(s:Str):Fn Tryz.prog FY [.str s] (.bool (raw s)):=by
 refine Fn.of_image mixed GQ Gt rfl fun ho=>?_;unfold pc;simp only[oks,ok,and_true]at ho;simp(disch:=omega) [-zAa,pc,raw]
 repeat' (first|(refine BrKd.mk (fun h=>?_) (fun h=>?_)<;>simp(disch:=omega) [*])|(refine BrK.mk (fun h=>?_) (fun h=>?_)<;>simp(disch:=omega) [*]))
def bF(o:Str):List Str:=
 if o=[112]then[[98,108,111,99,107,113,117,111,116,101],[100,105,118],[104,49],[104,50],[104,114],[108,105],[111,108],[112],[112,114,101],[116,97,98,108,101],[117,108]]
 else if o=[108,105]then[[108,105]]
 else if o=[100,116]\/o=[100,100]then[[100,100],[100,116]]
 else if o=[111,112,116,105,111,110]then[[111,112,116,105,111,110]]
 else if o=[116,100]then[[116,100],[116,114]]
 else if o=[116,114]then[[116,114]]
 else[]
def dk(o b:Str):Bool:=sR (bF o) b
theorem yX(o b:Str):Fn Tryz.prog yc [.str o,.str b] (.bool (dk o b)):=by
 refine Fn.of_image mixed yG yu rfl fun ho=>?_;unfold kG;simp only[oks,ok,and_true]at ho;simp(disch:=omega) [-zAa,kG];generalize hr:dk o b=r;have hlen:(bF o).length<=11:=by unfold bF;repeat' (split<;>try simp)
 repeat' (first|(refine BrKd.mk (fun h=>?_) (fun h=>?_)<;>simp(disch:=omega) [*])|(refine BrK.mk (fun h=>?_) (fun h=>?_)<;>simp(disch:=omega) [*]))
 all_goals
  by_cases hc:bF o=[]
  ·refine ay (fun k:Nat=>⟨[(1,.str b),(5,.nil 1),(6,.int .i64 0)],[]⟩) (fun k=>k=0) (fun k=>0-k) [] _ 0 rfl (by revert hc;simp[*,bF]) rfl ?_
   rintro k rfl N hN;simp[<-hr,dk,hc,sR]
  refine ay (fun k:Nat=>⟨[(1,.str b),(5,.seq 1 ((bF o).map .str)),(6,.int .i64 k)],[]⟩) (fun k=>k<=(bF o).length/\sR ((bF o).drop k) b=r) (fun k=>(bF o).length-k) [] _ 0 rfl (by revert hc;simp[*,bF]) (by simp[<-hr,dk]) ?_
  clear hr hc;generalize bF o=l at *;rintro k ⟨hk,hi⟩ N hN;rcases place l k hk with⟨he,hd⟩|⟨hlt,x,hx,hd⟩<;>rw[hd]at hi<;>replace hi:=hid hi
  ·simp(disch:=omega) [-zAa,he]
   simpa[sR]using hi.out
  ·simp(disch:=omega) [-zAa,hx]
   repeat' (first|(refine BrKd.mk (fun h=>?_) (fun h=>?_)<;>simp(disch:=omega) [*])|(refine BrK.mk (fun h=>?_) (fun h=>?_)<;>simp(disch:=omega) [*]))
   all_goals first
    |(refine hN.out _<|Nx.mk (k+1) (by simp[*]) ⟨by omega,?_⟩ (by omega);simpa(disch:=omega) [*,decide_eq_true,decide_eq_false,sR]using hi.out)
    |(first|simpa(disch:=omega) [*,decide_eq_true,decide_eq_false,sR]using hi.out.symm|simpa(disch:=omega) [*,decide_eq_true,decide_eq_false,sR]using hi.out)
def Tg:List Str->List Str->Bool
 |_,[]=>true
 |pre,x::l=>!sR pre x&&Tg (pre++[x]) l
def once(l:List Str):Bool:=Tg [] l
def Tm:Str:=[35,116,101,120,116]
def Pc:Str:=[35,99,111,109,109,101,110,116]
def kidOK(p:Policy)(par x:Str):Bool:=!(ew par||(raw par&& !decide (x=Tm)))&&((decide (x=Tm)||decide (x=Pc))||((To p.elements x).isSome&& !dk par x))
def kids(p:Policy)(par:Str)(l:List Str):Bool:=l.all (kidOK p par)&&once l
end Go.Abs.F
end
section
namespace Go.Abs.F
open Go.Proofs
attribute [-simp] getElem?_pos zBh
end Go.Abs.F
end
section
namespace Go.Abs.F
open Go.Proofs
attribute [-simp] getElem?_pos zBh
def fdx{α:Type}(f:α->Bool):Nat->List α->Int
 |_,[]=>-1
 |k,x::l=>if f x then k else fdx f (k+1) l
theorem KA{α:Type}(f:α->Bool):∀(l:List α)(k:Nat),decide (0<=fdx f k l)=l.any f
 |[],k=>by simp[fdx]
 |x::l,k=>by
   simp only[fdx,zDa];split
   ·rename_i h;simp[h]
   ·rename_i h;simp only[zCi]at h;rw[KA f l (k+1),h];rfl
theorem HV(s:Str):∀l:List Str,l.any (fun x=>decide (s=x))=sR l s
 |[]=>rfl
 |x::l=>by
   simp only[zDa,sR,HV s l];by_cases h:x=s
   ·simp[h]
   ·have:¬s=x:=fun e=>h e.symm
    simp[h,this]
theorem nK(l:List Str)(s:Str):Fn Tryz.prog iQ [.seq 1 (l.map .str),.str s] (.int .i64 (fdx (fun x=>decide (s=x)) 0 l)):=by
 refine Fn.of_image mixed iX iU rfl fun ho=>?_;unfold dH;simp only[oks,ok,and_true]at ho;have hlen:l.length<=140737488355328:=by have:=ho.1.1;simpa using this
 clear ho;simp(disch:=omega) [-zAa];generalize hr:fdx (fun x=>decide (s=x)) 0 l=r;refine ay (fun k:Nat=>⟨[(0,.seq 1 (l.map .str)),(1,.str s),(7,.int .i64 l.length),(8,.int .i64 k)],[]⟩) (fun k=>k<=l.length/\fdx (fun x=>decide (s=x)) k (l.drop k)=r) (fun k=>l.length-k) [] _ 0 rfl (by simp[*]) (by simp[*]) ?_
 rintro k ⟨hk,hi⟩ N hN;rcases place l k hk with⟨he,hd⟩|⟨hlt,x,hx,hd⟩<;>rw[hd]at hi<;>replace hi:=hid hi
 ·simp(disch:=omega) [-zAa,he]
  simpa[fdx]using hi.out
 ·simp(disch:=omega) [-zAa,hx]
  refine BrKd.mk (fun h=>?_) (fun h=>?_)
  ·simp(disch:=omega) [-zAa]
   have hi:=hi.out;simpa[fdx,h]using hi
  ·simp(disch:=omega) [-zAa]
   refine hN.out _<|Nx.mk (k+1) (by simp[*]) ⟨by omega,?_⟩ (by omega)
   have hi:=hi.out;simpa[fdx,h]using hi
theorem fA(l:List Str)(s:Str):Fn Tryz.prog gw [.seq 1 (l.map .str),.str s] (.bool (sR l s)):=by
 refine Fn.of_image mixed gG gC rfl fun ho=>?_;unfold c7;simp only[oks,ok,and_true]at ho;simp(disch:=omega) [-zAa];refine ac (nK _ _) rfl fun _=>?_;simp(disch:=omega) [-zAa];rw[KA,HV]
def bq(s p:Str):Bool:=decide (p.length<=s.length)&&decide (s.take p.length=p)
theorem fU(s p:Str):Fn Tryz.prog gz [.str s,.str p] (.bool (bq s p)):=by
 refine Fn.of_image mixed gI gF rfl fun ho=>?_;unfold c9;simp only[oks,ok,and_true]at ho;simp(disch:=omega) [-zAa,bq]
 repeat' (first|(refine BrKd.mk (fun h=>?_) (fun h=>?_)<;>simp(disch:=omega) [*])|(refine BrK.mk (fun h=>?_) (fun h=>?_)<;>simp(disch:=omega) [*]))
theorem bO(s p:Str):Fn Tryz.prog pO [.str s,.str p] (.bool (bq s p)):=by
 refine Fn.of_image mixed p3 pU rfl fun ho=>?_;unfold jC;simp only[oks,ok,and_true]at ho;simp(disch:=omega) [-zAa]
 repeat' (first|(refine BrKd.mk (fun h=>?_) (fun h=>?_)<;>simp(disch:=omega) [*])|(refine BrK.mk (fun h=>?_) (fun h=>?_)<;>simp(disch:=omega) [*])|(refine ac (fU _ _) rfl (fun _=>?_)<;>simp(disch:=omega) [*])|(refine a6 (fU _ _) rfl ?_<;>simp(disch:=omega) [*]))
theorem eV(c:UInt8):∀s:Str,Lib.indexByte s c<(s.length:Int)+1/\(0<=Lib.indexByte s c->Lib.indexByte s c<s.length)
 |[]=>by simp[Lib.indexByte]
 |b::l=>by
   have:=eV c l;unfold Lib.indexByte;simp only[zAc];split
   ·omega
   ·split
    ·omega
    ·omega
theorem fe(s:Str)(c:UInt8):Fn Tryz.prog fG [.str s,.int .u8 c.toNat] (.int .i64 (Lib.indexByte s c)):=by
 refine Fn.ext fJ (by kernel_rfl) (by kernel_rfl) (by kernel_rfl) (e:=Extern.BytealgIndexByte.indexByte) (by kernel_rfl) ?_
 intro M w cs hM hus;obtain⟨cl⟩:=cs;simp only[ae]at hus;obtain⟨_,_,rfl,⟨bs,rfl,rfl,_⟩,_,_,rfl,⟨rfl,_⟩,rfl⟩:=hus;refine⟨_,Lib.run_indexByteString bs (c.toNat:Int) w,?_⟩;have hc:((c.toNat:Int)).toNat.toUInt8=c:=by simp
 rw[hc];simp only[rep];have h1:=Lib.indexByte_ge bs.data.toList c;have h2:=eV c bs.data.toList;refine⟨trivial,?_,?_⟩
 ·simp;omega
 ·simp;omega
theorem mh(s:Str)(c:UInt8):Fn Tryz.prog gy [.str s,.int .u8 c.toNat] (.int .i64 (Lib.indexByte s c)):=by
 refine Fn.of_image mixed gH gD rfl fun ho=>?_;unfold c8;simp only[oks,ok,and_true]at ho;simp(disch:=omega) [-zAa]
 repeat' (first|(refine BrKd.mk (fun h=>?_) (fun h=>?_)<;>simp(disch:=omega) [*])|(refine BrK.mk (fun h=>?_) (fun h=>?_)<;>simp(disch:=omega) [*])|(refine ac (fe _ _) rfl (fun _=>?_)<;>simp(disch:=omega) [*])|(refine a6 (fe _ _) rfl ?_<;>simp(disch:=omega) [*]))
structure Node where
 kind:Int
 name:Str
 attrs:List Attr
 text:Str
 kids:List Node
mutual
def Node.v:Node->V
 |⟨k,n,a,t,ks⟩=>.strct [.int .i64 k,.str n,.seq 2 (a.map Attr.v),.str t,.seq 5 (Node.vs ks)]
def Node.vs:List Node->List V
 |[]=>[]
 |n::l=>n.v::Node.vs l
end
theorem Node.vs_map:∀l:List Node,Node.vs l=l.map Node.v
 |[]=>by simp[Node.vs]
 |n::l=>by simp[Node.vs,Node.vs_map l]
theorem Node.v_eq(n:Node):n.v=.strct [.int .i64 n.kind,.str n.name,.seq 2 (n.attrs.map Attr.v),.str n.text,.seq 5 (n.kids.map Node.v)]:=by
 cases n;simp[Node.v,Node.vs_map]
attribute [simp] Node.v_eq
section
variable{p:List Node->Prop}(h0:p [])(h1:∀n l,p n.kids->p l->p (n::l))
include h0 h1
mutual
theorem aC:∀l,p l
 |[]=>h0
 |n::l=>h1 n l (IC n) (aC l)
theorem IC:∀n:Node,p n.kids
 |⟨_,_,_,_,ks⟩=>aC ks
end
end
def fits(pat nm:Str):Bool:=plain (RF pat).1&&(if(RF pat).2 then bq nm (RF pat).1 else decide (nm=(RF pat).1))
def Tn:List Rule->Str->Option Rule
 |[],_=>none
 |r::l,s=>if fits r.name s then some r else Tn l s
def Vc(A:Constraint->Str->Bool)(e:Allowed)(a:Attr):Bool:=match Tn e.rules a.name with
 |some r=>A r.value a.value
 |none=>false
def keptA(A:Constraint->Str->Bool)(e:Allowed)(l:List Attr):List Attr:=l.filter (Vc A e)
def jb:List Attr->Str->Option Str
 |[],_=>none
 |a::l,s=>if a.name=s then some a.value else jb l s
theorem A0(n:Node)(s:Str):Fn Tryz.prog zT [n.v,.str s] (.tup [.str ((jb n.attrs s).getD []),.bool (jb n.attrs s).isSome]):=by
 refine Fn.of_image mixed AJ Ao rfl fun ho=>?_;unfold qB;simp only[oks,ok,and_true]at ho;have hlen:n.attrs.length<=140737488355328:=by have:=ho.1;simp at this;exact this.2.2.1.1
 clear ho;simp(disch:=omega) [-zAa];generalize hr:jb n.attrs s=r;refine ay (fun k:Nat=>⟨[(1,.str s),(2,.ptr 0 0),(6,.int .i64 k)],[some (.box [.int .i64 n.kind,.str n.name,.seq 2 (n.attrs.map Attr.v),.str n.text,.seq 5 (n.kids.map Node.v)])]⟩) (fun k=>k<=n.attrs.length/\jb (n.attrs.drop k) s=r) (fun k=>n.attrs.length-k) [] _ 0 rfl (by simp[*]) (by simp[*]) ?_
 rintro k ⟨hk,hi⟩ N hN;rcases place n.attrs k hk with⟨he,hd⟩|⟨hlt,x,hx,hd⟩<;>rw[hd]at hi<;>replace hi:=hid hi
 ·simp(disch:=omega) [-zAa,he]
  simp[<-hi.out,jb]
 ·simp(disch:=omega) [-zAa,hx]
  refine BrKd.mk (fun h=>?_) (fun h=>?_)
  ·simp(disch:=omega) [-zAa,hx]
   have hi:=hi.out;simp[jb,h]at hi;subst hi;simp
  ·simp(disch:=omega) [-zAa]
   refine hN.out _<|Nx.mk (k+1) (by simp[*]) ⟨by omega,?_⟩ (by omega)
   have hi:=hi.out;simpa[jb,h]using hi
def whole(e:Allowed)(l:List Attr):Bool:=e.rules.all fun r=>!(r.req&& !(jb l r.name).isSome)
def Kv(A:Constraint->Str->Bool)(e:Allowed)(l:List Attr):Bool:=decide ((keptA A e l).length=l.length)&&whole e l
mutual
def Qa(f:Node->Prop):Node->Prop
 |⟨k,n,a,t,ks⟩=>f ⟨k,n,a,t,ks⟩/\ar f ks
def ar(f:Node->Prop):List Node->Prop
 |[]=>True
 |n::l=>Qa f n/\ar f l
end
mutual
def Jx:Node->Nat
 |⟨k,n,a,t,ks⟩=>1+aj ks
def aj:List Node->Nat
 |[]=>0
 |n::l=>Jx n+aj l
end
theorem fc(f:Node->Prop)(n:Node):Qa f n=(f n/\ar f n.kids):=by cases n;simp[Qa]
theorem ef(n:Node):Jx n=1+aj n.kids:=by cases n;simp[Jx]
theorem xl:∀{l:List Node}{n:Node},n∈l->aj n.kids+1<=aj l
 |[],n,h=>by cases h
 |x::l,n,h=>by
   simp only[aj,ef];rcases zAe.1 h with rfl|h
   ·omega
   ·have:=xl h;omega
theorem eZ{f:Node->Prop}:∀{l:List Node}{n:Node},ar f l->n∈l->f n/\ar f n.kids
 |[],n,_,h=>by cases h
 |x::l,n,ha,h=>by
   simp only[ar,fc]at ha;rcases zAe.1 h with rfl|h
   ·exact ha.1
   ·exact eZ ha.2 h
def bV(b:UInt8):V:=.int .u8 b.toNat
theorem JD(s:Str):fL s=s.map bV:=u4 s
theorem i9(b:UInt8):bV b=.int .u8 b.toNat:=rfl
attribute [simp] JD i9
def follows(b:UInt8):Bool:=decide (128<=b.toNat)&&decide (b.toNat<192)
theorem wV(b:UInt8):Fn Tryz.prog wz [.int .u8 b.toNat] (.bool (follows b)):=by
 refine Fn.of_image mixed wQ wI rfl fun ho=>?_;unfold nE;simp only[oks,ok,and_true]at ho;simp(disch:=omega) [-zAa,follows]
 repeat' (first|(refine BrKd.mk (fun h=>?_) (fun h=>?_)<;>simp(disch:=omega) [*])|(refine BrK.mk (fun h=>?_) (fun h=>?_)<;>simp(disch:=omega) [*]))
def hdr(c:Nat):Nat×Nat×Nat:=
 if 192<=c/\c<224 then(2,c-192,128)else if 224<=c/\c<240 then(3,c-224,2048)else if 240<=c/\c<248 then(4,c-240,65536)else(0,0,0)
def goV:Str->Nat->Option Nat
 |[],v=>some v
 |b::l,v=>if follows b then goV l (64*v+b.toNat-128)else none
def oa(n least:Nat):Option Nat->Nat×Nat
 |none=>(65533,1)
 |some v=>if v<least\/1114111<v\/(55296<=v/\v<=57343)then(65533,1)else(v,n)
def one:Str->Nat×Nat
 |[]=>(65533,1)
 |b::t=>if b.toNat<128 then(b.toNat,1)
   else if(hdr b.toNat).1=0\/t.length+1<(hdr b.toNat).1 then(65533,1)
   else oa (hdr b.toNat).1 (hdr b.toNat).2.2 (goV (t.take ((hdr b.toNat).1-1)) (hdr b.toNat).2.1)
theorem uH(c:Nat):(hdr c).1=0\/(2<=(hdr c).1/\(hdr c).1<=4/\(hdr c).2.1<64/\(hdr c).2.2<=65536):=by
 unfold hdr;split
 ·simp;omega
 ·split
  ·simp;omega
  ·split
   ·simp;omega
   ·simp
theorem cR(s:Str):1<=(one s).2/\(one s).2<=4/\(s≠[]->(one s).2<=s.length)/\(one s).1<=1114111/\¬(55296<=(one s).1/\(one s).1<=57343):=by
 cases s with
 |nil=>simp[one]
 |cons b t=>
   have hb:=b.toNat_lt;have hr:=uH b.toNat;simp only[one];split
   ·simp;omega
   ·split
    ·simp
    ·rename_i h
     unfold oa;split
     ·simp
     ·split
      ·simp
      ·rename_i h2
       simp only[zAc];omega
theorem yP{b:UInt8}(h:follows b=true):128<=b.toNat/\b.toNat<192:=by simpa[follows]using h
theorem Hr(b:UInt8)(t:Str):Fn Tryz.prog F0 [.seq 1 ((b::t).map bV)] (.tup [.int .i32 (one (b::t)).1,.int .i64 (one (b::t)).2]):=by
 refine Fn.of_image mixed GU Gx rfl fun ho=>?_;unfold wc;simp only[oks,ok,and_true]at ho;have hlen:t.length<140737488355328:=by have:=ho.1;simp at this;omega
 clear ho;have hb:=b.toNat_lt;generalize hR:one (b::t)=R;have hR2:=hR;simp only[one]at hR2;simp(disch:=omega) [-zAa];have hr:=uH b.toNat;refine BrKd.mk (fun h=>?_) (fun h=>?_)
 ·rw[if_pos h]at hR2
  simp(disch:=omega) [-zAa,<-hR2]
 ·rw[if_neg h]at hR2
  have hz:(hdr b.toNat).1=0->R=(65533,1):=fun h=>by rw[if_pos (.inl h)]at hR2;exact hR2.symm
  have hs:t.length+1<(hdr b.toNat).1->R=(65533,1):=fun h=>by rw[if_pos (.inr h)]at hR2;exact hR2.symm
  have hok:¬(hdr b.toNat).1=0->¬t.length+1<(hdr b.toNat).1->oa (hdr b.toNat).1 (hdr b.toNat).2.2 (goV (t.take ((hdr b.toNat).1-1)) (hdr b.toNat).2.1)=R:=fun h h'=>by rw[if_neg (by simp[h,h'])]at hR2;exact hR2
  clear hR2;replace hz:=hid hz;replace hs:=hid hs;replace hok:=hid hok;simp(disch:=omega) [-zAa]
  repeat' (first
   |(refine BrKd.mk (fun h=>?_) (fun h=>?_)<;>simp(disch:=omega) [*])
   |(refine BrK.mk (fun h=>?_) (fun h=>?_)<;>simp(disch:=omega) [*]))
  all_goals
   first
   |(have hq:hdr b.toNat=(2,b.toNat-192,128):=by unfold hdr;rw[if_pos (by omega)])
   |(have hq:hdr b.toNat=(3,b.toNat-224,2048):=by unfold hdr;rw[if_neg (by omega),if_pos (by omega)])
   |(have hq:hdr b.toNat=(4,b.toNat-240,65536):=by unfold hdr;rw[if_neg (by omega),if_neg (by omega),if_pos (by omega)])
   |(have hq:hdr b.toNat=(0,0,0):=by unfold hdr;rw[if_neg (by omega),if_neg (by omega),if_neg (by omega)])
   by_cases h0:(hdr b.toNat).1=0
   ·first
    |(have h0:=hz.out h0;simp[h0];done)
    |(exfalso;rw[hq]at h0;simp at h0;done)
   by_cases h1:t.length+1<(hdr b.toNat).1
   ·first
    |(have h0:=hs.out h1;simp[h0];done)
    |(exfalso;rw[hq]at h1;simp at h1;omega)
   first
   |(exfalso;rw[hq]at h0;exact h0 rfl)
   |(exfalso;rw[hq]at h1;simp only at h1;omega)
   |skip
  all_goals
   obtain⟨n,hn⟩:∃n:Nat,n=(hdr b.toNat).1:=⟨_,rfl⟩;obtain⟨v0,hv⟩:∃n:Nat,n=(hdr b.toNat).2.1:=⟨_,rfl⟩;obtain⟨le,hl⟩:∃n:Nat,n=(hdr b.toNat).2.2:=⟨_,rfl⟩;rw[<-hn,<-hv,<-hl]at hok hr;rw[hq]at hn hv hl;simp only at hn hv hl;have hok:=hok.out (by omega) (by omega)
   have htl:(t.take (n-1)).length=n-1:=by rw[zAi];omega
   refine ay (fun(q:Nat×Nat)=>⟨[(0,.seq 1 ((b::t).map bV)),(5,.int .i64 n),(6,.int .i64 q.2),(7,.int .i64 le),(8,.int .i64 ((q.1:Int)+1))],[]⟩)
    (fun q=>q.1<=(t.take (n-1)).length/\oa n le (goV ((t.take (n-1)).drop q.1) q.2)=R/\((q.1=0/\q.2<64)\/(q.1=1/\q.2<4096)\/(q.1=2/\q.2<262144)\/(q.1=3/\q.2<16777216))) (fun q=>(t.take (n-1)).length-q.1) [] _ (0,v0) rfl (by simp[hn,hv,hl];omega) (by simp[hok];omega) ?_
   have hn24:2<=n/\n<=4/\le<=65536:=by omega
   clear hq hn hv hl;rintro⟨j,v⟩ ⟨hj,hi,hvb⟩ N hN;simp only at hj hi hvb;rcases place (t.take (n-1)) j hj with⟨he,hd⟩|⟨hlt,x,hx,hd⟩<;>rw[hd,goV]at hi
   ·simp only[oa]at hi
    have bad:(v<le\/1114111<v\/(55296<=v/\v<=57343))->R=(65533,1):=fun h=>by rw[if_pos h]at hi;exact hi.symm
    have good:¬(v<le\/1114111<v\/(55296<=v/\v<=57343))->R=(v,n):=fun h=>by rw[if_neg h]at hi;exact hi.symm
    clear hi;replace bad:=hid bad;replace good:=hid good;have hjn:j+1=n:=by omega
    have hjn2:¬((j:Int)+1<n):=by omega
    simp(disch:=omega) [-zAa,hjn2]
    repeat' (first
     |(refine BrKd.mk (fun h=>?_) (fun h=>?_)<;>simp(disch:=omega) [*])
     |(refine BrK.mk (fun h=>?_) (fun h=>?_)<;>simp(disch:=omega) [*]))
    all_goals first
     |(rw[bad.out (by omega)];simp;done)
     |(rw[good.out (by omega)];simp;done)
   ·have hx2:t[j]?=some x:=by rw[zBf]at hx;simpa[show j<n-1 by omega]using hx
    have hxb:=x.toNat_lt;have hjn2:(j:Int)+1<n:=by omega
    replace hi:=hid hi;simp(disch:=omega) [-zAa,hx2,hjn2];refine ac (wV x) rfl fun _=>?_;simp(disch:=omega) [-zAa];refine BrK.mk (fun h=>?_) (fun h=>?_)
    ·have hf:=yP h
     simp(disch:=omega) [-zAa,hx2];have hi:=hi.out;rw[if_pos h]at hi;refine hN.out _<|Nx.mk (j+1,64*v+x.toNat-128) (by simp;omega) ⟨by simp only;omega,hi,by simp only;omega⟩ (by simp only;omega)
    ·simp(disch:=omega) [-zAa]
     have hi:=hi.out;rw[if_neg (by simp[h])]at hi
     simp[<-hi,oa]
def d8:Nat->Str->List Nat
 |0,_=>[]
 |_,[]=>[]
 |f+1,b::t=>(one (b::t)).1::d8 f ((b::t).drop (one (b::t)).2)
def b9(s:Str):List Nat:=d8 s.length s
theorem xL:∀(f:Nat)(s:Str),s.length<=f->d8 f s=b9 s:=by
 have key:∀(n f g:Nat)(s:Str),s.length<=n->s.length<=f->s.length<=g->d8 f s=d8 g s:=by
  intro n
  induction n with
  |zero=>intro f g s h1 _ _;have:s=[]:=zAd (by omega);subst this;cases f<;>cases g<;>rfl
  |succ n ih=>
    intro f g s h1 h2 h3;cases s with
    |nil=>cases f<;>cases g<;>rfl
    |cons b t=>
      cases f with
      |zero=>simp at h2
      |succ f=>cases g with
        |zero=>simp at h3
        |succ g=>
          simp only[d8];have:=cR (b::t);simp only[zAc]at h1 h2 h3;rw[ih f g _ (by simp;omega) (by simp;omega) (by simp;omega)]
 intro f s h;exact key s.length f s.length s (zBe _) h (zBe _)
theorem eC(b:UInt8)(t:Str):b9 (b::t)=(one (b::t)).1::b9 ((b::t).drop (one (b::t)).2):=by
 have:=cR (b::t);rw[<-xL t.length ((b::t).drop (one (b::t)).2) (by simp;omega)]
 rfl
theorem Bw:∀(n:Nat)(s:Str),s.length<=n->(b9 s).length<=s.length:=by
 intro n
 induction n with
 |zero=>intro s h;have:s=[]:=zAd (by omega);subst this;simp[b9,d8]
 |succ n ih=>
   intro s h;cases s with
   |nil=>simp[b9,d8]
   |cons b t=>
     have h1:=cR (b::t);rw[eC];simp only[zAc]at h⊢;have:=ih ((b::t).drop (one (b::t)).2) (by simp;omega)
     simp at this;omega
theorem Bv:∀(n:Nat)(s:Str),s.length<=n->∀r∈b9 s,r<=1114111/\¬(55296<=r/\r<=57343):=by
 intro n
 induction n with
 |zero=>intro s h r hr;have:s=[]:=zAd (by omega);subst this;simp[b9,d8]at hr
 |succ n ih=>
   intro s h r hr;cases s with
   |nil=>simp[b9,d8]at hr
   |cons b t=>
     have h1:=cR (b::t);rw[eC]at hr;simp only[zAc]at h;rcases zAe.1 hr with rfl|hr
     ·exact h1.2.2.2
     ·exact ih _ (by simp;omega) r hr
def rV(r:Nat):V:=.int .i32 r
theorem rV_eq(r:Nat):rV r=.int .i32 r:=rfl
attribute [simp] rV_eq
theorem A4(s:Str)(hs:s.length<=1000000):FnN Tryz.prog zX [.seq 1 (s.map bV)] (.seq 1 ((b9 s).map rV)):=by
 refine FnN.of_image mixed AN As rfl fun ho=>?_;unfold qE;clear ho;simp(disch:=omega) [-zAa];generalize hw:b9 s=w
 refine ay (fun(q:Nat×List Nat)=>⟨[(0,.seq 1 (s.map bV)),(3,.ref 0 q.2.length),(4,.int .i64 q.1)],[some (.arr lU 1 (q.2.map rV))]⟩)
  (fun q=>q.1<=s.length/\q.2.length<=q.1/\q.2++b9 (s.drop q.1)=w) (fun q=>s.length-q.1) [.r 3 lU 1] _ (0,[]) rfl (by simp) (by simp[<-hw]) ?_
 rintro⟨k,out⟩ ⟨hk,hol,hi⟩ N hN;simp only at hk hol hi;have hfl:∀l:List Nat,fT (l.map rV)=true:=fun l=>by induction l<;>simp[fT,gU, *]
 rcases place s k hk with⟨he,hd⟩|⟨hlt,x,hx,hd⟩<;>rw[hd]at hi
 ·simp[b9,d8]at hi
  subst hi;simp(disch:=omega) [-zAa,he,hfl]
 ·have h1:=cR (x::s.drop (k+1))
  rw[eC]at hi;have hd2:(x::s.drop (k+1)).drop (one (x::s.drop (k+1))).2=s.drop (k+(one (x::s.drop (k+1))).2):=by rw[<-hd,List.drop_drop]
  rw[hd2]at hi;have hle:=h1.2.2.1 (by simp)
  simp only[zAc,List.length_drop]at hle;replace hi:=hid hi
  have hsl:ui (s.map bV) k s.length=some ((x::s.drop (k+1)).map bV):=by
   simp only[ui];rw[if_pos (by simp;omega),<-hd]
   simp;rw[zAh (by simp)]
  simp(disch:=omega) [hsl,-zAf,-ui];refine ac (Hr x (s.drop (k+1))) rfl fun _=>?_;generalize one (x::s.drop (k+1))=o at *;simp(disch:=omega) [-zAa];refine hN.out _<|Nx.mk (k+o.2,out++[o.1]) (by simp) ⟨by simp only;omega,by simp;omega,by simpa using hi.out⟩ (by simp only;omega)
def b8(n:Nat):UInt8:=UInt8.ofNat n
theorem aV{n:Nat}(h:n<256):(b8 n).toNat=n:=by simp[b8,UInt8.toNat_ofNat,Nat.mod_eq_of_lt h]
def aw(r:Nat):Str:=
 let v:=if 1114111<r\/(55296<=r/\r<=57343)then 65533 else r
 if v<128 then[b8 v]
 else if v<2048 then[b8 (192+v/64),b8 (128+v%64)]
 else if v<65536 then[b8 (224+v/4096),b8 (128+v/64%64),b8 (128+v%64)]
 else[b8 (240+v/262144),b8 (128+v/4096%64),b8 (128+v/64%64),b8 (128+v%64)]
theorem eO(r:Nat):(aw r).length<=4:=by
 unfold aw;simp only
 repeat' split
 all_goals simp
theorem A1(r:Nat)(h:r<=1114111):Fn Tryz.prog zW [.int .i32 r] (.seq 1 ((aw r).map bV)):=by
 refine Fn.of_image mixed AM Ar rfl fun ho=>?_;unfold qD;simp only[oks,ok,and_true]at ho;clear ho;generalize hR:aw r=R;unfold aw at hR;simp only at hR;by_cases hb:1114111<r\/(55296<=r/\r<=57343)
 ·rw[if_pos hb]at hR
  simp(disch:=omega) [-zAa]
  repeat' (first
   |(refine BrKd.mk (fun h=>?_) (fun h=>?_)<;>simp(disch:=omega) [*])
   |(refine BrK.mk (fun h=>?_) (fun h=>?_)<;>simp(disch:=omega) [*]))
  all_goals first|omega|(subst hR;rfl)
 ·rw[if_neg hb]at hR
  simp(disch:=omega) [-zAa]
  repeat' (first
   |(refine BrKd.mk (fun h=>?_) (fun h=>?_)<;>simp(disch:=omega) [*])
   |(refine BrK.mk (fun h=>?_) (fun h=>?_)<;>simp(disch:=omega) [*]))
  all_goals (subst hR;simp(disch:=omega) [aV])
def aX(l:List Nat):Str:=(l.map aw).flatten
theorem Bn:∀l:List Nat,(aX l).length<=4*l.length
 |[]=>by simp[aX]
 |r::l=>by
   have h1:=eO r;have h2:=Bn l;simp only[aX,zAf,zCh,zAg,zAc]at *;omega
theorem sB:∀s:Str,aK (s.map bV)=some s
 |[]=>rfl
 |b::s=>by
   have:=sB s;simp only[zAf,i9,aK,this,Option.map_some,zDc,zDd,and_true];simp
attribute [simp] sB
theorem Ez(l:List Nat)(hl:l.length<=1000000)(hr:∀r∈l,r<=1114111):Fn Tryz.prog Di [.seq 1 (l.map rV)] (.str (aX l)):=by
 refine Fn.of_image mixed Ed DR rfl fun ho=>?_;unfold tP;simp only[oks,ok,and_true]at ho;clear ho;simp(disch:=omega) [-zAa];generalize hw:aX l=w
 refine ay (fun(q:Nat×Str)=>⟨[(0,.seq 1 (l.map rV)),(3,.ref 0 q.2.length),(4,.int .i64 q.1)],[some (.arr iK 1 (q.2.map bV))]⟩)
  (fun q=>q.1<=l.length/\q.2.length<=4*q.1/\q.2++aX (l.drop q.1)=w) (fun q=>l.length-q.1) [.r 3 iK 1] _ (0,[]) rfl (by simp) (by simp[<-hw]) ?_
 rintro⟨k,out⟩ ⟨hk,hol,hi⟩ N hN;simp only at hk hol hi;rcases place l k hk with⟨he,hd⟩|⟨hlt,x,hx,hd⟩<;>rw[hd]at hi
 ·simp[aX]at hi
  subst hi;simp(disch:=omega) [he,-i9]
 ·simp only[aX,zAf,zCh]at hi
  have hxl:=eO x;replace hi:=hid hi;simp(disch:=omega) [-zAa,hx];refine aq (A1 x (hr x (zAb hx))) (by simp) fun _=>?_
  simp(disch:=omega) [-zAa];refine hN.out _<|Nx.mk (k+1,out++aw x) (by simp) ⟨by simp only;omega,by simp;omega,by simpa[aX]using hi.out⟩ (by simp only;omega)
def eW:Option Nat->List Nat->List Nat
 |_,[]=>[]
 |p,r::l=>(if r=10/\p=some 13 then[]else[if r=13 then 10 else if r=0 then 65533 else r])++eW (some r) l
theorem G9:∀(l:List Nat)(p:Option Nat),(eW p l).length<=l.length
 |[],p=>by simp[eW]
 |r::l,p=>by
   have:=G9 l (some r);simp only[eW,zAg,zAc];split<;>simp<;>omega
theorem G8:∀(l:List Nat)(p:Option Nat),(∀r∈l,r<=1114111)->∀r∈eW p l,r<=1114111
 |[],p,_,r,hr=>by simp[eW]at hr
 |x::l,p,h,r,hr=>by
   simp only[eW,zAj]at hr;rcases hr with hr|hr
   ·have:=h x (by simp)
    split at hr
    ·cases hr
    ·simp at hr;subst hr;split<;>(try split)<;>omega
   ·exact G8 l _ (fun y hy=>h y (by simp[hy])) r hr
def bg(s:Str):Str:=aX (eW none (b9 s))
def nr(l:List Nat)(k:Nat):Option Nat:=if k=0 then none else l[k-1]?
theorem lO(s:Str)(hs:s.length<=1000000):Fn Tryz.prog zY [.seq 1 (s.map bV)] (.str (bg s)):=by
 refine Fn.of_image mixed AP At rfl fun ho=>?_;unfold qF;simp only[oks,ok,and_true]at ho;clear ho;have hrl:=Bw s.length s (zBe _);have hrm:=Bv s.length s (zBe _);simp(disch:=omega) [-zAa];refine KZ (A4 s hs) fun _=>?_;unfold bg;generalize b9 s=l at *;simp(disch:=omega) [-zAa];generalize hw:eW none l=w;have hwm:=G8 l none (fun r hr=>(hrm r hr).1);rw[hw]at hwm
 refine ay (fun(q:Nat×List Nat)=>⟨[(3,.seq 1 (l.map rV)),(4,.ref 0 q.2.length),(5,.int .i64 q.1)],[some (.arr lU 1 (q.2.map rV))]⟩)
  (fun q=>q.1<=l.length/\q.2.length<=q.1/\q.2++eW (nr l q.1) (l.drop q.1)=w) (fun q=>l.length-q.1) [.r 4 lU 1] _ (0,[]) rfl (by simp) (by simp[<-hw,nr]) ?_
 rintro⟨k,out⟩ ⟨hk,hol,hi⟩ N hN;simp only at hk hol hi;rcases place l k hk with⟨he,hd⟩|⟨hlt,x,hx,hd⟩<;>rw[hd]at hi
 ·simp[eW]at hi
  subst hi;simp(disch:=omega) [-zAa,he];refine ac (Ez out (by omega) hwm) rfl fun _=>?_
  simp(disch:=omega) [-zAa]
 ·have hp1:nr l (k+1)=some x:=by simp[nr,hx]
  simp only[eW,<-hp1]at hi;have skip:(x=10/\nr l k=some 13)->out++eW (nr l (k+1)) (l.drop (k+1))=w:=fun h=>by rw[if_pos h]at hi;simpa using hi
  have put:¬(x=10/\nr l k=some 13)->(out++[if x=13 then 10 else if x=0 then 65533 else x])++eW (nr l (k+1)) (l.drop (k+1))=w:=fun h=>by rw[if_neg h]at hi;simpa using hi
  clear hi;replace skip:=hid skip
  replace put:=hid put;have hxr:=(hrm x (zAb hx)).1
  have fin:∀τ:St,∀o2:List Nat,τ.nrm [3,4,5]=⟨[(3,.seq 1 (l.map rV)),(4,.ref 0 o2.length),(5,.int .i64 ((k+1:Nat):Int))],[some (.arr lU 1 (o2.map rV))]⟩->o2.length<=k+1->o2++eW (nr l (k+1)) (l.drop (k+1))=w->N τ:=by
   intro τ o2 h1 h2 h3;exact hN.out _<|Nx.mk (k+1,o2) h1 ⟨by simp only;omega,h2,h3⟩ (by simp only;omega)
  by_cases h10:x=10
  ·subst h10
   rcases zBc k with hk0|hk0
   ·subst hk0
    simp(disch:=omega) [-zAa,hx];exact fin _ (out++[10]) (by simp) (by simp only[zAg,zAc,zBj];omega) (by simpa using put.out (by simp[nr]))
   ·obtain⟨y,hy⟩:=bH (l:=l) (k:=k-1) (by omega)
    have hkt:((k:Int)-1).toNat=k-1:=by omega
    simp(disch:=omega) [-zAa,hx,hy,hkt];refine BrKd.mk (fun h=>?_) (fun h=>?_)
    ·simp(disch:=omega) [-zAa,hx]
     exact fin _ out (by simp) (by omega) (skip.out ⟨rfl,by simp[nr,hy];omega⟩)
    ·simp(disch:=omega) [-zAa,hx]
     exact fin _ (out++[10]) (by simp) (by simp;omega) (by simpa using put.out (by simp[nr,hy];omega))
  ·by_cases h13:x=13
   ·subst h13
    simp(disch:=omega) [-zAa,hx];exact fin _ (out++[10]) (by simp) (by simp;omega) (by simpa using put.out (by simp))
   ·by_cases h0:x=0
    ·subst h0
     simp(disch:=omega) [-zAa,hx];exact fin _ (out++[65533]) (by simp) (by simp;omega) (by simpa using put.out (by simp))
    ·simp(disch:=omega) [-zAa,hx,h10,h13,h0]
     exact fin _ (out++[x]) (by simp) (by simp;omega) (by simpa[h13,h0]using put.out (by simp[h10]))
theorem rK(s:Str)(hs:s.length<=1000000):Fn Tryz.prog IG [.str s] (.bool (decide (bg s=s))):=by
 refine Fn.of_image mixed Jd I6 rfl fun ho=>?_;unfold zm;simp only[oks,ok,and_true]at ho;simp(disch:=omega) [-zAa];refine ac (by simpa using lO s hs) rfl fun _=>?_
 simp(disch:=omega) [-zAa]
def p5(s:Str):Str:=s.take 30
theorem lw(s:Str):Fn Tryz.prog FX [.str s] (.str (p5 s)):=by
 refine Fn.of_image mixed GP Gs rfl fun ho=>?_;unfold v7;simp only[oks,ok,and_true]at ho;simp(disch:=omega) [-zAa,p5];refine BrKd.mk (fun h=>?_) (fun h=>?_)
 ·simp(disch:=omega) [-zAa,h]
 ·simp(disch:=omega) [-zAa,h]
  rw[zAh (by omega)]
def Mu(a:Attr):Attr:=⟨p5 a.name,p5 a.value⟩
mutual
def Pz:Node->Nat->List Node×Nat
 |⟨_,_,_,_,ks⟩,m=>dB ks m
def dB:List Node->Nat->List Node×Nat
 |[],m=>([],m)
 |n::l,m=>if m=0 then([],0)else
   (⟨n.kind,p5 n.name,(n.attrs.take 5).map Mu,p5 n.text,(Pz n (m-1)).1⟩::(dB l (Pz n (m-1)).2).1,(dB l (Pz n (m-1)).2).2)
end
theorem xk(n:Node)(m:Nat):Pz n m=dB n.kids m:=by cases n;simp[Pz]
theorem tr:∀(l:List Node)(m:Nat),aj (dB l m).1+(dB l m).2<=m:=by
 refine aC (fun m=>by simp[dB,aj]) ?_
 intro n l h1 h2 m;simp only[dB,xk];split
 ·simp[aj]
 ·have g1:=h1 (m-1)
  have g2:=h2 (dB n.kids (m-1)).2;simp only[aj,Jx];omega
theorem c6:∀l:List Node,l.length<=aj l
 |[]=>by simp[aj]
 |n::l=>by have:=c6 l;simp[aj,ef];omega
theorem Hq:∀(l:List Node)(m:Nat),m<=1000->Fn Tryz.prog ll [.seq 5 (l.map Node.v),.int .i64 m] (.tup [.seq 5 ((dB l m).1.map Node.v),.int .i64 (dB l m).2]):=by
 have key:∀l:List Node,(∀n∈l,∀m:Nat,m<=1000->Fn Tryz.prog ll [.seq 5 (n.kids.map Node.v),.int .i64 m] (.tup [.seq 5 ((dB n.kids m).1.map Node.v),.int .i64 (dB n.kids m).2]))->
  ∀m:Nat,m<=1000->Fn Tryz.prog ll [.seq 5 (l.map Node.v),.int .i64 m] (.tup [.seq 5 ((dB l m).1.map Node.v),.int .i64 (dB l m).2]):=by
  intro l hrec m hm;refine Fn.of_image mixed GT Gw rfl fun ho=>?_;unfold wb;simp only[oks,ok,and_true]at ho;have hlen:l.length<=140737488355328:=by have:=ho.1;simp at this;exact this.1
  clear ho;simp(disch:=omega) [-zAa];generalize hR:dB l m=R
  refine ay (fun(q:Nat×Nat×List Node)=>⟨[(0,.seq 5 (l.map Node.v)),(1,.int .i64 q.2.1),(6,.ref 0 q.2.2.length),(7,.int .i64 q.1)],[some (.arr aN 5 (q.2.2.map Node.v))]⟩)
   (fun q=>q.1<=l.length/\q.2.2.length+q.2.1<=1000/\(q.2.2++(dB (l.drop q.1) q.2.1).1,(dB (l.drop q.1) q.2.1).2)=R) (fun q=>l.length-q.1) [.r 6 aN 5] _ (0,m,[]) rfl (by simp) (by simp[hR];omega) ?_
  rintro⟨k,m,out⟩ ⟨hk,hol,hi⟩ N hN;simp only at hk hol hi;rcases place l k hk with⟨he,hd⟩|⟨hlt,x,hx,hd⟩<;>rw[hd]at hi
  ·simp[dB]at hi
   subst hi;simp(disch:=omega) [-zAa,he]
  ·simp only[dB,xk]at hi
   rcases zBc m with hm0|hm0
   ·subst hm0
    simp at hi;subst hi;simp(disch:=omega) [-zAa]
   ·rw[if_neg (by omega)]at hi
    have hxc:=tr x.kids (m-1);replace hi:=hid hi;simp(disch:=omega) [-zAa,hx];refine ac (lw _) rfl fun _=>?_;simp(disch:=omega) [-zAa];refine ac (lw _) rfl fun _=>?_;simp(disch:=omega) [-zAa];have hm1:((m:Int)-1)=((m-1:Nat):Int):=by omega
    rw[hm1];refine aq (hrec x (zAb hx) (m-1) (by omega)) (by simp) fun _=>?_
    generalize dB x.kids (m-1)=ck at *;simp(disch:=omega) [-zAa];have hl5:(List.take 5 x.attrs).length=min 5 x.attrs.length:=zAi
    refine ay (fun(q:Nat)=>⟨[(0,.seq 5 (l.map Node.v)),(1,.int .i64 ck.2),(6,.ref 0 out.length),(7,.int .i64 k),(8,.ptr 1 0),(9,.ref 2 ((x.attrs.take 5).take q).length),(10,.int .i64 q)],
     [some (.arr aN 5 (out.map Node.v)),some (.box [.int .i64 x.kind,.str (p5 x.name),.seq 2 (x.attrs.map Attr.v),.str (p5 x.text),.seq 5 (ck.1.map Node.v)]),some (.arr dE 2 ((((x.attrs.take 5).take q).map Mu).map Attr.v))]⟩)
     (fun q=>q<=(x.attrs.take 5).length) (fun q=>(x.attrs.take 5).length-q) [.r 9 dE 2] _ 0 rfl (by simp) (by simp) ?_
    rintro j hj N2 hN2;have hjl:((x.attrs.take 5).take j).length=j:=by rw[zAi];omega
    rcases place (x.attrs.take 5) j hj with⟨he2,hd2⟩|⟨hlt2,y,hy,hd2⟩
    ·have htk:(x.attrs.take 5).take j=x.attrs.take 5:=zAh (by omega)
     rw[htk]at hjl⊢;have hjj:(j<x.attrs.length/\j=5)\/j=x.attrs.length:=by omega
     rcases hjj with hjj|hjj
     all_goals
      simp(disch:=omega) [-zAa,hjj,hjl];refine hN.out _<|Nx.mk (k+1,ck.2,out++[⟨x.kind,p5 x.name,(x.attrs.take 5).map Mu,p5 x.text,ck.1⟩]) (by simp) ⟨by simp only;omega,by simp;omega,by simpa using hi.out⟩ (by simp only;omega)
    ·have hy2:x.attrs[j]?=some y:=by rw[zBf]at hy;simpa[show j<5 by omega]using hy
     rw[hjl];simp(disch:=omega) [-zAa,hy2,hjl];refine a6 (lw _) rfl ?_;simp(disch:=omega) [-zAa,hy2,hjl];refine a6 (lw _) rfl ?_;simp(disch:=omega) [-zAa,hy2,hjl];refine hN2.out _<|Nx.mk (j+1) ?_ (by omega) (by omega)
     have hjl2:((x.attrs.take 5).take (j+1)).length=j+1:=by rw[zAi];omega
     rw[hjl2,fP hy];simp[Mu]
 have all:∀l:List Node,∀n∈l,∀m:Nat,m<=1000->Fn Tryz.prog ll [.seq 5 (n.kids.map Node.v),.int .i64 m] (.tup [.seq 5 ((dB n.kids m).1.map Node.v),.int .i64 (dB n.kids m).2]):=by
  refine aC (fun x hx=>by cases hx) ?_
  intro n l h1 h2 x hx;rcases zAe.1 hx with rfl|hx
  ·exact key _ h1
  ·exact h2 x hx
 exact fun l=>key l (all l)
theorem Hp(l:List Node):Fn Tryz.prog FZ [.seq 5 (l.map Node.v)] (.seq 5 ((dB l 40).1.map Node.v)):=by
 refine Fn.of_image mixed GS Gv rfl fun ho=>?_;unfold wa;simp only[oks,ok,and_true]at ho;clear ho;simp(disch:=omega) [-zAa];refine aq (Hq l 40 (by omega)) (by simp) fun _=>?_
 simp(disch:=omega) [-zAa]
def FC:List Str:=[[97],[98],[112],[117,108],[108,105],[98,114],[105,109,103],[100,105,118],[115,99,114,105,112,116],[120,45,121]]
def r8(s:Str):Str:=if named s then s else(FC[E9 s%10]?).getD []
theorem Ew(s:Str)(hs:s.length<=1000000):Fn Tryz.prog Df [.str s] (.str (r8 s)):=by
 refine Fn.of_image mixed D8 DM rfl fun ho=>?_;unfold tL;simp only[oks,ok,and_true]at ho;clear ho;simp(disch:=omega) [-zAa]
 refine ay (fun(p:Nat×Nat)=>⟨[(0,.str s),(3,.seq 1 (FC.map .str)),(4,.int .i64 p.2),(5,.int .i64 p.1)],[]⟩)
  (fun p=>p.1<=s.length/\p.2<=255*p.1/\p.2+E9 (s.drop p.1)=E9 s) (fun p=>s.length-p.1) [] _ (0,0) rfl (by simp[FC]) (by simp) ?_
 rintro⟨k,n⟩ ⟨hk,hn,hi⟩ N hN;simp only at hk hn hi;rcases place s k hk with⟨he,hd⟩|⟨hlt,x,hx,hd⟩<;>rw[hd,E9]at hi
 ·have hm:n%10<10:=zDb _ (by decide)
  have ht:((n:Int)%10).toNat=n%10:=by omega
  obtain⟨y,hy⟩:=bH (l:=FC) (k:=n%10) hm;have hpl:FC.length=10:=rfl;simp only[Nat.add_zero]at hi;simp(disch:=omega) [-zAa,he];refine ac (qo s) rfl fun _=>?_;simp(disch:=omega) [-zAa];refine BrK.mk (fun h=>?_) (fun h=>?_)
  ·simp(disch:=omega) [-zAa]
   simp[r8,h]
  ·simp(disch:=omega) [-zAa,hpl,ht,hy]
   simp[r8,h,<-hi,hy]
 ·have hx8:=x.toNat_lt
  simp(disch:=omega) [-zAa,hx];refine hN.out _<|Nx.mk (k+1,n+x.toNat) (by simp) ⟨by simp only;omega,by simp only;omega,by simp only;omega⟩ (by simp only;omega)
def dJ(b:UInt8):Bool:=(decide (65<=b.toNat)&&decide (b.toNat<=90))||(decide (b.toNat=9)||(decide (b.toNat=10)||(decide (b.toNat=12)||(decide (b.toNat=32)||(decide (b.toNat=47)||(decide (b.toNat=62)||decide (b.toNat=61)))))))
def aU(s:Str):Bool:=s.all (fun b=>!dJ b)&&(decide (bg s=s)&&decide (0<s.length))
theorem kA(s:Str)(hs:s.length<=1000000):Fn Tryz.prog rc [.str s] (.bool (aU s)):=by
 refine Fn.of_image mixed rz ro rfl fun ho=>?_;unfold kH;simp only[oks,ok,and_true]at ho;clear ho;simp(disch:=omega) [-zAa];refine ac (rK s hs) rfl fun _=>?_;simp(disch:=omega) [-zAa];generalize hr:aU s=r;refine ay (fun k:Nat=>⟨[(0,.str s),(3,.bool (decide (bg s=s))),(4,.int .i64 k)],[]⟩) (fun k=>k<=s.length/\((s.drop k).all (fun b=>!dJ b)&&(decide (bg s=s)&&decide (0<s.length)))=r) (fun k=>s.length-k) [] _ 0 rfl (by simp[*]) (by simp[*,<-hr,aU]) ?_
 rintro k ⟨hk,hi⟩ N hN;rcases place s k hk with⟨he,hd⟩|⟨hlt,x,hx,hd⟩<;>rw[hd]at hi<;>replace hi:=hid hi
 ·have hi:=hi.out
  simp(disch:=omega) [-zAa,he]
  repeat' (first|(refine BrKd.mk (fun h=>?_) (fun h=>?_)<;>simp(disch:=omega) [*])|(refine BrK.mk (fun h=>?_) (fun h=>?_)<;>simp(disch:=omega) [*]))
  all_goals (first|simpa[*]using hi|(simp[*]at hi;simp[<-hi, *]))
 ·simp only[zBg]at hi
  have no:dJ x=true->r=false:=fun h=>by have hi:=hi.out;simpa[h]using hi.symm
  have go:dJ x=false->((s.drop (k+1)).all (fun b=>!dJ b)&&(decide (bg s=s)&&decide (0<s.length)))=r:=fun h=>by have hi:=hi.out;rw[h]at hi;simpa using hi
  replace no:=hid no;replace go:=hid go;simp(disch:=omega) [-zAa,hx]
  repeat' (first|(refine BrKd.mk (fun h=>?_) (fun h=>?_)<;>simp(disch:=omega) [*])|(refine BrK.mk (fun h=>?_) (fun h=>?_)<;>simp(disch:=omega) [*]))
  all_goals first
   |(refine hN.out _<|Nx.mk (k+1) (by simp[*]) ⟨by omega,go.out ?_⟩ (by omega);simp[dJ, *];done)
   |(refine hN.out _<|Nx.mk (k+1) (by simp[*]) ⟨by omega,go.out ?_⟩ (by omega);unfold dJ;simp;omega)
   |(rw[no.out ?_];simp[dJ, *];done)
   |(refine(no.out ?_);simp[dJ, *];done)
   |(refine(no.out ?_).symm;simp[dJ, *];done)
def Ke:List Str:=[[105,100],[104,114,101,102],[116,105,116,108,101],[100,97,116,97,45,97],[111,110,99,108,105,99,107]]
def bD(s:Str):Str:=if aU s then s else(Ke[s.length%5]?).getD []
theorem tc(s:Str)(hs:s.length<=1000000):Fn Tryz.prog sD [.str s] (.str (bD s)):=by
 refine Fn.of_image mixed sU sP rfl fun ho=>?_;unfold lC;simp only[oks,ok,and_true]at ho;clear ho;simp(disch:=omega) [-zAa];refine ac (kA s hs) rfl fun _=>?_;simp(disch:=omega) [-zAa];have hm:s.length%5<5:=zDb _ (by decide)
 have ht:((s.length:Int)%5).toNat=s.length%5:=by omega
 obtain⟨y,hy⟩:=bH (l:=Ke) (k:=s.length%5) hm
 have hy2:([.str [105,100],.str [104,114,101,102],.str [116,105,116,108,101],.str [100,97,116,97,45,97],.str [111,110,99,108,105,99,107]]:List V)[s.length%5]?=some (.str y):=by
  have:(Ke.map V.str)[s.length%5]?=some (.str y):=by rw[List.getElem?_map,hy];rfl
  exact this
 refine BrK.mk (fun h=>?_) (fun h=>?_)
 ·simp(disch:=omega) [-zAa]
  simp[bD,h]
 ·simp(disch:=omega) [-zAa,ht,hy2]
  simp[bD,h,hy]
def bA:List Node->List Node->List Node
 |out,[]=>out
 |out,n::l=>
   if n.kind=2/\n.text=[]then bA out l
   else match out[out.length-1]? with
    |some o=>if n.kind=2/\o.kind=2 then bA (out.set (out.length-1) ⟨o.kind,o.name,o.attrs,o.text++n.text,o.kids⟩) l else bA (out++[n]) l
    |none=>bA (out++[n]) l
def cf(l:List Node):List Node:=bA [] l
theorem qp(l:List Node)(hl:l.length<=1000000)(ht:∀n∈l,n.text.length<=1000000):Fn Tryz.prog zV [.seq 5 (l.map Node.v)] (.seq 5 ((cf l).map Node.v)):=by
 refine Fn.of_image mixed AL Aq rfl fun ho=>?_;unfold qC;simp only[oks,ok,and_true]at ho;clear ho;simp(disch:=omega) [-zAa];generalize hw:cf l=w
 refine ay (fun(q:Nat×List Node)=>⟨[(0,.seq 5 (l.map Node.v)),(3,.ref 0 q.2.length),(4,.int .i64 q.1)],[some (.arr aN 5 (q.2.map Node.v))]⟩)
  (fun q=>q.1<=l.length/\q.2.length<=q.1/\(∀n∈q.2,n.text.length<=1000000*q.1)/\bA q.2 (l.drop q.1)=w) (fun q=>l.length-q.1) [.r 3 aN 5] _ (0,[]) rfl (by simp) (by simp[<-hw,cf]) ?_
 rintro⟨k,out⟩ ⟨hk,hol,htx,hi⟩ N hN;simp only at hk hol htx hi;rcases place l k hk with⟨he,hd⟩|⟨hlt,x,hx,hd⟩<;>rw[hd]at hi
 ·simp[bA]at hi
  subst hi;simp(disch:=omega) [-zAa,he]
 ·have hxt:=ht x (zAb hx)
  simp only[bA]at hi;by_cases h2:x.kind=2
  ·by_cases ht0:x.text=[]
   ·rw[if_pos ⟨h2,ht0⟩]at hi
    replace hi:=hid hi;simp(disch:=omega) [-zAa,hx,h2,ht0];refine hN.out _<|Nx.mk (k+1,out) (by simp) ⟨by simp only;omega,by simp only;omega,fun n hn=>by have:=htx n hn;simp only;omega,hi.out⟩ (by simp only;omega)
   ·rw[if_neg (fun h=>ht0 h.2)]at hi
    rcases zBc out.length with h0|h0
    ·have ho0:out=[]:=zAd h0
     subst ho0;simp only[List.getElem?_nil,List.nil_append]at hi;replace hi:=hid hi;simp(disch:=omega) [-zAa,hx,h2,ht0];refine hN.out _<|Nx.mk (k+1,[x]) (by simp[h2]) ⟨by simp only;omega,by simp,fun n hn=>by simp at hn;subst hn;simp only;omega,hi.out⟩ (by simp only;omega)
    ·obtain⟨o,ho⟩:=bH (l:=out) (k:=out.length-1) (by omega)
     rw[ho]at hi;simp only at hi;have hot:=htx o (zAb ho);have hoz:((out.length:Int)-1).toNat=out.length-1:=by omega
     replace hi:=hid hi;simp(disch:=omega) [-zAa,hx,h2,ht0,hoz,ho];refine BrKd.mk (fun hk2=>?_) (fun hk2=>?_)
     ·simp(disch:=omega) [-zAa,hx,h2,ht0,hoz,ho,hk2]
      have hi:=hi.out;rw[if_pos ⟨h2,hk2⟩]at hi;refine hN.out _<|Nx.mk (k+1,out.set (out.length-1) ⟨o.kind,o.name,o.attrs,o.text++x.text,o.kids⟩) (by simp[List.map_set,hk2]) ⟨by simp only;omega,by simp;omega,?_,hi⟩ (by simp only;omega)
      intro n hn;rcases zBi hn with hn|rfl
      ·have:=htx n hn;simp only;omega
      ·simp only[zAg];omega
     ·simp(disch:=omega) [-zAa,hx,h2,ht0,hoz,ho,hk2]
      have hi:=hi.out;rw[if_neg (fun h=>hk2 h.2)]at hi;refine hN.out _<|Nx.mk (k+1,out++[x]) (by simp[h2]) ⟨by simp only;omega,by simp;omega,?_,hi⟩ (by simp only;omega)
      intro n hn;simp only[zAj,zCe]at hn;rcases hn with hn|rfl
      ·have:=htx n hn;simp only;omega
      ·simp only;omega
  ·rw[if_neg (fun h=>h2 h.1)]at hi
   have hi2:bA (out++[x]) (l.drop (k+1))=w:=by
    split at hi
    ·rw[if_neg (fun h=>h2 h.1)]at hi;exact hi
    ·exact hi
   clear hi;replace hi2:=hid hi2;simp(disch:=omega) [-zAa,hx,h2];refine hN.out _<|Nx.mk (k+1,out++[x]) (by simp) ⟨by simp only;omega,by simp;omega,?_,hi2.out⟩ (by simp only;omega)
   intro n hn;simp only[zAj,zCe]at hn;rcases hn with hn|rfl
   ·have:=htx n hn;simp only;omega
   ·simp only;omega
end Go.Abs.F
end
section
namespace Go.Abs.F
open Go.Proofs
attribute [-simp] getElem?_pos zBh List.map_map
def nv(k:Int):Int:=if k<1\/3<k then 1 else k
def gW:List Attr->List Attr->List Attr
 |acc,[]=>acc
 |acc,a::l=>gW (if(jb acc (bD a.name)).isSome then acc else acc++[⟨bD a.name,bg a.value⟩]) l
mutual
def cg:Node->Node
 |⟨k,nm,a,t,ks⟩=>if nv k=1 then⟨1,r8 nm,gW [] a,[],cf (yM ks)⟩else⟨nv k,[],[],bg t,[]⟩
def yM:List Node->List Node
 |[]=>[]
 |n::l=>cg n::yM l
end
theorem yL:∀l:List Node,yM l=l.map cg
 |[]=>by simp[yM]
 |n::l=>by simp[yM,yL l]
theorem i5(n:Node):cg n=if nv n.kind=1 then⟨1,r8 n.name,gW [] n.attrs,[],cf (n.kids.map cg)⟩else⟨nv n.kind,[],[],bg n.text,[]⟩:=by
 cases n;simp[cg,yL]
def Cg(n:Node):Prop:=n.name.length<=1000/\n.text.length<=1000/\n.attrs.length<=1000/\∀a∈n.attrs,a.name.length<=1000/\a.value.length<=1000
theorem j9(s:Str):(bg s).length<=4*s.length:=by
 have h1:=Bn (eW none (b9 s));have h2:=G9 (b9 s) none;have h3:=Bw s.length s (zBe _);unfold bg;omega
theorem Ji(n:Node)(h:Cg n):(cg n).text.length<=4000:=by
 rw[i5];split
 ·simp
 ·have:=j9 n.text;have:=h.2.1;simp only;omega
theorem Ey:∀(l:List Node),ar Cg l->aj l<=1000->Fn Tryz.prog jK [.seq 5 (l.map Node.v)] (.seq 5 ((cf (l.map cg)).map Node.v)):=by
 have key:∀l:List Node,(∀n∈l,ar Cg n.kids->aj n.kids<=1000->Fn Tryz.prog jK [.seq 5 (n.kids.map Node.v)] (.seq 5 ((cf (n.kids.map cg)).map Node.v)))->
  ar Cg l->aj l<=1000->Fn Tryz.prog jK [.seq 5 (l.map Node.v)] (.seq 5 ((cf (l.map cg)).map Node.v)):=by
  intro l hrec hfi hc;refine Fn.of_image mixed D9 DN rfl fun ho=>?_;unfold tM;simp only[oks,ok,and_true]at ho;clear ho;have hlen:=c6 l;simp(disch:=omega) [-zAa]
  refine ay (fun(k:Nat)=>⟨[(0,.seq 5 (l.map Node.v)),(3,.ref 0 k),(4,.int .i64 k)],[some (.arr aN 5 (((l.take k).map cg).map Node.v))]⟩)
   (fun k=>k<=l.length) (fun k=>l.length-k) [.r 3 aN 5] _ 0 rfl (by simp) (by simp) ?_
  rintro k hk N hN;have hkl:(l.take k).length=k:=by rw[zAi];omega
  rcases place l k hk with⟨he,hd⟩|⟨hlt,x,hx,hd⟩
  ·have htk:l.take k=l:=zAh (by omega)
   rw[htk];simp(disch:=omega) [-zAa,he];refine xr (qp (l.map cg) (by simp;omega) (fun n hn=>?_)) fun _=>?_
   ·obtain⟨y,hy,rfl⟩:=zCf.1 hn
    have:=Ji y (eZ hfi hy).1;omega
   ·simp(disch:=omega) [-zAa]
  ·have hxm:=zAb hx
   obtain⟨hfx,hfk⟩:=eZ hfi hxm;obtain⟨hx1,hx2,hx3,hx4⟩:=hfx;have hcx:=xl hxm
   have fin:∀τ:St,τ.nrm [0,3,4]=⟨[(0,.seq 5 (l.map Node.v)),(3,.ref 0 (k+1)),(4,.int .i64 ((k+1:Nat):Int))],[some (.arr aN 5 (((l.take k).map cg).map Node.v++[(cg x).v]))]⟩->N τ:=by
    intro τ h;refine hN.out _<|Nx.mk (k+1) ?_ (by omega) (by omega)
    rw[h,fP hx];simp
   have hkind:x.kind<1\/3<x.kind\/x.kind=1\/x.kind=2\/x.kind=3:=by omega
   rcases hkind with h|h|h|h|h
   case inr.inr.inr.inr.inl|inr.inr.inr.inr.inr=>
    have hg:cg x=⟨x.kind,[],[],bg x.text,[]⟩:=by
     rw[i5,h];simp[nv]
    simp(disch:=omega) [-zAa,hx,h,hkl];refine ac (by simpa using lO x.text (by omega)) rfl fun _=>?_
    simp(disch:=omega) [-zAa,hkl];refine fin _ ?_;rw[hg,h];simp
   all_goals
    have hg:cg x=⟨1,r8 x.name,gW [] x.attrs,[],cf (x.kids.map cg)⟩:=by
     rw[i5,if_pos];unfold nv;split<;>omega
    simp(disch:=omega) [-zAa,hx,h,hkl];refine ac (Ew x.name (by omega)) rfl fun _=>?_
    simp(disch:=omega) [-zAa,hkl];generalize hga:gW [] x.attrs=GA at hg
    refine ay (fun(q:Nat×List Attr)=>⟨[(0,.seq 5 (l.map Node.v)),(3,.ref 0 k),(4,.int .i64 k),(5,.ptr 1 0),(6,.int .i64 q.1)],
     [some (.arr aN 5 (((l.take k).map cg).map Node.v)),some (.box [.int .i64 1,.str (r8 x.name),.ref 2 q.2.length,.str [],.nil 5]),some (.arr dE 2 (q.2.map Attr.v))]⟩)
     (fun q=>q.1<=x.attrs.length/\q.2.length<=q.1/\gW q.2 (x.attrs.drop q.1)=GA) (fun q=>x.attrs.length-q.1) [.b 1 2 dE 2] _ (0,[]) rfl (by simp) (by simp[hga]) ?_
    rintro⟨j,acc⟩ ⟨hj,hal,hi⟩ N2 hN2;simp only at hj hal hi;rcases place x.attrs j hj with⟨he2,hd2⟩|⟨hlt2,y,hy,hd2⟩<;>rw[hd2]at hi
    ·simp only[gW]at hi
     subst hi;simp(disch:=omega) [-zAa,hx,he2];refine aq (hrec x hxm hfk (by omega)) (by simp) fun _=>?_
     simp(disch:=omega) [-zAa,hkl];refine fin _ ?_;rw[hg];simp
    ·obtain⟨hy1,hy2⟩:=hx4 y (zAb hy)
     simp only[gW]at hi;replace hi:=hid hi;simp(disch:=omega) [-zAa,hx,hy];refine a6 (tc y.name (by omega)) rfl ?_
     simp(disch:=omega) [-zAa,hx,hy];refine a6 (by simpa using lO y.value (by omega)) rfl ?_
     simp(disch:=omega) [-zAa,hx,hy];refine ac (by simpa using A0 ⟨1,r8 x.name,acc,[],[]⟩ (bD y.name)) rfl fun _=>?_
     simp(disch:=omega) [-zAa,hx,hy];refine BrK.mk (fun hb=>?_) (fun hb=>?_)
     ·simp(disch:=omega) [-zAa]
      have hi:=hi.out;rw[if_pos hb]at hi;refine hN2.out _<|Nx.mk (j+1,acc) (by simp) ⟨by simp only;omega,by simp only;omega,hi⟩ (by simp only;omega)
     ·simp(disch:=omega) [-zAa,hkl]
      have hi:=hi.out;rw[if_neg (by simp[hb])]at hi
      refine hN2.out _<|Nx.mk (j+1,acc++[⟨bD y.name,bg y.value⟩]) (by simp) ⟨by simp only;omega,by simp;omega,hi⟩ (by simp only;omega)
 have all:∀l:List Node,∀n∈l,ar Cg n.kids->aj n.kids<=1000->Fn Tryz.prog jK [.seq 5 (n.kids.map Node.v)] (.seq 5 ((cf (n.kids.map cg)).map Node.v)):=by
  refine aC (fun x hx=>by cases hx) ?_
  intro n l h1 h2 x hx;rcases zAe.1 hx with rfl|hx
  ·exact key _ h1
  ·exact h2 x hx
 exact fun l=>key l (all l)
theorem MF:∀(l:List Node)(m:Nat),ar Cg (dB l m).1:=by
 refine aC (fun m=>by simp[dB,ar]) ?_
 intro n l h1 h2 m;simp only[dB,xk];split
 ·simp[ar]
 ·simp only[ar,Qa]
  refine⟨⟨⟨by simp[p5];omega,by simp[p5];omega,by simp;omega,fun a ha=>?_⟩,h1 _⟩,h2 _⟩
  simp only[zCf]at ha;obtain⟨b,_,rfl⟩:=ha;simp[Mu,p5];omega
def bC(l:List Node):List Node:=cf ((dB l 40).1.map cg)
theorem te(l:List Node):Fn Tryz.prog Dh [.seq 5 (l.map Node.v)] (.seq 5 ((bC l).map Node.v)):=by
 refine Fn.of_image mixed Ec DQ rfl fun ho=>?_;unfold tO;simp only[oks,ok,and_true]at ho;clear ho;simp(disch:=omega) [-zAa];refine aq (Hp l) (by simp) fun _=>?_
 simp(disch:=omega) [-zAa];refine aq (Ey (dB l 40).1 (MF l 40) (by have:=tr l 40;omega)) (by simp) fun _=>?_
 simp(disch:=omega) [-zAa,bC]
def gg(w:Str):Str->Bool
 |[]=>bq [] w
 |b::t=>bq (b::t) w||gg w t
theorem yx(w:Str):∀s:Str,s.length<w.length->gg w s=false
 |[],h=>by simp[gg,bq];intro h';subst h';simp at h
 |b::t,h=>by
   have:=yx w t (by simp at h;omega)
   simp only[gg,this,Bool.or_false,bq,Bool.and_eq_false_iff,decide_eq_false_iff_not];left;omega
theorem Mf(w:Str)(s:Str)(h:w.length<=s.length):gg w s=(decide (s.take w.length=w)||(if s=[]then false else gg w s.tail)):=by
 cases s with
 |nil=>have:w=[]:=zAd (by simpa using h);subst this;simp[gg,bq]
 |cons b t=>
   simp only[zAc]at h;simp[gg,bq,decide_eq_true h]
theorem vM(s w:Str)(hw0:0<w.length)(hs:s.length<=1000000000)(hwl:w.length<=1000000000):Fn Tryz.prog FW [.str s,.str w] (.bool (gg w s)):=by
 refine Fn.of_image mixed GK Go rfl fun ho=>?_;unfold vX;simp only[oks,ok,and_true]at ho;clear ho;simp(disch:=omega) [-zAa];generalize hr:gg w s=r;refine ay (fun k:Nat=>⟨[(0,.str s),(1,.str w),(5,.int .i64 k)],[]⟩) (fun k=>k<=s.length/\gg w (s.drop k)=r) (fun k=>s.length-k) [] _ 0 rfl (by simp) (by simp[hr]) ?_
 rintro k ⟨hk,hi⟩ N hN;by_cases hlt:k+w.length<=s.length
 ·rw[Mf w _ (by simp;omega),if_neg (by simp;omega),List.tail_drop]at hi
  replace hi:=hid hi;have e:((k:Int)+(w.length:Int)).toNat-k=w.length:=by omega
  simp(disch:=omega) [-zAa,e];refine BrKd.mk (fun h=>?_) (fun h=>?_)
  ·simp(disch:=omega) [-zAa]
   have hi:=hi.out;simpa[h]using hi
  ·simp(disch:=omega) [-zAa]
   have hi:=hi.out;refine hN.out _<|Nx.mk (k+1) (by simp) ⟨by omega,by simpa[h]using hi⟩ (by omega)
 ·rw[yx w _ (by simp;omega)]at hi
  subst hi;simp(disch:=omega) [-zAa]
def aH(b:UInt8):UInt8:=if 65<=b.toNat/\b.toNat<=90 then b8 (b.toNat+32)else b
theorem EA(s:Str)(hs:s.length<=1000000000):Fn Tryz.prog Dj [.str s] (.str (s.map aH)):=by
 refine Fn.of_image mixed Ee DS rfl fun ho=>?_;unfold tQ;simp only[oks,ok,and_true]at ho;clear ho;simp(disch:=omega) [-zAa]
 refine ay (fun(k:Nat)=>⟨[(0,.str s),(3,.ref 0 k),(4,.int .i64 k)],[some (.arr iK 1 (((s.take k).map aH).map bV))]⟩)
  (fun k=>k<=s.length) (fun k=>s.length-k) [.r 3 iK 1] _ 0 rfl (by simp) (by simp) ?_
 rintro k hk N hN;have hkl:(s.take k).length=k:=by rw[zAi];omega
 rcases place s k hk with⟨he,hd⟩|⟨hlt,x,hx,hd⟩
 ·have htk:s.take k=s:=zAh (by omega)
  rw[htk];simp(disch:=omega) [-zAa,he,-i9]
 ·simp(disch:=omega) [-zAa,hx]
  have fin:∀τ:St,τ.nrm [0,3,4]=⟨[(0,.str s),(3,.ref 0 (k+1)),(4,.int .i64 ((k+1:Nat):Int))],[some (.arr iK 1 (((s.take k).map aH).map bV++[bV (aH x)]))]⟩->N τ:=by
   intro τ h;refine hN.out _<|Nx.mk (k+1) ?_ (by omega) (by omega)
   rw[h,fP hx];simp
  repeat' (first
   |(refine BrKd.mk (fun h=>?_) (fun h=>?_)<;>simp(disch:=omega) [hkl, *])
   |(refine BrK.mk (fun h=>?_) (fun h=>?_)<;>simp(disch:=omega) [hkl, *]))
  all_goals
   first
   |(have hf:aH x=b8 (x.toNat+32):=by rw[aH,if_pos (by omega)])
   |(have hf:aH x=x:=by rw[aH,if_neg (by omega)])
   refine fin _ ?_;rw[hf];simp(disch:=omega) [aV]
def Ct(b:UInt8):Bool:=decide (b.toNat=9)||(decide (b.toNat=10)||(decide (b.toNat=12)||decide (b.toNat=32)))
theorem AZ(b:UInt8):Fn Tryz.prog zR [.int .u8 b.toNat] (.bool (Ct b)):=by
 refine Fn.of_image mixed AH Am rfl fun ho=>?_;unfold qA;simp only[oks,ok,and_true]at ho;clear ho;simp(disch:=omega) [-zAa,Ct]
 repeat' (first|(refine BrKd.mk (fun h=>?_) (fun h=>?_)<;>simp(disch:=omega) [*])|(refine BrK.mk (fun h=>?_) (fun h=>?_)<;>simp(disch:=omega) [*]))
def rQ(b:UInt8):Bool:=Ct b||(decide (b.toNat=47)||decide (b.toNat=62))
def ci(nm:Str)(s:Str):Bool:=decide ((s.take (2+nm.length)).map aH=[60,47]++nm)&&(match s[2+nm.length]? with
 |some c=>rQ c
 |none=>false)
def a8(nm:Str):Nat->Str->Int
 |_,[]=>-1
 |i,b::t=>if ci nm (b::t)then i else a8 nm (i+1) t
def ends(s nm:Str):Int:=a8 nm 0 s
theorem tn(nm:Str):∀(s:Str)(i:Nat),s.length<=2+nm.length->a8 nm i s=-1
 |[],i,h=>rfl
 |b::t,i,h=>by
   have:=tn nm t (i+1) (by simp at h;omega)
   simp only[a8,this];rw[if_neg];simp only[ci,Bool.and_eq_true,not_and,zCi];intro _;rw[List.getElem?_eq_none (by omega)]
theorem Ev(s nm:Str)(hs:s.length<=1000000000)(hn:nm.length<=1000000):Fn Tryz.prog Dc [.str s,.str nm] (.int .i64 (ends s nm)):=by
 refine Fn.of_image mixed D5 DJ rfl fun ho=>?_;unfold tI;simp only[oks,ok,and_true]at ho;clear ho;simp(disch:=omega) [-zAa];generalize hr:ends s nm=r;refine ay (fun k:Nat=>⟨[(0,.str s),(1,.str nm),(5,.int .i64 (2+nm.length)),(6,.int .i64 k)],[]⟩) (fun k=>k<=s.length/\a8 nm k (s.drop k)=r) (fun k=>s.length-k) [] _ 0 rfl (by simp) (by simp[<-hr,ends]) ?_
 rintro k ⟨hk,hi⟩ N hN;by_cases hlt:k+(2+nm.length)<s.length
 ·obtain⟨x,hx⟩:=bH (l:=s) (k:=k) (by omega)
  obtain⟨c,hc⟩:=bH (l:=s) (k:=k+(2+nm.length)) hlt;have hd:=uU hx
  have hat:ci nm (s.drop k)=(decide (((s.drop k).take (2+nm.length)).map aH=[60,47]++nm)&&rQ c):=by
   simp only[ci,List.getElem?_drop,hc]
  rw[hd]at hi;simp only[a8]at hi;rw[<-hd,hat]at hi;replace hi:=hid hi;have hkt:((k:Int)+(2+(nm.length:Int))).toNat=k+(2+nm.length):=by omega
  simp(disch:=omega) [-zAa,hkt,hc];have hlb:((s.drop k).take (2+nm.length)).length<=1000000000:=by simp;omega
  refine ac (EA _ hlb) rfl fun _=>?_;generalize hT:((s.drop k).take (2+nm.length)).map aH=T at hi;have no:(decide (T=[60,47]++nm)&&rQ c)=false->a8 nm (k+1) (s.drop (k+1))=r:=fun h=>by have hi:=hi.out;rw[if_neg (by rw[h];exact Bool.false_ne_true)]at hi;exact hi
  have yes:(decide (T=[60,47]++nm)&&rQ c)=true->r=k:=fun h=>by have hi:=hi.out;rw[if_pos h]at hi;exact hi.symm
  replace no:=hid no;replace yes:=hid yes;simp(disch:=omega) [-zAa]
  repeat' (first
   |(refine BrKd.mk (fun h=>?_) (fun h=>?_)<;>simp(disch:=omega) [*])
   |(refine BrK.mk (fun h=>?_) (fun h=>?_)<;>simp(disch:=omega) [*])
   |(refine ac (AZ _) rfl (fun _=>?_)<;>simp(disch:=omega) [*]))
  all_goals first
   |(refine hN.out _<|Nx.mk (k+1) (by simp) ⟨by omega,no.out ?_⟩ (by omega);simp_all[rQ];done)
   |(rw[yes.out ?_];simp_all[rQ];done)
   |(refine(yes.out ?_).symm;simp_all[rQ];done)
 ·rw[tn nm _ _ (by simp;omega)]at hi
  subst hi;simp(disch:=omega) [-zAa]
def bw(par:Str)(n:Node):Bool:=
 if ew par then false
 else if raw par then decide (n.kind=2)&&decide (ends (n.text++[60,47]++par++[62]) par=n.text.length)
 else !decide (n.kind=1)|| !dk par n.name
theorem s8(par:Str)(n:Node)(hp:par.length<=1000000)(ht:n.text.length<=100000000):Fn Tryz.prog Db [.str par,n.v] (.bool (bw par n)):=by
 refine Fn.of_image mixed D4 DI rfl fun ho=>?_;unfold tH;simp only[oks,ok,and_true]at ho;clear ho;simp(disch:=omega) [-zAa,bw];refine ac (td _) rfl fun _=>?_;simp(disch:=omega) [-zAa];refine ac (vN _) rfl fun _=>?_;simp(disch:=omega) [-zAa];refine BrK.mk (fun hv=>?_) (fun hv=>?_)
 ·simp(disch:=omega) [-zAa,hv]
 ·simp(disch:=omega) [-zAa,hv]
  refine BrK.mk (fun hr=>?_) (fun hr=>?_)
  ·simp(disch:=omega) [-zAa,hr]
   refine BrKd.mk (fun hk=>?_) (fun hk=>?_)
   ·simp(disch:=omega) [-zAa,hk]
    have e:n.text++[60,47]++par++[62]=n.text++60::47::(par++[62]):=by simp
    have hE:=Ev (n.text++[60,47]++par++[62]) par (by simp;omega) hp
    rw[e]at hE;refine a6 hE rfl ?_;simp(disch:=omega) [-zAa,hk]
   ·simp(disch:=omega) [-zAa,hk]
  ·simp(disch:=omega) [-zAa,hr]
   refine ac (yX _ _) rfl fun _=>?_;simp(disch:=omega) [-zAa]
   repeat' (first|(refine BrKd.mk (fun h=>?_) (fun h=>?_)<;>simp(disch:=omega) [*])|(refine BrK.mk (fun h=>?_) (fun h=>?_)<;>simp(disch:=omega) [*]))
def av(par:Str)(l:List Node):List Node:=l.filter (bw par)
theorem ny(par:Str)(l:List Node)(hp:par.length<=1000000)(hl:l.length<=1000000)(ht:∀n∈l,n.text.length<=100000000):
 Fn Tryz.prog wx [.str par,.seq 5 (l.map Node.v)] (.seq 5 ((av par l).map Node.v)):=by
 refine Fn.of_image mixed wO wG rfl fun ho=>?_;unfold nC;simp only[oks,ok,and_true]at ho;clear ho;simp(disch:=omega) [-zAa];generalize hw:av par l=w
 refine ay (fun(q:Nat×List Node)=>⟨[(0,.str par),(1,.seq 5 (l.map Node.v)),(5,.ref 0 q.2.length),(6,.int .i64 q.1)],[some (.arr aN 5 (q.2.map Node.v))]⟩)
  (fun q=>q.1<=l.length/\q.2.length<=q.1/\q.2++av par (l.drop q.1)=w) (fun q=>l.length-q.1) [.r 5 aN 5] _ (0,[]) rfl (by simp) (by simp[<-hw]) ?_
 rintro⟨k,out⟩ ⟨hk,hol,hi⟩ N hN;simp only at hk hol hi;rcases place l k hk with⟨he,hd⟩|⟨hlt,x,hx,hd⟩<;>rw[hd]at hi
 ·simp[av]at hi
  subst hi;simp(disch:=omega) [-zAa,he]
 ·simp only[av,zBb]at hi
  replace hi:=hid hi;simp(disch:=omega) [-zAa,hx];refine ac (by simpa using s8 par x hp (ht x (zAb hx))) rfl fun _=>?_
  simp(disch:=omega) [-zAa];refine BrK.mk (fun h=>?_) (fun h=>?_)
  ·simp(disch:=omega) [-zAa,hx]
   have hi:=hi.out;refine hN.out _<|Nx.mk (k+1,out++[x]) (by simp) ⟨by simp only;omega,by simp;omega,?_⟩ (by simp only;omega)
   simpa[h,av]using hi
  ·simp(disch:=omega) [-zAa,hx]
   have hi:=hi.out;refine hN.out _<|Nx.mk (k+1,out) (by simp) ⟨by simp only;omega,by simp only;omega,?_⟩ (by simp only;omega)
   simpa[h,av]using hi
def dc:Str:=[45,45,62]
mutual
def aD:Node->List Node
 |⟨k,nm,a,t,ks⟩=>if k=3/\gg dc t=true then[]else if k=1 then[⟨k,nm,a,t,av nm (cf (sg (bw nm) ks))⟩]else[⟨k,nm,a,t,ks⟩]
def sg(f:Node->Bool):List Node->List Node
 |[]=>[]
 |n::l=>(if f n then aD n else[])++sg f l
end
theorem xE(f:Node->Bool):∀l:List Node,sg f l=(l.filter f).flatMap aD
 |[]=>by simp[sg]
 |n::l=>by
   simp only[sg,xE f l,zBb];cases f n<;>simp
theorem j4(n:Node):aD n=if n.kind=3/\gg dc n.text=true then[]else if n.kind=1 then[⟨n.kind,n.name,n.attrs,n.text,av n.name (cf ((av n.name n.kids).flatMap aD))⟩]else[n]:=by
 cases n;simp[aD,xE,av]
def gZ(l:List Node):List Node:=cf (l.flatMap aD)
def cz(l:List Node):Nat:=(l.map fun n=>n.text.length).sum
theorem nQ:∀{l:List Node}{n:Node},n∈l->n.text.length<=cz l
 |[],n,h=>by cases h
 |x::l,n,h=>by
   simp only[cz,zAf,zCb];rcases zAe.1 h with rfl|h
   ·omega
   ·have:=nQ h;simp only[cz]at this;omega
theorem vm(a b:List Node):cz (a++b)=cz a+cz b:=by simp[cz]
theorem vl(f:Node->Bool):∀l:List Node,cz (l.filter f)<=cz l
 |[]=>by simp[cz]
 |n::l=>by
   have:=vl f l;simp only[cz,zBb]at *;split<;>simp<;>omega
theorem E2:∀(l:List Node)(i:Nat)(o n:Node),l[i]?=some o->cz (l.set i n)+o.text.length=cz l+n.text.length
 |[],i,o,n,h=>by simp at h
 |x::l,0,o,n,h=>by simp at h;subst h;simp[cz];omega
 |x::l,i+1,o,n,h=>by
   have:=E2 l i o n (by simpa using h)
   simp only[cz,zCg,zAf,zCb]at *;omega
theorem jM:∀(l out:List Node),(bA out l).length<=out.length+l.length/\cz (bA out l)<=cz out+cz l
 |[],out=>by simp[bA,cz]
 |n::l,out=>by
   have hc:cz (n::l)=n.text.length+cz l:=by simp[cz]
   have h1:=jM l out;have h2:=jM l (out++[n]);rw[vm]at h2;have hn:cz [n]=n.text.length:=by simp[cz]
   simp only[zAg,zAc,zBj]at h2;simp only[bA,zAc];split
   ·omega
   ·split
    ·rename_i o ho
     split
     ·have h3:=jM l (out.set (out.length-1) ⟨o.kind,o.name,o.attrs,o.text++n.text,o.kids⟩)
      have h4:=E2 out (out.length-1) o ⟨o.kind,o.name,o.attrs,o.text++n.text,o.kids⟩ ho;simp only[List.length_set,zAg]at h3 h4;omega
     ·omega
    ·omega
theorem kh(l:List Node):(cf l).length<=l.length/\cz (cf l)<=cz l:=by
 have:=jM l [];simpa[cf,cz]using this
theorem CQ(n:Node):(aD n).length<=1/\cz (aD n)<=n.text.length:=by
 rw[j4];split
 ·simp[cz]
 ·split<;>simp[cz]
theorem gr:∀l:List Node,(l.flatMap aD).length<=l.length/\cz (l.flatMap aD)<=cz l
 |[]=>by simp[cz]
 |n::l=>by
   have h1:=CQ n;have h2:=gr l;have hc:cz (n::l)=n.text.length+cz l:=by simp[cz]
   simp only[zBa,zAg,vm,zAc];omega
theorem lJ(par:Str)(l:List Node):(av par l).length<=l.length/\cz (av par l)<=cz l:=⟨List.length_filter_le _ _,vl _ _⟩
def Cf(n:Node):Prop:=n.name.length<=1000/\n.kids.length<=1000/\cz n.kids<=1000000
theorem yW:∀(l:List Node),ar Cf l->l.length<=1000->cz l<=1000000->Fn Tryz.prog gx [.seq 5 (l.map Node.v)] (.seq 5 ((gZ l).map Node.v)):=by
 have key:∀l:List Node,(∀n∈l,∀l':List Node,(∀y∈l',y∈n.kids)->ar Cf n.kids->l'.length<=1000->cz l'<=1000000->Fn Tryz.prog gx [.seq 5 (l'.map Node.v)] (.seq 5 ((gZ l').map Node.v)))->
  (∀n∈l,Cf n/\ar Cf n.kids)->l.length<=1000->cz l<=1000000->Fn Tryz.prog gx [.seq 5 (l.map Node.v)] (.seq 5 ((gZ l).map Node.v)):=by
  intro l hrec hfi hlen hts;refine Fn.of_image mixed yE yq rfl fun ho=>?_;unfold o9;simp only[oks,ok,and_true]at ho;clear ho;simp(disch:=omega) [-zAa];generalize hw:l.flatMap aD=w;have hws:=gr l;rw[hw]at hws
  refine ay (fun(q:Nat×List Node)=>⟨[(0,.seq 5 (l.map Node.v)),(3,.ref 0 q.2.length),(4,.int .i64 q.1)],[some (.arr aN 5 (q.2.map Node.v))]⟩)
   (fun q=>q.1<=l.length/\q.2.length<=q.1/\q.2++(l.drop q.1).flatMap aD=w) (fun q=>l.length-q.1) [.r 3 aN 5] _ (0,[]) rfl (by simp) (by simp[<-hw]) ?_
  rintro⟨k,out⟩ ⟨hk,hol,hi⟩ N hN;simp only at hk hol hi;rcases place l k hk with⟨he,hd⟩|⟨hlt,x,hx,hd⟩<;>rw[hd]at hi
  ·simp at hi
   subst hi;simp(disch:=omega) [-zAa,he];refine xr (qp out (by omega) (fun n hn=>by have:=nQ hn;omega)) fun _=>?_
   simp(disch:=omega) [-zAa,gZ,hw]
  ·have hxm:=zAb hx
   obtain⟨⟨hx1,hx2,hx3⟩,hxk⟩:=hfi x hxm;have hxt:=nQ hxm;rw[zBa,j4]at hi;replace hi:=hid hi
   have fin:∀τ:St,∀o2:List Node,τ.nrm [0,3,4]=⟨[(0,.seq 5 (l.map Node.v)),(3,.ref 0 o2.length),(4,.int .i64 ((k+1:Nat):Int))],[some (.arr aN 5 (o2.map Node.v))]⟩->o2.length<=k+1->o2++(l.drop (k+1)).flatMap aD=w->N τ:=by
    intro τ o2 h1 h2 h3;exact hN.out _<|Nx.mk (k+1,o2) h1 ⟨by simp only;omega,h2,h3⟩ (by simp only;omega)
   by_cases h3:x.kind=3
   ·simp(disch:=omega) [-zAa,hx,h3]
    refine ac (vM x.text dc (by simp[dc]) (by omega) (by simp[dc])) rfl fun _=>?_
    simp(disch:=omega) [-zAa];refine BrK.mk (fun hb=>?_) (fun hb=>?_)
    ·simp(disch:=omega) [-zAa]
     have hi:=hi.out;rw[if_pos ⟨h3,hb⟩]at hi;exact fin _ out (by simp) (by omega) (by simpa using hi)
    ·simp(disch:=omega) [-zAa,hx,h3]
     have hi:=hi.out;rw[if_neg (by simp[hb]),if_neg (by omega)]at hi
     exact fin _ (out++[x]) (by simp[h3]) (by simp;omega) (by simpa using hi)
   ·by_cases h1:x.kind=1
    ·have hi:=hi.out
     rw[if_neg (by simp[h3]),if_pos h1]at hi
     have hf1:=lJ x.name x.kids;have hf2:=gr (av x.name x.kids);have hf3:=kh ((av x.name x.kids).flatMap aD);simp(disch:=omega) [-zAa,hx,h1];refine nN (ny x.name x.kids (by omega) (by omega) (fun n hn=>by have:=nQ hn;omega)) (by simp) ?_
     simp(disch:=omega) [-zAa,hx,h1];refine nN (hrec x hxm (av x.name x.kids) (fun y hy=>(zCa.1 hy).1) hxk (by omega) (by omega)) (by simp) ?_
     simp(disch:=omega) [-zAa,hx,h1];refine nN (ny x.name (gZ (av x.name x.kids)) (by omega) (by simp only[gZ];omega) (fun n hn=>by have:=nQ hn;simp only[gZ]at this;omega)) (by simp) ?_
     simp(disch:=omega) [-zAa,hx,h1];exact fin _ (out++[⟨x.kind,x.name,x.attrs,x.text,av x.name (cf ((av x.name x.kids).flatMap aD))⟩]) (by simp[h1,gZ]) (by simp;omega) (by simpa using hi)
    ·have hi:=hi.out
     rw[if_neg (by simp[h3]),if_neg h1]at hi
     simp(disch:=omega) [-zAa,hx,h1,h3];exact fin _ (out++[x]) (by simp) (by simp;omega) (by simpa using hi)
 have all:∀l:List Node,∀n∈l,∀l':List Node,(∀y∈l',y∈n.kids)->ar Cf n.kids->l'.length<=1000->cz l'<=1000000->Fn Tryz.prog gx [.seq 5 (l'.map Node.v)] (.seq 5 ((gZ l').map Node.v)):=by
  refine aC (fun x hx=>by cases hx) ?_
  intro n l h1 h2 x hx;rcases zAe.1 hx with rfl|hx
  ·intro l' hs hf
   exact key l' (fun m hm=>h1 m (hs m hm)) (fun m hm=>eZ hf (hs m hm))
  ·exact h2 x hx
 exact fun l hf=>key l (all l) (fun n hn=>eZ hf hn)
def right(s:Str):Bool:=decide (bg s=s)
def kq:List Attr->Str->Bool
 |[],_=>false
 |a::l,s=>if a.name=s then true else kq l s
def dU:List Attr->List Attr->Int
 |_,[]=>0
 |pre,a::l=>if aU a.name then(if kq pre a.name then 5 else dU (pre++[a]) l)else 4
def bf:List Attr->Bool
 |[]=>true
 |a::l=>right a.value&&bf l
def gL(n:Node):Int:=
 if n.text=[]then(if named n.name then(if dU [] n.attrs=0 then(if bf n.attrs then 0 else 2)else dU [] n.attrs)else 4)else 7
theorem rR:∀(l pre:List Attr),dU pre l=0\/dU pre l=4\/dU pre l=5
 |[],pre=>by simp[dU]
 |a::l,pre=>by
   simp only[dU];split
   ·split
    ·simp
    ·exact rR l _
   ·simp
def kx(n:Node):Prop:=n.name.length<=1000000/\n.text.length<=1000000/\n.attrs.length<=1000000/\∀a∈n.attrs,a.name.length<=1000000/\a.value.length<=1000000
theorem wU(n:Node)(hf:kx n):Fn Tryz.prog wy [n.v] (.int .i64 (gL n)):=by
 refine Fn.of_image mixed wP wH rfl fun ho=>?_;unfold nD;simp only[oks,ok,and_true]at ho;clear ho;obtain⟨h1,h2,h3,h4⟩:=hf;simp(disch:=omega) [-zAa,gL];refine ac (qo _) rfl fun _=>?_;simp(disch:=omega) [-zAa];refine BrKd.mk (fun ht=>?_) (fun ht=>?_)
 ·simp(disch:=omega) [-zAa,ht]
  refine BrK.mk (fun hn=>?_) (fun hn=>?_)
  ·simp(disch:=omega) [-zAa,hn]
   generalize hD:dU [] n.attrs=D;have hDc:=rR n.attrs [];rw[hD]at hDc
   refine ay (fun(k:Nat)=>⟨[(1,.ptr 0 0),(4,.int .i64 k)],[some (.box [.int .i64 n.kind,.str n.name,.seq 2 (n.attrs.map Attr.v),.str [],.seq 5 (n.kids.map Node.v)])]⟩)
    (fun k=>k<=n.attrs.length/\dU (n.attrs.take k) (n.attrs.drop k)=D) (fun k=>n.attrs.length-k) [] _ 0 rfl (by simp) (by simp[hD]) ?_
   rintro k ⟨hk,hi⟩ N hN;rcases place n.attrs k hk with⟨he,hd⟩|⟨hlt,x,hx,hd⟩<;>rw[hd]at hi
   ·simp only[dU]at hi
    subst hi;simp(disch:=omega) [-zAa,he];generalize hV:bf n.attrs=R
    refine ay (fun(k:Nat)=>⟨[(1,.ptr 0 0),(7,.int .i64 k)],[some (.box [.int .i64 n.kind,.str n.name,.seq 2 (n.attrs.map Attr.v),.str [],.seq 5 (n.kids.map Node.v)])]⟩)
     (fun k=>k<=n.attrs.length/\bf (n.attrs.drop k)=R) (fun k=>n.attrs.length-k) [] _ 0 rfl (by simp) (by simp[hV]) ?_
    rintro k ⟨hk,hi⟩ N hN;rcases place n.attrs k hk with⟨he,hd⟩|⟨hlt,x,hx,hd⟩<;>rw[hd]at hi
    ·simp only[bf]at hi
     subst hi;simp(disch:=omega) [-zAa,he,hV]
    ·obtain⟨g1,g2⟩:=h4 x (zAb hx)
     simp only[bf]at hi;replace hi:=hid hi;simp(disch:=omega) [-zAa,hx];refine ac (rK x.value g2) rfl fun _=>?_;simp(disch:=omega) [-zAa];refine BrKd.mk (fun h=>?_) (fun h=>?_)
     ·simp(disch:=omega) [-zAa,h]
      have hi:=hi.out;refine hN.out _<|Nx.mk (k+1) (by simp) ⟨by omega,?_⟩ (by omega)
      simpa[right,h]using hi
     ·simp(disch:=omega) [-zAa,h]
      have hi:=hi.out;simp[right,h]at hi;simp[hi]
   ·obtain⟨g1,g2⟩:=h4 x (zAb hx)
    simp only[dU]at hi;replace hi:=hid hi;simp(disch:=omega) [-zAa,hx];refine ac (kA x.name g1) rfl fun _=>?_;simp(disch:=omega) [-zAa];refine BrK.mk (fun h=>?_) (fun h=>?_)
    ·have hi:=hi.out
     rw[if_pos h]at hi;replace hi:=hid hi;simp(disch:=omega) [-zAa,h]
     refine ay (fun(j:Nat)=>⟨[(1,.ptr 0 0),(4,.int .i64 k),(6,.int .i64 j)],[some (.box [.int .i64 n.kind,.str n.name,.seq 2 (n.attrs.map Attr.v),.str [],.seq 5 (n.kids.map Node.v)])]⟩)
      (fun j=>j<=k/\kq (n.attrs.take k) x.name=kq ((n.attrs.take k).drop j) x.name) (fun j=>k-j) [] _ 0 rfl (by simp) (by simp) ?_
     rintro j ⟨hj,hi2⟩ N2 hN2;by_cases hlt2:j<k
     ·obtain⟨y,hy⟩:=bH (l:=n.attrs) (k:=j) (by omega)
      rw[take_drop hy hlt2,kq]at hi2;replace hi2:=hid hi2;simp(disch:=omega) [-zAa,hx,hy];refine BrKd.mk (fun h=>?_) (fun h=>?_)
      ·simp(disch:=omega) [-zAa,h]
       have hi:=hi.out;have hi2:=hi2.out;rw[if_pos h]at hi2;rw[if_pos hi2]at hi;subst hi;simp
      ·simp(disch:=omega) [-zAa,h]
       have hi2:=hi2.out;rw[if_neg h]at hi2;exact hN2.out _<|Nx.mk (j+1) (by simp) ⟨by omega,hi2⟩ (by omega)
     ·have e:(n.attrs.take k).drop j=[]:=by simp;omega
      rw[e,kq]at hi2;have hi:=hi.out;rw[if_neg (by simp[hi2])]at hi
      replace hi:=hid hi;simp(disch:=omega) [-zAa];refine hN.out _<|Nx.mk (k+1) (by simp) ⟨by omega,?_⟩ (by omega)
      rw[fP hx];exact hi.out
    ·have hi:=hi.out
     rw[if_neg (by simp[h])]at hi
     subst hi;simp(disch:=omega) [-zAa,h]
  ·simp(disch:=omega) [-zAa,hn]
 ·simp(disch:=omega) [-zAa,ht]
def b5(n:Node)(txt:Bool):Int:=
 if n.kind=1 then gL n
 else if n.kind=2\/n.kind=3 then(if n.name=[]/\n.attrs=[]/\n.kids=[]then(if right n.text/\(n.kind=2->¬n.text=[]/\txt=false)then 0 else 2)else 7)
 else 7
theorem Ho(n:Node)(txt:Bool)(hf:kx n):Fn Tryz.prog vC [n.v,.bool txt] (.int .i64 (b5 n txt)):=by
 refine Fn.of_image mixed GO Gr rfl fun ho=>?_;unfold v6;simp only[oks,ok,and_true]at ho;clear ho;have hla:0<n.attrs.length↔¬n.attrs=[]:=by rw[zCc]
 have hlk:0<n.kids.length↔¬n.kids=[]:=by rw[zCc]
 have hf2:=hf.2.1;simp(disch:=omega) [-zAa,b5]
 repeat' (first
  |(refine BrKd.mk (fun h=>?_) (fun h=>?_)<;>simp(disch:=omega) [hla,hlk, *])
  |(refine BrK.mk (fun h=>?_) (fun h=>?_)<;>simp(disch:=omega) [hla,hlk, *])
  |(refine ac (by simpa[*]using wU n hf) rfl (fun _=>?_)<;>simp(disch:=omega) [hla,hlk, *])
  |(refine ac (rK n.text hf2) rfl (fun _=>?_)<;>simp(disch:=omega) [hla,hlk,right, *]))
mutual
def Sa:Node->Int
 |⟨_,_,_,_,ks⟩=>cK false ks
def cK:Bool->List Node->Int
 |_,[]=>0
 |txt,n::l=>if b5 n txt=0 then(if Sa n=0 then cK (decide (n.kind=2)) l else Sa n)else b5 n txt
end
theorem xh(n:Node):Sa n=cK false n.kids:=by cases n;simp[Sa]
def may(l:List Node):Int:=cK false l
def bQ(l:List Node)(k:Nat):Bool:=decide (0<k)&&(match l[k-1]? with
 |some n=>decide (n.kind=2)
 |none=>false)
theorem vO:∀(l:List Node),ar kx l->Fn Tryz.prog lj [.seq 5 (l.map Node.v)] (.int .i64 (may l)):=by
 have key:∀l:List Node,(∀n∈l,ar kx n.kids->Fn Tryz.prog lj [.seq 5 (n.kids.map Node.v)] (.int .i64 (may n.kids)))->ar kx l->Fn Tryz.prog lj [.seq 5 (l.map Node.v)] (.int .i64 (may l)):=by
  intro l hrec hfi;refine Fn.of_image mixed GR Gu rfl fun ho=>?_;unfold v8;simp only[oks,ok,and_true]at ho;have hlen:l.length<=140737488355328:=by have:=ho.1;simpa using this
  clear ho;simp(disch:=omega) [-zAa];generalize hr:may l=r;refine ay (fun k:Nat=>⟨[(0,.seq 5 (l.map Node.v)),(3,.int .i64 k)],[]⟩) (fun k=>k<=l.length/\cK (bQ l k) (l.drop k)=r) (fun k=>l.length-k) [] _ 0 rfl (by simp[*]) (by simp[*,<-hr,may,bQ]) ?_
  rintro k ⟨hk,hi⟩ N hN;rcases place l k hk with⟨he,hd⟩|⟨hlt,x,hx,hd⟩<;>rw[hd]at hi<;>replace hi:=hid hi
  ·simp only[cK]at hi
   have hi:=hi.out;subst hi;simp(disch:=omega) [-zAa,he]
  ·have hxm:=zAb hx
   obtain⟨hfx,hfk⟩:=eZ hfi hxm;have hp1:bQ l (k+1)=decide (x.kind=2):=by simp[bQ,hx]
   simp only[cK,xh]at hi;rw[<-hp1]at hi;change Hid ((if b5 x (bQ l k)=0 then if may x.kids=0 then cK (bQ l (k+1)) (l.drop (k+1))else may x.kids else b5 x (bQ l k))=r)at hi
   have e1:b5 x (bQ l k)≠0->r=b5 x (bQ l k):=fun h=>by have hi:=hi.out;rw[if_neg h]at hi;exact hi.symm
   have e2:b5 x (bQ l k)=0->may x.kids≠0->r=may x.kids:=fun h h'=>by have hi:=hi.out;rw[if_pos h]at hi;rw[if_neg h']at hi;exact hi.symm
   have e3:b5 x (bQ l k)=0->may x.kids=0->cK (bQ l (k+1)) (l.drop (k+1))=r:=fun h h'=>by have hi:=hi.out;rw[if_pos h]at hi;rw[if_pos h']at hi;exact hi
   replace e1:=hid e1;replace e2:=hid e2;replace e3:=hid e3;clear hi;have hone:∀b:Bool,b=bQ l k->Fn Tryz.prog vC [x.v,.bool b] (.int .i64 (b5 x (bQ l k))):=fun b hb=>by rw[hb];exact Ho x (bQ l k) hfx
   have rest:∀K:St->Prop,(∀τ:St,τ.nrm [0,3]=⟨[(0,.seq 5 (l.map Node.v)),(3,.int .i64 ((k+1:Nat):Int))],[]⟩->b5 x (bQ l k)=0->may x.kids=0->N τ):=by
    intro K τ h h1 h2;exact hN.out _<|Nx.mk (k+1) h ⟨by omega,e3.out h1 h2⟩ (by omega)
   replace rest:=rest (fun _=>True);rcases zBc k with hk0|hk0
   ·subst hk0
    have hp0:bQ l 0=false:=by simp[bQ]
    simp(disch:=omega) [-zAa,hx];refine a6 (by simpa using hone false hp0.symm) rfl ?_
    simp(disch:=omega) [-zAa,hx];refine BrKd.mk (fun h=>?_) (fun h=>?_)
    ·simp(disch:=omega) [-zAa,h,hx]
     refine ac (hrec x hxm hfk) rfl fun _=>?_;simp(disch:=omega) [-zAa,hx];refine BrKd.mk (fun h2=>?_) (fun h2=>?_)
     ·simp(disch:=omega) [-zAa,h2]
      exact rest _ (by simp) h h2
     ·simp(disch:=omega) [-zAa,h2]
      exact(e2.out h h2).symm
    ·simp(disch:=omega) [-zAa,h]
     exact(e1.out h).symm
   ·obtain⟨y,hy⟩:=bH (l:=l) (k:=k-1) (by omega)
    have hkt:((k:Int)-1).toNat=k-1:=by omega
    have hpk:bQ l k=decide (y.kind=2):=by simp[bQ,hy,hk0]
    simp(disch:=omega) [-zAa,hx,hy,hkt];refine a6 (by simpa using hone (decide (y.kind=2)) hpk.symm) rfl ?_
    simp(disch:=omega) [-zAa,hx];refine BrKd.mk (fun h=>?_) (fun h=>?_)
    ·simp(disch:=omega) [-zAa,h,hx]
     refine ac (hrec x hxm hfk) rfl fun _=>?_;simp(disch:=omega) [-zAa,hx];refine BrKd.mk (fun h2=>?_) (fun h2=>?_)
     ·simp(disch:=omega) [-zAa,h2]
      exact rest _ (by simp) h h2
     ·simp(disch:=omega) [-zAa,h2]
      exact(e2.out h h2).symm
    ·simp(disch:=omega) [-zAa,h]
     exact(e1.out h).symm
 have all:∀l:List Node,∀n∈l,ar kx n.kids->Fn Tryz.prog lj [.seq 5 (n.kids.map Node.v)] (.int .i64 (may n.kids)):=by
  refine aC (fun x hx=>by cases hx) ?_
  intro n l h1 h2 x hx;rcases zAe.1 hx with rfl|hx
  ·exact key _ h1
  ·exact h2 x hx
 exact fun l=>key l (all l)
mutual
def Vm:Node->Bool
 |⟨_,_,_,_,ks⟩=>dQ ks
def dQ:List Node->Bool
 |[]=>true
 |n::l=>(!(decide (n.kind=3)&&gg dc n.text)&&(n.kids.all (bw n.name)&&Vm n))&&dQ l
end
theorem xm(n:Node):Vm n=dQ n.kids:=by cases n;simp[Vm]
theorem Hm:∀(l:List Node),ar kx l->Fn Tryz.prog lh [.seq 5 (l.map Node.v)] (.bool (dQ l)):=by
 have key:∀l:List Node,(∀n∈l,ar kx n.kids->Fn Tryz.prog lh [.seq 5 (n.kids.map Node.v)] (.bool (dQ n.kids)))->ar kx l->Fn Tryz.prog lh [.seq 5 (l.map Node.v)] (.bool (dQ l)):=by
  intro l hrec hfi;refine Fn.of_image mixed GM Gp rfl fun ho=>?_;unfold vY;simp only[oks,ok,and_true]at ho;have hlen:l.length<=140737488355328:=by have:=ho.1;simpa using this
  have hlenk:∀x∈l,x.kids.length<=140737488355328:=fun x hx=>by
   have h:=(Kh.1 ho.2) _ (zBd hx);simp at h;exact h.2.2.2.2.1
  clear ho;simp(disch:=omega) [-zAa];generalize hr:dQ l=r;refine ay (fun k:Nat=>⟨[(0,.seq 5 (l.map Node.v)),(3,.int .i64 k)],[]⟩) (fun k=>k<=l.length/\dQ (l.drop k)=r) (fun k=>l.length-k) [] _ 0 rfl (by simp[*]) (by simp[*]) ?_
  rintro k ⟨hk,hi⟩ N hN;rcases place l k hk with⟨he,hd⟩|⟨hlt,x,hx,hd⟩<;>rw[hd]at hi<;>replace hi:=hid hi
  ·have hi:=hi.out
   simp only[dQ]at hi;subst hi;simp(disch:=omega) [-zAa,he]
  ·have hxm:=zAb hx
   obtain⟨hfx,hfk⟩:=eZ hfi hxm;have hxk:=hlenk x hxm;simp only[dQ,xm]at hi;have bad:(!(decide (x.kind=3)&&gg dc x.text)&&(x.kids.all (bw x.name)&&dQ x.kids))=false->r=false:=fun h=>by have hi:=hi.out;rw[h]at hi;simpa using hi.symm
   have good:(!(decide (x.kind=3)&&gg dc x.text)&&(x.kids.all (bw x.name)&&dQ x.kids))=true->dQ (l.drop (k+1))=r:=fun h=>by have hi:=hi.out;rw[h]at hi;simpa using hi
   replace bad:=hid bad;replace good:=hid good;clear hi;have hax:0<dc.length:=by simp[dc]
   have hal:dc.length<=1000000000:=by simp[dc]
   have hxt:=hfx.2.1;simp(disch:=omega) [-zAa,hx];generalize hA:x.kids.all (bw x.name)=A at bad good
   repeat' (first
    |(refine BrKd.mk (fun h=>?_) (fun h=>?_)<;>simp(disch:=omega) [hx, *])
    |(refine BrK.mk (fun h=>?_) (fun h=>?_)<;>simp(disch:=omega) [hx, *])
    |(refine ac (vM x.text dc hax (by omega) hal) rfl (fun _=>?_)<;>simp(disch:=omega) [hx, *]))
   all_goals
    first
    |(rw[bad.out (by simp[*])];done)
    |(refine(bad.out (by simp[*]));done)
    |(refine(bad.out (by simp[*])).symm;done)
    |skip
   all_goals
    refine ay (fun(j:Nat)=>⟨[(0,.seq 5 (l.map Node.v)),(3,.int .i64 k),(4,.int .i64 j)],[]⟩)
     (fun j=>j<=x.kids.length/\((x.kids.drop j).all (bw x.name))=A) (fun j=>x.kids.length-j) [] _ 0 rfl (by simp) (by simp[hA]) ?_
    rintro j ⟨hj,hi⟩ N2 hN2;rcases place x.kids j hj with⟨he2,hd2⟩|⟨hlt2,y,hy,hd2⟩<;>rw[hd2]at hi
    ·simp only[List.all_nil]at hi
     subst hi;simp(disch:=omega) [-zAa,hx,he2];refine ac (hrec x hxm hfk) rfl fun _=>?_;simp(disch:=omega) [-zAa];refine BrK.mk (fun h2=>?_) (fun h2=>?_)
     ·simp(disch:=omega) [-zAa]
      refine hN.out _<|Nx.mk (k+1) (by simp) ⟨by omega,good.out (by simp[*])⟩ (by omega)
     ·simp(disch:=omega) [-zAa]
      have hb:=bad.out (by simp[*])
      simp[hb]
    ·obtain⟨hfy,_⟩:=eZ hfk (zAb hy)
     simp only[zBg]at hi;have ht2:y.text.length<=100000000:=by have:=hfy.2.1;omega
     replace hi:=hid hi;simp(disch:=omega) [-zAa,hx,hy];refine a6 (by simpa using s8 x.name y hfx.1 ht2) rfl ?_
     simp(disch:=omega) [-zAa];refine BrK.mk (fun h2=>?_) (fun h2=>?_)
     ·simp(disch:=omega) [-zAa]
      have hi:=hi.out;rw[h2]at hi;refine hN2.out _<|Nx.mk (j+1) (by simp) ⟨by omega,by simpa using hi⟩ (by omega)
     ·simp(disch:=omega) [-zAa]
      have hi:=hi.out;rw[h2]at hi;simp only[Bool.false_and]at hi;subst hi;have hb:=bad.out (by simp)
      simp[hb]
 have all:∀l:List Node,∀n∈l,ar kx n.kids->Fn Tryz.prog lh [.seq 5 (n.kids.map Node.v)] (.bool (dQ n.kids)):=by
  refine aC (fun x hx=>by cases hx) ?_
  intro n l h1 h2 x hx;rcases zAe.1 hx with rfl|hx
  ·exact key _ h1
  ·exact h2 x hx
 exact fun l=>key l (all l)
def b6(l:List Node):Bool:=decide (may l=0)&&dQ l
theorem oC(l:List Node)(hf:ar kx l):Fn Tryz.prog yb [.seq 5 (l.map Node.v)] (.bool (b6 l)):=by
 refine Fn.of_image mixed yF yr rfl fun ho=>?_;unfold pb;simp only[oks,ok,and_true]at ho;clear ho;simp(disch:=omega) [-zAa,b6];refine ac (vO l hf) rfl fun _=>?_;simp(disch:=omega) [-zAa];refine BrKd.mk (fun h=>?_) (fun h=>?_)
 ·simp(disch:=omega) [-zAa,h]
  refine ac (Hm l hf) rfl fun _=>?_;simp(disch:=omega) [-zAa,h]
 ·simp(disch:=omega) [-zAa,h]
theorem cU{f:Node->Prop}:∀{l:List Node},ar f l↔∀n∈l,f n/\ar f n.kids
 |[]=>by simp[ar]
 |n::l=>by simp[ar,fc,cU (l:=l)]
theorem MW{f g:Node->Prop}(h:∀n,f n->ar f n.kids->g n):∀l:List Node,ar f l->ar g l:=by
 refine aC (fun _=>by simp[ar]) ?_
 intro n l h1 h2 ha;simp only[ar,fc]at ha⊢;exact⟨⟨h n ha.1.1 ha.1.2,h1 ha.1.2⟩,h2 ha.2⟩
theorem jO(a b:List Node):aj (a++b)=aj a+aj b:=by
 induction a with
 |nil=>simp[aj]
 |cons x a ih=>simp only[List.cons_append,aj,ih];omega
theorem tu(f:Node->Bool):∀l:List Node,aj (l.filter f)<=aj l
 |[]=>by simp[aj]
 |n::l=>by
   have:=tu f l;simp only[zBb];split<;>simp only[aj]<;>omega
theorem Co:∀(l:List Node)(i:Nat)(o n:Node),l[i]?=some o->aj n.kids=aj o.kids->aj (l.set i n)=aj l
 |[],i,o,n,h,_=>by simp at h
 |x::l,0,o,n,h,hk=>by simp at h;subst h;simp[aj,ef,hk]
 |x::l,i+1,o,n,h,hk=>by
   have:=Co l i o n (by simpa using h) hk
   simp only[zCg,aj,this]
theorem ln:∀(l out:List Node),aj (bA out l)<=aj out+aj l
 |[],out=>by simp[bA,aj]
 |n::l,out=>by
   have h1:=ln l out;have h2:=ln l (out++[n]);rw[jO]at h2;have hn:aj [n]=Jx n:=by simp[aj]
   have hc:aj (n::l)=Jx n+aj l:=by simp[aj]
   simp only[bA];split
   ·omega
   ·split
    ·rename_i o ho
     split
     ·have h3:=ln l (out.set (out.length-1) ⟨o.kind,o.name,o.attrs,o.text++n.text,o.kids⟩)
      have e:=Co out (out.length-1) o ⟨o.kind,o.name,o.attrs,o.text++n.text,o.kids⟩ ho rfl;rw[e]at h3;omega
     ·omega
    ·omega
theorem pB(l:List Node):aj (cf l)<=aj l:=by
 have:=ln l [];simpa[cf,aj]using this
theorem iR{P:Node->Prop}(hP:∀k n a t ks t',P ⟨k,n,a,t,ks⟩->P ⟨k,n,a,t',ks⟩):∀(l out:List Node),(∀n∈out,P n)->(∀n∈l,P n)->∀n∈bA out l,P n
 |[],out,ho,_=>by simpa[bA]using ho
 |n::l,out,ho,hl=>by
   have hn:=hl n (by simp)
   have hl':∀n∈l,P n:=fun x hx=>hl x (by simp[hx])
   have hon:∀x∈out++[n],P x:=fun x hx=>by
    rcases zAj.1 hx with h|h
    ·exact ho x h
    ·simp at h;subst h;exact hn
   simp only[bA];split
   ·exact iR hP l out ho hl'
   ·split
    ·rename_i o hoo
     split
     ·refine iR hP l _ (fun x hx=>?_) hl'
      rcases zBi hx with h|h
      ·exact ho x h
      ·subst h
       have:=ho o (zAb hoo);obtain⟨k0,n0,a0,t0,ks0⟩:=o;exact hP _ _ _ _ _ _ this
     ·exact iR hP l _ hon hl'
    ·exact iR hP l _ hon hl'
theorem LP{P:Node->Prop}(hP:∀k n a t ks t',P ⟨k,n,a,t,ks⟩->P ⟨k,n,a,t',ks⟩){l:List Node}(h:∀n∈l,P n):∀n∈cf l,P n:=iR hP l [] (fun _ h=>by cases h) h
def kw(n:Node):Prop:=n.name.length<=1000/\n.attrs.length<=1000/\(∀a∈n.attrs,a.name.length<=1000/\a.value.length<=1000)/\n.kids.length<=1000/\cz n.kids<=1000000
theorem lm{l:List Node}(h:ar kw l):ar kw (cf l):=
 cU.2 (LP (P:=fun n=>kw n/\ar kw n.kids) (fun k n a t ks t' h=>h) (cU.1 h))
def En(n:Node):Prop:=n.name.length<=30/\n.text.length<=30/\n.attrs.length<=5/\∀a∈n.attrs,a.name.length<=30/\a.value.length<=30
theorem vQ:∀(l:List Node)(m:Nat),ar En (dB l m).1:=by
 refine aC (fun m=>by simp[dB,ar]) ?_
 intro n l h1 h2 m;simp only[dB,xk];split
 ·simp[ar]
 ·simp only[ar,Qa]
  refine⟨⟨⟨by simp[p5];omega,by simp[p5];omega,by simp;omega,fun a ha=>?_⟩,h1 _⟩,h2 _⟩
  simp only[zCf]at ha;obtain⟨b,_,rfl⟩:=ha;simp[Mu,p5];omega
theorem sy{l:List Str}{m:Nat}(h:l.all (fun s=>decide (s.length<=m))=true)(i:Nat):((l[i]?).getD []).length<=m:=by
 cases hi:l[i]? with
 |none=>simp
 |some x=>simpa using List.all_eq_true.1 h x (zAb hi)
theorem rE:∀(l acc:List Attr),(∀a∈l,a.name.length<=30/\a.value.length<=30)->(∀a∈acc,a.name.length<=1000/\a.value.length<=1000)->
 (gW acc l).length<=acc.length+l.length/\∀a∈gW acc l,a.name.length<=1000/\a.value.length<=1000
 |[],acc,_,ha=>by simpa[gW]using ha
 |x::l,acc,hl,ha=>by
   have hx:=hl x (by simp)
   have hl':∀a∈l,a.name.length<=30/\a.value.length<=30:=fun a h=>hl a (by simp[h])
   simp only[gW];split
   ·have:=rE l acc hl' ha
    exact⟨by simp;omega,this.2⟩
   ·have:=rE l (acc++[⟨bD x.name,bg x.value⟩]) hl' (fun a h=>by
     rcases zAj.1 h with h|h
     ·exact ha a h
     ·simp at h;subst h
      have h1:=j9 x.value
      have h2:(bD x.name).length<=1000:=by
       unfold bD;split
       ·omega
       ·have:=sy (l:=Ke) (m:=1000) (by decide) (x.name.length%5)
        omega
      exact⟨h2,by simp only;omega⟩)
    exact⟨by have:=this.1;simp at this⊢;omega,this.2⟩
theorem xz(f:Node->Node)(c:Nat):∀l:List Node,(∀n∈l,(f n).text.length<=c)->cz (l.map f)<=c*l.length
 |[],_=>by simp[cz]
 |n::l,h=>by
   have h1:=h n (by simp)
   have h2:=xz f c l (fun x hx=>h x (by simp[hx]))
   simp only[cz,zAf,zCb,zAc,Nat.mul_succ]at *;omega
theorem Jj:∀l:List Node,ar En l->aj l<=1000->ar kw (l.map cg)/\aj (l.map cg)<=aj l/\(∀n∈l.map cg,n.text.length<=120):=by
 refine aC (fun _ _=>by simp[ar,aj]) ?_
 intro n l h1 h2 ha hc;simp only[ar,fc]at ha;simp only[aj,ef]at hc;obtain⟨g1,g2,g3⟩:=h2 ha.2 (by omega)
 obtain⟨k1,k2,k3⟩:=h1 ha.1.2 (by omega)
 have hw:(r8 n.name).length<=1000:=by
  unfold r8;split
  ·have:=ha.1.1.1;omega
  ·have:=sy (l:=FC) (m:=1000) (by decide) (E9 n.name%10);omega
 have hA:=rE n.attrs [] ha.1.1.2.2.2 (fun _ h=>by cases h)
 have hr:=j9 n.text;have ht:=ha.1.1.2.1;have hat:=ha.1.1.2.2.1;have hm:=kh (n.kids.map cg);have hmc:=pB (n.kids.map cg);have hkl:=c6 n.kids;have hts:=xz cg 120 n.kids (fun x hx=>k3 _ (zBd hx));have hts2:120*n.kids.length<=120*1000:=zCd _ (by omega)
 simp only[List.length_map]at hm;simp only[zBj,Nat.zero_add]at hA;refine⟨?_,?_,?_⟩
 ·simp only[zAf,ar,fc]
  refine⟨?_,g1⟩;rw[i5];split
  ·refine⟨⟨hw,?_,hA.2,?_,?_⟩,lm k1⟩
   ·simp only;omega
   ·simp only;omega
   ·simp only;omega
  ·exact⟨⟨by simp,by simp,by simp,by simp,by simp[cz]⟩,by simp[ar]⟩
 ·simp only[zAf,aj,ef]
  rw[i5];split
  ·simp only;omega
  ·simp only[aj];omega
 ·intro x hx
  simp only[zAf,zAe]at hx;rcases hx with rfl|hx
  ·rw[i5]
   split
   ·simp
   ·simp only;omega
  ·exact g3 x hx
theorem oy(l:List Node):ar kw (bC l)/\aj (bC l)<=40/\cz (bC l)<=4800:=by
 have hc:=tr l 40;obtain⟨h1,h2,h3⟩:=Jj (dB l 40).1 (vQ l 40) (by omega)
 have hm:=kh ((dB l 40).1.map cg);have hmc:=pB ((dB l 40).1.map cg);have ht:=xz cg 120 (dB l 40).1 (fun x hx=>h3 _ (zBd hx));have hl:=c6 (dB l 40).1;have:120*(dB l 40).1.length<=120*40:=zCd _ (by omega)
 exact⟨lm h1,by unfold bC;omega,by unfold bC;omega⟩
theorem CR:∀l:List Node,ar kw l->ar kw (l.flatMap aD)/\aj (l.flatMap aD)<=aj l:=by
 refine aC (fun _=>by simp[ar,aj]) ?_
 intro n l h1 h2 ha;simp only[ar,fc]at ha;obtain⟨g1,g2⟩:=h2 ha.2
 have happ:∀a b:List Node,ar kw a->ar kw b->ar kw (a++b):=fun a b ha hb=>cU.2 fun x hx=>by
  rcases zAj.1 hx with h|h
  ·exact cU.1 ha x h
  ·exact cU.1 hb x h
 have key:ar kw (aD n)/\aj (aD n)<=Jx n:=by
  rw[j4];split
  ·simp[ar,aj]
  ·split
   ·have hk1:ar kw (n.kids.flatMap aD)/\aj (n.kids.flatMap aD)<=aj n.kids:=h1 ha.1.2
    have hf:=lJ n.name n.kids;have hs:=gr (av n.name n.kids);have hm:=kh ((av n.name n.kids).flatMap aD);have hf2:=lJ n.name (cf ((av n.name n.kids).flatMap aD))
    have hsub:ar kw ((av n.name n.kids).flatMap aD):=cU.2 fun x hx=>by
     obtain⟨y,hy,hxy⟩:=zCj.1 hx;exact cU.1 hk1.1 x (zCj.2 ⟨y,(zCa.1 hy).1,hxy⟩)
    have hcs:∀ks:List Node,aj ((av n.name ks).flatMap aD)<=aj (ks.flatMap aD):=by
     intro ks
     induction ks with
     |nil=>simp[av,aj]
     |cons y ks ih=>
       simp only[av,zBb,zBa,jO]at ih⊢;split
       ·simp only[zBa,jO];omega
       ·omega
    have hmy:=lm hsub;have hc1:=hcs n.kids;have hc2:=pB ((av n.name n.kids).flatMap aD);have hc3:=tu (bw n.name) (cf ((av n.name n.kids).flatMap aD));have hl:=ha.1.1.2.2.2;simp only[ar,fc,aj,ef];refine⟨⟨⟨⟨ha.1.1.1,ha.1.1.2.1,ha.1.1.2.2.1,?_,?_⟩,?_⟩,trivial⟩,?_⟩
    ·simp only;omega
    ·simp only;omega
    ·exact cU.2 fun x hx=>cU.1 hmy x (zCa.1 hx).1
    ·simp only[av]at *;omega
   ·simp only[ar,fc,aj]
    exact⟨⟨ha.1,trivial⟩,by omega⟩
 simp only[zBa,jO];exact⟨happ _ _ key.1 g1,by simp only[aj];omega⟩
def cc(l:List Node):List Node:=gZ (bC l)
theorem G0(l:List Node):ar kw (cc l)/\aj (cc l)<=40/\cz (cc l)<=4800:=by
 obtain⟨h1,h2,h3⟩:=oy l;obtain⟨g1,g2⟩:=CR (bC l) h1;have hs:=gr (bC l);have hm:=kh ((bC l).flatMap aD);have hc:=pB ((bC l).flatMap aD);exact⟨lm g1,by unfold cc gZ;omega,by unfold cc gZ;omega⟩
theorem m9(l:List Node):Fn Tryz.prog Da [.seq 5 (l.map Node.v)] (.seq 5 ((cc l).map Node.v)):=by
 refine Fn.of_image mixed D3 DH rfl fun ho=>?_;unfold tG;simp only[oks,ok,and_true]at ho;clear ho;obtain⟨h1,h2,h3⟩:=oy l;have hl:=c6 (bC l);have hf:ar Cf (bC l):=MW (fun n h _=>⟨h.1,h.2.2.2⟩) _ h1;simp(disch:=omega) [-zAa];refine aq (te l) (by simp) fun _=>?_
 simp(disch:=omega) [-zAa];refine aq (yW (bC l) hf (by omega) (by omega)) (by simp) fun _=>?_
 simp(disch:=omega) [-zAa,cc]
theorem Hv(s:Str):Fn Tryz.prog F4 [.str s] (.bool (named s)):=by
 refine Fn.of_image mixed GY GC rfl fun ho=>?_;unfold wh;simp only[oks,ok,and_true]at ho;simp(disch:=omega) [-zAa];generalize hr:named s=r;refine ay (fun k:Nat=>⟨[(0,.str s),(7,.int .i64 s.length),(8,.int .i64 k)],[]⟩) (fun k=>k<=s.length/\(if k=0 then named s else(s.drop k).all cG)=r) (fun k=>s.length-k) [] _ 0 rfl (by simp) (by simp[hr]) ?_
 rintro k ⟨hk,hi⟩ N hN;by_cases hk0:k=0
 ·subst hk0
  simp only[if_true]at hi;cases s with
  |nil=>simp[named]at hi;subst hi;simp(disch:=omega) [-zAa]
  |cons b t=>
    have hb:=b.toNat_lt;simp only[named,zBg]at hi;replace hi:=hid hi;simp(disch:=omega) [-zAa]
    repeat' (first|(refine BrKd.mk (fun h=>?_) (fun h=>?_)<;>simp(disch:=omega) [*])|(refine BrK.mk (fun h=>?_) (fun h=>?_)<;>simp(disch:=omega) [*]))
    all_goals first
     |(refine hN.out _<|Nx.mk 1 (by simp[*]) ⟨by simp,?_⟩ (by simp);have hi:=hi.out;simpa(disch:=omega) [cG,js,decide_eq_true,decide_eq_false, *]using hi)
     |(have hi:=hi.out;simpa(disch:=omega) [cG,js,decide_eq_true,decide_eq_false, *]using hi)
     |omega
 ·simp only[if_neg hk0]at hi
  rcases place s k hk with⟨he,hd⟩|⟨hlt,x,hx,hd⟩<;>rw[hd]at hi<;>replace hi:=hid hi
  ·simp(disch:=omega) [-zAa,he]
   have hi:=hi.out;have:s≠[]:=by intro h;subst h;simp at he;omega
   simpa[this]using hi
  ·have hb:=x.toNat_lt
   simp only[zBg]at hi;simp(disch:=omega) [-zAa,hx]
   repeat' (first|(refine BrKd.mk (fun h=>?_) (fun h=>?_)<;>simp(disch:=omega) [*])|(refine BrK.mk (fun h=>?_) (fun h=>?_)<;>simp(disch:=omega) [*]))
   all_goals first
    |omega
    |(refine hN.out _<|Nx.mk (k+1) (by simp[*]) ⟨by omega,?_⟩ (by omega);have hi:=hi.out;rw[if_neg (by omega)];simpa(disch:=omega) [cG,js,decide_eq_true,decide_eq_false, *]using hi)
    |(have hi:=hi.out;simpa(disch:=omega) [cG,js,decide_eq_true,decide_eq_false, *]using hi)
theorem iz(s:Str):Fn Tryz.prog II [.str s] (.bool (ew s)):=by
 refine Fn.of_image mixed Jg I9 rfl fun ho=>?_;unfold zq;simp only[oks,ok,and_true]at ho;simp(disch:=omega) [-zAa,ew]
 repeat' (first|(refine BrKd.mk (fun h=>?_) (fun h=>?_)<;>simp(disch:=omega) [*])|(refine BrK.mk (fun h=>?_) (fun h=>?_)<;>simp(disch:=omega) [*]))
theorem uO(s:Str):Fn Tryz.prog LI [.str s] (.bool (raw s)):=by
 refine Fn.of_image mixed Mh Md rfl fun ho=>?_;unfold Cq;simp only[oks,ok,and_true]at ho;simp(disch:=omega) [-zAa,raw]
 repeat' (first|(refine BrKd.mk (fun h=>?_) (fun h=>?_)<;>simp(disch:=omega) [*])|(refine BrK.mk (fun h=>?_) (fun h=>?_)<;>simp(disch:=omega) [*]))
end Go.Abs.F
end
