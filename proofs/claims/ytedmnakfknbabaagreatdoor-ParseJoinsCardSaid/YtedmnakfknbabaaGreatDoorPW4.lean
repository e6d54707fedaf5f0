/- What the program's functions for ends of raw eleme. -/
import Derived.Test.YtedmnakfknbabaaGreatDoorPP2
set_option linter.all false
set_option maxHeartbeats 0
open List renaming reduceReplicate→zAa,mem_of_getElem?→zAb,drop_drop→zAc
set_option maxRecDepth 100000
namespace Go.Abs.F
open Go.Proofs
attribute [-simp] getElem?_pos Option.not_isSome List.map_map
theorem Es(s nm:Str)(hs:s.length<=1000000000)(hn:nm.length<=1000000):Fn Tryz.prog C7 [.str s,.str nm] (.int .i64 (ends s nm)):=by
 refine Fn.of_image mixed D0 DE rfl fun ho=>?_;unfold tD;simp only[oks,ok,and_true]at ho;clear ho;simp(disch:=omega) [-zAa];generalize hr:ends s nm=r;refine ay (fun k:Nat=>⟨[(0,.str s),(1,.str nm),(5,.int .i64 k)],[]⟩) (fun k=>k<=s.length/\a8 nm k (s.drop k)=r) (fun k=>s.length-k) [] _ 0 rfl (by simp) (by simp[<-hr,ends]) ?_
 rintro k ⟨hk,hi⟩ N hN;have tk:∀i,(s.drop i).take (s.length-i)=s.drop i:=fun i=>List.take_of_length_le (by simp)
 simp(disch:=omega) [-zAa,hk,tk];have hsl:(s.drop k).length<4294967281:=by simp;omega
 refine ac (jn (s.drop k) [60,47] hsl) rfl fun _=>?_;rcases Lib.index_spec (s.drop k) [60,47]with⟨e,hno⟩|⟨j,e,hj,hocc,hno⟩
 ·rw[Hy nm _ _ hno]at hi
  simp(disch:=omega) [-zAa,e,hi]
 ·obtain⟨u,hu⟩:=Oy hocc
  have hu':s.drop (k+j)=60::47::u:=by rw[<-zAc];exact hu
  have hu2:s.drop (k+j+2)=u:=by rw[<-zAc,hu'];rfl
  have hlen:u.length+2=s.length-(k+j):=by have:=congrArg List.length hu';simpa using this.symm
  rw[oK nm j _ k hj hno,hu,My]at hi;have no:(jv u nm&&iG u[nm.length]?)=false->a8 nm (k+j+2) (s.drop (k+j+2))=r:=fun h=>by rw[if_neg (by rw[h];exact Bool.false_ne_true)]at hi;rw[hu2];exact hi
  have yes:(jv u nm&&iG u[nm.length]?)=true->r=(k:Int)+j:=fun h=>by rw[if_pos h]at hi;rw[<-hi];simp
  replace no:=hid no;replace yes:=hid yes;clear hi;have hul:s.length-(k+j+2)=u.length:=by omega
  have hc1:((k:Int)+(j:Int)+2).toNat=k+j+2:=by omega
  have hc2:(k:Int)+(j:Int)+2<=s.length:=by omega
  have hc3:k+j+2<=s.length:=by omega
  simp(disch:=omega) [-zAa,e,hc1,hc2,hc3,hu2,tk,hul];refine BrKd.mk (fun h=>?_) (fun h=>?_)
  ·simp(disch:=omega) [-zAa,h]
   refine hN.out _<|Nx.mk (k+j+2) (by simp) ⟨by omega,no.out ?_⟩ (by omega)
   have:u[nm.length]?=none:=by rw[List.getElem?_eq_none_iff];omega
   simp[this,iG]
  ·simp(disch:=omega) [-zAa,h]
   refine ac (Er u nm) rfl fun _=>?_;simp(disch:=omega) [-zAa,h];refine BrK.mk (fun h2=>?_) (fun h2=>?_)
   ·simp(disch:=omega) [-zAa,h2]
    have hlt:nm.length<u.length:=by
     by_cases h3:u.length<nm.length
     ·rw[n9 nm u h3]at h2;cases h2
     ·omega
    obtain⟨c,hc⟩:=bH (l:=u) (k:=nm.length) hlt;have hcb:=c.toNat_lt;simp(disch:=omega) [-zAa,hc];refine ac (AY c) rfl fun _=>?_;simp(disch:=omega) [-zAa]
    repeat' (first
     |(refine BrKd.mk (fun h=>?_) (fun h=>?_)<;>simp(disch:=omega) [*])
     |(refine BrK.mk (fun h=>?_) (fun h=>?_)<;>simp(disch:=omega) [*]))
    all_goals first
     |(refine hN.out _<|Nx.mk (k+j+2) (by simp) ⟨by omega,no.out ?_⟩ (by omega);simp_all[iG,rQ];done)
     |(rw[yes.out ?_];simp_all[iG,rQ];done)
   ·simp(disch:=omega) [-zAa,h2]
    refine hN.out _<|Nx.mk (k+j+2) (by simp) ⟨by omega,no.out ?_⟩ (by omega)
    simp[h2]
theorem uP(s:Str)(hs:s.length<=1000000000):Fn Tryz.prog uw [.str s] (.bool (aU s)):=by
 refine Fn.of_image mixed uJ uG rfl fun ho=>?_;unfold mu;simp only[oks,ok,and_true]at ho;clear ho;simp(disch:=omega) [-zAa];generalize hr:aU s=r;refine ay (fun k:Nat=>⟨[(0,.str s),(6,.int .i64 s.length),(7,.int .i64 k)],[]⟩) (fun k=>k<=s.length/\((s.drop k).all (fun b=>!dJ b)&&(decide (bg s=s)&&decide (0<s.length)))=r) (fun k=>s.length-k) [] _ 0 rfl (by simp) (by simp[<-hr,aU]) ?_
 rintro k ⟨hk,hi⟩ N hN;rcases place s k hk with⟨he,hd⟩|⟨hlt,x,hx,hd⟩<;>rw[hd]at hi<;>replace hi:=hid hi
 ·simp(disch:=omega) [-zAa,he]
  refine BrKd.mk (fun h=>?_) (fun h=>?_)
  ·have hp:s=[]:=by simpa using h
   subst hp;simp(disch:=omega) [-zAa];have hi:=hi.out;simpa using hi
  ·simp(disch:=omega) [-zAa,h]
   refine ac (yT s hs) rfl fun _=>?_;have hi:=hi.out;have hp:0<s.length:=List.length_pos_iff.2 (by simpa using h)
   simp(disch:=omega) [-zAa,right];simpa[hp]using hi
 ·have hb:=x.toNat_lt
  simp only[List.all_cons]at hi;simp(disch:=omega) [-zAa,hx]
  repeat' (first
   |(refine BrKd.mk (fun h=>?_) (fun h=>?_)<;>simp(disch:=omega) [*])
   |(refine BrK.mk (fun h=>?_) (fun h=>?_)<;>simp(disch:=omega) [*]))
  all_goals first
   |omega
   |(refine hN.out _<|Nx.mk (k+1) (by simp[*]) ⟨by omega,?_⟩ (by omega);have hi:=hi.out;simpa(disch:=omega) [dJ,decide_eq_true,decide_eq_false, *]using hi)
   |(have hi:=hi.out;simpa(disch:=omega) [dJ,decide_eq_true,decide_eq_false, *]using hi)
def ml:Nat->List Attr->List (V×V)
 |_,[]=>[]
 |i,a::l=>(.str a.name,.int .i64 i)::ml (i+1) l
theorem fE(s t:Str):eqK (.str s) (.str t)=decide (s=t):=by simp[eqK,cl,tm,eqC]
theorem BW(s:Str):∀(l:List Attr)(i:Nat),(ir (.str s) (ml i l)).isSome=kq l s
 |[],i=>rfl
 |a::l,i=>by
   simp only[ml,ir,fE,decide_eq_true_eq,kq];by_cases h:s=a.name
   ·rw[if_pos h,if_pos h.symm];rfl
   ·rw[if_neg h,if_neg (fun e=>h e.symm)];exact BW s l (i+1)
theorem BU(s:Str)(u:V):∀(l:List Attr)(i:Nat),kq l s=false->mc (.str s) u (ml i l)=ml i l++[(.str s,u)]
 |[],i,_=>rfl
 |a::l,i,h=>by
   simp only[kq]at h;have h':¬a.name=s:=by intro e;rw[if_pos e]at h;cases h
   rw[if_neg h']at h;simp only[ml,mc,fE,decide_eq_true_eq];rw[if_neg (fun e=>h' e.symm),BU s u l (i+1) h];rfl
theorem Ci(a:Attr):∀(l:List Attr)(i:Nat),ml i (l++[a])=ml i l++[(.str a.name,.int .i64 (i+l.length:Nat))]
 |[],i=>by simp[ml]
 |b::l,i=>by
   simp only[List.cons_append,ml,Ci a l (i+1),List.length_cons];congr 5;omega
abbrev rk:KT:=⟨false,[.s]⟩
theorem A5(n:Node)(hf:kx n)(ht:n.text=[]):Fn Tryz.prog z8 [.sptr n.v 0] (.int .i64 (gL n)):=by
 refine Fn.of_image mixed AU Ay rfl fun ho=>?_;unfold qK;simp only[oks,ok,and_true]at ho;clear ho;obtain⟨h1,h2,h3,h4⟩:=hf;simp(disch:=omega) [-zAa,gL,ht];refine ac (Hv n.name) rfl fun _=>?_;simp(disch:=omega) [-zAa];refine BrK.mk (fun hn=>?_) (fun hn=>?_)
 ·simp(disch:=omega) [-zAa,hn]
  generalize hD:dU [] n.attrs=D;have hDc:=rR n.attrs [];rw[hD]at hDc
  refine ay (fun(k:Nat)=>⟨[(0,.sptr n.v 0),(3,.ref 0 0),(20,.seq 2 (n.attrs.map Attr.v)),(21,.int .i64 n.attrs.length),(22,.int .i64 k)],[some (.mp rk (ml 0 (n.attrs.take k)))]⟩)
   (fun k=>k<=n.attrs.length/\dU (n.attrs.take k) (n.attrs.drop k)=D) (fun k=>n.attrs.length-k) [] _ 0 rfl (by simp[ht,ml]) (by simp[hD]) ?_
  rintro k ⟨hk,hi⟩ N hN;rcases place n.attrs k hk with⟨he,hd⟩|⟨hlt,x,hx,hd⟩<;>rw[hd]at hi
  ·simp only[dU]at hi
   subst hi;simp(disch:=omega) [-zAa,he];generalize hV:bf n.attrs=R
   refine ay (fun(k:Nat)=>⟨[(47,.seq 2 (n.attrs.map Attr.v)),(48,.int .i64 n.attrs.length),(49,.int .i64 k)],[]⟩)
    (fun k=>k<=n.attrs.length/\bf (n.attrs.drop k)=R) (fun k=>n.attrs.length-k) [] _ 0 rfl (by simp) (by simp[hV]) ?_
   clear hk hN;rintro k ⟨hk,hi⟩ N hN;rcases place n.attrs k hk with⟨he,hd⟩|⟨hlt,x,hx,hd⟩<;>rw[hd]at hi
   ·simp only[bf]at hi
    subst hi;simp(disch:=omega) [-zAa,he]
   ·obtain⟨g1,g2⟩:=h4 x (zAb hx)
    simp only[bf]at hi;replace hi:=hid hi;simp(disch:=omega) [-zAa,hx];refine ac (yT x.value (by omega)) rfl fun _=>?_
    simp(disch:=omega) [-zAa];refine BrK.mk (fun h=>?_) (fun h=>?_)
    ·simp(disch:=omega) [-zAa,h]
     have hi:=hi.out;refine hN.out _<|Nx.mk (k+1) (by simp) ⟨by omega,?_⟩ (by omega)
     simpa[h]using hi
    ·simp(disch:=omega) [-zAa,h]
     have hi:=hi.out;simp[h]at hi;simp[<-hi]
  ·obtain⟨g1,g2⟩:=h4 x (zAb hx)
   simp only[dU]at hi;replace hi:=hid hi;simp(disch:=omega) [-zAa,hx];refine ac (uP x.name (by omega)) rfl fun _=>?_
   simp(disch:=omega) [-zAa];refine BrK.mk (fun h=>?_) (fun h=>?_)
   ·have hi:=hi.out
    rw[if_pos h]at hi;replace hi:=hid hi;have hg:=BW x.name (n.attrs.take k) 0;by_cases hh:kq (n.attrs.take k) x.name=true
    ·rw[hh]at hg
     obtain⟨v,hv⟩:=Option.isSome_iff_exists.1 hg;have hi:=hi.out;rw[if_pos hh]at hi;subst hi;simp(disch:=omega) [-zAa,h,hv]
    ·have hh':kq (n.attrs.take k) x.name=false:=by simpa using hh
     rw[hh']at hg;have hv:ir (.str x.name) (ml 0 (n.attrs.take k))=none:=by simpa using hg
     have hi:=hi.out;rw[if_neg hh]at hi;replace hi:=hid hi;have hkl:(n.attrs.take k).length=k:=by rw[List.length_take];omega
     have hp:=BU x.name (.int .i64 k) (n.attrs.take k) 0 hh';have hs:=Ci x (n.attrs.take k) 0;rw[hkl,Nat.zero_add,<-hp,<-fP hx]at hs;simp(disch:=omega) [-zAa,h,hv,<-hs];refine hN.out _<|Nx.mk (k+1) (by simp) ⟨by omega,?_⟩ (by omega)
     rw[fP hx];exact hi.out
   ·have hi:=hi.out
    rw[if_neg (by simp[h])]at hi
    subst hi;simp(disch:=omega) [-zAa,h]
 ·simp(disch:=omega) [-zAa,hn]
end Go.Abs.F
