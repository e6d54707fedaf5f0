/- Plain: where a raw element ends. No condition. -/
import Derived.Test.YtedmnakfknbabaaGreatDoorAF1
import Derived.Lib.IndexMore
import Derived.Test.YtedmnakfknbabaaGreatDoorAP1
set_option linter.all false
set_option maxHeartbeats 0
set_option maxRecDepth 100000
open List renaming reduceReplicate→zAa,drop_drop→zAb,mem_of_getElem?→zAc,cons_append→zAd,all_cons→zAf,length→zAh
open Bool renaming eq_iff_iff→zAe
open Nat renaming add_comm→zAg
open List.cons renaming injEq→zAi
section
namespace Go.Abs.F
open Go.Proofs
def gR:Str->Str->Bool
 |_,[]=>true
 |[],_::_=>false
 |b::s,c::w=>decide (dw b=c)&&gR s w
theorem mB:∀(w s:Str),s.length<w.length->gR s w=false
 |[],s,h=>by simp at h
 |c::w,[],_=>rfl
 |c::w,b::s,h=>by simp only[gR,mB w s (by simpa using h),Bool.and_false]
theorem zE:∀(w s:Str),gR s w=decide ((s.take w.length).map dw=w)
 |[],s=>by cases s<;>simp[gR]
 |c::w,[]=>by simp[gR]
 |c::w,b::s=>by simp[gR,zE w s,Bool.decide_and]
theorem ww{b c:UInt8}(hc:¬(97<=c.toNat/\c.toNat<=122))(h:dw b=c):b=c:=by
 unfold dw at h;split at h
 ·rename_i hb
  exfalso;apply hc;rw[<-h,rM (by omega)]
  omega
 ·exact h
def lf:Option UInt8->Bool
 |some c=>y8 c
 |none=>false
theorem M9(nm u:Str):rl nm (60::47::u)=(gR u nm&&lf u[nm.length]?):=by
 have e1:dw 60=60:=by decide
 have e2:dw 47=47:=by decide
 unfold rl;rw[zAg 2 nm.length,zE];simp[e1,e2];cases u[nm.length]?<;>rfl
theorem EM(nm s:Str)(h:Lib.occAt s [60,47] 0=false):rl nm s=false:=by
 unfold rl;rw[Bool.and_eq_false_iff];left;rw[decide_eq_false_iff_not];intro hh;rw[zAg 2 nm.length]at hh
 match s with
 |[]=>simp at hh
 |[b]=>simp at hh
 |b::c::u=>
   simp only[List.take_succ_cons,List.map_cons,zAd,List.nil_append,zAi]at hh;have h1:=ww (by decide) hh.1
   have h2:=ww (by decide) hh.2.1
   subst h1 h2;simp[Lib.occAt]at h
theorem m7(nm:Str):∀(m:Nat)(s:Str)(k:Nat),m<=s.length->(∀j,j<m->Lib.occAt s [60,47] j=false)->dK nm k s=dK nm (k+m) (s.drop m)
 |0,s,k,_,_=>by simp
 |m+1,[],k,h,_=>by simp at h
 |m+1,b::t,k,h,ho=>by
   have h0:=EM nm (b::t) (ho 0 (by omega))
   simp only[dK,h0,Bool.false_eq_true,if_false,List.drop_succ_cons];rw[m7 nm m t (k+1) (by simpa using h) (fun j hj=>by have:=ho (j+1) (by omega);simpa[Lib.occAt]using this)]
   congr 1;omega
theorem EL(nm s:Str)(k:Nat)(h:∀j,j<=s.length->Lib.occAt s [60,47] j=false):dK nm k s=-1:=by
 rw[m7 nm s.length s k (Nat.le_refl _) (fun j hj=>h j (by omega)),List.drop_length]
 rfl
theorem JV(nm u:Str)(k:Nat):dK nm k (60::47::u)=if(gR u nm&&lf u[nm.length]?)=true then(k:Int)else dK nm (k+2) u:=by
 have h0:rl nm (47::u)=false:=EM nm _ (by simp[Lib.occAt,List.isPrefixOf])
 rw[dK,M9,dK,h0];rfl
theorem L8{s:Str}{i:Nat}(h:Lib.occAt s [60,47] i=true):∃u,s.drop i=60::47::u:=by
 unfold Lib.occAt at h
 match hs:s.drop i with
 |[]=>rw[hs]at h;simp at h
 |[b]=>rw[hs]at h;simp at h
 |b::c::u=>
   rw[hs]at h;simp at h;exact⟨u,by rw[<-h.1,<-h.2]⟩
theorem v6(w:Str)(hw:w≠[]):∀s:Str,je w s=decide (0<=Lib.index s w)
 |[]=>by
   cases w with
   |nil=>exact(hw rfl).elim
   |cons c w=>simp[je,ew,Lib.index]
 |b::t=>by
   have ih:=v6 w hw t;have hge:=Lib.index_ge t w;have e:Lib.index (b::t) w=if w.isPrefixOf (b::t)then 0 else if Lib.index t w == -1 then -1 else Lib.index t w+1:=rfl
   have hb:ew (b::t) w=w.isPrefixOf (b::t):=by
    rw[zAe];simp only[ew,Bool.and_eq_true,decide_eq_true_eq,List.isPrefixOf_iff_prefix];constructor
    ·rintro⟨h1,h2⟩;rw[<-h2];exact List.take_prefix _ _
    ·intro h;exact⟨h.length_le,(List.prefix_iff_eq_take.1 h).symm⟩
   rw[zAe];simp only[je,ih,hb,Bool.or_eq_true,decide_eq_true_eq];rw[e];by_cases h:w.isPrefixOf (b::t)=true
   ·simp[h]
   ·rw[if_neg h]
    by_cases h1:Lib.index t w=-1
    ·simp[h,h1]
    ·rw[if_neg (by simpa using h1)]
     have:0<=Lib.index t w:=by omega
     simp[this];omega
end Go.Abs.F
end
section
namespace Go.Abs.F
open Go.Proofs
attribute [-simp] getElem?_pos Option.not_isSome List.map_map
theorem ED(b:UInt8):Fn Tryz.prog Dz [.int .u8 b.toNat] (.int .u8 (dw b).toNat):=by
 refine Fn.of_image mixed Ec DY rfl fun ho=>?_;unfold tv;simp only[oks,ok,and_true]at ho;have hb:=b.toNat_lt;by_cases h:65<=b.toNat/\b.toNat<=90
 ·have e:(dw b).toNat=b.toNat+32:=by simp[dw,h,rM (show b.toNat+32<256 by omega)]
  rw[e];simp(disch:=omega) [-zAa,h]
  repeat' (first|(refine BrKd.mk (fun h=>?_) (fun h=>?_)<;>simp(disch:=omega) [*])|(refine BrK.mk (fun h=>?_) (fun h=>?_)<;>simp(disch:=omega) [*]))
  all_goals omega
 ·have e:dw b=b:=by simp only[dw,if_neg h]
  rw[e];simp(disch:=omega) [-zAa]
  repeat' (first|(refine BrKd.mk (fun h=>?_) (fun h=>?_)<;>simp(disch:=omega) [*])|(refine BrK.mk (fun h=>?_) (fun h=>?_)<;>simp(disch:=omega) [*]))
  all_goals omega
theorem Ch(s w:Str):Fn Tryz.prog A5 [.str s,.str w] (.bool (gR s w)):=by
 refine Fn.of_image mixed BT Bz rfl fun ho=>?_;unfold rt;simp only[oks,ok,and_true]at ho;obtain⟨ho1,ho2⟩:=ho;generalize hr:gR s w=r;simp(disch:=omega) [-zAa];refine BrKd.mk (fun h=>?_) (fun h=>?_)
 ·simp(disch:=omega) [-zAa,h]
  rw[<-hr,mB w s (by omega)]
 ·simp(disch:=omega) [-zAa,h]
  refine an (fun k:Nat=>⟨[(0,.str s),(1,.str w),(12,.int .i64 w.length),(13,.int .i64 k)],[]⟩) (fun k=>k<=w.length/\gR (s.drop k) (w.drop k)=r) (fun k=>w.length-k) [] _ 0 rfl (by simp) (by simp[hr]) ?_
  rintro k ⟨hk,hi⟩ N hN;rcases place w k hk with⟨he,hd⟩|⟨hlt,x,hx,hd⟩
  ·rw[hd]at hi
   simp(disch:=omega) [-zAa,he];cases hs:s.drop k<;>simpa[hs,gR]using hi
  ·obtain⟨y,hy⟩:=a8 (l:=s) (k:=k) (by omega)
   have hds:s.drop k=y::s.drop (k+1):=by
    rw[List.drop_eq_getElem_cons (by omega)]
    have:s[k]?=some (s[k]'(by omega)):=List.getElem?_eq_getElem _
    rw[this]at hy;cases hy;rfl
   rw[hd,hds]at hi;simp only[gR]at hi;replace hi:=hid hi;simp(disch:=omega) [-zAa,hx,hy];refine aF (ED y) rfl ?_;simp(disch:=omega) [-zAa,hx,hy];refine BrKd.mk (fun h=>?_) (fun h=>?_)
   ·simp(disch:=omega) [-zAa,h]
    have hi:=hi.out;have:dw y=x:=by apply UInt8.toNat_inj.1;omega
    refine hN.out _<|Nx.mk (k+1) (by simp) ⟨by omega,by simpa[this]using hi⟩ (by omega)
   ·have:¬dw y=x:=by intro h';rw[h']at h;simp at h
    simp(disch:=omega) [-zAa,h];have hi:=hi.out;simpa[this]using hi
theorem yN(b:UInt8):Fn Tryz.prog xo [.int .i32 b.toNat] (.bool (EU b)):=by
 refine Fn.of_image mixed yj xO rfl fun ho=>?_;unfold oT;simp only[oks,ok,and_true]at ho;have hb:=b.toNat_lt;simp(disch:=omega) [-zAa,EU]
 repeat' (first|(refine BrKd.mk (fun h=>?_) (fun h=>?_)<;>simp(disch:=omega) [*])|(refine BrK.mk (fun h=>?_) (fun h=>?_)<;>simp(disch:=omega) [*]))
theorem wC(s:Str)(hs:s.length<=1000000000):Fn Tryz.prog Me [.str s] (.bool (right s)):=by
 refine Fn.of_image mixed MP ML rfl fun ho=>?_;unfold ET;simp only[oks,ok,and_true]at ho;clear ho;rw[IQ];simp(disch:=omega) [-zAa,isU];refine ae (p3 s (by omega)) rfl fun _=>?_
 simp(disch:=omega) [-zAa];refine BrK.mk (fun h=>?_) (fun h=>?_)
 ·simp(disch:=omega) [-zAa,h]
  generalize hr:((cT s).all fun r=>!decide (r=0)&& !decide (r=13))=R;refine an (fun k:Nat=>⟨[(9,.ref 0 0)],[some (.itr s k)]⟩) (fun k=>k<=s.length/\((cT (s.drop k)).all fun r=>!decide (r=0)&& !decide (r=13))=R) (fun k=>s.length-k) [] _ 0 rfl (by simp) (by simp[hr]) ?_
  rintro k ⟨hk,hi⟩ N hN;by_cases hlt:k<s.length
  ·have hdo:=Ng s k hlt
   obtain⟨b,t,hd⟩:∃b t,s.drop k=b::t:=by
    cases hd:s.drop k with
    |nil=>have:=congrArg zAh hd;simp at this;omega
    |cons b t=>exact⟨b,t,rfl⟩
   rw[hd]at hdo hi;rw[fy,<-hdo,<-hd,zAb]at hi;have hor:=fD (b::t);have hlen:=hor.2.2.1 (by simp)
   rw[<-hdo]at hor hlen;have hlen2:(b::t).length=s.length-k:=by rw[<-hd];simp
   simp only[zAf]at hi;replace hi:=hid hi;clear hdo;simp(disch:=omega) [-zAa,hlt]
   repeat' (first|(refine BrKd.mk (fun h=>?_) (fun h=>?_)<;>simp(disch:=omega) [*])|(refine BrK.mk (fun h=>?_) (fun h=>?_)<;>simp(disch:=omega) [*]))
   all_goals first
    |omega
    |(refine hN.out _<|Nx.mk (k+(ro s k).2) (by simp[*]) ⟨by omega,?_⟩ (by omega);have hi:=hi.out;simpa(disch:=omega) [*]using hi)
    |(have hi:=hi.out;simpa(disch:=omega) [*]using hi)
  ·have hkl:k=s.length:=by omega
   subst hkl;simp(disch:=omega) [-zAa];simpa[cT,fA]using hi
 ·simp(disch:=omega) [-zAa,h]
theorem Ci(s nm:Str)(hs:s.length<=1000000000)(hn:nm.length<=1000000):Fn Tryz.prog A6 [.str s,.str nm] (.int .i64 (ends s nm)):=by
 refine Fn.of_image mixed BU BA rfl fun ho=>?_;unfold ru;simp only[oks,ok,and_true]at ho;clear ho;simp(disch:=omega) [-zAa];generalize hr:ends s nm=r;refine an (fun k:Nat=>⟨[(0,.str s),(1,.str nm),(5,.int .i64 k)],[]⟩) (fun k=>k<=s.length/\dK nm k (s.drop k)=r) (fun k=>s.length-k) [] _ 0 rfl (by simp) (by simp[<-hr,ends]) ?_
 rintro k ⟨hk,hi⟩ N hN;have tk:∀i,(s.drop i).take (s.length-i)=s.drop i:=fun i=>List.take_of_length_le (by simp)
 simp(disch:=omega) [-zAa,hk,tk];have hsl:(s.drop k).length<4294967281:=by simp;omega
 refine ae (lP (s.drop k) [60,47] hsl) rfl fun _=>?_;rcases Lib.index_spec (s.drop k) [60,47]with⟨e,hno⟩|⟨j,e,hj,hocc,hno⟩
 ·rw[EL nm _ _ hno]at hi
  simp(disch:=omega) [-zAa,e,hi]
 ·obtain⟨u,hu⟩:=L8 hocc
  have hu':s.drop (k+j)=60::47::u:=by rw[<-zAb];exact hu
  have hu2:s.drop (k+j+2)=u:=by rw[<-zAb,hu'];rfl
  have hlen:u.length+2=s.length-(k+j):=by have:=congrArg zAh hu';simpa using this.symm
  rw[m7 nm j _ k hj hno,hu,JV]at hi;have no:(gR u nm&&lf u[nm.length]?)=false->dK nm (k+j+2) (s.drop (k+j+2))=r:=fun h=>by rw[if_neg (by rw[h];exact Bool.false_ne_true)]at hi;rw[hu2];exact hi
  have yes:(gR u nm&&lf u[nm.length]?)=true->r=(k:Int)+j:=fun h=>by rw[if_pos h]at hi;rw[<-hi];simp
  replace no:=hid no;replace yes:=hid yes;clear hi;have hul:s.length-(k+j+2)=u.length:=by omega
  have hc1:((k:Int)+(j:Int)+2).toNat=k+j+2:=by omega
  have hc2:(k:Int)+(j:Int)+2<=s.length:=by omega
  have hc3:k+j+2<=s.length:=by omega
  simp(disch:=omega) [-zAa,e,hc1,hc2,hc3,hu2,tk,hul];refine BrKd.mk (fun h=>?_) (fun h=>?_)
  ·simp(disch:=omega) [-zAa,h]
   refine hN.out _<|Nx.mk (k+j+2) (by simp) ⟨by omega,no.out ?_⟩ (by omega)
   have:u[nm.length]?=none:=by rw[List.getElem?_eq_none_iff];omega
   simp[this,lf]
  ·simp(disch:=omega) [-zAa,h]
   refine ae (Ch u nm) rfl fun _=>?_;simp(disch:=omega) [-zAa,h];refine BrK.mk (fun h2=>?_) (fun h2=>?_)
   ·simp(disch:=omega) [-zAa,h2]
    have hlt:nm.length<u.length:=by
     by_cases h3:u.length<nm.length
     ·rw[mB nm u h3]at h2;cases h2
     ·omega
    obtain⟨c,hc⟩:=a8 (l:=u) (k:=nm.length) hlt;have hcb:=c.toNat_lt;simp(disch:=omega) [-zAa,hc];refine ae (yN c) rfl fun _=>?_;simp(disch:=omega) [-zAa]
    repeat' (first
     |(refine BrKd.mk (fun h=>?_) (fun h=>?_)<;>simp(disch:=omega) [*])
     |(refine BrK.mk (fun h=>?_) (fun h=>?_)<;>simp(disch:=omega) [*]))
    all_goals first
     |(refine hN.out _<|Nx.mk (k+j+2) (by simp) ⟨by omega,no.out ?_⟩ (by omega);simp_all[lf,y8];done)
     |(rw[yes.out ?_];simp_all[lf,y8];done)
   ·simp(disch:=omega) [-zAa,h2]
    refine hN.out _<|Nx.mk (k+j+2) (by simp) ⟨by omega,no.out ?_⟩ (by omega)
    simp[h2]
theorem su(s:Str)(hs:s.length<=1000000000):Fn Tryz.prog sa [.str s] (.bool (dO s)):=by
 refine Fn.of_image mixed sl si rfl fun ho=>?_;unfold kD;simp only[oks,ok,and_true]at ho;clear ho;simp(disch:=omega) [-zAa];generalize hr:dO s=r;refine an (fun k:Nat=>⟨[(0,.str s),(6,.int .i64 s.length),(7,.int .i64 k)],[]⟩) (fun k=>k<=s.length/\((s.drop k).all (fun b=>!dS b)&&(decide (dm s=s)&&decide (0<s.length)))=r) (fun k=>s.length-k) [] _ 0 rfl (by simp) (by simp[<-hr,dO]) ?_
 rintro k ⟨hk,hi⟩ N hN;rcases place s k hk with⟨he,hd⟩|⟨hlt,x,hx,hd⟩<;>rw[hd]at hi<;>replace hi:=hid hi
 ·simp(disch:=omega) [-zAa,he]
  refine BrKd.mk (fun h=>?_) (fun h=>?_)
  ·have hp:s=[]:=by simpa using h
   subst hp;simp(disch:=omega) [-zAa];have hi:=hi.out;simpa using hi
  ·simp(disch:=omega) [-zAa,h]
   refine ae (wC s hs) rfl fun _=>?_;have hi:=hi.out;have hp:0<s.length:=List.length_pos_iff.2 (by simpa using h)
   simp(disch:=omega) [-zAa,right];simpa[hp]using hi
 ·have hb:=x.toNat_lt
  simp only[zAf]at hi;simp(disch:=omega) [-zAa,hx]
  repeat' (first
   |(refine BrKd.mk (fun h=>?_) (fun h=>?_)<;>simp(disch:=omega) [*])
   |(refine BrK.mk (fun h=>?_) (fun h=>?_)<;>simp(disch:=omega) [*]))
  all_goals first
   |omega
   |(refine hN.out _<|Nx.mk (k+1) (by simp[*]) ⟨by omega,?_⟩ (by omega);have hi:=hi.out;simpa(disch:=omega) [dS,decide_eq_true,decide_eq_false, *]using hi)
   |(have hi:=hi.out;simpa(disch:=omega) [dS,decide_eq_true,decide_eq_false, *]using hi)
def kx:Nat->List Attr->List (V×V)
 |_,[]=>[]
 |i,a::l=>(.str a.name,.int .i64 i)::kx (i+1) l
theorem uD(s t:Str):eqK (.str s) (.str t)=decide (s=t):=by simp[eqK,cl,rj,eqC]
theorem nQ(s:Str):∀(l:List Attr)(i:Nat),(pN (.str s) (kx i l)).isSome=jK l s
 |[],i=>rfl
 |a::l,i=>by
   simp only[kx,pN,uD,decide_eq_true_eq,jK];by_cases h:s=a.name
   ·rw[if_pos h,if_pos h.symm];rfl
   ·rw[if_neg h,if_neg (fun e=>h e.symm)];exact nQ s l (i+1)
theorem nO(s:Str)(u:V):∀(l:List Attr)(i:Nat),jK l s=false->l5 (.str s) u (kx i l)=kx i l++[(.str s,u)]
 |[],i,_=>rfl
 |a::l,i,h=>by
   simp only[jK]at h;have h':¬a.name=s:=by intro e;rw[if_pos e]at h;cases h
   rw[if_neg h']at h;simp only[kx,l5,uD,decide_eq_true_eq];rw[if_neg (fun e=>h' e.symm),nO s u l (i+1) h];rfl
theorem Aq(a:Attr):∀(l:List Attr)(i:Nat),kx i (l++[a])=kx i l++[(.str a.name,.int .i64 (i+l.length:Nat))]
 |[],i=>by simp[kx]
 |b::l,i=>by
   simp only[zAd,kx,Aq a l (i+1),List.length_cons];congr 5;omega
abbrev ktS1:KT:=⟨false,[.s]⟩
theorem yZ(n:Node)(hf:ku n)(ht:n.text=[]):Fn Tryz.prog xI [.sptr n.v 0] (.int .i64 (m8 n)):=by
 refine Fn.of_image mixed yI ye rfl fun ho=>?_;unfold pj;simp only[oks,ok,and_true]at ho;clear ho;obtain⟨h1,h2,h3,h4⟩:=hf;simp(disch:=omega) [-zAa,m8,ht];refine ae (m5 n.name) rfl fun _=>?_;simp(disch:=omega) [-zAa];refine BrK.mk (fun hn=>?_) (fun hn=>?_)
 ·simp(disch:=omega) [-zAa,hn]
  generalize hD:uk [] n.attrs=D;have hDc:=wL n.attrs [];rw[hD]at hDc
  refine an (fun(k:Nat)=>⟨[(0,.sptr n.v 0),(3,.ref 0 0),(20,.seq 2 (n.attrs.map Attr.v)),(21,.int .i64 n.attrs.length),(22,.int .i64 k)],[some (.mp ktS1 (kx 0 (n.attrs.take k)))]⟩)
   (fun k=>k<=n.attrs.length/\uk (n.attrs.take k) (n.attrs.drop k)=D) (fun k=>n.attrs.length-k) [] _ 0 rfl (by simp[ht,kx]) (by simp[hD]) ?_
  rintro k ⟨hk,hi⟩ N hN;rcases place n.attrs k hk with⟨he,hd⟩|⟨hlt,x,hx,hd⟩<;>rw[hd]at hi
  ·simp only[uk]at hi
   subst hi;simp(disch:=omega) [-zAa,he];generalize hV:nL n.attrs=R
   refine an (fun(k:Nat)=>⟨[(47,.seq 2 (n.attrs.map Attr.v)),(48,.int .i64 n.attrs.length),(49,.int .i64 k)],[]⟩)
    (fun k=>k<=n.attrs.length/\nL (n.attrs.drop k)=R) (fun k=>n.attrs.length-k) [] _ 0 rfl (by simp) (by simp[hV]) ?_
   clear hk hN;rintro k ⟨hk,hi⟩ N hN;rcases place n.attrs k hk with⟨he,hd⟩|⟨hlt,x,hx,hd⟩<;>rw[hd]at hi
   ·simp only[nL]at hi
    subst hi;simp(disch:=omega) [-zAa,he]
   ·obtain⟨g1,g2⟩:=h4 x (zAc hx)
    simp only[nL]at hi;replace hi:=hid hi;simp(disch:=omega) [-zAa,hx];refine ae (wC x.value (by omega)) rfl fun _=>?_
    simp(disch:=omega) [-zAa];refine BrK.mk (fun h=>?_) (fun h=>?_)
    ·simp(disch:=omega) [-zAa,h]
     have hi:=hi.out;refine hN.out _<|Nx.mk (k+1) (by simp) ⟨by omega,?_⟩ (by omega)
     simpa[h]using hi
    ·simp(disch:=omega) [-zAa,h]
     have hi:=hi.out;simp[h]at hi;simp[<-hi]
  ·obtain⟨g1,g2⟩:=h4 x (zAc hx)
   simp only[uk]at hi;replace hi:=hid hi;simp(disch:=omega) [-zAa,hx];refine ae (su x.name (by omega)) rfl fun _=>?_
   simp(disch:=omega) [-zAa];refine BrK.mk (fun h=>?_) (fun h=>?_)
   ·have hi:=hi.out
    rw[if_pos h]at hi;replace hi:=hid hi;have hg:=nQ x.name (n.attrs.take k) 0;by_cases hh:jK (n.attrs.take k) x.name=true
    ·rw[hh]at hg
     obtain⟨v,hv⟩:=Option.isSome_iff_exists.1 hg;have hi:=hi.out;rw[if_pos hh]at hi;subst hi;simp(disch:=omega) [-zAa,h,hv]
    ·have hh':jK (n.attrs.take k) x.name=false:=by simpa using hh
     rw[hh']at hg;have hv:pN (.str x.name) (kx 0 (n.attrs.take k))=none:=by simpa using hg
     have hi:=hi.out;rw[if_neg hh]at hi;replace hi:=hid hi;have hkl:(n.attrs.take k).length=k:=by rw[List.length_take];omega
     have hp:=nO x.name (.int .i64 k) (n.attrs.take k) 0 hh';have hs:=Aq x (n.attrs.take k) 0;rw[hkl,Nat.zero_add,<-hp,<-dc hx]at hs;simp(disch:=omega) [-zAa,h,hv,<-hs];refine hN.out _<|Nx.mk (k+1) (by simp) ⟨by omega,?_⟩ (by omega)
     rw[dc hx];exact hi.out
   ·have hi:=hi.out
    rw[if_neg (by simp[h])]at hi
    subst hi;simp(disch:=omega) [-zAa,h]
 ·simp(disch:=omega) [-zAa,hn]
end Go.Abs.F
end
