/- Plain: where a raw element ends. No condition. -/
import Derived.Test.YtnnbodoijkbceaaGreatDoorIF1
import Derived.Lib.IndexMore
import Derived.Test.YtnnbodoijkbceaaGreatDoorIW2
import Derived.Test.YtnnbodoijkbceaaGreatDoorIP3
import Derived.Test.YtnnbodoijkbceaaGreatDoorIF17
import Derived.Test.YtnnbodoijkbceaaGreatDoorIP1
set_option linter.all false
set_option maxHeartbeats 0
set_option maxRecDepth 100000
open List renaming reduceReplicate→zAa,getElem?_eq_some_iff→zAc,flatMap_cons→zAd,filter_cons→zAe,mem_cons→zAf,mem_of_getElem?→zAg,cons_append→zAh,mem_filter→zAi,getElem?_cons_succ→zBa,not_mem_nil→zBb,mem_flatMap→zBc,getElem?_set_ne→zBd,map_cons→zBe,mem_or_eq_of_mem_set→zBh,map_map→zBi,length_append→zBj,set_cons_succ→zCa,getElem?_set_self→zCb,mem_append→zCd,length_nil→zCe,length_pos_iff→zCf,filter_eq_self→zCg,filter_append→zCh,getElem?_eq_getElem→zCj,length_cons→zDa,all_eq_true→zDb,nil_append→zDc,length_set→zDd,drop_drop→zDf,length_filter_le→zDg,all_cons→zDi,append_assoc→zEa,getElem?_map→zEb,length_map→zEe,map_set→zEi,length→zEj
open Bool renaming and_eq_true→zAb,and_true→zBf,or_eq_true→zBg,true_and→zCi,or_eq_false_iff→zDh,false_eq_true→zDj,eq_iff_iff→zEd,false_and→zEf,and_assoc→zEg
open Option renaming not_isSome→zAj,map_eq_some_iff→zCc,map_some→zDe
open Prod renaming ext→zEc
open Nat renaming add_comm→zEh
open Option.some renaming injEq→zFa
open List.cons renaming injEq→zFb
section
namespace Go.Abs.F
open Go.Proofs
def jH:Str->Str->Bool
 |_,[]=>true
 |[],_::_=>false
 |b::s,c::w=>decide (eB b=c)&&jH s w
theorem qe:∀(w s:Str),s.length<w.length->jH s w=false
 |[],s,h=>by simp at h
 |c::w,[],_=>rfl
 |c::w,b::s,h=>by simp only[jH,qe w s (by simpa using h),Bool.and_false]
theorem Hk:∀(w s:Str),jH s w=decide ((s.take w.length).map eB=w)
 |[],s=>by cases s<;>simp[jH]
 |c::w,[]=>by simp[jH]
 |c::w,b::s=>by simp[jH,Hk w s,Bool.decide_and]
theorem C1{b c:UInt8}(hc:¬(97<=c.toNat/\c.toNat<=122))(h:eB b=c):b=c:=by
 unfold eB at h;split at h
 ·rename_i hb
  exfalso;apply hc;rw[<-h,bf (by omega)]
  omega
 ·exact h
def oo:Option UInt8->Bool
 |some c=>GF c
 |none=>false
theorem Xl(nm u:Str):wC nm (60::47::u)=(jH u nm&&oo u[nm.length]?):=by
 have e1:eB 60=60:=by decide
 have e2:eB 47=47:=by decide
 unfold wC;rw[zEh 2 nm.length,Hk];simp[e1,e2];cases u[nm.length]?<;>rfl
theorem OK(nm s:Str)(h:Lib.occAt s [60,47] 0=false):wC nm s=false:=by
 unfold wC;rw[Bool.and_eq_false_iff];left;rw[decide_eq_false_iff_not];intro hh;rw[zEh 2 nm.length]at hh
 match s with
 |[]=>simp at hh
 |[b]=>simp at hh
 |b::c::u=>
   simp only[List.take_succ_cons,zBe,zAh,zDc,zFb]at hh;have h1:=C1 (by decide) hh.1
   have h2:=C1 (by decide) hh.2.1
   subst h1 h2;simp[Lib.occAt]at h
theorem q7(nm:Str):∀(m:Nat)(s:Str)(k:Nat),m<=s.length->(∀j,j<m->Lib.occAt s [60,47] j=false)->eS nm k s=eS nm (k+m) (s.drop m)
 |0,s,k,_,_=>by simp
 |m+1,[],k,h,_=>by simp at h
 |m+1,b::t,k,h,ho=>by
   have h0:=OK nm (b::t) (ho 0 (by omega))
   simp only[eS,h0,zDj,if_false,List.drop_succ_cons];rw[q7 nm m t (k+1) (by simpa using h) (fun j hj=>by have:=ho (j+1) (by omega);simpa[Lib.occAt]using this)]
   congr 1;omega
theorem OJ(nm s:Str)(k:Nat)(h:∀j,j<=s.length->Lib.occAt s [60,47] j=false):eS nm k s=-1:=by
 rw[q7 nm s.length s k (Nat.le_refl _) (fun j hj=>h j (by omega)),List.drop_length]
 rfl
theorem Uh(nm u:Str)(k:Nat):eS nm k (60::47::u)=if(jH u nm&&oo u[nm.length]?)=true then(k:Int)else eS nm (k+2) u:=by
 have h0:wC nm (47::u)=false:=OK nm _ (by simp[Lib.occAt,List.isPrefixOf])
 rw[eS,Xl,eS,h0];rfl
theorem Wt{s:Str}{i:Nat}(h:Lib.occAt s [60,47] i=true):∃u,s.drop i=60::47::u:=by
 unfold Lib.occAt at h
 match hs:s.drop i with
 |[]=>rw[hs]at h;simp at h
 |[b]=>rw[hs]at h;simp at h
 |b::c::u=>
   rw[hs]at h;simp at h;exact⟨u,by rw[<-h.1,<-h.2]⟩
theorem Cw(w:Str)(hw:w≠[]):∀s:Str,i5 w s=decide (0<=Lib.index s w)
 |[]=>by
   cases w with
   |nil=>exact(hw rfl).elim
   |cons c w=>simp[i5,fK,Lib.index]
 |b::t=>by
   have ih:=Cw w hw t;have hge:=Lib.index_ge t w;have e:Lib.index (b::t) w=if w.isPrefixOf (b::t)then 0 else if Lib.index t w == -1 then -1 else Lib.index t w+1:=rfl
   have hb:fK (b::t) w=w.isPrefixOf (b::t):=by
    rw[zEd];simp only[fK,zAb,decide_eq_true_eq,List.isPrefixOf_iff_prefix];constructor
    ·rintro⟨h1,h2⟩;rw[<-h2];exact List.take_prefix _ _
    ·intro h;exact⟨h.length_le,(List.prefix_iff_eq_take.1 h).symm⟩
   rw[zEd];simp only[i5,ih,hb,zBg,decide_eq_true_eq];rw[e];by_cases h:w.isPrefixOf (b::t)=true
   ·simp[h]
   ·rw[if_neg h]
    by_cases h1:Lib.index t w=-1
    ·simp[h,h1]
    ·rw[if_neg (by simpa using h1)]
     have:0<=Lib.index t w:=by omega
     simp[this];omega
end Go.Abs.F
end
section
namespace Go.Abs.F
open Go.Proofs
attribute [-simp] getElem?_pos zAj zBi
theorem Ot(b:UInt8):Fn Tryz.prog y9 [.int .u8 b.toNat] (.int .u8 (eB b).toNat):=by
 refine yoB zi fun ho=>?_;simp only[oks,ok,and_true]at ho;have hb:=b.toNat_lt;by_cases h:65<=b.toNat/\b.toNat<=90
 ·have e:(eB b).toNat=b.toNat+32:=by simp[eB,h,bf (show b.toNat+32<256 by omega)]
  rw[e];simp(disch:=omega) [-zAa,h]
  repeat' (first|(refine BrKd.mk (fun h=>?_) (fun h=>?_)<;>simp(disch:=omega) [*])|(refine BrK.mk (fun h=>?_) (fun h=>?_)<;>simp(disch:=omega) [*]))
  all_goals omega
 ·have e:eB b=b:=by simp only[eB,if_neg h]
  rw[e];simp(disch:=omega) [-zAa]
  repeat' (first|(refine BrKd.mk (fun h=>?_) (fun h=>?_)<;>simp(disch:=omega) [*])|(refine BrK.mk (fun h=>?_) (fun h=>?_)<;>simp(disch:=omega) [*]))
  all_goals omega
theorem KR(s w:Str):Fn Tryz.prog vG [.str s,.str w] (.bool (jH s w)):=by
 refine yoB vU fun ho=>?_;simp only[oks,ok,and_true]at ho;obtain⟨ho1,ho2⟩:=ho;generalize hr:jH s w=r;simp(disch:=omega) [-zAa];refine BrKd.mk (fun h=>?_) (fun h=>?_)
 ·simp(disch:=omega) [-zAa,h]
  rw[<-hr,qe w s (by omega)]
 ·simp(disch:=omega) [-zAa,h]
  refine ak (fun k:Nat=>⟨[(0,.str s),(1,.str w),(12,.int .i64 w.length),(13,.int .i64 k)],[]⟩) (fun k=>k<=w.length/\jH (s.drop k) (w.drop k)=r) (fun k=>w.length-k) [] _ 0 rfl (by simp) (by simp[hr]) ?_
  rintro k ⟨hk,hi⟩ N hN;rcases place w k hk with⟨he,hd⟩|⟨hlt,x,hx,hd⟩
  ·rw[hd]at hi
   simp(disch:=omega) [-zAa,he];cases hs:s.drop k<;>simpa[hs,jH]using hi
  ·obtain⟨y,hy⟩:=aP (l:=s) (k:=k) (by omega)
   have hds:s.drop k=y::s.drop (k+1):=by
    rw[List.drop_eq_getElem_cons (by omega)]
    have:s[k]?=some (s[k]'(by omega)):=zCj _
    rw[this]at hy;cases hy;rfl
   rw[hd,hds]at hi;simp only[jH]at hi;replace hi:=hid hi;simp(disch:=omega) [-zAa,hx,hy];refine ay (Ot y) rfl ?_;simp(disch:=omega) [-zAa,hx,hy];refine BrKd.mk (fun h=>?_) (fun h=>?_)
   ·simp(disch:=omega) [-zAa,h]
    have hi:=hi.out;have:eB y=x:=by apply UInt8.toNat_inj.1;omega
    refine hN.out _<|Nx.mk (k+1) (by simp) ⟨by omega,by simpa[this]using hi⟩ (by omega)
   ·have:¬eB y=x:=by intro h';rw[h']at h;simp at h
    simp(disch:=omega) [-zAa,h];have hi:=hi.out;simpa[this]using hi
theorem Gh(b:UInt8):Fn Tryz.prog sU [.int .i32 b.toNat] (.bool (OV b)):=by
 refine yoB sZ fun ho=>?_;simp only[oks,ok,and_true]at ho;have hb:=b.toNat_lt;simp(disch:=omega) [-zAa,OV]
 repeat' (first|(refine BrKd.mk (fun h=>?_) (fun h=>?_)<;>simp(disch:=omega) [*])|(refine BrK.mk (fun h=>?_) (fun h=>?_)<;>simp(disch:=omega) [*]))
theorem C7(s:Str)(hs:s.length<=1000000000):Fn Tryz.prog Wx [.str s] (.bool (right s)):=by
 refine yoA WY ?_;rw[S7];simp(disch:=omega) [-zAa,isU];refine ac (uS s (by omega)) rfl fun _=>?_
 simp(disch:=omega) [-zAa];refine BrK.mk (fun h=>?_) (fun h=>?_)
 ·simp(disch:=omega) [-zAa,h]
  generalize hr:((dK s).all fun r=>!decide (r=0)&& !decide (r=13))=R;refine ak (fun k:Nat=>⟨[(9,.ref 0 0)],[some (.itr s k)]⟩) (fun k=>k<=s.length/\((dK (s.drop k)).all fun r=>!decide (r=0)&& !decide (r=13))=R) (fun k=>s.length-k) [] _ 0 rfl (by simp) (by simp[hr]) ?_
  rintro k ⟨hk,hi⟩ N hN;by_cases hlt:k<s.length
  ·have hdo:=Xt s k hlt
   obtain⟨b,t,hd⟩:∃b t,s.drop k=b::t:=by
    cases hd:s.drop k with
    |nil=>have:=congrArg zEj hd;simp at this;omega
    |cons b t=>exact⟨b,t,rfl⟩
   rw[hd]at hdo hi;rw[fU,<-hdo,<-hd,zDf]at hi;have hor:=io (b::t);have hlen:=hor.2.2.1 (by simp)
   rw[<-hdo]at hor hlen;have hlen2:(b::t).length=s.length-k:=by rw[<-hd];simp
   simp only[zDi]at hi;replace hi:=hid hi;clear hdo;simp(disch:=omega) [-zAa,hlt]
   repeat' (first|(refine BrKd.mk (fun h=>?_) (fun h=>?_)<;>simp(disch:=omega) [*])|(refine BrK.mk (fun h=>?_) (fun h=>?_)<;>simp(disch:=omega) [*]))
   all_goals first
    |omega
    |(refine hN.out _<|Nx.mk (k+(wF s k).2) (by simp[*]) ⟨by omega,?_⟩ (by omega);have hi:=hi.out;simpa(disch:=omega) [*]using hi)
    |(have hi:=hi.out;simpa(disch:=omega) [*]using hi)
  ·have hkl:k=s.length:=by omega
   subst hkl;simp(disch:=omega) [-zAa];simpa[dK,ik]using hi
 ·simp(disch:=omega) [-zAa,h]
theorem KS(s nm:Str)(hs:s.length<=1000000000)(hn:nm.length<=1000000):Fn Tryz.prog vJ [.str s,.str nm] (.int .i64 (ends s nm)):=by
 refine yoA vX ?_;simp(disch:=omega) [-zAa];generalize hr:ends s nm=r;refine ak (fun k:Nat=>⟨[(0,.str s),(1,.str nm),(5,.int .i64 k)],[]⟩) (fun k=>k<=s.length/\eS nm k (s.drop k)=r) (fun k=>s.length-k) [] _ 0 rfl (by simp) (by simp[<-hr,ends]) ?_
 rintro k ⟨hk,hi⟩ N hN;have tk:∀i,(s.drop i).take (s.length-i)=s.drop i:=fun i=>List.take_of_length_le (by simp)
 simp(disch:=omega) [-zAa,hk,tk];have hsl:(s.drop k).length<4294967281:=by simp;omega
 refine ac (pc (s.drop k) [60,47] hsl) rfl fun _=>?_;rcases Lib.index_spec (s.drop k) [60,47]with⟨e,hno⟩|⟨j,e,hj,hocc,hno⟩
 ·rw[OJ nm _ _ hno]at hi
  simp(disch:=omega) [-zAa,e,hi]
 ·obtain⟨u,hu⟩:=Wt hocc
  have hu':s.drop (k+j)=60::47::u:=by rw[<-zDf];exact hu
  have hu2:s.drop (k+j+2)=u:=by rw[<-zDf,hu'];rfl
  have hlen:u.length+2=s.length-(k+j):=by have:=congrArg zEj hu';simpa using this.symm
  rw[q7 nm j _ k hj hno,hu,Uh]at hi;have no:(jH u nm&&oo u[nm.length]?)=false->eS nm (k+j+2) (s.drop (k+j+2))=r:=fun h=>by rw[if_neg (by rw[h];exact Bool.false_ne_true)]at hi;rw[hu2];exact hi
  have yes:(jH u nm&&oo u[nm.length]?)=true->r=(k:Int)+j:=fun h=>by rw[if_pos h]at hi;rw[<-hi];simp
  replace no:=hid no;replace yes:=hid yes;clear hi;have hul:s.length-(k+j+2)=u.length:=by omega
  have hc1:((k:Int)+(j:Int)+2).toNat=k+j+2:=by omega
  have hc2:(k:Int)+(j:Int)+2<=s.length:=by omega
  have hc3:k+j+2<=s.length:=by omega
  simp(disch:=omega) [-zAa,e,hc1,hc2,hc3,hu2,tk,hul];refine BrKd.mk (fun h=>?_) (fun h=>?_)
  ·simp(disch:=omega) [-zAa,h]
   refine hN.out _<|Nx.mk (k+j+2) (by simp) ⟨by omega,no.out ?_⟩ (by omega)
   have:u[nm.length]?=none:=by rw[List.getElem?_eq_none_iff];omega
   simp[this,oo]
  ·simp(disch:=omega) [-zAa,h]
   refine ac (KR u nm) rfl fun _=>?_;simp(disch:=omega) [-zAa,h];refine BrK.mk (fun h2=>?_) (fun h2=>?_)
   ·simp(disch:=omega) [-zAa,h2]
    have hlt:nm.length<u.length:=by
     by_cases h3:u.length<nm.length
     ·rw[qe nm u h3]at h2;cases h2
     ·omega
    obtain⟨c,hc⟩:=aP (l:=u) (k:=nm.length) hlt;have hcb:=c.toNat_lt;simp(disch:=omega) [-zAa,hc];refine ac (Gh c) rfl fun _=>?_;simp(disch:=omega) [-zAa]
    repeat' (first
     |(refine BrKd.mk (fun h=>?_) (fun h=>?_)<;>simp(disch:=omega) [*])
     |(refine BrK.mk (fun h=>?_) (fun h=>?_)<;>simp(disch:=omega) [*]))
    all_goals first
     |(refine hN.out _<|Nx.mk (k+j+2) (by simp) ⟨by omega,no.out ?_⟩ (by omega);simp_all[oo,GF];done)
     |(rw[yes.out ?_];simp_all[oo,GF];done)
   ·simp(disch:=omega) [-zAa,h2]
    refine hN.out _<|Nx.mk (k+j+2) (by simp) ⟨by omega,no.out ?_⟩ (by omega)
    simp[h2]
theorem ym(s:Str)(hs:s.length<=1000000000):Fn Tryz.prog xQ [.str s] (.bool (eX s)):=by
 refine yoA x6 ?_;simp(disch:=omega) [-zAa];generalize hr:eX s=r;refine ak (fun k:Nat=>⟨[(0,.str s),(6,.int .i64 s.length),(7,.int .i64 k)],[]⟩) (fun k=>k<=s.length/\((s.drop k).all (fun b=>!fd b)&&(decide (dx s=s)&&decide (0<s.length)))=r) (fun k=>s.length-k) [] _ 0 rfl (by simp) (by simp[<-hr,eX]) ?_
 rintro k ⟨hk,hi⟩ N hN;rcases place s k hk with⟨he,hd⟩|⟨hlt,x,hx,hd⟩<;>rw[hd]at hi<;>replace hi:=hid hi
 ·simp(disch:=omega) [-zAa,he]
  refine BrKd.mk (fun h=>?_) (fun h=>?_)
  ·have hp:s=[]:=by simpa using h
   subst hp;simp(disch:=omega) [-zAa];have hi:=hi.out;simpa using hi
  ·simp(disch:=omega) [-zAa,h]
   refine ac (C7 s hs) rfl fun _=>?_;have hi:=hi.out;have hp:0<s.length:=zCf.2 (by simpa using h)
   simp(disch:=omega) [-zAa,right];simpa[hp]using hi
 ·have hb:=x.toNat_lt
  simp only[zDi]at hi;simp(disch:=omega) [-zAa,hx]
  repeat' (first
   |(refine BrKd.mk (fun h=>?_) (fun h=>?_)<;>simp(disch:=omega) [*])
   |(refine BrK.mk (fun h=>?_) (fun h=>?_)<;>simp(disch:=omega) [*]))
  all_goals first
   |omega
   |(refine hN.out _<|Nx.mk (k+1) (by simp[*]) ⟨by omega,?_⟩ (by omega);have hi:=hi.out;simpa(disch:=omega) [fd,decide_eq_true,decide_eq_false, *]using hi)
   |(have hi:=hi.out;simpa(disch:=omega) [fd,decide_eq_true,decide_eq_false, *]using hi)
def nf:Nat->List Attr->List (V×V)
 |_,[]=>[]
 |i,a::l=>(.str a.name,.int .i64 i)::nf (i+1) l
theorem AZ(s t:Str):eqK (.str s) (.str t)=decide (s=t):=by simp[eqK,cl,yn,eqC]
theorem rX(s:Str):∀(l:List Attr)(i:Nat),(uz (.str s) (nf i l)).isSome=fO l s
 |[],i=>rfl
 |a::l,i=>by
   simp only[nf,uz,AZ,decide_eq_true_eq,fO];by_cases h:s=a.name
   ·rw[if_pos h,if_pos h.symm];rfl
   ·rw[if_neg h,if_neg (fun e=>h e.symm)];exact rX s l (i+1)
theorem rU(s:Str)(u:V):∀(l:List Attr)(i:Nat),fO l s=false->pG (.str s) u (nf i l)=nf i l++[(.str s,u)]
 |[],i,_=>rfl
 |a::l,i,h=>by
   simp only[fO]at h;have h':¬a.name=s:=by intro e;rw[if_pos e]at h;cases h
   rw[if_neg h']at h;simp only[nf,pG,AZ,decide_eq_true_eq];rw[if_neg (fun e=>h' e.symm),rU s u l (i+1) h];rfl
theorem H9(a:Attr):∀(l:List Attr)(i:Nat),nf i (l++[a])=nf i l++[(.str a.name,.int .i64 (i+l.length:Nat))]
 |[],i=>by simp[nf]
 |b::l,i=>by
   simp only[zAh,nf,H9 a l (i+1),zDa];congr 5;omega
abbrev ktS1:KT:=⟨false,[.s]⟩
theorem GB(n:Node)(hf:fine1 n)(ht:n.text=[]):Fn Tryz.prog Ez [.sptr n.v 0] (.int .i64 (li n)):=by
 refine yoA Fm ?_;obtain⟨h1,h2,h3,h4⟩:=hf;simp(disch:=omega) [-zAa,li,ht];refine ac (qW n.name) rfl fun _=>?_;simp(disch:=omega) [-zAa];refine BrK.mk (fun hn=>?_) (fun hn=>?_)
 ·simp(disch:=omega) [-zAa,hn]
  generalize hD:mC [] n.attrs=D;have hDc:=uZ n.attrs [];rw[hD]at hDc
  refine ak (fun(k:Nat)=>⟨[(0,.sptr n.v 0),(3,.ref 0 0),(20,.seq 2 (n.attrs.map Attr.v)),(21,.int .i64 n.attrs.length),(22,.int .i64 k)],[some (.mp ktS1 (nf 0 (n.attrs.take k)))]⟩)
   (fun k=>k<=n.attrs.length/\mC (n.attrs.take k) (n.attrs.drop k)=D) (fun k=>n.attrs.length-k) [] _ 0 rfl (by simp[ht,nf]) (by simp[hD]) ?_
  rintro k ⟨hk,hi⟩ N hN;rcases place n.attrs k hk with⟨he,hd⟩|⟨hlt,x,hx,hd⟩<;>rw[hd]at hi
  ·simp only[mC]at hi
   subst hi;simp(disch:=omega) [-zAa,he];generalize hV:dS n.attrs=R
   refine ak (fun(k:Nat)=>⟨[(47,.seq 2 (n.attrs.map Attr.v)),(48,.int .i64 n.attrs.length),(49,.int .i64 k)],[]⟩)
    (fun k=>k<=n.attrs.length/\dS (n.attrs.drop k)=R) (fun k=>n.attrs.length-k) [] _ 0 rfl (by simp) (by simp[hV]) ?_
   clear hk hN;rintro k ⟨hk,hi⟩ N hN;rcases place n.attrs k hk with⟨he,hd⟩|⟨hlt,x,hx,hd⟩<;>rw[hd]at hi
   ·simp only[dS]at hi
    subst hi;simp(disch:=omega) [-zAa,he]
   ·obtain⟨g1,g2⟩:=h4 x (zAg hx)
    simp only[dS]at hi;replace hi:=hid hi;simp(disch:=omega) [-zAa,hx];refine ac (C7 x.value (by omega)) rfl fun _=>?_
    simp(disch:=omega) [-zAa];refine BrK.mk (fun h=>?_) (fun h=>?_)
    ·simp(disch:=omega) [-zAa,h]
     have hi:=hi.out;refine hN.out _<|Nx.mk (k+1) (by simp) ⟨by omega,?_⟩ (by omega)
     simpa[h]using hi
    ·simp(disch:=omega) [-zAa,h]
     have hi:=hi.out;simp[h]at hi;simp[<-hi]
  ·obtain⟨g1,g2⟩:=h4 x (zAg hx)
   simp only[mC]at hi;replace hi:=hid hi;simp(disch:=omega) [-zAa,hx];refine ac (ym x.name (by omega)) rfl fun _=>?_
   simp(disch:=omega) [-zAa];refine BrK.mk (fun h=>?_) (fun h=>?_)
   ·have hi:=hi.out
    rw[if_pos h]at hi;replace hi:=hid hi;have hg:=rX x.name (n.attrs.take k) 0;by_cases hh:fO (n.attrs.take k) x.name=true
    ·rw[hh]at hg
     obtain⟨v,hv⟩:=Option.isSome_iff_exists.1 hg;have hi:=hi.out;rw[if_pos hh]at hi;subst hi;simp(disch:=omega) [-zAa,h,hv]
    ·have hh':fO (n.attrs.take k) x.name=false:=by simpa using hh
     rw[hh']at hg;have hv:uz (.str x.name) (nf 0 (n.attrs.take k))=none:=by simpa using hg
     have hi:=hi.out;rw[if_neg hh]at hi;replace hi:=hid hi;have hkl:(n.attrs.take k).length=k:=by rw[List.length_take];omega
     have hp:=rU x.name (.int .i64 k) (n.attrs.take k) 0 hh';have hs:=H9 x (n.attrs.take k) 0;rw[hkl,Nat.zero_add,<-hp,<-dv hx]at hs;simp(disch:=omega) [-zAa,h,hv,<-hs];refine hN.out _<|Nx.mk (k+1) (by simp) ⟨by omega,?_⟩ (by omega)
     rw[dv hx];exact hi.out
   ·have hi:=hi.out
    rw[if_neg (by simp[h])]at hi
    subst hi;simp(disch:=omega) [-zAa,h]
 ·simp(disch:=omega) [-zAa,hn]
theorem OD(n:Node)(b:Bool)(hf:fine1 n):Fn Tryz.prog MX [.sptr n.v 0,.bool b] (.int .i64 (d6 n b)):=by
 refine yoA ND ?_;have hla:0<n.attrs.length↔¬n.attrs=[]:=by rw[zCf]
 have hlk:0<n.kids.length↔¬n.kids=[]:=by rw[zCf]
 have hf2:=hf.2.1;by_cases h1:n.kind=1
 ·by_cases ht:n.text=[]
  ·simp(disch:=omega) [-zAa,d6,h1,ht]
   refine ac (by simpa[ht,h1]using GB n hf ht) rfl fun _=>?_
   simp(disch:=omega) [-zAa]
  ·simp(disch:=omega) [-zAa,d6,h1,ht,li]
 ·have hU:=C7 n.text (by omega)
  simp only[d6,if_neg h1];generalize right n.text=R at hU⊢;simp(disch:=omega) [-zAa,h1]
  cases R<;>repeat' (first
   |(refine BrKd.mk (fun h=>?_) (fun h=>?_)<;>simp(disch:=omega) [hla,hlk, *])
   |(refine BrK.mk (fun h=>?_) (fun h=>?_)<;>simp(disch:=omega) [hla,hlk, *])
   |(refine ac hU rfl (fun _=>?_)<;>simp(disch:=omega) [hla,hlk, *]))
theorem QY(t:List Node×Nat->Bool):∀(l:List Node)(more:List (List Node×Nat))(deep:Nat),ai l+deep<1000->
 FnH Tryz.prog nS [2] [.seq 5 (l.map Node.v),.int .i64 deep,.ref 0 0] [some (.gh (iv itV t (itL l l 0++more)))] (.bool ((itL l l 0).all t)) [some (.gh (if(itL l l 0).all t then iv itV t more else[]))]:=by
 have key:∀l:List Node,(∀n∈l,∀(more:List (List Node×Nat))(deep:Nat),ai n.kids+deep<1000->
  FnH Tryz.prog nS [2] [.seq 5 (n.kids.map Node.v),.int .i64 deep,.ref 0 0] [some (.gh (iv itV t (itL n.kids n.kids 0++more)))] (.bool ((itL n.kids n.kids 0).all t)) [some (.gh (if(itL n.kids n.kids 0).all t then iv itV t more else[]))])->
  ∀(more:List (List Node×Nat))(deep:Nat),ai l+deep<1000->
  FnH Tryz.prog nS [2] [.seq 5 (l.map Node.v),.int .i64 deep,.ref 0 0] [some (.gh (iv itV t (itL l l 0++more)))] (.bool ((itL l l 0).all t)) [some (.gh (if(itL l l 0).all t then iv itV t more else[]))]:=by
  intro l hrec more deep hdeep;refine FnH.of_image mixed Qt.1 Qt.2 rfl fun ho hh=>?_;have hlen:l.length<=140737488355328:=by have:=ho.1.1;simpa using this
  clear ho hh;have hd0:¬deep=1000:=by omega
  simp(disch:=omega) [-zAa,hd0];generalize hR:(itL l l 0).all t=R
  refine ak (fun(k:Nat)=>⟨[(0,.seq 5 (l.map Node.v)),(1,.int .i64 deep),(2,.ref 0 0),(14,.int .i64 l.length),(15,.int .i64 k)],[some (.gh (iv itV t (itL l (l.drop k) k++more)))]⟩)
   (fun k=>k<=l.length/\(itL l (l.drop k) k).all t=R) (fun k=>l.length-k) [] _ 0 rfl (by simp) (by simp[hR]) ?_
  rintro k ⟨hk,hi⟩ N hN;rcases place l k hk with⟨he,hd⟩|⟨hlt,x,hx,hd⟩<;>rw[hd]at hi
  ·simp only[itL,List.all_nil]at hi
   subst hi;have e:l.drop k++[]=[]:=by simp[hd]
   simp(disch:=omega) [-zAa,he,itL]
  ·have hxm:=zAg hx
   have hcn:=wH hxm;have hrx:=hrec x hxm (itL l (l.drop (k+1)) (k+1)++more) (deep+1) (by omega)
   simp only[itL,zDi,List.all_append,Jw]at hi;replace hi:=hid hi;rw[hd];simp only[itL,Jw,zAh,zEa];by_cases ht:t (l,k)=true
   ·rw[iv,if_pos ht]
    generalize hG:iv itV t (itL x.kids x.kids 0++(itL l (l.drop (k+1)) (k+1)++more))=G at hrx⊢;simp(disch:=omega) [-zAa,itV,hx];rw[show((deep+1:Nat):Int)=(deep:Int)+1 by omega]at hrx
    refine av [2] 1 [0] (by simp) (by simp) (by simp) (by simp) hrx (by simp) fun _ _=>?_
    by_cases ha:(itL x.kids x.kids 0).all t=true
    ·rw[ha]
     simp(disch:=omega) [-zAa,hx];have hi:=hi.out;rw[ht,ha]at hi;refine hN.out _<|Nx.mk (k+1) (by simp) ⟨by omega,by simpa using hi⟩ (by omega)
    ·have ha':(itL x.kids x.kids 0).all t=false:=by simpa using ha
     have hi:=hi.out;rw[ht,ha']at hi;simp only[zCi,zEf]at hi;subst hi;rw[ha'];simp(disch:=omega) [-zAa,hx]
   ·rw[iv,if_neg ht]
    have hi:=hi.out;have ht':t (l,k)=false:=by simpa using ht
    rw[ht']at hi;simp only[zEf]at hi;subst hi;simp(disch:=omega) [-zAa,itV]
 have all:∀l:List Node,∀n∈l,∀(more:List (List Node×Nat))(deep:Nat),ai n.kids+deep<1000->
  FnH Tryz.prog nS [2] [.seq 5 (n.kids.map Node.v),.int .i64 deep,.ref 0 0] [some (.gh (iv itV t (itL n.kids n.kids 0++more)))] (.bool ((itL n.kids n.kids 0).all t)) [some (.gh (if(itL n.kids n.kids 0).all t then iv itV t more else[]))]:=by
  refine aw (fun x hx=>by cases hx) ?_
  intro n l h1 h2 x hx;rcases zAf.1 hx with rfl|hx
  ·exact key _ h1
  ·exact h2 x hx
 exact fun l=>key l (all l)
theorem Lf(t:List Node×Nat->Bool)(l:List Node)(hc:ai l<1000):
 FnH Tryz.prog nT [0] [.ref 0 0,.ptr 1 0] [some (.gh (iv itV t (itL l l 0))),some (.box [.seq 5 (l.map Node.v)])] (.tup []) [some (.gh [])]:=by
 refine yoH J6 ?_;have hw:=QY t l [] 0 (by omega)
 rw[List.append_nil]at hw;have e:(if(itL l l 0).all t=true then iv itV t []else[])=[]:=by split<;>rfl
 rw[e]at hw;generalize iv itV t (itL l l 0)=G at hw⊢;simp(disch:=omega) [-zAa];refine av [2] 1 [0] (by simp) (by simp) (by simp) (by simp) hw (by simp) fun _ _=>?_
 simp(disch:=omega) [-zAa]
theorem QZ(l:List Node):FnH Tryz.prog Qb [] [.seq 5 (l.map Node.v)] [] (.fn (.func nT) [] [.ptr 0 0]) [some (.box [.seq 5 (l.map Node.v)])]:=by
 refine yoH Qu ?_;simp(disch:=omega) [-zAa]
theorem DK{st:Nat->St}{stx:St}{ks:List Nat}{i:Nat}{b:Bool}{τ:St}(hb:b=true)(h:τ.nrm ks=st (i+1)):Pb st stx ks i b .norm τ:=⟨hb,[],τ,rfl,h⟩
theorem Im{st:Nat->St}{stx:St}{ks:List Nat}{i:Nat}{b:Bool}{τ:St}(hb:b=false)(h:τ.nrm ks=stx):Pb st stx ks i b .ret τ:=⟨hb,[],τ,rfl,h⟩
def WG(x:List Node×Nat):Bool:=decide (m8 x=0)
theorem T6(l:List Node)(hf:an fine1 l)(hc:ai l<1000):Fn Tryz.prog Tn [.seq 5 (l.map Node.v)] (.int .i64 (may l)):=by
 refine FnE.fn ?_;refine FnE.of_rng mixed Tryz.func31 TP rfl (full:=iv itV WG (itL l l 0)) (st:=fun _=>⟨[(2,.ptr 0 0)],[some (.box [.int .i64 0])]⟩) (stx:=⟨[(2,.ptr 0 0)],[some (.box [.int .i64 (may l)])]⟩) ?_ ?_ ?_ ?_ ?_ ?_
 ·intro i us b h
  obtain⟨x,h1,h2,h3,h4⟩:=Dn _ _ _ _ _ _ h;simp only[itV,V.tup.injEq]at h2;subst h2;rfl
 ·exact fun i v h=>Ic _ _ _ _ _ h
 ·intro ho
  clear ho;unfold nn;simp only[Il];simp(disch:=omega) [-zAa,ent];refine av [] 0 [] (by simp) (by simp) (by simp) (by simp) (QZ l) (by simp) fun _ _=>?_
  simp(disch:=omega) [-zAa,X9];exact⟨nT,1,⟨rfl,rfl⟩,_,rfl,_,by simp,rfl,enters_of Tryz.func77 (by kernel_rfl) rfl,Lf WG l hc⟩
 ·intro i us b h
  obtain⟨x,h1,h2,h3,h4⟩:=Dn _ _ _ _ _ _ h;simp only[itV,V.tup.injEq]at h2;subst h2;unfold nn;obtain⟨n,hn,hfn,hrl⟩:=aaj (m:=1000) l l 0 rfl hf (by omega) x (zAg h1)
  obtain⟨row,j⟩:=x;simp only at hn hrl;have hj:j<row.length:=(zAc.1 hn).1;have herr:m8 (row,j)=d6 n (bU row j):=by simp[m8,hn]
  have hmay:¬d6 n (bU row j)=0->may l=d6 n (bU row j):=by
   intro hx;rw[<-herr]at hx⊢;have:=HX _ _ _ h1 h4 hx;rw[C3 l l 0 rfl]at this;simpa[may,bU]using this
  have hb:b=decide (d6 n (bU row j)=0):=by rw[h3,WG,herr]
  have hck:=OD n (bU row j) hfn;clear h h3 h4 herr h1;by_cases hj0:0<j
  ·obtain⟨m,hm⟩:=aP (l:=row) (k:=j-1) (by omega)
   have e:((j:Int)-1).toNat=j-1:=by omega
   have hpv:bU row j=decide (m.kind=2):=by simp[bU,hj0,hm]
   generalize bU row j=pv at *;simp(disch:=omega) [-zAa,A4,hj0,e,hm,hn,<-hpv];refine ac (by simpa using hck) rfl fun _=>?_
   simp(disch:=omega) [-zAa];refine BrKd.mk (fun h=>?_) (fun h=>?_)
   ·simp(disch:=omega) [-zAa,h]
    exact DK (by rw[hb,h];rfl) rfl
   ·simp(disch:=omega) [-zAa,h]
    exact Im (by rw[hb];simp[h]) (by rw[hmay h];rfl)
  ·have hpv:bU row j=false:=by simp[bU,hj0]
   rw[hpv]at hck hb hmay;simp(disch:=omega) [-zAa,A4,hj0,hn];refine ac (by simpa using hck) rfl fun _=>?_
   simp(disch:=omega) [-zAa];refine BrKd.mk (fun h=>?_) (fun h=>?_)
   ·simp(disch:=omega) [-zAa,h]
    exact DK (by rw[hb,h];rfl) rfl
   ·simp(disch:=omega) [-zAa,h]
    exact Im (by rw[hb];simp[h]) (by rw[hmay h];rfl)
 ·intro h
  unfold nn
  have h0:may l=0:=by
   have:=(OP itV WG (itL l l 0)).1 h;rw[show(itL l l 0).all WG=(itL l l 0).all fun x=>decide (m8 x=0)from rfl,C4,C3 l l 0 rfl]at this
   simpa[may,bU]using this
  rw[h0];simp only[Il];simp(disch:=omega) [-zAa];exact⟨by simp(disch:=omega) [-zAa],rfl⟩
 ·intro h
  exact⟨by simp(disch:=omega) [-zAa,nn],rfl⟩
attribute [simp] Nd xT XY XZ LS abj Pr aZ
def IG(l:List Str):V:=.seq 1 (l.map .str)
def clM:List (V×V):=[(.str [112],IG (bD [112])),(.str [108,105],IG (bD [108,105])),(.str [100,116],IG (bD [100,116])),(.str [100,100],IG (bD [100,100])),(.str [111,112,116,105,111,110],IG (bD [111,112,116,105,111,110])),(.str [116,100],IG (bD [116,100])),(.str [116,114],IG (bD [116,114]))]
theorem AH:FnH Tryz.prog oO [] [] [] (.ref 0 0) [some (.mp ktS1 clM)]:=by
 refine yoH oU ?_;simp(disch:=omega) [-zAa,pG,AZ,bS,kOf,aS,bc,gY];rfl
theorem aaE(o:Str):uz (.str o) clM=if bD o=[]then none else some (IG (bD o)):=by
 simp only[clM,uz,AZ,decide_eq_true_eq];by_cases h1:o=[112]
 ·subst h1;rfl
 by_cases h2:o=[108,105]
 ·subst h2;rfl
 by_cases h3:o=[100,116]
 ·subst h3;rfl
 by_cases h4:o=[100,100]
 ·subst h4;rfl
 by_cases h5:o=[111,112,116,105,111,110]
 ·subst h5;rfl
 by_cases h6:o=[116,100]
 ·subst h6;rfl
 by_cases h7:o=[116,114]
 ·subst h7;rfl
 ·simp[bD,h1,h2,h3,h4,h5,h6,h7]
theorem Dg(o b:Str):Fn Tryz.prog qp [.str o,.str b] (.bool (mD o b)):=by
 refine yoE qF ?_;simp(disch:=omega) [-zAa];refine av [] 0 [] (by simp) (by simp) (by simp) (by simp) AH (by simp) fun _ _=>?_
 have hg:=aaE o;by_cases he:bD o=[]
 ·rw[if_pos he]at hg
  simp(disch:=omega) [-zAa,hg,bS,kOf,aS,bc,gY];have hc:=f_slices_Contains_string [] b;refine ac (by simpa using hc) rfl fun _=>?_
  simp(disch:=omega) [-zAa,mD,he]
 ·rw[if_neg he]at hg
  simp(disch:=omega) [-zAa,hg,bS,kOf,aS,bc,gY,IG];refine ac (f_slices_Contains_string (bD o) b) rfl fun _=>?_;simp(disch:=omega) [-zAa,mD]
theorem wx(par:Str)(n:Node)(hp:par.length<=1000000)(ht:n.text.length<=100000000):Fn Tryz.prog Jh [.str par,n.v] (.bool (bn par n)):=by
 refine yoA J5 ?_;simp(disch:=omega) [-zAa,bn];refine ac (Q0 par) rfl fun _=>?_;simp(disch:=omega) [-zAa];refine BrK.mk (fun h1=>?_) (fun h1=>?_)
 ·simp(disch:=omega) [-zAa,h1]
 ·simp(disch:=omega) [-zAa,h1]
  refine ac (H6 par) rfl fun _=>?_;simp(disch:=omega) [-zAa];refine BrK.mk (fun h2=>?_) (fun h2=>?_)
  ·simp(disch:=omega) [-zAa,h2]
   refine BrKd.mk (fun hk=>?_) (fun hk=>?_)
   ·simp(disch:=omega) [-zAa,hk]
    have e:n.text++[60,47]++par++[62]=n.text++60::47::(par++[62]):=by simp
    have hE:=KS (n.text++[60,47]++par++[62]) par (by simp;omega) hp
    rw[e]at hE;refine ay hE rfl ?_;simp(disch:=omega) [-zAa,hk]
   ·simp(disch:=omega) [-zAa,hk]
  ·simp(disch:=omega) [-zAa,h2]
   refine BrKd.mk (fun h3=>?_) (fun h3=>?_)
   ·simp(disch:=omega) [-zAa,h3]
    refine ac (Dg par n.name) rfl fun _=>?_;simp(disch:=omega) [-zAa,h3]
   ·simp(disch:=omega) [-zAa,h3]
def ct(par:Str)(n:Node):Bool:=bn par n&&(!decide (n.kind=3)|| !i5 gn n.text)
def V9(of:Str)(row:List Node):Bool:=!(raw of&&decide (1<row.length))&&row.all (ct of)
mutual
def subS:Node->Bool
 |⟨_,nm,_,_,ks⟩=>V9 nm ks&&acq ks
def acq:List Node->Bool
 |[]=>true
 |n::l=>subS n&&acq l
end
def UF(x:Str×List Node):Bool:=V9 x.1 x.2&&acq x.2
end Go.Abs.F
end
section
namespace Go.Abs.F
open Go.Proofs
attribute [-simp] getElem?_pos zAj zBi
theorem GP{Φ:Ctr}{σ:St}{ks:List Nat}{a b:OT}{Q:Ex->St->Prop}(S:St)(h:∀Q:Ex->St->Prop,Q .norm S->xw Φ a b (Tm Q ks) σ)(k:Q .norm S):xw Φ a b (Tm Q ks) σ:=h Q k
end Go.Abs.F
end
section
namespace Go.Abs.F
open Go.Proofs
attribute [-simp] getElem?_pos zAj zBi
end Go.Abs.F
end
section
namespace Go.Abs.F
open Go.Proofs
attribute [-simp] getElem?_pos zAj zBi
theorem j5:∀(l out:List Rule)(i:Nat),(∀r∈out,∃c,r.value=good12 c)->∀r∈iC i out l,∃c,r.value=good12 c
 |[],out,i,h=>by simpa[iC]using h
 |x::l,out,i,h=>by
   simp only[iC];split
   ·exact j5 l out _ h
   ·refine j5 l _ _ fun r hr=>?_
    rcases zCd.1 hr with hr|hr
    ·exact h r hr
    ·simp at hr;subst hr
     unfold i7;split<;>exact⟨_,rfl⟩
theorem TT(c:Constraint):(1<=(good12 c).kind/\(good12 c).kind<=4)/\((good12 c).kind=4->rxB (good12 c).regex=true):=by
 have hr:=kind12_range c.kind;unfold good12;simp only;split
 ·refine⟨by simp,fun _=>?_⟩
  simp only;have hm:sumB c.regex%7<pool12.length:=Nat.mod_lt _ (by decide)
  rw[zCj hm];exact zDb.1 ZI _ (List.getElem_mem hm)
 ·rename_i h
  exact⟨by simp only;omega,fun h'=>absurd h' h⟩
theorem yd(p:Policy):xr allows12 (bE p):=by
 intro e he r hr v hv;obtain⟨_,l,hl⟩:=uO p e he;rw[hl]at hr;obtain⟨c,hc⟩:=j5 (l.take 3) [] 0 (by simp) r hr
 rw[hc];have:=TT c;exact C9 (good12 c) v this.1 this.2 (by omega)
def shp(n:Node):Prop:=(n.kind=1->named n.name=true)/\(n.kind≠1->n.kids=[])
def jt(els:List Allowed)(l:List Str):Prop:=∀s∈l,s=k7\/s=dG\/(aT els s).isSome=true
def fo(p:Policy):Prop:=jt p.elements p.top/\∀e∈p.elements,jt p.elements e.kids
theorem C5{l:List Allowed}{s:Str}:(aT l s).isSome=true↔s∈l.map Allowed.name:=by
 induction l with
 |nil=>simp[aT]
 |cons e l ih=>
   simp only[aT,zBe,zAf];by_cases h:e.name=s
   ·simp[h]
   ·rw[if_neg h,ih]
    constructor
    ·exact .inr
    ·rintro(h'|h')
     ·exact absurd h'.symm h
     ·exact h'
theorem Ju{a b:List Allowed}(h:a.map Allowed.name=b.map Allowed.name){l:List Str}(hl:jt a l):jt b l:=fun s hs=>by
 rcases hl s hs with h1|h1|h1
 ·exact .inl h1
 ·exact .inr (.inl h1)
 ·exact .inr (.inr (by rw[C5,<-h,<-C5];exact h1))
theorem C2(p:Policy)(par:Str):∀(l out:List Str),jt p.elements out->jt p.elements (ta p par out l)
 |[],out,h=>by simpa[ta]using h
 |x::l,out,h=>by
   simp only[ta];refine C2 p par l _ ?_;split
   ·rename_i hk
    intro s hs;simp only[kids,zAb,zDb]at hk;have:=hk.1 s hs;simp only[sY,zAb,zBg,decide_eq_true_eq]at this;rcases this.2 with(h1|h1)|h1
    ·exact .inl h1
    ·exact .inr (.inl h1)
    ·exact .inr (.inr h1.1)
   ·exact h
theorem DR(els:List Allowed)(k:Nat)(own:List Str):(fQ els k own).map Allowed.name=els.map Allowed.name:=by
 unfold fQ;split
 ·rename_i e he
  rw[zEi];refine List.ext_getElem? fun i=>?_;rw[List.getElem?_set];split
  ·subst_vars
   have:=(zAc.1 he).1;simp[he,this]
  ·rfl
 ·rfl
theorem DS{els:List Allowed}(k:Nat)(own:List Str)(h:∀e∈els,jt els e.kids):∀e∈fQ els k own,jt (fQ els k own) e.kids:=by
 intro e he;refine Ju (DR els k own).symm ?_;unfold fQ at he;split at he
 ·rename_i x hx
  rcases zBh he with he|he
  ·exact h e he
  ·subst he
   exact C2 ⟨[],els,[]⟩ _ _ _ (fun s hs=>by cases hs)
 ·exact h e he
theorem vQ:∀(l els:List Allowed)(k:Nat),(∀e∈els,jt els e.kids)->∀e∈fW k els l,jt (fW k els l) e.kids
 |[],els,k,h=>by simpa[fW]using h
 |x::l,els,k,h=>by
   simp only[fW];exact vQ l _ _ (DS k x.kids h)
theorem uX:∀(l out:List Allowed)(i:Nat),(∀e∈out,e.kids=[])->∀e∈l8 i out l,e.kids=[]
 |[],out,i,h=>by simpa[l8]using h
 |x::l,out,i,h=>by
   simp only[l8];split
   ·exact uX l out _ h
   ·refine uX l _ _ fun e he=>?_
    rcases zCd.1 he with he|he
    ·exact h e he
    ·simp at he;subst he;rfl
theorem oe(p:Policy):fo (bE p):=by
 unfold bE;refine⟨?_,?_⟩
 ·exact C2 ⟨[],_,[]⟩ [] _ _ (fun s hs=>by cases hs)
 ·refine vQ _ _ _ fun e he s hs=>?_
  rw[uX _ [] 0 (by simp) e he]at hs
  cases hs
theorem y8{s:Str}(h:named s=true):s≠k7/\s≠dG:=by
 constructor<;>rintro rfl<;>exact absurd h (by decide)
theorem x7{els:List Allowed}{l:List Str}{s:Str}(hl:jt els l)(hs:named s=true)(h:hasS l s=true):(aT els s).isSome=true:=by
 rcases hl s (NI.1 h)with h1|h1|h1
 ·exact absurd h1 (y8 hs).1
 ·exact absurd h1 (y8 hs).2
 ·exact h1
theorem B5{p:Policy}(hp:fo p){n:Node}(hn:shp n)(par:Str):r4 p par n=cG p par n:=by
 have key:∀l:List Str,jt p.elements l->n.kind=1->((aT p.elements n.name).isSome&&hasS l n.name)=hasS l n.name:=fun l hl hk=>by
  cases h:hasS l n.name
  ·simp
  ·simp[x7 hl (hn.1 hk) h]
 unfold r4 cG ze;by_cases h0:par=[]
 ·simp only[h0,if_true]
  by_cases hk:n.kind=1
  ·simp[hk,key _ hp.1 hk]
  ·simp[hk]
 ·simp only[h0,if_false]
  cases hf:aT p.elements par with
  |none=>simp[Allowed.zero,hasS]
  |some e=>
    simp only[Option.getD_some];by_cases hk:n.kind=1
    ·simp[hk,key _ (hp.2 e (kz hf).1) hk]
    ·simp[hk]
theorem PZ(A:Constraint->Str->Bool)(p:Policy):∀(l:List Node)(par:Str)(m:Nat),cf A p par l m=(if(cf A p par l 0).1<0 then -1 else(m:Int)+(cf A p par l 0).1,m+(cf A p par l 0).2):=by
 refine aw (fun par m=>by simp[cf]) ?_
 intro n l h1 h2 par m;have hb:=rT A p n.kids n.name 0;simp only[cf,AU];split
 ·split
  ·rw[if_neg (by simp only;omega)]
   refine zEc ?_ ?_<;>simp only<;>omega
  ·rw[h2 par (m+1+_),h2 par (0+1+_)]
   have hb2:=rT A p l par 0;generalize cf A p par l 0=q at *;generalize(cf A p n.name n.kids 0).2=c at *;simp only;by_cases hq:q.1<0
   ·simp only[hq,if_true]
    rw[if_pos (by omega)]
    refine zEc rfl ?_;simp only;omega
   ·simp only[hq,if_false]
    rw[if_neg (by omega)]
    refine zEc ?_ ?_<;>simp only<;>omega
 ·rw[if_neg (by simp only;omega)]
  refine zEc ?_ ?_<;>simp only<;>omega
def okN(A:Constraint->Str->Bool)(p:Policy)(par:Str)(l:List Node):Bool:=decide ((cf A p par l 0).1<0)
theorem Hw(A:Constraint->Str->Bool)(p:Policy)(l:List Node)(par:Str)(many many':Nat)(h:(cf A p par l many).1<0):(cf A p par l many').1<0:=by
 rw[PZ]at h⊢;simp only at h⊢;split at h
 ·rw[if_pos (by assumption)];omega
 ·omega
theorem kL(A:Constraint->Str->Bool)(p:Policy)(par:Str)(n:Node)(l:List Node):okN A p par (n::l)=(fy A p par n&&(okN A p n.name n.kids&&okN A p par l)):=by
 have hb:=(rT A p n.kids n.name 0).2.2.1;simp only[okN,cf,AU];cases hn:fy A p par n
 ·simp
 ·simp only[if_true,zCi]
  by_cases hk:0<=(cf A p n.name n.kids 0).1
  ·rw[if_pos hk]
   have h1:¬(cf A p n.name n.kids 0).1<0:=by omega
   simp[h1];omega
  ·rw[if_neg hk]
   have h1:(cf A p n.name n.kids 0).1<0:=by omega
   simp only[h1,decide_true,zCi];exact decide_eq_decide.2 ⟨Hw A p l par _ _,Hw A p l par _ _⟩
theorem uo(A:Constraint->Str->Bool)(p:Policy)(par:Str):∀(a b:List Node),okN A p par (a++b)=(okN A p par a&&okN A p par b)
 |[],b=>by simp[okN,cf]
 |n::a,b=>by rw[zAh,kL,kL,uo A p par a b,zEg,zEg]
def sP(A:Constraint->Str->Bool)(p:Policy)(par:Str)(n:Node):Bool:=
 cG p par n&&((aT p.elements n.name).isSome&&whole ((aT p.elements n.name).getD .zero) (cZ A ((aT p.elements n.name).getD .zero) n.attrs))
def vR(A:Constraint->Str->Bool)(p:Policy)(n:Node):List Attr:=cZ A ((aT p.elements n.name).getD .zero) n.attrs
mutual
def clN(A:Constraint->Str->Bool)(p:Policy):Node->Str->List Node
 |⟨k,nm,at',tx,ks⟩,par=>if k=1 then(if sP A p par ⟨k,nm,at',tx,ks⟩then[⟨1,nm,vR A p ⟨k,nm,at',tx,ks⟩,[],clL A p ks nm⟩]else if hasS p.unwrap nm then clL A p ks par else[])
   else if cG p par ⟨k,nm,at',tx,ks⟩then[⟨k,[],[],tx,[]⟩]else[]
def clL(A:Constraint->Str->Bool)(p:Policy):List Node->Str->List Node
 |[],_=>[]
 |n::l,par=>clN A p n par++clL A p l par
end
theorem ou(A:Constraint->Str->Bool)(p:Policy)(n:Node)(par:Str):clN A p n par=if n.kind=1 then(if sP A p par n then[⟨1,n.name,vR A p n,[],clL A p n.kids n.name⟩]else if hasS p.unwrap n.name then clL A p n.kids par else[])
 else if cG p par n then[⟨n.kind,[],[],n.text,[]⟩]else[]:=by
 cases n;rfl
def wOK(n:Node):Prop:=d6 n false=0
theorem q8(f:Attr->Bool):∀(l pre pre':List Attr),(∀s,fO pre s=false->fO pre' s=false)->mC pre l=0->mC pre' (l.filter f)=0
 |[],pre,pre',hp,h=>rfl
 |a::l,pre,pre',hp,h=>by
   simp only[mC]at h;split at h
   ·rename_i ha
    split at h
    ·cases h
    ·rename_i hn
     have hn:fO pre a.name=false:=by simpa using hn
     have snoc:∀(q:List Attr)(s:Str),fO (q++[a]) s=(fO q s||decide (a.name=s)):=fun q s=>by
      induction q with
      |nil=>by_cases h:a.name=s<;>simp[fO,h]
      |cons b q ih=>by_cases h:b.name=s<;>simp[fO,h,ih]
     simp only[zAe];split
     ·simp only[mC,ha,if_true,hp _ hn,if_false,zDj]
      refine q8 f l (pre++[a]) (pre'++[a]) (fun s hs=>?_) h;rw[snoc]at hs⊢;simp only[zDh]at hs⊢;exact⟨hp s hs.1,hs.2⟩
     ·refine q8 f l (pre++[a]) pre' (fun s hs=>?_) h
      rw[snoc]at hs;simp only[zDh]at hs;exact hp s hs.1
   ·cases h
theorem kI(f:Attr->Bool):∀l:List Attr,dS l=true->dS (l.filter f)=true
 |[],h=>rfl
 |a::l,h=>by
   simp only[dS,zAb]at h;simp only[zAe];split
   ·simp only[dS,h.1,kI f l h.2,Bool.and_self]
   ·exact kI f l h.2
theorem xx{n:Node}(hk:n.kind=1):wOK n↔n.text=[]/\named n.name=true/\mC [] n.attrs=0/\dS n.attrs=true:=by
 unfold wOK d6 li;rw[if_pos hk];constructor
 ·intro h
  split at h
  ·split at h
   ·split at h
    ·split at h
     ·exact⟨‹_›,‹_›,‹_›,‹_›⟩
     ·cases h
    ·rename_i hd;exact absurd h hd
   ·cases h
  ·cases h
 ·rintro⟨h1,h2,h3,h4⟩
  simp[h1,h2,h3,h4]
theorem vh{n:Node}(hk:n.kind≠1)(h:wOK n):(n.kind=2\/n.kind=3)/\n.name=[]/\n.attrs=[]/\n.kids=[]:=by
 unfold wOK d6 at h;rw[if_neg hk]at h;split at h
 ·split at h
  ·exact⟨‹_›,‹_›⟩
  ·cases h
 ·cases h
theorem Iw:∀(l:List Node)(b:Bool),gK b l=0->an wOK l:=by
 refine aw (fun _ _=>trivial) ?_;intro n l h1 h2 b h;obtain⟨g1,g2,g3⟩:=rY h;refine aN.2 fun x hx=>?_;rcases zAf.1 hx with rfl|hx
 ·refine⟨?_,h1 _ g2⟩
  unfold wOK d6 at *;by_cases hk1:x.kind=1
  ·rw[if_pos hk1]at g1⊢;exact g1
  ·rw[if_neg hk1]at g1⊢
   split at g1
   ·rename_i q1
    rw[if_pos q1];split at g1
    ·rename_i q2
     rw[if_pos q2];split at g1
     ·rename_i q3
      rw[if_pos ⟨q3.1,fun h=>⟨(q3.2 h).1,rfl⟩⟩]
     ·cases g1
    ·cases g1
   ·cases g1
 ·exact aN.1 (h2 _ g3) x hx
theorem aL{f:Node->Prop}{n:Node}{l:List Node}:an f (n::l)↔(f n/\an f n.kids)/\an f l:=by
 cases n;simp only[an,O8]
theorem oF{f:Node->Prop}:∀{a b:List Node},an f (a++b)↔an f a/\an f b
 |[],b=>by simp[an]
 |n::a,b=>by rw[zAh,aL,aL,oF];simp only[and_assoc]
theorem Sc{n:Node}(hk:n.kind≠1)(h:wOK n):(⟨n.kind,[],[],n.text,[]⟩:Node)=n:=by
 obtain⟨_,h1,h2,h3⟩:=vh hk h;cases n;simp_all
theorem Xy(A:Constraint->Str->Bool)(p:Policy):∀(l:List Node)(par:Str),an wOK l->an wOK (clL A p l par):=by
 refine aw (fun _ _=>by simp[clL,an]) ?_
 intro n l h1 h2 par h;obtain⟨⟨g1,g2⟩,g3⟩:=aL.1 h;simp only[clL];refine oF.2 ⟨?_,h2 par g3⟩;rw[ou];split
 ·rename_i hk
  split
  ·refine aL.2 ⟨⟨?_,h1 _ g2⟩,trivial⟩
   obtain⟨a,b,c,d⟩:=(xx hk).1 g1;exact(xx rfl).2 ⟨rfl,b,q8 _ _ [] [] (fun _ h=>h) c,kI _ _ d⟩
  ·split
   ·exact h1 par g2
   ·trivial
 ·rename_i hk
  split
  ·rw[Sc hk g1]
   exact aL.2 ⟨⟨g1,g2⟩,trivial⟩
  ·trivial
theorem qx(p:Policy)(par:Str)(n m:Node)(hk:m.kind=n.kind)(hn:n.kind=1->m.name=n.name):cG p par m=cG p par n:=by
 unfold cG;rw[hk];by_cases h1:n.kind=1
 ·rw[hn h1]
 ·simp[h1]
theorem B4(A:Constraint->Str->Bool)(e:Allowed)(l:List Attr):m5 A e (cZ A e l)=whole e (cZ A e l):=by
 simp[m5,cZ]
theorem aaF(A:Constraint->Str->Bool)(p:Policy):∀(l:List Node)(par:Str),okN A p par (clL A p l par)=true:=by
 refine aw (fun par=>by simp[clL,okN,cf]) ?_
 intro n l h1 h2 par;simp only[clL];rw[uo,h2 par,zBf,ou];have nil:okN A p par []=true:=by simp[okN,cf]
 split
 ·rename_i hk
  split
  ·rename_i hs
   rw[kL,nil,zBf,h1 n.name,zBf];simp only[sP,zAb]at hs;simp only[fy,zAb,zBg];refine⟨?_,.inr ?_⟩
   ·exact(qx p par n ⟨1,n.name,_,[],_⟩ hk.symm (fun _=>rfl)).trans hs.1
   ·rw[vR,B4];exact hs.2.2
  ·split
   ·exact h1 par
   ·exact nil
 ·rename_i hk
  split
  ·rename_i hi
   have nil2:okN A p [] []=true:=by simp[okN,cf]
   rw[kL,nil,zBf];simp only[nil2,zBf,fy,zAb,zBg];refine⟨?_,.inl (by simp[hk])⟩
   exact(qx p par n ⟨n.kind,[],[],n.text,[]⟩ rfl (fun h=>absurd h hk)).trans hi
  ·exact nil
theorem adG(A:Constraint->Str->Bool){p:Policy}(hp:fo p):∀(l:List Node)(par:Str),an wOK l->okN A p par l=true->clL A p l par=l:=by
 refine aw (fun _ _ _=>rfl) ?_;intro n l h1 h2 par h ho;obtain⟨⟨g1,g2⟩,g3⟩:=aL.1 h;rw[kL]at ho;simp only[zAb]at ho;obtain⟨o1,o2,o3⟩:=ho;simp only[fy,zAb,zBg]at o1;simp only[clL,ou];rw[h2 par g3 o3];by_cases hk:n.kind=1
 ·obtain⟨a,b,c,d⟩:=(xx hk).1 g1
  have hh:m5 A ((aT p.elements n.name).getD .zero) n.attrs=true:=o1.2.resolve_left (by simp[hk])
  simp only[m5,zAb,decide_eq_true_eq]at hh;have hkept:vR A p n=n.attrs:=zCg.2 (List.length_filter_eq_length_iff.1 hh.1)
  have hf:(aT p.elements n.name).isSome=true:=by
   have hi:=o1.1;unfold cG at hi;simp only[hk]at hi;simp at hi;unfold ze at hi;split at hi
   ·exact x7 hp.1 b hi
   ·cases hf:aT p.elements par with
    |none=>rw[hf]at hi;simp[Allowed.zero,hasS]at hi
    |some e=>rw[hf]at hi;exact x7 (hp.2 e (kz hf).1) b hi
  have hst:sP A p par n=true:=by
   simp only[sP,zAb];refine⟨o1.1,hf,?_⟩;have:cZ A ((aT p.elements n.name).getD .zero) n.attrs=n.attrs:=hkept;rw[this];exact hh.2
  rw[if_pos hk,if_pos hst,hkept,h1 n.name g2 o2];cases n;simp only at hk a;subst hk a;rfl
 ·rw[if_neg hk,if_pos o1.1,Sc hk g1]
  rfl
theorem vE{A:Constraint->Str->Bool}{p:Policy}{par:Str}:∀{l:List Node},okN A p par l=true↔∀n∈l,fy A p par n=true/\okN A p n.name n.kids=true
 |[]=>by simp[okN,cf]
 |n::l=>by simp only[kL,zAb,vE (l:=l),List.forall_mem_cons,and_assoc]
theorem y5{A:Constraint->Str->Bool}{p:Policy}{par:Str}{n m:Node}(h:m.kind=n.kind/\m.name=n.name/\m.attrs=n.attrs):fy A p par m=fy A p par n:=by
 unfold fy;rw[qx p par n m h.1 (fun _=>h.2.1),h.1,h.2.1,h.2.2]
theorem lY:∀(l out:List Node),∀m∈ax out l,∃n∈out++l,m.kind=n.kind/\m.name=n.name/\m.attrs=n.attrs/\m.kids=n.kids
 |[],out,m,h=>⟨m,by simpa[ax]using h,rfl,rfl,rfl,rfl⟩
 |n::l,out,m,h=>by
   have go:∀out',m∈ax out' l->(∀x∈out',∃y∈out++n::l,x.kind=y.kind/\x.name=y.name/\x.attrs=y.attrs/\x.kids=y.kids)->∃y∈out++n::l,m.kind=y.kind/\m.name=y.name/\m.attrs=y.attrs/\m.kids=y.kids:=fun out' h' ho=>by
    obtain⟨x,hx,e1,e2,e3,e4⟩:=lY l out' m h';rcases zCd.1 hx with hx|hx
    ·obtain⟨y,hy,f1,f2,f3,f4⟩:=ho x hx
     exact⟨y,hy,e1.trans f1,e2.trans f2,e3.trans f3,e4.trans f4⟩
    ·exact⟨x,by simp[hx],e1,e2,e3,e4⟩
   have self:∀x∈out,∃y∈out++n::l,x.kind=y.kind/\x.name=y.name/\x.attrs=y.attrs/\x.kids=y.kids:=fun x hx=>⟨x,by simp[hx],rfl,rfl,rfl,rfl⟩
   have more:∀x∈out++[n],∃y∈out++n::l,x.kind=y.kind/\x.name=y.name/\x.attrs=y.attrs/\x.kids=y.kids:=fun x hx=>⟨x,by simp at hx⊢;exact hx.elim .inl fun h=>.inr (.inl h),rfl,rfl,rfl,rfl⟩
   simp only[ax]at h;split at h
   ·exact go out h self
   ·split at h
    ·rename_i o ho
     split at h
     ·refine go _ h fun x hx=>?_
      rcases zBh hx with hx|hx
      ·exact self x hx
      ·exact⟨o,by simp[zAg ho],by rw[hx],by rw[hx],by rw[hx],by rw[hx]⟩
     ·exact go _ h more
    ·exact go _ h more
theorem Hv{A:Constraint->Str->Bool}{p:Policy}{par:Str}{l:List Node}(h:okN A p par l=true):okN A p par (aW l)=true:=by
 rw[vE]at h⊢;intro m hm;obtain⟨n,hn,e1,e2,e3,e4⟩:=lY l [] m hm;obtain⟨g1,g2⟩:=h n (by simpa using hn)
 exact⟨(y5 ⟨e1,e2,e3⟩).trans g1,by rw[e2,e4];exact g2⟩
theorem PV{A:Constraint->Str->Bool}{p:Policy}{par:Str}{l:List Node}(f:Node->Bool)(h:okN A p par l=true):okN A p par (l.filter f)=true:=by
 rw[vE]at h⊢;exact fun m hm=>h m (zAi.1 hm).1
theorem ME(A:Constraint->Str->Bool)(p:Policy):∀(l:List Node)(par:Str),okN A p par l=true->okN A p par (l.flatMap aA)=true:=by
 refine aw (fun par h=>h) ?_;intro n l h1 h2 par h;rw[kL]at h;simp only[zAb]at h;rw[zAd,uo,h2 par h.2.2,zBf,vE,dg];intro m hm;split at hm
 ·cases hm
 ·split at hm
  ·simp only[zAf,zBb,or_false]at hm
   subst hm;refine⟨(y5 (n:=n) ⟨rfl,rfl,rfl⟩).trans h.1,PV _ (Hv ?_)⟩;have hk:=h1 n.name h.2.1;rw[vE]at hk⊢;intro x hx;obtain⟨y,hy,hx⟩:=zBc.1 hx;exact hk x (zBc.2 ⟨y,(zAi.1 hy).1,hx⟩)
  ·simp only[zAf,zBb,or_false]at hm
   subst hm;exact⟨h.1,h.2.1⟩
theorem PU(A:Constraint->Str->Bool)(p:Policy){l:List Node}{par:Str}(h:okN A p par l=true):okN A p par (cI l)=true:=Hv (ME A p l par h)
theorem BV:∀(l out:List Node)(b:Bool),gK b l=0->(∀o,out[out.length-1]?=some o->o.kind=2->b=true)->ax out l=out++l
 |[],out,b,_,_=>by simp[ax]
 |n::l,out,b,h,hb=>by
   obtain⟨g1,g2,g3⟩:=rY h
   have ht:n.kind=2->n.text≠[]/\b=false:=fun hk=>by
    unfold d6 at g1;rw[if_neg (by omega),if_pos (.inl hk)]at g1
    split at g1
    ·split at g1
     ·rename_i q;exact q.2 hk
     ·cases g1
    ·cases g1
   have next:ax (out++[n]) l=out++n::l:=by
    rw[BV l (out++[n]) _ g3 (fun o ho hk=>by
     rw[zBj,List.length_singleton,Nat.add_sub_cancel,List.getElem?_concat_length]at ho;cases ho;simp[hk])]
    simp
   simp only[ax];rw[if_neg (fun h=>(ht h.1).1 h.2)];split
   ·rename_i o ho
    rw[if_neg (fun h=>by have:=hb o ho h.2;rw[(ht h.1).2]at this;cases this)]
    exact next
   ·exact next
theorem M9{l:List Node}(h:gK false l=0):aW l=l:=by
 have:=BV l [] false h (fun o ho=>by simp at ho)
 simpa[aW]using this
theorem Py:∀(l:List Node)(b:Bool),gK b l=0->mO l=true->l.flatMap aA=l:=by
 refine aw (fun _ _ _=>rfl) ?_;intro n l h1 h2 b h ha;obtain⟨g1,g2,g3⟩:=rY h;simp only[mO,Lv,zAb]at ha;obtain⟨⟨a1,a2,a3⟩,a4⟩:=ha;rw[zAd,h2 _ g3 a4,dg];rw[if_neg (fun h=>by simp[h.1,h.2]at a1)]
 split
 ·have hf:aq n.name n.kids=n.kids:=zCg.2 (zDb.1 a2)
  rw[hf,h1 false g2 a3,M9 g2,hf];cases n;rfl
 ·rfl
theorem SX{l:List Node}(h:nD l=true):cI l=l:=by
 simp only[nD,zAb,decide_eq_true_eq]at h;unfold cI;rw[Py l false h.1 h.2];exact M9 h.1
theorem IE:∀l:List Node,an wOK l->∀n∈l,∀m∈aA n,PreOK nC m/\m.kind=n.kind/\m.name=n.name/\(n.kind=2->m=n):=by
 refine aw (fun _ n h=>by cases h) ?_
 intro n l h1 h2 ha x hx m hm;obtain⟨⟨e1,e2⟩,e3⟩:=aL.1 ha;rcases zAf.1 hx with rfl|hx
 ·rw[dg]at hm
  split at hm
  ·cases hm
  ·rename_i hno
   split at hm
   ·rename_i hk
    simp only[zAf,zBb,or_false]at hm;subst hm;obtain⟨s1,s2,s3⟩:=LY x.name x.kids (h1 e2);refine⟨⟨fun h=>?_,fun _=>?_,s1,fun h=>?_,s2,s3⟩,rfl,rfl,fun h=>?_⟩
    ·simp only at h;omega
    ·exact(xx (n:=⟨x.kind,x.name,x.attrs,x.text,_⟩) hk).2 ((xx hk).1 e1)
    ·simp only at h;omega
    ·omega
   ·rename_i hk
    simp only[zAf,zBb,or_false]at hm;subst hm;have hkk:=(vh hk e1).2.2.2;refine⟨⟨fun h=>?_,fun _=>e1,by rw[hkk];rfl,fun h=>?_,by rw[hkk];rfl,by rw[hkk];rfl⟩,rfl,rfl,fun _=>rfl⟩
    ·obtain⟨⟨a,b,c⟩,d,_⟩:=sS h e1
     exact⟨a,b,c,d⟩
    ·cases hw:i5 gn m.text
     ·rfl
     ·exact absurd ⟨h,hw⟩ hno
 ·exact h2 e3 x hx m hm
theorem DP{l:List Node}(h:an wOK l):nD (cI l)=true:=by
 have hs:=IE l h
 obtain⟨k1,k2⟩:=M8 (f:=nC) (fun k n a t ks t' hk h=>⟨fun h3=>by simp only at h3;omega,h.2⟩) (l.flatMap aA) fun m hm=>by
  obtain⟨n,hn,hm⟩:=zBc.1 hm;exact(hs n hn m hm).1
 unfold nD;rw[zAb];exact⟨decide_eq_true (Jp _ _ (fun n hn=>⟨(k1 n hn).1,(k1 n hn).2.1⟩) k2),Lu _ fun n hn=>(k1 n hn).2.2⟩
def fX(A:Constraint->Str->Bool)(p:Policy)(l:List Node):List Node:=if may l=0 then cI (clL A p l [])else[]
theorem yZ(A:Constraint->Str->Bool)(p:Policy)(l:List Node):iD A p l=(nD l&&okN A p [] l):=rfl
theorem mE(A:Constraint->Str->Bool)(p:Policy)(l:List Node):iD A p (fX A p l)=true:=by
 unfold fX;split
 ·rename_i h
  rw[yZ,DP (Xy A p l [] (Iw l false h)),PU A p (aaF A p l [])];rfl
 ·rfl
theorem OS(A:Constraint->Str->Bool){p:Policy}(hp:fo p){l:List Node}(h:iD A p l=true):fX A p l=l:=by
 rw[yZ,zAb]at h;have hm:may l=0:=by have:=h.1;simp only[nD,zAb,decide_eq_true_eq]at this;exact this.1
 rw[fX,if_pos hm,adG A hp l [] (Iw l false hm) h.2,SX h.1]
theorem Rd(A:Constraint->Str->Bool){p:Policy}(hp:fo p)(l:List Node):iD A p l=true↔l=fX A p l:=
 ⟨fun h=>(OS A hp h).symm,fun h=>by rw[h];exact mE A p l⟩
mutual
def wtN:Node->Nat
 |⟨_,_,a,_,ks⟩=>1+a.length+bp ks
def bp:List Node->Nat
 |[]=>0
 |n::l=>wtN n+bp l
end
theorem pV(n:Node):wtN n=1+n.attrs.length+bp n.kids:=by cases n;rfl
theorem eD:∀a b:List Node,bp (a++b)=bp a+bp b
 |[],b=>by simp[bp]
 |n::a,b=>by simp only[zAh,bp,eD a b];omega
theorem pU(f:Node->Bool):∀l:List Node,bp (l.filter f)<=bp l
 |[]=>by simp[bp]
 |n::l=>by
   have:=pU f l;simp only[zAe];split<;>simp only[bp]<;>omega
theorem LG:∀(l:List Node)(i:Nat)(o m:Node),l[i]?=some o->wtN m=wtN o->bp (l.set i m)=bp l
 |[],i,o,m,h,e=>by simp at h
 |n::l,0,o,m,h,e=>by simp at h;subst h;simp[bp,e]
 |n::l,i+1,o,m,h,e=>by simp only[zBa]at h;simp only[zCa,bp,LG l i o m h e]
theorem gx:∀l out:List Node,bp (ax out l)<=bp out+bp l
 |[],out=>by simp[ax,bp]
 |n::l,out=>by
   simp only[ax,bp];split
   ·have:=gx l out;omega
   ·split
    ·rename_i o ho
     split
     ·have:=gx l (out.set (out.length-1) ⟨o.kind,o.name,o.attrs,o.text++n.text,o.kids⟩)
      rw[LG out _ o _ ho (by simp[pV])]at this
      omega
     ·have:=gx l (out++[n])
      rw[eD]at this;simp only[bp]at this;omega
    ·have:=gx l (out++[n])
     rw[eD]at this;simp only[bp]at this;omega
theorem uc(l:List Node):bp (aW l)<=bp l:=by
 have:=gx l [];simpa[aW,bp]using this
theorem A7(f:Node->Bool):∀l:List Node,bp ((l.filter f).flatMap aA)<=bp (l.flatMap aA)
 |[]=>by simp[bp]
 |n::l=>by
   have:=A7 f l;simp only[zAe,zAd,eD];split
   ·simp only[zAd,eD];omega
   ·omega
theorem vb:∀l:List Node,bp (l.flatMap aA)<=bp l:=by
 refine aw (by simp[bp]) ?_
 intro n l h1 h2;rw[zAd,eD];simp only[bp]
 have:bp (aA n)<=wtN n:=by
  rw[dg];split
  ·simp[bp]
  ·split
   ·simp only[bp,pV]
    have g1:=pU (bn n.name) (aW ((aq n.name n.kids).flatMap aA));have g2:=uc ((aq n.name n.kids).flatMap aA);have g3:=A7 (bn n.name) n.kids;simp only[aq]at *;omega
   ·simp[bp]
 omega
theorem UP(A:Constraint->Str->Bool)(p:Policy):∀(l:List Node)(par:Str),bp (clL A p l par)<=bp l:=by
 refine aw (fun _=>by simp[clL,bp]) ?_
 intro n l h1 h2 par;have a1:=h2 par;simp only[clL,eD,bp]
 have:bp (clN A p n par)<=wtN n:=by
  rw[ou,pV];split
  ·split
   ·have g1:(vR A p n).length<=n.attrs.length:=zDg _ _
    have g2:=h1 n.name;simp only[bp,pV];omega
   ·split
    ·have:=h1 par;omega
    ·simp[bp]
  ·split
   ·simp only[bp,pV,zCe];omega
   ·simp[bp]
 omega
theorem oE{f:Node->Prop}{l:List Node}(h:∀n∈l,f n/\an f n.kids):an f l:=aN.2 h
end Go.Abs.F
end
section
namespace Go.Abs.F
open Go.Proofs
attribute [-simp] getElem?_pos zAj zBi
end Go.Abs.F
end
section
namespace Go.Abs.F
open Go.Proofs Go.RowKit
attribute [-simp] getElem?_pos zAj zBi
structure Jb where
 sp:List Node
 ag:List V
 tg:Option (Nat×Nat×Nat)
def Jb.tv(jo:Nat)(q:Jb):V:=match q.tg with
 |none=>.q 0 jo 0 0 0
 |some (j,n,i)=>.q 2 j n i 4
def Jb.v(jo:Nat)(q:Jb):V:=.strct (q.ag++[q.tv jo])
def eT(n:Node)(kc:V):V:=.strct [.int .i64 n.kind,.str n.name,.seq 2 (n.attrs.map Attr.v),.str n.text,kc]
def yF(S:Nat->Option (List Node))(Js:List Jb)(v:V)(K:List Node)(tg:Option (Nat×Nat×Nat)):Prop:=
 ((v=.nil 5\/v=.seq 5 [])/\(K=[]\/∃q∈Js,q.sp=K/\q.tg=tg))\/∃j',v=.q 1 j' K.length 0 0/\S j'=some K
theorem yF.mono{S S':Nat->Option (List Node)}{Js Js':List Jb}{v:V}{K:List Node}{tg:Option (Nat×Nat×Nat)}(h:yF S Js v K tg)(hS:∀j L,S j=some L->S' j=some L)(hJ:∀q∈Js,q.tg=tg->q∈Js'\/q.sp=[]):yF S' Js' v K tg:=by
 rcases h with⟨e,h|⟨q,hq,e1,e2⟩⟩|⟨j',e,h⟩
 ·exact .inl ⟨e,.inl h⟩
 ·rcases hJ q hq e2 with h|h
  ·exact .inl ⟨e,.inr ⟨q,h,e1,e2⟩⟩
  ·exact .inl ⟨e,.inl (by rw[<-e1];exact h)⟩
 ·exact .inr ⟨j',e,hS _ _ h⟩
structure TI (P:Jb->Prop) (raw:Node->V->Prop) (tn tj w jo:Nat) (T:List Node) (S:Nat->Option (List Node)) (pj pi:Nat) (C:List Jb) (ms:List Po) (jw:Nat) (J:List Jb):Prop where
 dom:∀j L,S j=some L->j<ms.length/\j≠jo/\j≠jw
 jo0:jo<ms.length/\jo≠jw
 wait:ms[jw]?=some (.rw tj w (J.map (Jb.v jo)))
 var:∃v,ms[jo]?=some (.bx 0 [v])/\yF S (J++C) v T none
 rows:∀j L,S j=some L->∃el:List V,ms[j]?=some (Po.rw tn 5 el)/\el.length=L.length/\∀i m,L[i]?=some m->((j=pj/\pi<=i)/\∃v,el[i]?=some v/\raw m v)\/(¬(j=pj/\pi<=i)/\∃kc,el[i]?=some (eT m kc)/\yF S (J++C) kc m.kids (some (j,L.length,i)))
 jobs:∀q∈J++C,P q/\(q.tg=none->q.sp=T)/\∀j n i,q.tg=some (j,n,i)->∃L m,S j=some L/\n=L.length/\L[i]?=some m/\¬(j=pj/\pi<=i)/\m.kids=q.sp
def xB(S:Nat->Option (List Node))(j:Nat)(L:List Node):Nat->Option (List Node):=fun k=>if k=j then some L else S k
theorem xA(S:Nat->Option (List Node))(j:Nat)(L:List Node):xB S j L j=some L:=by simp[xB]
theorem RE{S:Nat->Option (List Node)}{j k:Nat}{L:List Node}(h:k≠j):xB S j L k=S k:=by simp[xB,h]
section
variable{P:Jb->Prop}{raw:Node->V->Prop}{tn tj w jo:Nat}{T:List Node}{S:Nat->Option (List Node)}{pj pi:Nat}{C:List Jb}{ms ms':List Po}{jw:Nat}{J:List Jb}
theorem TI.start{q:Jb}(hq:P q)(hs:q.sp=T)(ht:q.tg=none)(hne:jo≠jw)(hv:ms[jo]?=some (.bx 0 [.nil 5]))(hw:ms[jw]?=some (.rw tj w [Jb.v jo q])):TI P raw tn tj w jo T (fun _=>none) jo 0 [] ms jw [q] where
 dom:=fun j L h=>by cases h
 jo0:=⟨(zAc.1 hv).1,hne⟩
 wait:=hw
 var:=⟨_,hv,.inl ⟨.inl rfl,.inr ⟨q,by simp,hs,ht⟩⟩⟩
 rows:=fun j L h=>by cases h
 jobs:=fun p hp=>by
  simp at hp;subst hp;exact⟨hq,fun _=>hs,fun j n i e=>by rw[ht]at e;cases e⟩
theorem TI.ext(h:TI P raw tn tj w jo T S pj pi C ms jw J)(hl:ms.length<=ms'.length)(hk:∀j p,ms[j]?=some p->(j=jo\/j=jw\/∃L,S j=some L)->ms'[j]?=some p):TI P raw tn tj w jo T S pj pi C ms' jw J where
 dom:=fun j L hj=>by have:=h.dom j L hj;exact⟨by omega,this.2⟩
 jo0:=⟨by have:=h.jo0.1;omega,h.jo0.2⟩
 wait:=hk _ _ h.wait (.inr (.inl rfl))
 var:=by
  obtain⟨v,hv,hg⟩:=h.var;exact⟨v,hk _ _ hv (.inl rfl),hg⟩
 rows:=fun j L hj=>by
  obtain⟨el,h1,h2⟩:=h.rows j L hj;exact⟨el,hk _ _ h1 (.inr (.inr ⟨L,hj⟩)),h2⟩
 jobs:=h.jobs
theorem TI.pop{q:Jb}(h:TI P raw tn tj w jo T S pj pi [] ms jw (J++[q])):TI P raw tn tj w jo T S pj pi [q] (ms.set jw .no++[.rw tj w (J.map (Jb.v jo))]) ms.length J:=by
 have hjw:=(zAc.1 h.wait).1
 have keep:∀{j:Nat}{p:Po},j≠jw->ms[j]?=some p->(ms.set jw .no++[.rw tj w (J.map (Jb.v jo))])[j]?=some p:=fun{j p} hj hp=>by
  have hlt:=(zAc.1 hp).1;rw[List.getElem?_append_left (by simpa using hlt),zBd (Ne.symm hj)]
  exact hp
 refine⟨fun j L hj=>?_,?_,?_,?_,fun j L hj=>?_,fun p hp=>h.jobs p (by simpa using hp)⟩
 ·have:=h.dom j L hj
  simp only[zBj,zDd,zDa,zCe];omega
 ·have:=h.jo0
  simp only[zBj,zDd,zDa,zCe];omega
 ·rw[List.getElem?_append_right (by simp),zDd,Nat.sub_self]
  rfl
 ·obtain⟨v,hv,hg⟩:=h.var
  exact⟨v,keep h.jo0.2 hv,by simpa using hg⟩
 ·obtain⟨el,h1,h2,h3⟩:=h.rows j L hj
  exact⟨el,keep (h.dom j L hj).2.2 h1,h2,fun i m hm=>by simpa using h3 i m hm⟩
theorem TI.row{q:Jb}{j':Nat}{el:List V}(h:TI P raw tn tj w jo T S jo 0 [q] ms jw J)(hn:S j'=none)(hj1:j'≠jo)(hj2:j'≠jw)(hr:ms[j']?=some (.rw tn 5 el))(hl:el.length=q.sp.length)(hraw:∀(i:Nat)(m:Node),q.sp[i]?=some m->∃v,el[i]?=some v/\raw m v):TI P raw tn tj w jo T (xB S j' q.sp) j' 0 [q] ms jw J:=by
 have hS:∀j L,S j=some L->xB S j' q.sp j=some L:=fun j L hj=>by
  rw[RE (fun e=>by subst e;rw[hn]at hj;cases hj)];exact hj
 have hS':∀j L,xB S j' q.sp j=some L->(j=j'/\L=q.sp)\/(j≠j'/\S j=some L):=fun j L hj=>by
  by_cases e:j=j'
  ·subst e;rw[xA]at hj;cases hj;exact .inl ⟨rfl,rfl⟩
  ·rw[RE e]at hj;exact .inr ⟨e,hj⟩
 refine⟨fun j L hj=>?_,h.jo0,h.wait,?_,fun j L hj=>?_,fun p hp=>?_⟩
 ·rcases hS' j L hj with⟨rfl,_⟩|⟨_,hj⟩
  ·exact⟨(zAc.1 hr).1,hj1,hj2⟩
  ·exact h.dom j L hj
 ·obtain⟨v,hv,hg⟩:=h.var
  exact⟨v,hv,hg.mono hS fun q hq _=>.inl hq⟩
 ·rcases hS' j L hj with⟨rfl,rfl⟩|⟨hne,hj⟩
  ·exact⟨el,hr,hl,fun i m hm=>.inl ⟨⟨rfl,Nat.zero_le _⟩,hraw i m hm⟩⟩
  ·obtain⟨el2,h1,h2,h3⟩:=h.rows j L hj
   refine⟨el2,h1,h2,fun i m hm=>?_⟩;rcases h3 i m hm with⟨h4,_⟩|⟨h4,kc,h5,h6⟩
   ·exact((h.dom j L hj).2.1 h4.1).elim
   ·exact .inr ⟨fun e=>hne e.1,kc,h5,h6.mono hS fun q hq _=>.inl hq⟩
 ·obtain⟨h1,h2,h3⟩:=h.jobs p hp
  refine⟨h1,h2,fun j n i e=>?_⟩;obtain⟨L,m,k1,k2,k3,k4,k5⟩:=h3 j n i e;exact⟨L,m,hS _ _ k1,k2,k3,(fun e=>by rw[e.1,hn]at k1;cases k1),k5⟩
theorem TI.next{q:Jb}{j' i:Nat}{L:List Node}{m:Node}{el el':List V}{J':List Jb}(h:TI P raw tn tj w jo T S j' i [q] ms jw J)(hS:S j'=some L)(hm:L[i]?=some m)(hel:ms[j']?=some (.rw tn 5 el))(hl:ms.length<=ms'.length)
 (hel':ms'[j']?=some (.rw tn 5 el')) (hl':el'.length=el.length) {kc0:V} (hkc:kc0=.nil 5\/kc0=.seq 5 []) (hi:el'[i]?=some (eT m kc0)) (ho:∀k,k≠i->el'[k]?=el[k]?) (hw:ms'[jw]?=some (.rw tj w (J'.map (Jb.v jo))))
 (hk:∀j p,ms[j]?=some p->j≠j'->(j=jo\/∃L,S j=some L)->ms'[j]?=some p) (hJ:(J'=J/\m.kids=[])\/∃ag,P ⟨m.kids,ag,some (j',L.length,i)⟩/\J'=J++[⟨m.kids,ag,some (j',L.length,i)⟩]):TI P raw tn tj w jo T S j' (i+1) [q] ms' jw J':=by
 obtain⟨d1,d2,d3⟩:=h.dom j' L hS;have hlt:=(zAc.1 hm).1
 have jj:∀p∈J++[q],p∈J'++[q]:=fun p hp=>by
  rcases hJ with⟨rfl,_⟩|⟨ag,_,rfl⟩
  ·exact hp
  ·simp at hp⊢;rcases hp with hp|hp<;>simp[hp]
 refine⟨fun j K hj=>?_,?_,hw,?_,fun j K hj=>?_,fun p hp=>?_⟩
 ·have:=h.dom j K hj;omega
 ·have:=h.jo0;omega
 ·obtain⟨v,hv,hg⟩:=h.var
  exact⟨v,hk _ _ hv d2.symm (.inl rfl),hg.mono (fun _ _ h=>h) fun q hq _=>.inl (jj q hq)⟩
 ·obtain⟨el2,h1,h2,h3⟩:=h.rows j K hj
  by_cases e:j=j'
  ·subst e
   rw[hel]at h1;cases h1;rw[hS]at hj;cases hj;refine⟨el',hel',by omega,fun k m2 hm2=>?_⟩
   by_cases ek:k=i
   ·subst ek
    rw[hm]at hm2;cases hm2;refine .inr ⟨by omega,_,hi,.inl ⟨hkc,?_⟩⟩
    rcases hJ with⟨_,hz⟩|⟨ag,_,rfl⟩
    ·exact .inl hz
    ·exact .inr ⟨⟨m.kids,ag,some (j,L.length,k)⟩,by simp,rfl,rfl⟩
   ·rw[ho k ek]
    rcases h3 k m2 hm2 with⟨h4,h5⟩|⟨h4,kc,h5,h6⟩
    ·exact .inl ⟨⟨rfl,by omega⟩,h5⟩
    ·exact .inr ⟨by omega,kc,h5,h6.mono (fun _ _ h=>h) fun q hq _=>.inl (jj q hq)⟩
  ·refine⟨el2,hk _ _ h1 e (.inr ⟨K,hj⟩),h2,fun k m2 hm2=>?_⟩
   rcases h3 k m2 hm2 with⟨h4,_⟩|⟨h4,kc,h5,h6⟩
   ·exact(e h4.1).elim
   ·exact .inr ⟨fun e'=>e e'.1,kc,h5,h6.mono (fun _ _ h=>h) fun q hq _=>.inl (jj q hq)⟩
 ·have old:∀p∈J++[q],P p/\(p.tg=none->p.sp=T)/\∀j n k,p.tg=some (j,n,k)->∃L m,S j=some L/\n=L.length/\L[k]?=some m/\¬(j=j'/\i+1<=k)/\m.kids=p.sp:=fun p hp=>by
   obtain⟨h1,h2,h3⟩:=h.jobs p hp;refine⟨h1,h2,fun j n k e=>?_⟩;obtain⟨L2,m2,k1,k2,k3,k4,k5⟩:=h3 j n k e;exact⟨L2,m2,k1,k2,k3,by omega,k5⟩
  rcases hJ with⟨rfl,_⟩|⟨ag,hP,rfl⟩
  ·exact old p hp
  ·have hp':p∈J++[q]\/p=⟨m.kids,ag,some (j',L.length,i)⟩:=by
    simp only[zCd,zAf,zBb,or_false]at hp⊢;rcases hp with(hp|hp)|hp
    ·exact .inl (.inl hp)
    ·exact .inr hp
    ·exact .inl (.inr hp)
   rcases hp' with hp'|rfl
   ·exact old p hp'
   ·refine⟨hP,fun e=>(by cases e),fun j n k e=>?_⟩
    simp only[zFa,Prod.mk.injEq]at e;obtain⟨rfl,rfl,rfl⟩:=e;exact⟨L,m,hS,rfl,hm,by omega,rfl⟩
theorem TI.full{j':Nat}{L:List Node}(h:TI P raw tn tj w jo T S j' L.length C ms jw J)(hS:S j'=some L):TI P raw tn tj w jo T S jo 0 C ms jw J:=by
 have no:∀{j i:Nat}{K:List Node}{m:Node},S j=some K->K[i]?=some m->¬(j=j'/\L.length<=i):=fun{j i K m} hj hm e=>by
  obtain⟨rfl,e⟩:=e;rw[hS]at hj;cases hj;have:=(zAc.1 hm).1;omega
 refine⟨h.dom,h.jo0,h.wait,h.var,fun j K hj=>?_,fun p hp=>?_⟩
 ·obtain⟨el2,h1,h2,h3⟩:=h.rows j K hj
  refine⟨el2,h1,h2,fun k m2 hm2=>?_⟩;rcases h3 k m2 hm2 with⟨h4,_⟩|⟨h4,h5⟩
  ·exact(no hj hm2 h4).elim
  ·exact .inr ⟨fun e=>(h.dom j K hj).2.1 e.1,h5⟩
 ·obtain⟨h1,h2,h3⟩:=h.jobs p hp
  refine⟨h1,h2,fun j n i e=>?_⟩;obtain⟨K,m,k1,k2,k3,k4,k5⟩:=h3 j n i e;exact⟨K,m,k1,k2,k3,fun e=>(h.dom j K k1).2.1 e.1,k5⟩
theorem TI.skip{q:Jb}(h:TI P raw tn tj w jo T S jo 0 [q] ms jw J)(hq:q.sp=[]):TI P raw tn tj w jo T S jo 0 [] ms jw J:=by
 have mv:∀{v:V}{K:List Node}{tg:Option (Nat×Nat×Nat)},yF S (J++[q]) v K tg->yF S (J++[]) v K tg:=fun hg=>hg.mono (fun _ _ h=>h) fun p hp _=>by
  simp at hp⊢;rcases hp with hp|rfl
  ·exact .inl hp
  ·exact .inr hq
 refine⟨h.dom,h.jo0,h.wait,?_,fun j K hj=>?_,fun p hp=>h.jobs p (by simp at hp⊢;exact .inl hp)⟩
 ·obtain⟨v,hv,hg⟩:=h.var
  exact⟨v,hv,mv hg⟩
 ·obtain⟨el2,h1,h2,h3⟩:=h.rows j K hj
  refine⟨el2,h1,h2,fun k m2 hm2=>?_⟩;rcases h3 k m2 hm2 with h4|⟨h4,kc,h5,h6⟩
  ·exact .inl h4
  ·exact .inr ⟨h4,kc,h5,mv h6⟩
theorem TI.store0{q:Jb}{u:V}(h:TI P raw tn tj w jo T S jo 0 [q] ms jw J)(hS:((u=.nil 5\/u=.seq 5 [])/\q.sp=[])\/∃j',u=.q 1 j' q.sp.length 0 0/\S j'=some q.sp)(ht:q.tg=none):TI P raw tn tj w jo T S jo 0 [] (ms.set jo (.bx 0 [u])) jw J:=by
 have hjo:=h.jo0;obtain⟨_,hq,_⟩:=h.jobs q (by simp)
 have hq:=hq ht
 have keep:∀{j:Nat}{p:Po},j≠jo->ms[j]?=some p->(ms.set jo (.bx 0 [u]))[j]?=some p:=fun{j p} hj hp=>by
  rw[zBd (Ne.symm hj)];exact hp
 refine⟨fun j L hj=>by simpa using h.dom j L hj,by simpa using hjo,keep hjo.2.symm h.wait,⟨_,zCb hjo.1,by rw[<-hq];exact hS.imp (fun h=>⟨h.1,.inl h.2⟩) id⟩,fun j K hj=>?_,fun p hp=>h.jobs p (by simp at hp⊢;exact .inl hp)⟩
 obtain⟨el2,h1,h2,h3⟩:=h.rows j K hj;have hd:=h.dom j K hj;refine⟨el2,keep hd.2.1 h1,h2,fun k m2 hm2=>?_⟩;rcases h3 k m2 hm2 with⟨h4,_⟩|⟨h4,kc,h5,h6⟩
 ·exact(hd.2.1 h4.1).elim
 ·refine .inr ⟨h4,kc,h5,h6.mono (fun _ _ h=>h) fun p hp e=>?_⟩
  simp at hp⊢;rcases hp with hp|rfl
  ·exact .inl hp
  ·rw[ht]at e;cases e
theorem TI.store1{q:Jb}{u:V}{j n i:Nat}(h:TI P raw tn tj w jo T S jo 0 [q] ms jw J)(hS:((u=.nil 5\/u=.seq 5 [])/\q.sp=[])\/∃j',u=.q 1 j' q.sp.length 0 0/\S j'=some q.sp)(ht:q.tg=some (j,n,i)):
 ∃el m kc,ms[j]?=some (.rw tn 5 el)/\n=el.length/\el[i]?=some (eT m kc)/\TI P raw tn tj w jo T S jo 0 [] (ms.set j (.rw tn 5 (el.set i (eT m u)))) jw J:=by
 have hjo:=h.jo0;obtain⟨_,_,h0⟩:=h.jobs q (by simp)
 obtain⟨L,m,k1,k2,k3,k4,k5⟩:=h0 j n i ht;obtain⟨d1,d2,d3⟩:=h.dom j L k1;obtain⟨el,e1,e2,e3⟩:=h.rows j L k1;rcases e3 i m k3 with⟨f1,_⟩|⟨_,kc,f1,f2⟩
 ·exact(k4 f1).elim
 have keep:∀{k:Nat}{p:Po},k≠j->ms[k]?=some p->(ms.set j (.rw tn 5 (el.set i (eT m u))))[k]?=some p:=fun{k p} hj hp=>by
  rw[zBd (Ne.symm hj)];exact hp
 have mv:∀{v:V}{K:List Node}{tg:Option (Nat×Nat×Nat)},tg≠some (j,n,i)->yF S (J++[q]) v K tg->yF S (J++[]) v K tg:=fun hne hg=>hg.mono (fun _ _ h=>h) fun p hp e=>by
  simp at hp⊢;rcases hp with hp|rfl
  ·exact .inl hp
  ·rw[ht]at e;exact(hne e.symm).elim
 refine⟨el,m,kc,e1,by omega,f1,fun k K hk=>by simpa using h.dom k K hk,by simpa using hjo,keep d3.symm h.wait,?_,fun k K hk=>?_,fun p hp=>h.jobs p (by simp at hp⊢;exact .inl hp)⟩
 ·obtain⟨v,hv,hg⟩:=h.var
  exact⟨v,keep d2.symm hv,mv (by simp) hg⟩
 ·obtain⟨el2,h1,h2,h3⟩:=h.rows k K hk
  have hd:=h.dom k K hk;by_cases ek:k=j
  ·subst ek
   rw[k1]at hk;cases hk;rw[e1]at h1;cases h1;refine⟨_,zCb d1,by simpa using h2,fun x m2 hm2=>?_⟩
   by_cases ex:x=i
   ·subst ex
    rw[k3]at hm2;cases hm2;have hlt:=(zAc.1 f1).1;exact .inr ⟨fun e=>d2 e.1,_,zCb hlt,by rw[k5];exact hS.imp (fun h=>⟨h.1,.inl h.2⟩) id⟩
   ·rw[zBd (Ne.symm ex)]
    rcases h3 x m2 hm2 with⟨h4,_⟩|⟨h4,kc2,h5,h6⟩
    ·exact(d2 h4.1).elim
    ·exact .inr ⟨h4,kc2,h5,mv (by simp[ex]) h6⟩
  ·refine⟨el2,keep ek h1,h2,fun x m2 hm2=>?_⟩
   rcases h3 x m2 hm2 with⟨h4,_⟩|⟨h4,kc2,h5,h6⟩
   ·exact(hd.2.1 h4.1).elim
   ·exact .inr ⟨h4,kc2,h5,mv (by simp[ek]) h6⟩
theorem aap{ms:List Po}{F:Nat}{cs:List V}:frz ms (F+1) (.strct cs)=(gS (frz ms F) cs).map .strct:=rfl
theorem Xc{ms:List Po}{F:Nat}{k:IntKind}{n:Int}:frz ms (F+1) (.int k n)=some (.int k n):=rfl
theorem W9{ms:List Po}{F:Nat}{s:Str}:frz ms (F+1) (.str s)=some (.str s):=rfl
theorem Xa{ms:List Po}{F sz:Nat}{l:List V}:frz ms (F+1) (.seq sz l)=some (.seq sz l):=rfl
theorem AY{g g':V->Option V}(hg:∀v u,g v=some u->g' v=some u):∀(l r:List V),gS g l=some r->gS g' l=some r
 |[],r,h=>h
 |v::l,r,h=>by
   simp only[gS]at h⊢;split at h
   ·rename_i u us h1 h2
    cases h;rw[hg _ _ h1,AY hg l _ h2]
   ·cases h
theorem Og{ms:List Po}:∀(F:Nat)(v u:V),frz ms F v=some u->frz ms (F+1) v=some u:=by
 intro F
 induction F with
 |zero=>intro v u h;simp[frz]at h
 |succ F ih=>
   intro v u h;cases v with
   |q k j n i off=>
     simp only[frz]at h⊢;split at h
     ·rename_i hk
      rw[if_pos hk];split at h
      ·rename_i e sz l hj
       split at h
       ·rename_i hn
        simp only[zCc]at h⊢;obtain⟨us,h1,h2⟩:=h;rw[if_pos hn];simp only[zCc];exact⟨us,AY ih _ _ h1,h2⟩
       ·cases h
      ·rename_i hj;exact h
      ·cases h
     ·cases h
   |strct cs=>
     simp only[frz,zCc]at h⊢;obtain⟨us,h1,h2⟩:=h;exact⟨us,AY ih _ _ h1,h2⟩
   |_=>first|(simp[frz]at h;done)|(simpa[frz]using h)
theorem Xb{ms:List Po}{F G:Nat}(h:F<=G){v u:V}(hv:frz ms F v=some u):frz ms G v=some u:=by
 induction h with
 |refl=>exact hv
 |step _ ih=>exact Og _ _ _ ih
theorem aao{ms:List Po}{F G:Nat}(h:F<=G){l r:List V}(hv:gS (frz ms F) l=some r):gS (frz ms G) l=some r:=AY (fun _ _ hv=>Xb h hv) _ _ hv
theorem TI.read(h:TI P raw tn tj w jo T S jo 0 [] ms jw []):∃v F,ms[jo]?=some (.bx 0 [v])/\frz ms F v=some (.seq 5 (T.map Node.v)):=by
 have TU:∀{v:V}{K:List Node}{tg:Option (Nat×Nat×Nat)},yF S ([]++[]) v K tg->((v=.nil 5\/v=.seq 5 [])/\K=[])\/∃j',v=.q 1 j' K.length 0 0/\S j'=some K:=fun hg=>by
  rcases hg with⟨e,h|⟨q,hq,_⟩⟩|hg
  ·exact .inl ⟨e,h⟩
  ·simp at hq
  ·exact .inr hg
 have tree:∀(L:List Node),(∀(v:V)(tg:Option (Nat×Nat×Nat)),yF S ([]++[]) v L tg->∃F,frz ms F v=some (.seq 5 (L.map Node.v))):=by
  -- all lists of kids that lie in a list
  have row:∀(L:List Node),(∀n∈L,∀(v:V)(tg:Option (Nat×Nat×Nat)),yF S ([]++[]) v n.kids tg->∃F,frz ms F v=some (.seq 5 (n.kids.map Node.v)))->∀(v:V)(tg:Option (Nat×Nat×Nat)),yF S ([]++[]) v L tg->∃F,frz ms F v=some (.seq 5 (L.map Node.v)):=by
   intro L hk v tg hg;rcases TU hg with⟨rfl|rfl,rfl⟩|⟨j',rfl,hS⟩
   ·exact⟨1,rfl⟩
   ·exact⟨1,rfl⟩
   ·obtain⟨el,e1,e2,e3⟩:=h.rows j' L hS
    have hd:=h.dom j' L hS
    have each:∀(i:Nat)(m:Node),L[i]?=some m->∃c F,el[i]?=some c/\frz ms F c=some m.v:=fun i m hm=>by
     rcases e3 i m hm with⟨f1,_⟩|⟨_,kc,f1,f2⟩
     ·exact(hd.2.1 f1.1).elim
     ·obtain⟨F,hF⟩:=hk m (zAg hm) kc _ f2
      refine⟨_,F+2,f1,?_⟩;have:=Og _ _ _ hF;simp only[eT,aap,gS,Xc,W9,Xa,this,zDe];rw[Node.v_eq]
    have rowF:∀(l:List V)(K:List Node),l.length=K.length->(∀(i:Nat)(m:Node),K[i]?=some m->∃c F,l[i]?=some c/\frz ms F c=some m.v)->∃F,gS (frz ms F) l=some (K.map Node.v):=by
     intro l
     induction l with
     |nil=>
       intro K hl _;cases K with
       |nil=>exact⟨0,rfl⟩
       |cons _ _=>simp at hl
     |cons c l ih=>
       intro K hl hc;cases K with
       |nil=>simp at hl
       |cons m K=>
         obtain⟨c',F1,g1,g2⟩:=hc 0 m rfl;simp at g1;subst g1;obtain⟨F2,g3⟩:=ih K (by simpa using hl) fun i x hx=>by simpa using hc (i+1) x (by simpa using hx)
         refine⟨max F1 F2,?_⟩;have a1:=Xb (Nat.le_max_left F1 F2) g2;have a2:gS (frz ms (max F1 F2)) l=some (K.map Node.v):=aao (Nat.le_max_right F1 F2) g3;simp only[gS,a1,a2,zBe]
    obtain⟨F,hF⟩:=rowF el L e2 each;exact⟨F+1,by simp[frz,e1,e2,hF]⟩
  have all:∀(L:List Node),∀n∈L,∀(v:V)(tg:Option (Nat×Nat×Nat)),yF S ([]++[]) v n.kids tg->∃F,frz ms F v=some (.seq 5 (n.kids.map Node.v)):=by
   refine aw (fun n h=>by cases h) ?_
   intro n l h1 h2 x hx;rcases zAf.1 hx with rfl|hx
   ·exact row x.kids h1
   ·exact h2 x hx
  exact fun L=>row L (all L)
 obtain⟨v,hv,hg⟩:=h.var;obtain⟨F,hF⟩:=tree T v none hg;exact⟨v,F,hv,hF⟩
end
def stT(par:Str)(l:List Node):List Node:=aq par (aW ((aq par l).flatMap aA))
def gN(n:Node):Node:=if n.kind=1 then⟨n.kind,n.name,n.attrs,n.text,stT n.name n.kids⟩else n
def bJ(n:Node):Node:=if n.kind=1 then⟨n.kind,n.name,n.attrs,n.text,[]⟩else n
def nU(par:Str)(l:List Node):List Node:=aW (l.filter (ct par))
theorem lZ(φ:Node->Node)(hk:∀n,(φ n).kind=n.kind)(h2:∀n,n.kind=2->φ n=n):∀l out:List Node,ax (out.map φ) (l.map φ)=(ax out l).map φ
 |[],out=>by simp[ax]
 |n::l,out=>by
   have snoc:ax (out.map φ++[φ n]) (l.map φ)=(ax (out++[n]) l).map φ:=by
    have:=lZ φ hk h2 l (out++[n]);simpa using this
   simp only[zBe,ax,hk];by_cases h:n.kind=2
   ·rw[h2 n h]
    rw[h2 n h]at snoc;by_cases ht:n.text=[]
    ·rw[if_pos ⟨h,ht⟩,if_pos ⟨h,ht⟩]
     exact lZ φ hk h2 l out
    ·rw[if_neg (fun e=>ht e.2),if_neg (fun e=>ht e.2)]
     simp only[zEe,zEb];cases ho:out[out.length-1]? with
     |none=>exact snoc
     |some o=>
       simp only[zDe,hk];by_cases h3:o.kind=2
       ·rw[if_pos ⟨h,h3⟩,if_pos ⟨h,h3⟩,h2 o h3]
        have:=lZ φ hk h2 l (out.set (out.length-1) ⟨o.kind,o.name,o.attrs,o.text++n.text,o.kids⟩);rw[zEi,h2 _ (by simpa using h3)]at this
        exact this
       ·rw[if_neg (fun e=>h3 e.2),if_neg (fun e=>h3 e.2)]
        exact snoc
   ·rw[if_neg (fun e=>h e.1),if_neg (fun e=>h e.1)]
    simp only[zEe,zEb];cases ho:out[out.length-1]? with
    |none=>exact snoc
    |some o=>
      simp only[zDe];rw[if_neg (fun e=>h e.1),if_neg (fun e=>h e.1)];exact snoc
theorem HA(φ:Node->Node)(hk:∀n,(φ n).kind=n.kind)(h2:∀n,n.kind=2->φ n=n)(l:List Node):aW (l.map φ)=(aW l).map φ:=by
 have:=lZ φ hk h2 l [];simpa[aW]using this
theorem LW(n:Node):(bJ n).kind=n.kind:=by unfold bJ;split<;>rfl
theorem Sg(n:Node):(gN n).kind=n.kind:=by unfold gN;split<;>rfl
theorem yO(par:Str):∀l:List Node,(aq par l).flatMap aA=(l.filter (ct par)).map gN
 |[]=>rfl
 |n::l=>by
   have ih:=yO par l;simp only[aq]at ih;simp only[aq,zAe];by_cases hf:bn par n=true
   ·rw[if_pos hf,zAd,ih,dg]
    by_cases ha:n.kind=3/\i5 gn n.text=true
    ·have hs:ct par n=false:=by simp[ct,hf,ha.1,ha.2]
     rw[if_pos ha,if_neg (by simp[hs])]
     rfl
    ·have hs:ct par n=true:=by
      simp only[ct,hf,zCi];by_cases h3:n.kind=3
      ·have:i5 gn n.text=false:=by
        cases h:i5 gn n.text
        ·rfl
        ·exact absurd ⟨h3,h⟩ ha
       simp[h3,this]
      ·simp[h3]
     rw[if_neg ha,if_pos hs,zBe];unfold gN;split<;>rfl
   ·have hs:ct par n=false:=by simp[ct,hf]
    rw[if_neg hf,if_neg (by simp[hs])]
    exact ih
theorem acu(par:Str)(l:List Node):stT par l=aq par ((nU par l).map gN):=by
 rw[stT,yO,HA gN Sg (fun n h=>by unfold gN;rw[if_neg (by omega)])]
 rfl
theorem acY(par:Str)(l:List Node):aW ((l.filter (ct par)).map bJ)=(nU par l).map bJ:=
 HA bJ LW (fun n h=>by unfold bJ;rw[if_neg (by omega)]) _
def isE(n:Node):Bool:=decide (n.kind=1)
theorem pb{f:Node->Bool}:∀(l:List Node)(i:Nat)(o m:Node),l[i]?=some o->f o=false->f m=false->(l.set i m).filter f=l.filter f
 |[],i,o,m,h,_,_=>by simp at h
 |n::l,0,o,m,h,h1,h2=>by simp at h;subst h;simp[h1,h2]
 |n::l,i+1,o,m,h,h1,h2=>by
   simp only[zBa]at h;simp only[zCa,zAe,pb l i o m h h1 h2]
theorem l4:∀l out:List Node,(ax out l).filter isE=(out++l).filter isE
 |[],out=>by simp[ax]
 |n::l,out=>by
   have snoc:=l4 l (out++[n]);simp only[zEa,zAh,zDc]at snoc;simp only[ax];by_cases h:n.kind=2
   ·have he:isE n=false:=by simp[isE,h]
    have drop:(out++n::l).filter isE=(out++l).filter isE:=by simp[zCh,zAe,he]
    by_cases ht:n.text=[]
    ·rw[if_pos ⟨h,ht⟩,l4 l out,drop]
    ·rw[if_neg (fun e=>ht e.2)]
     split
     ·rename_i o ho
      by_cases h3:o.kind=2
      ·rw[if_pos ⟨h,h3⟩,l4 l _,drop,zCh,zCh,pb out _ o _ ho (by simp[isE,h3]) (by simp[isE,h3])]
      ·rw[if_neg (fun e=>h3 e.2)];exact snoc
     ·exact snoc
   ·rw[if_neg (fun e=>h e.1)]
    split
    ·rw[if_neg (fun e=>h e.1)];exact snoc
    ·exact snoc
theorem Z8(par:Str)(l:List Node):(nU par l).filter isE=(l.filter (ct par)).filter isE:=by
 have:=l4 (l.filter (ct par)) [];simpa[nU,aW]using this
theorem Jo{par:Str}{l:List Node}{m:Node}(h:m∈nU par l):∃n∈l,ct par n=true/\m.kind=n.kind/\m.name=n.name/\m.attrs=n.attrs/\m.kids=n.kids:=by
 obtain⟨n,hn,e⟩:=lY _ _ m h;simp only[zDc]at hn;obtain⟨h1,h2⟩:=zAi.1 hn;exact⟨n,h1,h2,e⟩
theorem GX{par:Str}{n:Node}(h:ct par n=true):bn par n=true:=by simp only[ct,zAb]at h;exact h.1
theorem WE{par:Str}{l:List Node}(hr:raw par=false):∀m∈nU par l,bn par m=true:=fun m hm=>by
 obtain⟨n,_,h2,e1,e2,_⟩:=Jo hm;rw[yf hr e1 e2];exact GX h2
theorem Wi{par:Str}{n:Node}(hr:raw par=true)(h:bn par n=true):n.kind=2:=by
 unfold bn at h;rw[hr]at h;split at h
 ·cases h
 ·simp at h;exact h.1
theorem nW:∀(l out:List Node),(∀n∈l,n.kind=2)->(∀n∈out,n.kind=2)->out.length<=1->(ax out l).length<=1/\∀n∈ax out l,n.kind=2
 |[],out,_,h2,h3=>by simpa[ax]using⟨h3,h2⟩
 |n::l,out,h1,h2,h3=>by
   have hn:=h1 n (by simp)
   have hl:∀m∈l,m.kind=2:=fun m hm=>h1 m (by simp[hm])
   simp only[ax];split
   ·exact nW l out hl h2 h3
   ·split
    ·rename_i o ho
     have ho2:=h2 o (zAg ho);rw[if_pos ⟨hn,ho2⟩];refine nW l _ hl (fun m hm=>?_) (by simpa using h3)
     rcases zBh hm with hm|hm
     ·exact h2 m hm
     ·rw[hm];exact ho2
    ·rename_i ho
     have:out=[]:=by
      match out,h3,ho with
      |[],_,_=>rfl
      |[x],_,ho=>simp at ho
      |_::_::_,h3,_=>simp at h3
     subst this;exact nW l _ hl (fun m hm=>by simp at hm;rw[hm];exact hn) (by simp)
theorem Z7{par:Str}{l:List Node}(hr:raw par=true):(nU par l).length<=1/\∀m∈nU par l,m.kind=2:=
 nW _ [] (fun n hn=>Wi hr (GX (zAi.1 hn).2)) (fun _ h=>by cases h) (by simp)
def pD(par:Str)(l:List Node):List Node:=if raw par=true/\∃m,(nU par l)[0]?=some m/\bn par m=false then[]else nU par l
theorem Zr(par:Str)(l:List Node):stT par l=(pD par l).map gN:=by
 rw[acu,pD];by_cases hr:raw par=true
 ·obtain⟨h1,h2⟩:=Z7 (l:=l) hr
  match hm:nU par l,h1,h2 with
  |[],_,_=>simp[aq]
  |[m],_,h2=>
    have hk:=h2 m (by simp)
    have hg:gN m=m:=by unfold gN;rw[if_neg (by omega)]
    by_cases hf:bn par m=true
    ·rw[if_neg (by rintro⟨_,x,hx,hx2⟩;simp at hx;subst hx;rw[hf]at hx2;cases hx2)]
     simp[aq,hg,hf]
    ·rw[if_pos ⟨hr,m,by simp,by simpa using hf⟩]
     simp[aq,hg,hf]
  |_::_::_,h1,_=>simp at h1
 ·rw[if_neg (fun h=>hr h.1)]
  refine zCg.2 fun x hx=>?_;obtain⟨m,hm,rfl⟩:=List.mem_map.1 hx;have hr':raw par=false:=by simpa using hr
  rw[yf (n:=m) hr' (Sg m) (by unfold gN;split<;>rfl)]
  exact WE hr' m hm
mutual
def ttN:Node->Nat
 |⟨_,_,_,t,ks⟩=>t.length+bq ks
def bq:List Node->Nat
 |[]=>0
 |n::l=>ttN n+bq l
end
theorem mj(n:Node):ttN n=n.text.length+bq n.kids:=by cases n;rfl
theorem LQ{l:List Node}{n:Node}(h:n∈l):ttN n<=bq l:=by
 induction l with
 |nil=>cases h
 |cons x l ih=>
   simp only[bq];rcases zAf.1 h with rfl|h
   ·omega
   ·have:=ih h;omega
theorem Zl(l:List Node):br l<=bq l:=by
 induction l with
 |nil=>simp[br,bq]
 |cons n l ih=>simp only[br,zBe,List.sum_cons,bq,mj]at *;omega
def GI(n:Node):Prop:=n.name.length<=1000000/\n.attrs.length<=1000000/\∀a∈n.attrs,a.name.length<=1000000/\a.value.length<=1000
structure SizeB (l:List Node):Prop where
 att:an GI l
 cnt:ai l<1000
 wt:bp l<=1000000
 tt:bq l<=1000000
theorem eG:∀a b:List Node,bq (a++b)=bq a+bq b
 |[],b=>by simp[bq]
 |n::a,b=>by simp only[zAh,bq,eG a b];omega
theorem yL(f:Node->Bool):∀l:List Node,bq (l.filter f)<=bq l
 |[]=>by simp[bq]
 |n::l=>by
   have:=yL f l;simp only[zAe];split<;>simp only[bq]<;>omega
theorem LP:∀(l:List Node)(i:Nat)(o m:Node),l[i]?=some o->bq (l.set i m)+ttN o=bq l+ttN m
 |[],i,o,m,h=>by simp at h
 |n::l,0,o,m,h=>by simp at h;subst h;simp[bq];omega
 |n::l,i+1,o,m,h=>by
   simp only[zBa]at h;have:=LP l i o m h;simp only[zCa,bq];omega
theorem gA:∀l out:List Node,bq (ax out l)<=bq out+bq l
 |[],out=>by simp[ax,bq]
 |n::l,out=>by
   simp only[ax,bq];split
   ·have:=gA l out;omega
   ·split
    ·rename_i o ho
     split
     ·have h1:=gA l (out.set (out.length-1) ⟨o.kind,o.name,o.attrs,o.text++n.text,o.kids⟩)
      have h2:=LP out _ o ⟨o.kind,o.name,o.attrs,o.text++n.text,o.kids⟩ ho;simp only[mj,zBj]at h2⊢;omega
     ·have:=gA l (out++[n])
      rw[eG]at this;simp only[bq]at this;omega
    ·have:=gA l (out++[n])
     rw[eG]at this;simp only[bq]at this;omega
theorem nz(l:List Node):bq (aW l)<=bq l:=by
 have:=gA l [];simpa[aW,bq]using this
theorem LN(f:Node->Bool):∀l:List Node,bq ((l.filter f).flatMap aA)<=bq (l.flatMap aA)
 |[]=>by simp[bq]
 |n::l=>by
   have:=LN f l;simp only[zAe,zAd,eG];split
   ·simp only[zAd,eG];omega
   ·omega
theorem Iy:∀l:List Node,bq (l.flatMap aA)<=bq l:=by
 refine aw (by simp[bq]) ?_
 intro n l h1 h2;rw[zAd,eG];simp only[bq]
 have:bq (aA n)<=ttN n:=by
  rw[dg];split
  ·simp[bq]
  ·split
   ·simp only[bq,mj]
    have g1:=yL (bn n.name) (aW ((aq n.name n.kids).flatMap aA));have g2:=nz ((aq n.name n.kids).flatMap aA);have g3:=LN (bn n.name) n.kids;simp only[aq]at *;omega
   ·simp[bq]
 omega
theorem Vv(A:Constraint->Str->Bool)(p:Policy):∀(l:List Node)(par:Str),bq (clL A p l par)<=bq l:=by
 refine aw (fun _=>by simp[clL,bq]) ?_
 intro n l h1 h2 par;have a1:=h2 par;simp only[clL,eG,bq]
 have:bq (clN A p n par)<=ttN n:=by
  rw[ou,mj];split
  ·split
   ·have g2:=h1 n.name
    simp only[bq,mj,zCe];omega
   ·split
    ·have:=h1 par;omega
    ·simp[bq]
  ·split
   ·simp only[bq,mj];omega
   ·simp[bq]
 omega
theorem tf(f:Node->Bool):∀l:List Node,ai (l.filter f)<=ai l
 |[]=>by simp[ai]
 |n::l=>by
   have:=tf f l;simp only[zAe];split<;>simp only[ai]<;>omega
theorem wI(n:Node):lF n=1+ai n.kids:=by cases n;simp[lF]
theorem Ds:∀(l:List Node)(i:Nat)(o m:Node),l[i]?=some o->lF m=lF o->ai (l.set i m)=ai l
 |[],i,o,m,h,e=>by simp at h
 |n::l,0,o,m,h,e=>by simp at h;subst h;simp[ai,e]
 |n::l,i+1,o,m,h,e=>by simp only[zBa]at h;simp only[zCa,ai,Ds l i o m h e]
theorem dH:∀l out:List Node,ai (ax out l)<=ai out+ai l
 |[],out=>by simp[ax,ai]
 |n::l,out=>by
   simp only[ax,ai];split
   ·have:=dH l out;omega
   ·split
    ·rename_i o ho
     split
     ·have h1:=dH l (out.set (out.length-1) ⟨o.kind,o.name,o.attrs,o.text++n.text,o.kids⟩)
      rw[Ds out _ o _ ho (by simp[wI])]at h1
      omega
     ·have:=dH l (out++[n])
      rw[c9]at this;simp only[ai]at this;omega
    ·have:=dH l (out++[n])
     rw[c9]at this;simp only[ai]at this;omega
theorem Id(f:Node->Bool):∀l:List Node,ai ((l.filter f).flatMap aA)<=ai (l.flatMap aA)
 |[]=>by simp[ai]
 |n::l=>by
   have:=Id f l;simp only[zAe,zAd,c9];split
   ·simp only[zAd,c9];omega
   ·omega
theorem Dr:∀l:List Node,ai (l.flatMap aA)<=ai l:=by
 refine aw (by simp[ai]) ?_
 intro n l h1 h2;rw[zAd,c9];simp only[ai]
 have:ai (aA n)<=lF n:=by
  rw[dg];split
  ·simp[ai]
  ·split
   ·simp only[ai,wI]
    have g1:=tf (bn n.name) (aW ((aq n.name n.kids).flatMap aA));have g2:=dH ((aq n.name n.kids).flatMap aA) [];have g3:=Id (bn n.name) n.kids;simp only[aq,aW,ai]at *;omega
   ·simp[ai]
 omega
theorem DG{l:List Node}(h:an GI l):an GI (aW l):=oE fun m hm=>by
 obtain⟨n,hn,e1,e2,e3,e4⟩:=lY l [] m hm;obtain⟨g1,g2⟩:=aN.1 h n (by simpa using hn)
 exact⟨⟨by rw[e2];exact g1.1,by rw[e3];exact g1.2.1,by rw[e3];exact g1.2.2⟩,by rw[e4];exact g2⟩
theorem Lp:∀l:List Node,an GI l->∀n∈l,an GI (aA n):=by
 refine aw (fun _ n h=>by cases h) ?_
 intro n l h1 h2 h x hx;obtain⟨⟨g1,g2⟩,g3⟩:=aL.1 h;rcases zAf.1 hx with rfl|hx
 ·rw[dg]
  split
  ·trivial
  ·split
   ·refine aL.2 ⟨⟨g1,?_⟩,trivial⟩
    have:an GI (aW ((aq x.name x.kids).flatMap aA)):=DG (oE fun y hy=>by
     obtain⟨z,hz,hy⟩:=zBc.1 hy;exact aN.1 (h1 g2 z (zAi.1 hz).1) y hy)
    exact oE fun y hy=>aN.1 this y (zAi.1 hy).1
   ·exact aL.2 ⟨⟨g1,g2⟩,trivial⟩
 ·exact h2 g3 x hx
theorem XQ(A:Constraint->Str->Bool)(p:Policy):∀(l:List Node)(par:Str),an GI l->an GI (clL A p l par):=by
 refine aw (fun _ _=>by simp[clL,an]) ?_
 intro n l h1 h2 par h;obtain⟨⟨g1,g2⟩,g3⟩:=aL.1 h;simp only[clL];refine oF.2 ⟨?_,h2 par g3⟩;rw[ou];split
 ·split
  ·refine aL.2 ⟨⟨⟨g1.1,Nat.le_trans (zDg _ _) g1.2.1,fun a ha=>g1.2.2 a (zAi.1 ha).1⟩,h1 n.name g2⟩,trivial⟩
  ·split
   ·exact h1 par g2
   ·trivial
 ·split
  ·exact aL.2 ⟨⟨⟨by simp,by simp,fun a ha=>by cases ha⟩,trivial⟩,trivial⟩
  ·trivial
theorem yQ{l:List Node}(h:SizeB l):SizeB (cI l) where
 att:=DG (oE fun y hy=>by
  obtain⟨z,hz,hy⟩:=zBc.1 hy;exact aN.1 (Lp _ h.att z hz) y hy)
 cnt:=by
  have g1:=dH (l.flatMap aA) [];have g2:=Dr l;have:=h.cnt;simp only[cI,aW,ai]at *;omega
 wt:=by
  have g1:=uc (l.flatMap aA);have g2:=vb l;have:=h.wt;simp only[cI];omega
 tt:=by
  have g1:=nz (l.flatMap aA);have g2:=Iy l;have:=h.tt;simp only[cI];omega
theorem Xz(A:Constraint->Str->Bool)(p:Policy):∀(l:List Node)(par:Str),ai (clL A p l par)<=ai l:=by
 refine aw (fun _=>by simp[clL,ai]) ?_
 intro n l h1 h2 par;have a1:=h2 par;simp only[clL,c9,ai]
 have:ai (clN A p n par)<=lF n:=by
  rw[ou,wI];split
  ·split
   ·have:=h1 n.name
    simp only[ai,wI];omega
   ·split
    ·have:=h1 par;omega
    ·simp[ai]
  ·split
   ·simp only[ai,wI];omega
   ·simp[ai]
 omega
theorem L4(A:Constraint->Str->Bool)(p:Policy)(par:Str){l:List Node}(h:SizeB l):SizeB (clL A p l par) where
 att:=XQ A p l par h.att
 cnt:=by have:=Xz A p l par;have:=h.cnt;omega
 wt:=by have:=UP A p l par;have:=h.wt;omega
 tt:=by have:=Vv A p l par;have:=h.tt;omega
theorem VP:SizeB []:=⟨trivial,by simp[ai],by simp[bp],by simp[bq]⟩
theorem Bl(A:Constraint->Str->Bool)(p:Policy){l:List Node}(h:SizeB l):SizeB (fX A p l):=by
 unfold fX;split
 ·exact yQ (L4 A p [] h)
 ·exact VP
end Go.Abs.F
end
