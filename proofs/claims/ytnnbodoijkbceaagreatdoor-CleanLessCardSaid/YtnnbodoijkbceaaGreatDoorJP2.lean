/- Plain: where a raw element ends. No condition. -/
import Derived.Test.YtnnbodoijkbceaaGreatDoorJF1
import Derived.Lib.IndexMore
import Derived.Test.YtnnbodoijkbceaaGreatDoorJW2
import Derived.Test.YtnnbodoijkbceaaGreatDoorJP3
import Derived.Test.YtnnbodoijkbceaaGreatDoorJF17
import Derived.Test.YtnnbodoijkbceaaGreatDoorJP1
set_option linter.all false
set_option maxHeartbeats 0
set_option maxRecDepth 100000
open List renaming reduceReplicate→zAa,getElem?_eq_some_iff→zAb,filter_cons→zAc,flatMap_cons→zAd,cons_append→zAe,mem_of_getElem?→zAf,mem_filter→zAh,mem_cons→zAi,map_map→zAj,getElem?_cons_succ→zBa,getElem?_set_ne→zBc,map_cons→zBd,mem_or_eq_of_mem_set→zBe,set_cons_succ→zBf,length_append→zBg,getElem?_set_self→zBh,length_cons→zBj,mem_flatMap→zCa,mem_append→zCb,length_nil→zCc,length_pos_iff→zCd,filter_append→zCe,nil_append→zCf,length_set→zCg,forall_mem_append→zCi,drop_drop→zCj,length_filter_le→zDa,forall_mem_cons→zDc,all_cons→zDd,append_assoc→zDf,getElem?_map→zDg,length_map→zDj,map_set→zEd,length→zEe
open Option renaming not_isSome→zAg,map_eq_some_iff→zBi,map_some→zCh
open Bool renaming and_eq_true→zBb,or_eq_false_iff→zDb,false_eq_true→zDe,eq_iff_iff→zDh,or_eq_true→zDi,false_and→zEa,true_and→zEb
open Nat renaming add_comm→zEc
open Option.some renaming injEq→zEf
open List.cons renaming injEq→zEg
section
namespace Go.Abs.F
open Go.Proofs
def iV:Str->Str->Bool
 |_,[]=>true
 |[],_::_=>false
 |b::s,c::w=>decide (kU b=c)&&iV s w
theorem oD:∀(w s:Str),s.length<w.length->iV s w=false
 |[],s,h=>by simp at h
 |c::w,[],_=>rfl
 |c::w,b::s,h=>by simp only[iV,oD w s (by simpa using h),Bool.and_false]
theorem DO:∀(w s:Str),iV s w=decide ((s.take w.length).map kU=w)
 |[],s=>by cases s<;>simp[iV]
 |c::w,[]=>by simp[iV]
 |c::w,b::s=>by simp[iV,DO w s,Bool.decide_and]
theorem As{b c:UInt8}(hc:¬(97<=c.toNat/\c.toNat<=122))(h:kU b=c):b=c:=by
 unfold kU at h;split at h
 ·rename_i hb
  exfalso;apply hc;rw[<-h,A7 (by omega)]
  omega
 ·exact h
def mZ:Option UInt8->Bool
 |some c=>VD c
 |none=>false
theorem Sm(nm u:Str):Ew nm (60::47::u)=(iV u nm&&mZ u[nm.length]?):=by
 have e1:kU 60=60:=by decide
 have e2:kU 47=47:=by decide
 unfold Ew;rw[zEc 2 nm.length,DO];simp[e1,e2];cases u[nm.length]?<;>rfl
theorem JU(nm s:Str)(h:Lib.occAt s [60,47] 0=false):Ew nm s=false:=by
 unfold Ew;rw[Bool.and_eq_false_iff];left;rw[decide_eq_false_iff_not];intro hh;rw[zEc 2 nm.length]at hh
 match s with
 |[]=>simp at hh
 |[b]=>simp at hh
 |b::c::u=>
   simp only[List.take_succ_cons,zBd,zAe,zCf,zEg]at hh;have h1:=As (by decide) hh.1
   have h2:=As (by decide) hh.2.1
   subst h1 h2;simp[Lib.occAt]at h
theorem pL(nm:Str):∀(m:Nat)(s:Str)(k:Nat),m<=s.length->(∀j,j<m->Lib.occAt s [60,47] j=false)->iP nm k s=iP nm (k+m) (s.drop m)
 |0,s,k,_,_=>by simp
 |m+1,[],k,h,_=>by simp at h
 |m+1,b::t,k,h,ho=>by
   have h0:=JU nm (b::t) (ho 0 (by omega))
   simp only[iP,h0,zDe,if_false,List.drop_succ_cons];rw[pL nm m t (k+1) (by simpa using h) (fun j hj=>by have:=ho (j+1) (by omega);simpa[Lib.occAt]using this)]
   congr 1;omega
theorem JT(nm s:Str)(k:Nat)(h:∀j,j<=s.length->Lib.occAt s [60,47] j=false):iP nm k s=-1:=by
 rw[pL nm s.length s k (Nat.le_refl _) (fun j hj=>h j (by omega)),List.drop_length]
 rfl
theorem Pq(nm u:Str)(k:Nat):iP nm k (60::47::u)=if(iV u nm&&mZ u[nm.length]?)=true then(k:Int)else iP nm (k+2) u:=by
 have h0:Ew nm (47::u)=false:=JU nm _ (by simp[Lib.occAt,List.isPrefixOf])
 rw[iP,Sm,iP,h0];rfl
theorem Ru{s:Str}{i:Nat}(h:Lib.occAt s [60,47] i=true):∃u,s.drop i=60::47::u:=by
 unfold Lib.occAt at h
 match hs:s.drop i with
 |[]=>rw[hs]at h;simp at h
 |[b]=>rw[hs]at h;simp at h
 |b::c::u=>
   rw[hs]at h;simp at h;exact⟨u,by rw[<-h.1,<-h.2]⟩
theorem zT(w:Str)(hw:w≠[]):∀s:Str,zU w s=decide (0<=Lib.index s w)
 |[]=>by
   cases w with
   |nil=>exact(hw rfl).elim
   |cons c w=>simp[zU,kq,Lib.index]
 |b::t=>by
   have ih:=zT w hw t;have hge:=Lib.index_ge t w;have e:Lib.index (b::t) w=if w.isPrefixOf (b::t)then 0 else if Lib.index t w == -1 then -1 else Lib.index t w+1:=rfl
   have hb:kq (b::t) w=w.isPrefixOf (b::t):=by
    rw[zDh];simp only[kq,zBb,decide_eq_true_eq,List.isPrefixOf_iff_prefix];constructor
    ·rintro⟨h1,h2⟩;rw[<-h2];exact List.take_prefix _ _
    ·intro h;exact⟨h.length_le,(List.prefix_iff_eq_take.1 h).symm⟩
   rw[zDh];simp only[zU,ih,hb,zDi,decide_eq_true_eq];rw[e];by_cases h:w.isPrefixOf (b::t)=true
   ·simp[h]
   ·rw[if_neg h]
    by_cases h1:Lib.index t w=-1
    ·simp[h,h1]
    ·rw[if_neg (by simpa using h1)]
     have:0<=Lib.index t w:=by omega
     simp[this];omega
end Go.Abs.F
end
section
namespace Go.Abs.F
open Go.Proofs
attribute [-simp] getElem?_pos zAg zAj
theorem JH(b:UInt8):Fn Tryz.prog wJ [.int .u8 b.toNat] (.int .u8 (kU b).toNat):=by
 refine yoB wO fun ho=>?_;simp only[oks,ok,and_true]at ho;have hb:=b.toNat_lt;by_cases h:65<=b.toNat/\b.toNat<=90
 ·have e:(kU b).toNat=b.toNat+32:=by simp[kU,h,A7 (show b.toNat+32<256 by omega)]
  rw[e];simp(disch:=omega) [-zAa,h]
  repeat' (first|(refine BrKd.mk (fun h=>?_) (fun h=>?_)<;>simp(disch:=omega) [*])|(refine BrK.mk (fun h=>?_) (fun h=>?_)<;>simp(disch:=omega) [*]))
  all_goals omega
 ·have e:kU b=b:=by simp only[kU,if_neg h]
  rw[e];simp(disch:=omega) [-zAa]
  repeat' (first|(refine BrKd.mk (fun h=>?_) (fun h=>?_)<;>simp(disch:=omega) [*])|(refine BrK.mk (fun h=>?_) (fun h=>?_)<;>simp(disch:=omega) [*]))
  all_goals omega
theorem GD(s w:Str):Fn Tryz.prog tM [.str s,.str w] (.bool (iV s w)):=by
 refine yoB tZ fun ho=>?_;simp only[oks,ok,and_true]at ho;obtain⟨ho1,ho2⟩:=ho;generalize hr:iV s w=r;simp(disch:=omega) [-zAa];refine BrKd.mk (fun h=>?_) (fun h=>?_)
 ·simp(disch:=omega) [-zAa,h]
  rw[<-hr,oD w s (by omega)]
 ·simp(disch:=omega) [-zAa,h]
  refine au (fun k:Nat=>⟨[(0,.str s),(1,.str w),(12,.int .i64 w.length),(13,.int .i64 k)],[]⟩) (fun k=>k<=w.length/\iV (s.drop k) (w.drop k)=r) (fun k=>w.length-k) [] _ 0 rfl (by simp) (by simp[hr]) ?_
  rintro k ⟨hk,hi⟩ N hN;rcases place w k hk with⟨he,hd⟩|⟨hlt,x,hx,hd⟩
  ·rw[hd]at hi
   simp(disch:=omega) [-zAa,he];cases hs:s.drop k<;>simpa[hs,iV]using hi
  ·obtain⟨y,hy⟩:=bq (l:=s) (k:=k) (by omega)
   have hds:s.drop k=y::s.drop (k+1):=by
    rw[List.drop_eq_getElem_cons (by omega)]
    have:s[k]?=some (s[k]'(by omega)):=List.getElem?_eq_getElem _
    rw[this]at hy;cases hy;rfl
   rw[hd,hds]at hi;simp only[iV]at hi;replace hi:=hid hi;simp(disch:=omega) [-zAa,hx,hy];refine aI (JH y) rfl ?_;simp(disch:=omega) [-zAa,hx,hy];refine BrKd.mk (fun h=>?_) (fun h=>?_)
   ·simp(disch:=omega) [-zAa,h]
    have hi:=hi.out;have:kU y=x:=by apply UInt8.toNat_inj.1;omega
    refine hN.out _<|Nx.mk (k+1) (by simp) ⟨by omega,by simpa[this]using hi⟩ (by omega)
   ·have:¬kU y=x:=by intro h';rw[h']at h;simp at h
    simp(disch:=omega) [-zAa,h];have hi:=hi.out;simpa[this]using hi
theorem C2(b:UInt8):Fn Tryz.prog ri [.int .i32 b.toNat] (.bool (SQ b)):=by
 refine yoB rm fun ho=>?_;simp only[oks,ok,and_true]at ho;have hb:=b.toNat_lt;simp(disch:=omega) [-zAa,SQ]
 repeat' (first|(refine BrKd.mk (fun h=>?_) (fun h=>?_)<;>simp(disch:=omega) [*])|(refine BrK.mk (fun h=>?_) (fun h=>?_)<;>simp(disch:=omega) [*]))
theorem Ay(s:Str)(hs:s.length<=1000000000):Fn Tryz.prog RA [.str s] (.bool (right s)):=by
 refine yoA R1 ?_;rw[Oh];simp(disch:=omega) [-zAa,isU];refine ah (sQ s (by omega)) rfl fun _=>?_
 simp(disch:=omega) [-zAa];refine BrK.mk (fun h=>?_) (fun h=>?_)
 ·simp(disch:=omega) [-zAa,h]
  generalize hr:((dy s).all fun r=>!decide (r=0)&& !decide (r=13))=R;refine au (fun k:Nat=>⟨[(9,.ref 0 0)],[some (.itr s k)]⟩) (fun k=>k<=s.length/\((dy (s.drop k)).all fun r=>!decide (r=0)&& !decide (r=13))=R) (fun k=>s.length-k) [] _ 0 rfl (by simp) (by simp[hr]) ?_
  rintro k ⟨hk,hi⟩ N hN;by_cases hlt:k<s.length
  ·have hdo:=Sv s k hlt
   obtain⟨b,t,hd⟩:∃b t,s.drop k=b::t:=by
    cases hd:s.drop k with
    |nil=>have:=congrArg zEe hd;simp at this;omega
    |cons b t=>exact⟨b,t,rfl⟩
   rw[hd]at hdo hi;rw[gy,<-hdo,<-hd,zCj]at hi;have hor:=gB (b::t);have hlen:=hor.2.2.1 (by simp)
   rw[<-hdo]at hor hlen;have hlen2:(b::t).length=s.length-k:=by rw[<-hd];simp
   simp only[zDd]at hi;replace hi:=hid hi;clear hdo;simp(disch:=omega) [-zAa,hlt]
   repeat' (first|(refine BrKd.mk (fun h=>?_) (fun h=>?_)<;>simp(disch:=omega) [*])|(refine BrK.mk (fun h=>?_) (fun h=>?_)<;>simp(disch:=omega) [*]))
   all_goals first
    |omega
    |(refine hN.out _<|Nx.mk (k+(uI s k).2) (by simp[*]) ⟨by omega,?_⟩ (by omega);have hi:=hi.out;simpa(disch:=omega) [*]using hi)
    |(have hi:=hi.out;simpa(disch:=omega) [*]using hi)
  ·have hkl:k=s.length:=by omega
   subst hkl;simp(disch:=omega) [-zAa];simpa[dy,gz]using hi
 ·simp(disch:=omega) [-zAa,h]
theorem GE(s nm:Str)(hs:s.length<=1000000000)(hn:nm.length<=1000000):Fn Tryz.prog tP [.str s,.str nm] (.int .i64 (ends s nm)):=by
 refine yoA t8 ?_;simp(disch:=omega) [-zAa];generalize hr:ends s nm=r;refine au (fun k:Nat=>⟨[(0,.str s),(1,.str nm),(5,.int .i64 k)],[]⟩) (fun k=>k<=s.length/\iP nm k (s.drop k)=r) (fun k=>s.length-k) [] _ 0 rfl (by simp) (by simp[<-hr,ends]) ?_
 rintro k ⟨hk,hi⟩ N hN;have tk:∀i,(s.drop i).take (s.length-i)=s.drop i:=fun i=>List.take_of_length_le (by simp)
 simp(disch:=omega) [-zAa,hk,tk];have hsl:(s.drop k).length<4294967281:=by simp;omega
 refine ah (nD (s.drop k) [60,47] hsl) rfl fun _=>?_;rcases Lib.index_spec (s.drop k) [60,47]with⟨e,hno⟩|⟨j,e,hj,hocc,hno⟩
 ·rw[JT nm _ _ hno]at hi
  simp(disch:=omega) [-zAa,e,hi]
 ·obtain⟨u,hu⟩:=Ru hocc
  have hu':s.drop (k+j)=60::47::u:=by rw[<-zCj];exact hu
  have hu2:s.drop (k+j+2)=u:=by rw[<-zCj,hu'];rfl
  have hlen:u.length+2=s.length-(k+j):=by have:=congrArg zEe hu';simpa using this.symm
  rw[pL nm j _ k hj hno,hu,Pq]at hi;have no:(iV u nm&&mZ u[nm.length]?)=false->iP nm (k+j+2) (s.drop (k+j+2))=r:=fun h=>by rw[if_neg (by rw[h];exact Bool.false_ne_true)]at hi;rw[hu2];exact hi
  have yes:(iV u nm&&mZ u[nm.length]?)=true->r=(k:Int)+j:=fun h=>by rw[if_pos h]at hi;rw[<-hi];simp
  replace no:=hid no;replace yes:=hid yes;clear hi;have hul:s.length-(k+j+2)=u.length:=by omega
  have hc1:((k:Int)+(j:Int)+2).toNat=k+j+2:=by omega
  have hc2:(k:Int)+(j:Int)+2<=s.length:=by omega
  have hc3:k+j+2<=s.length:=by omega
  simp(disch:=omega) [-zAa,e,hc1,hc2,hc3,hu2,tk,hul];refine BrKd.mk (fun h=>?_) (fun h=>?_)
  ·simp(disch:=omega) [-zAa,h]
   refine hN.out _<|Nx.mk (k+j+2) (by simp) ⟨by omega,no.out ?_⟩ (by omega)
   have:u[nm.length]?=none:=by rw[List.getElem?_eq_none_iff];omega
   simp[this,mZ]
  ·simp(disch:=omega) [-zAa,h]
   refine ah (GD u nm) rfl fun _=>?_;simp(disch:=omega) [-zAa,h];refine BrK.mk (fun h2=>?_) (fun h2=>?_)
   ·simp(disch:=omega) [-zAa,h2]
    have hlt:nm.length<u.length:=by
     by_cases h3:u.length<nm.length
     ·rw[oD nm u h3]at h2;cases h2
     ·omega
    obtain⟨c,hc⟩:=bq (l:=u) (k:=nm.length) hlt;have hcb:=c.toNat_lt;simp(disch:=omega) [-zAa,hc];refine ah (C2 c) rfl fun _=>?_;simp(disch:=omega) [-zAa]
    repeat' (first
     |(refine BrKd.mk (fun h=>?_) (fun h=>?_)<;>simp(disch:=omega) [*])
     |(refine BrK.mk (fun h=>?_) (fun h=>?_)<;>simp(disch:=omega) [*]))
    all_goals first
     |(refine hN.out _<|Nx.mk (k+j+2) (by simp) ⟨by omega,no.out ?_⟩ (by omega);simp_all[mZ,VD];done)
     |(rw[yes.out ?_];simp_all[mZ,VD];done)
   ·simp(disch:=omega) [-zAa,h2]
    refine hN.out _<|Nx.mk (k+j+2) (by simp) ⟨by omega,no.out ?_⟩ (by omega)
    simp[h2]
theorem vS(s:Str)(hs:s.length<=1000000000):Fn Tryz.prog vC [.str s] (.bool (eo s)):=by
 refine yoA vL ?_;simp(disch:=omega) [-zAa];generalize hr:eo s=r;refine au (fun k:Nat=>⟨[(0,.str s),(6,.int .i64 s.length),(7,.int .i64 k)],[]⟩) (fun k=>k<=s.length/\((s.drop k).all (fun b=>!ez b)&&(decide (dN s=s)&&decide (0<s.length)))=r) (fun k=>s.length-k) [] _ 0 rfl (by simp) (by simp[<-hr,eo]) ?_
 rintro k ⟨hk,hi⟩ N hN;rcases place s k hk with⟨he,hd⟩|⟨hlt,x,hx,hd⟩<;>rw[hd]at hi<;>replace hi:=hid hi
 ·simp(disch:=omega) [-zAa,he]
  refine BrKd.mk (fun h=>?_) (fun h=>?_)
  ·have hp:s=[]:=by simpa using h
   subst hp;simp(disch:=omega) [-zAa];have hi:=hi.out;simpa using hi
  ·simp(disch:=omega) [-zAa,h]
   refine ah (Ay s hs) rfl fun _=>?_;have hi:=hi.out;have hp:0<s.length:=zCd.2 (by simpa using h)
   simp(disch:=omega) [-zAa,right];simpa[hp]using hi
 ·have hb:=x.toNat_lt
  simp only[zDd]at hi;simp(disch:=omega) [-zAa,hx]
  repeat' (first
   |(refine BrKd.mk (fun h=>?_) (fun h=>?_)<;>simp(disch:=omega) [*])
   |(refine BrK.mk (fun h=>?_) (fun h=>?_)<;>simp(disch:=omega) [*]))
  all_goals first
   |omega
   |(refine hN.out _<|Nx.mk (k+1) (by simp[*]) ⟨by omega,?_⟩ (by omega);have hi:=hi.out;simpa(disch:=omega) [ez,decide_eq_true,decide_eq_false, *]using hi)
   |(have hi:=hi.out;simpa(disch:=omega) [ez,decide_eq_true,decide_eq_false, *]using hi)
def l5:Nat->List Attr->List (V×V)
 |_,[]=>[]
 |i,a::l=>(.str a.name,.int .i64 i)::l5 (i+1) l
theorem ym(s t:Str):eqK (.str s) (.str t)=decide (s=t):=by simp[eqK,cl,vT,eqC]
theorem qv(s:Str):∀(l:List Attr)(i:Nat),(sy (.str s) (l5 i l)).isSome=gn l s
 |[],i=>rfl
 |a::l,i=>by
   simp only[l5,sy,ym,decide_eq_true_eq,gn];by_cases h:s=a.name
   ·rw[if_pos h,if_pos h.symm];rfl
   ·rw[if_neg h,if_neg (fun e=>h e.symm)];exact qv s l (i+1)
theorem qt(s:Str)(u:V):∀(l:List Attr)(i:Nat),gn l s=false->nU (.str s) u (l5 i l)=l5 i l++[(.str s,u)]
 |[],i,_=>rfl
 |a::l,i,h=>by
   simp only[gn]at h;have h':¬a.name=s:=by intro e;rw[if_pos e]at h;cases h
   rw[if_neg h']at h;simp only[l5,nU,ym,decide_eq_true_eq];rw[if_neg (fun e=>h' e.symm),qt s u l (i+1) h];rfl
theorem Ev(a:Attr):∀(l:List Attr)(i:Nat),l5 i (l++[a])=l5 i l++[(.str a.name,.int .i64 (i+l.length:Nat))]
 |[],i=>by simp[l5]
 |b::l,i=>by
   simp only[zAe,l5,Ev a l (i+1),zBj];congr 5;omega
abbrev ktS1:KT:=⟨false,[.s]⟩
theorem De(n:Node)(hf:fine1 n)(ht:n.text=[]):Fn Tryz.prog BO [.sptr n.v 0] (.int .i64 (pM n)):=by
 refine yoA Cp ?_;obtain⟨h1,h2,h3,h4⟩:=hf;simp(disch:=omega) [-zAa,pM,ht];refine ah (pG n.name) rfl fun _=>?_;simp(disch:=omega) [-zAa];refine BrK.mk (fun hn=>?_) (fun hn=>?_)
 ·simp(disch:=omega) [-zAa,hn]
  generalize hD:pO [] n.attrs=D;have hDc:=AK n.attrs [];rw[hD]at hDc
  refine au (fun(k:Nat)=>⟨[(0,.sptr n.v 0),(3,.ref 0 0),(20,.seq 2 (n.attrs.map Attr.v)),(21,.int .i64 n.attrs.length),(22,.int .i64 k)],[some (.mp ktS1 (l5 0 (n.attrs.take k)))]⟩)
   (fun k=>k<=n.attrs.length/\pO (n.attrs.take k) (n.attrs.drop k)=D) (fun k=>n.attrs.length-k) [] _ 0 rfl (by simp[ht,l5]) (by simp[hD]) ?_
  rintro k ⟨hk,hi⟩ N hN;rcases place n.attrs k hk with⟨he,hd⟩|⟨hlt,x,hx,hd⟩<;>rw[hd]at hi
  ·simp only[pO]at hi
   subst hi;simp(disch:=omega) [-zAa,he];generalize hV:fK n.attrs=R
   refine au (fun(k:Nat)=>⟨[(47,.seq 2 (n.attrs.map Attr.v)),(48,.int .i64 n.attrs.length),(49,.int .i64 k)],[]⟩)
    (fun k=>k<=n.attrs.length/\fK (n.attrs.drop k)=R) (fun k=>n.attrs.length-k) [] _ 0 rfl (by simp) (by simp[hV]) ?_
   clear hk hN;rintro k ⟨hk,hi⟩ N hN;rcases place n.attrs k hk with⟨he,hd⟩|⟨hlt,x,hx,hd⟩<;>rw[hd]at hi
   ·simp only[fK]at hi
    subst hi;simp(disch:=omega) [-zAa,he]
   ·obtain⟨g1,g2⟩:=h4 x (zAf hx)
    simp only[fK]at hi;replace hi:=hid hi;simp(disch:=omega) [-zAa,hx];refine ah (Ay x.value (by omega)) rfl fun _=>?_
    simp(disch:=omega) [-zAa];refine BrK.mk (fun h=>?_) (fun h=>?_)
    ·simp(disch:=omega) [-zAa,h]
     have hi:=hi.out;refine hN.out _<|Nx.mk (k+1) (by simp) ⟨by omega,?_⟩ (by omega)
     simpa[h]using hi
    ·simp(disch:=omega) [-zAa,h]
     have hi:=hi.out;simp[h]at hi;simp[<-hi]
  ·obtain⟨g1,g2⟩:=h4 x (zAf hx)
   simp only[pO]at hi;replace hi:=hid hi;simp(disch:=omega) [-zAa,hx];refine ah (vS x.name (by omega)) rfl fun _=>?_
   simp(disch:=omega) [-zAa];refine BrK.mk (fun h=>?_) (fun h=>?_)
   ·have hi:=hi.out
    rw[if_pos h]at hi;replace hi:=hid hi;have hg:=qv x.name (n.attrs.take k) 0;by_cases hh:gn (n.attrs.take k) x.name=true
    ·rw[hh]at hg
     obtain⟨v,hv⟩:=Option.isSome_iff_exists.1 hg;have hi:=hi.out;rw[if_pos hh]at hi;subst hi;simp(disch:=omega) [-zAa,h,hv]
    ·have hh':gn (n.attrs.take k) x.name=false:=by simpa using hh
     rw[hh']at hg;have hv:sy (.str x.name) (l5 0 (n.attrs.take k))=none:=by simpa using hg
     have hi:=hi.out;rw[if_neg hh]at hi;replace hi:=hid hi;have hkl:(n.attrs.take k).length=k:=by rw[List.length_take];omega
     have hp:=qt x.name (.int .i64 k) (n.attrs.take k) 0 hh';have hs:=Ev x (n.attrs.take k) 0;rw[hkl,Nat.zero_add,<-hp,<-c5 hx]at hs;simp(disch:=omega) [-zAa,h,hv,<-hs];refine hN.out _<|Nx.mk (k+1) (by simp) ⟨by omega,?_⟩ (by omega)
     rw[c5 hx];exact hi.out
   ·have hi:=hi.out
    rw[if_neg (by simp[h])]at hi
    subst hi;simp(disch:=omega) [-zAa,h]
 ·simp(disch:=omega) [-zAa,hn]
theorem JN(n:Node)(b:Bool)(hf:fine1 n):Fn Tryz.prog Ix [.sptr n.v 0,.bool b] (.int .i64 (qJ n b)):=by
 refine yoA I1 ?_;have hla:0<n.attrs.length↔¬n.attrs=[]:=by rw[zCd]
 have hlk:0<n.kids.length↔¬n.kids=[]:=by rw[zCd]
 have hf2:=hf.2.1;by_cases h1:n.kind=1
 ·by_cases ht:n.text=[]
  ·simp(disch:=omega) [-zAa,qJ,h1,ht]
   refine ah (by simpa[ht,h1]using De n hf ht) rfl fun _=>?_
   simp(disch:=omega) [-zAa]
  ·simp(disch:=omega) [-zAa,qJ,h1,ht,pM]
 ·have hU:=Ay n.text (by omega)
  simp only[qJ,if_neg h1];generalize right n.text=R at hU⊢;simp(disch:=omega) [-zAa,h1]
  cases R<;>repeat' (first
   |(refine BrKd.mk (fun h=>?_) (fun h=>?_)<;>simp(disch:=omega) [hla,hlk, *])
   |(refine BrK.mk (fun h=>?_) (fun h=>?_)<;>simp(disch:=omega) [hla,hlk, *])
   |(refine ah hU rfl (fun _=>?_)<;>simp(disch:=omega) [hla,hlk, *]))
theorem L5(t:List Node×Nat->Bool):∀(l:List Node)(more:List (List Node×Nat))(deep:Nat),aj l+deep<1000->
 FnH Tryz.prog mJ [2] [.seq 5 (l.map Node.v),.int .i64 deep,.ref 0 0] [some (.gh (fC itV t (itL l l 0++more)))] (.bool ((itL l l 0).all t)) [some (.gh (if(itL l l 0).all t then fC itV t more else[]))]:=by
 have key:∀l:List Node,(∀n∈l,∀(more:List (List Node×Nat))(deep:Nat),aj n.kids+deep<1000->
  FnH Tryz.prog mJ [2] [.seq 5 (n.kids.map Node.v),.int .i64 deep,.ref 0 0] [some (.gh (fC itV t (itL n.kids n.kids 0++more)))] (.bool ((itL n.kids n.kids 0).all t)) [some (.gh (if(itL n.kids n.kids 0).all t then fC itV t more else[]))])->
  ∀(more:List (List Node×Nat))(deep:Nat),aj l+deep<1000->
  FnH Tryz.prog mJ [2] [.seq 5 (l.map Node.v),.int .i64 deep,.ref 0 0] [some (.gh (fC itV t (itL l l 0++more)))] (.bool ((itL l l 0).all t)) [some (.gh (if(itL l l 0).all t then fC itV t more else[]))]:=by
  intro l hrec more deep hdeep;refine FnH.of_image mixed Lt.1 Lt.2 rfl fun ho hh=>?_;have hlen:l.length<=140737488355328:=by have:=ho.1.1;simpa using this
  clear ho hh;have hd0:¬deep=1000:=by omega
  simp(disch:=omega) [-zAa,hd0];generalize hR:(itL l l 0).all t=R
  refine au (fun(k:Nat)=>⟨[(0,.seq 5 (l.map Node.v)),(1,.int .i64 deep),(2,.ref 0 0),(14,.int .i64 l.length),(15,.int .i64 k)],[some (.gh (fC itV t (itL l (l.drop k) k++more)))]⟩)
   (fun k=>k<=l.length/\(itL l (l.drop k) k).all t=R) (fun k=>l.length-k) [] _ 0 rfl (by simp) (by simp[hR]) ?_
  rintro k ⟨hk,hi⟩ N hN;rcases place l k hk with⟨he,hd⟩|⟨hlt,x,hx,hd⟩<;>rw[hd]at hi
  ·simp only[itL,List.all_nil]at hi
   subst hi;have e:l.drop k++[]=[]:=by simp[hd]
   simp(disch:=omega) [-zAa,he,itL]
  ·have hxm:=zAf hx
   have hcn:=uK hxm;have hrx:=hrec x hxm (itL l (l.drop (k+1)) (k+1)++more) (deep+1) (by omega)
   simp only[itL,zDd,List.all_append,zx]at hi;replace hi:=hid hi;rw[hd];simp only[itL,zx,zAe,zDf];by_cases ht:t (l,k)=true
   ·rw[fC,if_pos ht]
    generalize hG:fC itV t (itL x.kids x.kids 0++(itL l (l.drop (k+1)) (k+1)++more))=G at hrx⊢;simp(disch:=omega) [-zAa,itV,hx];rw[show((deep+1:Nat):Int)=(deep:Int)+1 by omega]at hrx
    refine ar [2] 1 [0] (by simp) (by simp) (by simp) (by simp) hrx (by simp) fun _ _=>?_
    by_cases ha:(itL x.kids x.kids 0).all t=true
    ·rw[ha]
     simp(disch:=omega) [-zAa,hx];have hi:=hi.out;rw[ht,ha]at hi;refine hN.out _<|Nx.mk (k+1) (by simp) ⟨by omega,by simpa using hi⟩ (by omega)
    ·have ha':(itL x.kids x.kids 0).all t=false:=by simpa using ha
     have hi:=hi.out;rw[ht,ha']at hi;simp only[zEb,zEa]at hi;subst hi;rw[ha'];simp(disch:=omega) [-zAa,hx]
   ·rw[fC,if_neg ht]
    have hi:=hi.out;have ht':t (l,k)=false:=by simpa using ht
    rw[ht']at hi;simp only[zEa]at hi;subst hi;simp(disch:=omega) [-zAa,itV]
 have all:∀l:List Node,∀n∈l,∀(more:List (List Node×Nat))(deep:Nat),aj n.kids+deep<1000->
  FnH Tryz.prog mJ [2] [.seq 5 (n.kids.map Node.v),.int .i64 deep,.ref 0 0] [some (.gh (fC itV t (itL n.kids n.kids 0++more)))] (.bool ((itL n.kids n.kids 0).all t)) [some (.gh (if(itL n.kids n.kids 0).all t then fC itV t more else[]))]:=by
  refine ax (fun x hx=>by cases hx) ?_
  intro n l h1 h2 x hx;rcases zAi.1 hx with rfl|hx
  ·exact key _ h1
  ·exact h2 x hx
 exact fun l=>key l (all l)
theorem uB(t:List Node×Nat->Bool)(l:List Node)(hc:aj l<1000):
 FnH Tryz.prog jt [0] [.ref 0 0,.ptr 1 0] [some (.gh (fC itV t (itL l l 0))),some (.box [.seq 5 (l.map Node.v)])] (.tup []) [some (.gh [])]:=by
 refine yoH FZ ?_;have hw:=L5 t l [] 0 (by omega)
 rw[List.append_nil]at hw;have e:(if(itL l l 0).all t=true then fC itV t []else[])=[]:=by split<;>rfl
 rw[e]at hw;generalize fC itV t (itL l l 0)=G at hw⊢;simp(disch:=omega) [-zAa];refine ar [2] 1 [0] (by simp) (by simp) (by simp) (by simp) hw (by simp) fun _ _=>?_
 simp(disch:=omega) [-zAa]
theorem AI(l:List Node):FnH Tryz.prog Lc [] [.seq 5 (l.map Node.v)] [] (.fn (.func jt) [] [.ptr 0 0]) [some (.box [.seq 5 (l.map Node.v)])]:=by
 refine yoH Lu ?_;simp(disch:=omega) [-zAa]
theorem s5{st:Nat->St}{stx:St}{ks:List Nat}{i:Nat}{b:Bool}{τ:St}(hb:b=true)(h:τ.nrm ks=st (i+1)):Ki st stx ks i b .norm τ:=⟨hb,[],τ,rfl,h⟩
theorem EI{st:Nat->St}{stx:St}{ks:List Nat}{i:Nat}{b:Bool}{τ:St}(hb:b=false)(h:τ.nrm ks=stx):Ki st stx ks i b .ret τ:=⟨hb,[],τ,rfl,h⟩
def RI(x:List Node×Nat):Bool:=decide (lZ x=0)
theorem Pe(l:List Node)(hf:an fine1 l)(hc:aj l<1000):Fn Tryz.prog Oy [.seq 5 (l.map Node.v)] (.int .i64 (may l)):=by
 refine FnE.fn ?_;refine FnE.of_rng mixed Tryz.func31 O1 rfl (full:=fC itV RI (itL l l 0)) (st:=fun _=>⟨[(2,.ptr 0 0)],[some (.box [.int .i64 0])]⟩) (stx:=⟨[(2,.ptr 0 0)],[some (.box [.int .i64 (may l)])]⟩) ?_ ?_ ?_ ?_ ?_ ?_
 ·intro i us b h
  obtain⟨x,h1,h2,h3,h4⟩:=pP _ _ _ _ _ _ h;simp only[itV,V.tup.injEq]at h2;subst h2;rfl
 ·exact fun i v h=>vW _ _ _ _ _ h
 ·intro ho
  clear ho;unfold ma;simp only[xv];simp(disch:=omega) [-zAa,ent];refine ar [] 0 [] (by simp) (by simp) (by simp) (by simp) (AI l) (by simp) fun _ _=>?_
  simp(disch:=omega) [-zAa,MD];exact⟨jt,1,⟨rfl,rfl⟩,_,rfl,_,by simp,rfl,enters_of Tryz.func77 (by kernel_rfl) rfl,uB RI l hc⟩
 ·intro i us b h
  obtain⟨x,h1,h2,h3,h4⟩:=pP _ _ _ _ _ _ h;simp only[itV,V.tup.injEq]at h2;subst h2;unfold ma;obtain⟨n,hn,hfn,hrl⟩:=Nl (m:=1000) l l 0 rfl hf (by omega) x (zAf h1)
  obtain⟨row,j⟩:=x;simp only at hn hrl;have hj:j<row.length:=(zAb.1 hn).1;have herr:lZ (row,j)=qJ n (gr row j):=by simp[lZ,hn]
  have hmay:¬qJ n (gr row j)=0->may l=qJ n (gr row j):=by
   intro hx;rw[<-herr]at hx⊢;have:=En _ _ _ h1 h4 hx;rw[Au l l 0 rfl]at this;simpa[may,gr]using this
  have hb:b=decide (qJ n (gr row j)=0):=by rw[h3,RI,herr]
  have hck:=JN n (gr row j) hfn;clear h h3 h4 herr h1;by_cases hj0:0<j
  ·obtain⟨m,hm⟩:=bq (l:=row) (k:=j-1) (by omega)
   have e:((j:Int)-1).toNat=j-1:=by omega
   have hpv:gr row j=decide (m.kind=2):=by simp[gr,hj0,hm]
   generalize gr row j=pv at *;simp(disch:=omega) [-zAa,xw,hj0,e,hm,hn,<-hpv];refine ah (by simpa using hck) rfl fun _=>?_
   simp(disch:=omega) [-zAa];refine BrKd.mk (fun h=>?_) (fun h=>?_)
   ·simp(disch:=omega) [-zAa,h]
    exact s5 (by rw[hb,h];rfl) rfl
   ·simp(disch:=omega) [-zAa,h]
    exact EI (by rw[hb];simp[h]) (by rw[hmay h];rfl)
  ·have hpv:gr row j=false:=by simp[gr,hj0]
   rw[hpv]at hck hb hmay;simp(disch:=omega) [-zAa,xw,hj0,hn];refine ah (by simpa using hck) rfl fun _=>?_
   simp(disch:=omega) [-zAa];refine BrKd.mk (fun h=>?_) (fun h=>?_)
   ·simp(disch:=omega) [-zAa,h]
    exact s5 (by rw[hb,h];rfl) rfl
   ·simp(disch:=omega) [-zAa,h]
    exact EI (by rw[hb];simp[h]) (by rw[hmay h];rfl)
 ·intro h
  unfold ma
  have h0:may l=0:=by
   have:=(AP itV RI (itL l l 0)).1 h;rw[show(itL l l 0).all RI=(itL l l 0).all fun x=>decide (lZ x=0)from rfl,Av,Au l l 0 rfl]at this
   simpa[may,gr]using this
  rw[h0];simp only[xv];simp(disch:=omega) [-zAa];exact⟨by simp(disch:=omega) [-zAa],rfl⟩
 ·intro h
  exact⟨by simp(disch:=omega) [-zAa,ma],rfl⟩
attribute [simp] IH vE S3 S4 HA Wx KB aV
def EZ(l:List Str):V:=.seq 1 (l.map .str)
def clM:List (V×V):=[(.str [112],EZ (bp [112])),(.str [108,105],EZ (bp [108,105])),(.str [100,116],EZ (bp [100,116])),(.str [100,100],EZ (bp [100,100])),(.str [111,112,116,105,111,110],EZ (bp [111,112,116,105,111,110])),(.str [116,100],EZ (bp [116,100])),(.str [116,114],EZ (bp [116,114]))]
theorem x5:FnH Tryz.prog nl [] [] [] (.ref 0 0) [some (.mp ktS1 clM)]:=by
 refine yoH ns ?_;simp(disch:=omega) [-zAa,nU,ym,bI,kOf,aQ,a8,gk];rfl
theorem VN(o:Str):sy (.str o) clM=if bp o=[]then none else some (EZ (bp o)):=by
 simp only[clM,sy,ym,decide_eq_true_eq];by_cases h1:o=[112]
 ·subst h1;rfl
 by_cases h2:o=[108,105]
 ·subst h2;rfl
 by_cases h3:o=[100,116]
 ·subst h3;rfl
 by_cases h4:o=[100,100]
 ·subst h4;rfl
 by_cases h5:o=[111,112,116,105,111,110]
 ·subst h5;rfl
 by_cases h6:o=[116,100]
 ·subst h6;rfl
 by_cases h7:o=[116,114]
 ·subst h7;rfl
 ·simp[bp,h1,h2,h3,h4,h5,h6,h7]
theorem AF(o b:Str):Fn Tryz.prog oQ [.str o,.str b] (.bool (lz o b)):=by
 refine yoE pf ?_;simp(disch:=omega) [-zAa];refine ar [] 0 [] (by simp) (by simp) (by simp) (by simp) x5 (by simp) fun _ _=>?_
 have hg:=VN o;by_cases he:bp o=[]
 ·rw[if_pos he]at hg
  simp(disch:=omega) [-zAa,hg,bI,kOf,aQ,a8,gk];have hc:=f_slices_Contains_string [] b;refine ah (by simpa using hc) rfl fun _=>?_
  simp(disch:=omega) [-zAa,lz,he]
 ·rw[if_neg he]at hg
  simp(disch:=omega) [-zAa,hg,bI,kOf,aQ,a8,gk,EZ];refine ah (f_slices_Contains_string (bp o) b) rfl fun _=>?_;simp(disch:=omega) [-zAa,lz]
theorem uz(par:Str)(n:Node)(hp:par.length<=1000000)(ht:n.text.length<=100000000):Fn Tryz.prog Fm [.str par,n.v] (.bool (cJ par n)):=by
 refine yoA FY ?_;simp(disch:=omega) [-zAa,cJ];refine ah (L6 par) rfl fun _=>?_;simp(disch:=omega) [-zAa];refine BrK.mk (fun h1=>?_) (fun h1=>?_)
 ·simp(disch:=omega) [-zAa,h1]
 ·simp(disch:=omega) [-zAa,h1]
  refine ah (Es par) rfl fun _=>?_;simp(disch:=omega) [-zAa];refine BrK.mk (fun h2=>?_) (fun h2=>?_)
  ·simp(disch:=omega) [-zAa,h2]
   refine BrKd.mk (fun hk=>?_) (fun hk=>?_)
   ·simp(disch:=omega) [-zAa,hk]
    have e:n.text++[60,47]++par++[62]=n.text++60::47::(par++[62]):=by simp
    have hE:=GE (n.text++[60,47]++par++[62]) par (by simp;omega) hp
    rw[e]at hE;refine aI hE rfl ?_;simp(disch:=omega) [-zAa,hk]
   ·simp(disch:=omega) [-zAa,hk]
  ·simp(disch:=omega) [-zAa,h2]
   refine BrKd.mk (fun h3=>?_) (fun h3=>?_)
   ·simp(disch:=omega) [-zAa,h3]
    refine ah (AF par n.name) rfl fun _=>?_;simp(disch:=omega) [-zAa,h3]
   ·simp(disch:=omega) [-zAa,h3]
def b9(par:Str)(n:Node):Bool:=cJ par n&&(!decide (n.kind=3)|| !zU vc n.text)
def Re(of:Str)(row:List Node):Bool:=!(raw of&&decide (1<row.length))&&row.all (b9 of)
mutual
def subS:Node->Bool
 |⟨_,nm,_,_,ks⟩=>Re nm ks&&XG ks
def XG:List Node->Bool
 |[]=>true
 |n::l=>subS n&&XG l
end
def PL(x:Str×List Node):Bool:=Re x.1 x.2&&XG x.2
end Go.Abs.F
end
section
namespace Go.Abs.F
open Go.Proofs
attribute [-simp] getElem?_pos zAg zAj
theorem Dq{Φ:Ctr}{σ:St}{ks:List Nat}{a b:OT}{Q:Ex->St->Prop}(S:St)(h:∀Q:Ex->St->Prop,Q .norm S->vk Φ a b (Ox Q ks) σ)(k:Q .norm S):vk Φ a b (Ox Q ks) σ:=h Q k
end Go.Abs.F
end
section
namespace Go.Abs.F
open Go.Proofs
attribute [-simp] getElem?_pos zAg zAj
end Go.Abs.F
end
section
namespace Go.Abs.F
open Go.Proofs
attribute [-simp] getElem?_pos zAg zAj
theorem mA:∀(l out:List Rule)(i:Nat),(∀r∈out,∃c,r.value=good12 c)->∀r∈gJ i out l,∃c,r.value=good12 c
 |[],out,i,h=>by simpa[gJ]using h
 |x::l,out,i,h=>by
   simp only[gJ];split
   ·exact mA l out _ h
   ·refine mA l _ _ fun r hr=>?_
    rcases zCb.1 hr with hr|hr
    ·exact h r hr
    ·simp at hr;subst hr
     unfold ip;split<;>exact⟨_,rfl⟩
def shp(n:Node):Prop:=(n.kind=1->named n.name=true)/\(n.kind≠1->n.kids=[])
def iI(els:List Allowed)(l:List Str):Prop:=∀s∈l,s=kT\/s=dA\/(aW els s).isSome=true
def gV(p:Policy):Prop:=iI p.elements p.top/\∀e∈p.elements,iI p.elements e.kids
theorem Aw{l:List Allowed}{s:Str}:(aW l s).isSome=true↔s∈l.map Allowed.name:=by
 induction l with
 |nil=>simp[aW]
 |cons e l ih=>
   simp only[aW,zBd,zAi];by_cases h:e.name=s
   ·simp[h]
   ·rw[if_neg h,ih]
    constructor
    ·exact .inr
    ·rintro(h'|h')
     ·exact absurd h'.symm h
     ·exact h'
theorem Fz{a b:List Allowed}(h:a.map Allowed.name=b.map Allowed.name){l:List Str}(hl:iI a l):iI b l:=fun s hs=>by
 rcases hl s hs with h1|h1|h1
 ·exact .inl h1
 ·exact .inr (.inl h1)
 ·exact .inr (.inr (by rw[Aw,<-h,<-Aw];exact h1))
theorem At(p:Policy)(par:Str):∀(l out:List Str),iI p.elements out->iI p.elements (rz p par out l)
 |[],out,h=>by simpa[rz]using h
 |x::l,out,h=>by
   simp only[rz];refine At p par l _ ?_;split
   ·rename_i hk
    intro s hs;simp only[kids,zBb,List.all_eq_true]at hk;have:=hk.1 s hs;simp only[rl,zBb,zDi,decide_eq_true_eq]at this;rcases this.2 with(h1|h1)|h1
    ·exact .inl h1
    ·exact .inr (.inl h1)
    ·exact .inr (.inr h1.1)
   ·exact h
theorem Bh(els:List Allowed)(k:Nat)(own:List Str):(eX els k own).map Allowed.name=els.map Allowed.name:=by
 unfold eX;split
 ·rename_i e he
  rw[zEd];refine List.ext_getElem? fun i=>?_;rw[List.getElem?_set];split
  ·subst_vars
   have:=(zAb.1 he).1;simp[he,this]
  ·rfl
 ·rfl
theorem Bi{els:List Allowed}(k:Nat)(own:List Str)(h:∀e∈els,iI els e.kids):∀e∈eX els k own,iI (eX els k own) e.kids:=by
 intro e he;refine Fz (Bh els k own).symm ?_;unfold eX at he;split at he
 ·rename_i x hx
  rcases zBe he with he|he
  ·exact h e he
  ·subst he
   exact At ⟨[],els,[]⟩ _ _ _ (fun s hs=>by cases hs)
 ·exact h e he
theorem tW:∀(l els:List Allowed)(k:Nat),(∀e∈els,iI els e.kids)->∀e∈fd k els l,iI (fd k els l) e.kids
 |[],els,k,h=>by simpa[fd]using h
 |x::l,els,k,h=>by
   simp only[fd];exact tW l _ _ (Bi k x.kids h)
theorem sV:∀(l out:List Allowed)(i:Nat),(∀e∈out,e.kids=[])->∀e∈kX i out l,e.kids=[]
 |[],out,i,h=>by simpa[kX]using h
 |x::l,out,i,h=>by
   simp only[kX];split
   ·exact sV l out _ h
   ·refine sV l _ _ fun e he=>?_
    rcases zCb.1 he with he|he
    ·exact h e he
    ·simp at he;subst he;rfl
theorem uo(p:Policy):gV (bK p):=by
 unfold bK;refine⟨?_,?_⟩
 ·exact At ⟨[],_,[]⟩ [] _ _ (fun s hs=>by cases hs)
 ·refine tW _ _ _ fun e he s hs=>?_
  rw[sV _ [] 0 (by simp) e he]at hs
  cases hs
theorem wI{s:Str}(h:named s=true):s≠kT/\s≠dA:=by
 constructor<;>rintro rfl<;>exact absurd h (by decide)
theorem O3{els:List Allowed}{l:List Str}{s:Str}(hl:iI els l)(hs:named s=true)(h:hasS l s=true):(aW els s).isSome=true:=by
 rcases hl s (I6.1 h)with h1|h1|h1
 ·exact absurd h1 (wI hs).1
 ·exact absurd h1 (wI hs).2
 ·exact h1
theorem zy{p:Policy}(hp:gV p){n:Node}(hn:shp n)(par:Str):qy p par n=fS p par n:=by
 have key:∀l:List Str,iI p.elements l->n.kind=1->((aW p.elements n.name).isSome&&hasS l n.name)=hasS l n.name:=fun l hl hk=>by
  cases h:hasS l n.name
  ·simp
  ·simp[O3 hl (hn.1 hk) h]
 unfold qy fS Ng;by_cases h0:par=[]
 ·simp only[h0,if_true]
  by_cases hk:n.kind=1
  ·simp[hk,key _ hp.1 hk]
  ·simp[hk]
 ·simp only[h0,if_false]
  cases hf:aW p.elements par with
  |none=>simp[Allowed.zero,hasS]
  |some e=>
    simp only[Option.getD_some];by_cases hk:n.kind=1
    ·simp[hk,key _ (hp.2 e (qA hf).1) hk]
    ·simp[hk]
end Go.Abs.F
end
section
namespace Go.Abs.F
open Go.Proofs
attribute [-simp] getElem?_pos zAg zAj
end Go.Abs.F
end
section
namespace Go.Abs.F
open Go.Proofs
attribute [-simp] getElem?_pos zAg zAj
def yI(A:Constraint->Str->Bool)(p:Policy)(par:Str)(n:Node):Bool:=
 fS p par n&&((aW p.elements n.name).isSome&&whole ((aW p.elements n.name).getD .zero) (fR A ((aW p.elements n.name).getD .zero) n.attrs))
def zw(A:Constraint->Str->Bool)(p:Policy)(n:Node):List Attr:=fR A ((aW p.elements n.name).getD .zero) n.attrs
mutual
def clN(A:Constraint->Str->Bool)(p:Policy):Node->Str->List Node
 |⟨k,nm,at',tx,ks⟩,par=>if k=1 then(if yI A p par ⟨k,nm,at',tx,ks⟩then[⟨1,nm,zw A p ⟨k,nm,at',tx,ks⟩,[],clL A p ks nm⟩]else if hasS p.unwrap nm then clL A p ks par else[])
   else if fS p par ⟨k,nm,at',tx,ks⟩then[⟨k,[],[],tx,[]⟩]else[]
def clL(A:Constraint->Str->Bool)(p:Policy):List Node->Str->List Node
 |[],_=>[]
 |n::l,par=>clN A p n par++clL A p l par
end
theorem pR(A:Constraint->Str->Bool)(p:Policy)(n:Node)(par:Str):clN A p n par=if n.kind=1 then(if yI A p par n then[⟨1,n.name,zw A p n,[],clL A p n.kids n.name⟩]else if hasS p.unwrap n.name then clL A p n.kids par else[])
 else if fS p par n then[⟨n.kind,[],[],n.text,[]⟩]else[]:=by
 cases n;rfl
def wOK(n:Node):Prop:=qJ n false=0
theorem pN(f:Attr->Bool):∀(l pre pre':List Attr),(∀s,gn pre s=false->gn pre' s=false)->pO pre l=0->pO pre' (l.filter f)=0
 |[],pre,pre',hp,h=>rfl
 |a::l,pre,pre',hp,h=>by
   simp only[pO]at h;split at h
   ·rename_i ha
    split at h
    ·cases h
    ·rename_i hn
     have hn:gn pre a.name=false:=by simpa using hn
     have snoc:∀(q:List Attr)(s:Str),gn (q++[a]) s=(gn q s||decide (a.name=s)):=fun q s=>by
      induction q with
      |nil=>by_cases h:a.name=s<;>simp[gn,h]
      |cons b q ih=>by_cases h:b.name=s<;>simp[gn,h,ih]
     simp only[zAc];split
     ·simp only[pO,ha,if_true,hp _ hn,if_false,zDe]
      refine pN f l (pre++[a]) (pre'++[a]) (fun s hs=>?_) h;rw[snoc]at hs⊢;simp only[zDb]at hs⊢;exact⟨hp s hs.1,hs.2⟩
     ·refine pN f l (pre++[a]) pre' (fun s hs=>?_) h
      rw[snoc]at hs;simp only[zDb]at hs;exact hp s hs.1
   ·cases h
theorem jL(f:Attr->Bool):∀l:List Attr,fK l=true->fK (l.filter f)=true
 |[],h=>rfl
 |a::l,h=>by
   simp only[fK,zBb]at h;simp only[zAc];split
   ·simp only[fK,h.1,jL f l h.2,Bool.and_self]
   ·exact jL f l h.2
theorem Kw{n:Node}(hk:n.kind=1):wOK n↔n.text=[]/\named n.name=true/\pO [] n.attrs=0/\fK n.attrs=true:=by
 unfold wOK qJ pM;rw[if_pos hk];constructor
 ·intro h
  split at h
  ·split at h
   ·split at h
    ·split at h
     ·exact⟨‹_›,‹_›,‹_›,‹_›⟩
     ·cases h
    ·rename_i hd;exact absurd h hd
   ·cases h
  ·cases h
 ·rintro⟨h1,h2,h3,h4⟩
  simp[h1,h2,h3,h4]
theorem yB{n:Node}(hk:n.kind≠1)(h:wOK n):(n.kind=2\/n.kind=3)/\n.name=[]/\n.attrs=[]/\n.kids=[]:=by
 unfold wOK qJ at h;rw[if_neg hk]at h;split at h
 ·split at h
  ·exact⟨‹_›,‹_›⟩
  ·cases h
 ·cases h
theorem Ul:∀(l:List Node)(b:Bool),xH b l=0->an wOK l:=by
 refine ax (fun _ _=>trivial) ?_;intro n l h1 h2 b h;obtain⟨g1,g2,g3⟩:=OH h;refine aP.2 fun x hx=>?_;rcases zAi.1 hx with rfl|hx
 ·refine⟨?_,h1 _ g2⟩
  unfold wOK qJ at *;by_cases hk1:x.kind=1
  ·rw[if_pos hk1]at g1⊢;exact g1
  ·rw[if_neg hk1]at g1⊢
   split at g1
   ·rename_i q1
    rw[if_pos q1];split at g1
    ·rename_i q2
     rw[if_pos q2];split at g1
     ·rename_i q3
      rw[if_pos ⟨q3.1,fun h=>⟨(q3.2 h).1,rfl⟩⟩]
     ·cases g1
    ·cases g1
   ·cases g1
 ·exact aP.1 (h2 _ g3) x hx
theorem aH{f:Node->Prop}{n:Node}{l:List Node}:an f (n::l)↔(f n/\an f n.kids)/\an f l:=by
 cases n;simp only[an,Kf]
theorem jB{f:Node->Prop}:∀{a b:List Node},an f (a++b)↔an f a/\an f b
 |[],b=>by simp[an]
 |n::a,b=>by rw[zAe,aH,aH,jB];simp only[and_assoc]
theorem Vm{n:Node}(hk:n.kind≠1)(h:wOK n):(⟨n.kind,[],[],n.text,[]⟩:Node)=n:=by
 obtain⟨_,h1,h2,h3⟩:=yB hk h;cases n;simp_all
theorem YY(A:Constraint->Str->Bool)(p:Policy):∀(l:List Node)(par:Str),an wOK l->an wOK (clL A p l par):=by
 refine ax (fun _ _=>by simp[clL,an]) ?_
 intro n l h1 h2 par h;obtain⟨⟨g1,g2⟩,g3⟩:=aH.1 h;simp only[clL];refine jB.2 ⟨?_,h2 par g3⟩;rw[pR];split
 ·rename_i hk
  split
  ·refine aH.2 ⟨⟨?_,h1 _ g2⟩,trivial⟩
   obtain⟨a,b,c,d⟩:=(Kw hk).1 g1;exact(Kw rfl).2 ⟨rfl,b,pN _ _ [] [] (fun _ h=>h) c,jL _ _ d⟩
  ·split
   ·exact h1 par g2
   ·trivial
 ·rename_i hk
  split
  ·rw[Vm hk g1]
   exact aH.2 ⟨⟨g1,g2⟩,trivial⟩
  ·trivial
theorem Lo(A:Constraint->Str->Bool)(e:Allowed)(l:List Attr):wP A e (fR A e l)=whole e (fR A e l):=by
 simp[wP,fR]
theorem kO:∀(l out:List Node),∀m∈av out l,∃n∈out++l,m.kind=n.kind/\m.name=n.name/\m.attrs=n.attrs/\m.kids=n.kids
 |[],out,m,h=>⟨m,by simpa[av]using h,rfl,rfl,rfl,rfl⟩
 |n::l,out,m,h=>by
   have go:∀out',m∈av out' l->(∀x∈out',∃y∈out++n::l,x.kind=y.kind/\x.name=y.name/\x.attrs=y.attrs/\x.kids=y.kids)->∃y∈out++n::l,m.kind=y.kind/\m.name=y.name/\m.attrs=y.attrs/\m.kids=y.kids:=fun out' h' ho=>by
    obtain⟨x,hx,e1,e2,e3,e4⟩:=kO l out' m h';rcases zCb.1 hx with hx|hx
    ·obtain⟨y,hy,f1,f2,f3,f4⟩:=ho x hx
     exact⟨y,hy,e1.trans f1,e2.trans f2,e3.trans f3,e4.trans f4⟩
    ·exact⟨x,by simp[hx],e1,e2,e3,e4⟩
   have self:∀x∈out,∃y∈out++n::l,x.kind=y.kind/\x.name=y.name/\x.attrs=y.attrs/\x.kids=y.kids:=fun x hx=>⟨x,by simp[hx],rfl,rfl,rfl,rfl⟩
   have more:∀x∈out++[n],∃y∈out++n::l,x.kind=y.kind/\x.name=y.name/\x.attrs=y.attrs/\x.kids=y.kids:=fun x hx=>⟨x,by simp at hx⊢;exact hx.elim .inl fun h=>.inr (.inl h),rfl,rfl,rfl,rfl⟩
   simp only[av]at h;split at h
   ·exact go out h self
   ·split at h
    ·rename_i o ho
     split at h
     ·refine go _ h fun x hx=>?_
      rcases zBe hx with hx|hx
      ·exact self x hx
      ·exact⟨o,by simp[zAf ho],by rw[hx],by rw[hx],by rw[hx],by rw[hx]⟩
     ·exact go _ h more
    ·exact go _ h more
def dP(A:Constraint->Str->Bool)(p:Policy)(l:List Node):List Node:=if may l=0 then mt (clL A p l [])else[]
mutual
def wtN:Node->Nat
 |⟨_,_,a,_,ks⟩=>1+a.length+aN ks
def aN:List Node->Nat
 |[]=>0
 |n::l=>wtN n+aN l
end
theorem jH(n:Node):wtN n=1+n.attrs.length+aN n.kids:=by cases n;rfl
theorem dU:∀a b:List Node,aN (a++b)=aN a+aN b
 |[],b=>by simp[aN]
 |n::a,b=>by simp only[zAe,aN,dU a b];omega
theorem oe(f:Node->Bool):∀l:List Node,aN (l.filter f)<=aN l
 |[]=>by simp[aN]
 |n::l=>by
   have:=oe f l;simp only[zAc];split<;>simp only[aN]<;>omega
theorem Hj:∀(l:List Node)(i:Nat)(o m:Node),l[i]?=some o->wtN m=wtN o->aN (l.set i m)=aN l
 |[],i,o,m,h,e=>by simp at h
 |n::l,0,o,m,h,e=>by simp at h;subst h;simp[aN,e]
 |n::l,i+1,o,m,h,e=>by simp only[zBa]at h;simp only[zBf,aN,Hj l i o m h e]
theorem fE:∀l out:List Node,aN (av out l)<=aN out+aN l
 |[],out=>by simp[av,aN]
 |n::l,out=>by
   simp only[av,aN];split
   ·have:=fE l out;omega
   ·split
    ·rename_i o ho
     split
     ·have:=fE l (out.set (out.length-1) ⟨o.kind,o.name,o.attrs,o.text++n.text,o.kids⟩)
      rw[Hj out _ o _ ho (by simp[jH])]at this
      omega
     ·have:=fE l (out++[n])
      rw[dU]at this;simp only[aN]at this;omega
    ·have:=fE l (out++[n])
     rw[dU]at this;simp only[aN]at this;omega
theorem mf(l:List Node):aN (bc l)<=aN l:=by
 have:=fE l [];simpa[bc,aN]using this
theorem yw(f:Node->Bool):∀l:List Node,aN ((l.filter f).flatMap aL)<=aN (l.flatMap aL)
 |[]=>by simp[aN]
 |n::l=>by
   have:=yw f l;simp only[zAc,zAd,dU];split
   ·simp only[zAd,dU];omega
   ·omega
theorem me:∀l:List Node,aN (l.flatMap aL)<=aN l:=by
 refine ax (by simp[aN]) ?_
 intro n l h1 h2;rw[zAd,dU];simp only[aN]
 have:aN (aL n)<=wtN n:=by
  rw[gx];split
  ·simp[aN]
  ·split
   ·simp only[aN,jH]
    have g1:=oe (cJ n.name) (bc ((aS n.name n.kids).flatMap aL));have g2:=mf ((aS n.name n.kids).flatMap aL);have g3:=yw (cJ n.name) n.kids;simp only[aS]at *;omega
   ·simp[aN]
 omega
theorem Hl(A:Constraint->Str->Bool)(p:Policy):∀(l:List Node)(par:Str),aN (clL A p l par)<=aN l:=by
 refine ax (fun _=>by simp[clL,aN]) ?_
 intro n l h1 h2 par;have a1:=h2 par;simp only[clL,dU,aN]
 have:aN (clN A p n par)<=wtN n:=by
  rw[pR,jH];split
  ·split
   ·have g1:(zw A p n).length<=n.attrs.length:=zDa _ _
    have g2:=h1 n.name;simp only[aN,jH];omega
   ·split
    ·have:=h1 par;omega
    ·simp[aN]
  ·split
   ·simp only[aN,jH,zCc];omega
   ·simp[aN]
 omega
theorem Ml(A:Constraint->Str->Bool)(p:Policy)(l:List Node):aN (dP A p l)<=aN l:=by
 unfold dP;split
 ·have g1:=mf ((clL A p l []).flatMap aL)
  have g2:=me (clL A p l []);have g3:=Hl A p l [];simp only[mt];omega
 ·simp[aN]
mutual
def Wu:Node->List Node
 |⟨_,_,_,_,ks⟩=>dQ ks
def dQ:List Node->List Node
 |[]=>[]
 |n::l=>n::Wu n++dQ l
end
theorem vg(n:Node):Wu n=dQ n.kids:=by cases n;rfl
theorem Bb{f:Node->Prop}:∀l:List Node,an f l↔∀m∈dQ l,f m:=by
 refine ax (by simp[dQ,an]) ?_
 intro n l h1 h2;rw[aH,h1,h2];simp only[dQ,vg,zAe,zDc,zCi,and_assoc]
theorem vf:∀l:List Node,(dQ l).length=aj l:=by
 refine ax rfl ?_;intro n l h1 h2;simp only[dQ,vg,zAe,zBj,zBg,h1,h2,aj];cases n;simp only[j6];omega
def mh(S:List Node)(m:Node):Prop:=m.kind=1->∃n∈S,n.kind=1/\n.name=m.name/\∀a∈m.attrs,a∈n.attrs
theorem ep{f:Node->Prop}{l:List Node}(h:∀n∈l,f n/\an f n.kids):an f l:=aP.2 h
theorem tf{S:List Node}{l:List Node}(h:an (mh S) l):an (mh S) (bc l):=by
 refine ep fun m hm=>?_;obtain⟨n,hn,e1,e2,e3,e4⟩:=kO l [] m hm;obtain⟨g1,g2⟩:=aP.1 h n (by simpa using hn)
 exact⟨fun hk=>by rw[e2,e3];exact g1 (by rw[<-e1];exact hk),by rw[e4];exact g2⟩
theorem yz{S:List Node}:∀l:List Node,an (mh S) l->∀n∈l,an (mh S) (aL n):=by
 refine ax (fun _ n h=>by cases h) ?_
 intro n l h1 h2 h x hx;obtain⟨⟨g1,g2⟩,g3⟩:=aH.1 h;rcases zAi.1 hx with rfl|hx
 ·rw[gx]
  split
  ·trivial
  ·split
   ·refine aH.2 ⟨⟨g1,?_⟩,trivial⟩
    have:an (mh S) (bc ((aS x.name x.kids).flatMap aL)):=tf (ep fun y hy=>by
     obtain⟨z,hz,hy⟩:=zCa.1 hy;exact aP.1 (h1 g2 z (zAh.1 hz).1) y hy)
    exact ep fun y hy=>aP.1 this y (zAh.1 hy).1
   ·exact aH.2 ⟨⟨g1,g2⟩,trivial⟩
 ·exact h2 g3 x hx
theorem Kr{S:List Node}(A:Constraint->Str->Bool)(p:Policy):∀(l:List Node)(par:Str),(∀m∈dQ l,m∈S)->an (mh S) (clL A p l par):=by
 refine ax (fun _ _=>by simp[clL,an]) ?_
 intro n l h1 h2 par h;simp only[dQ,vg,zAe,zDc,zCi]at h;obtain⟨g1,g2,g3⟩:=h;simp only[clL];refine jB.2 ⟨?_,h2 par g3⟩;rw[pR];split
 ·rename_i hk
  split
  ·exact aH.2 ⟨⟨fun _=>⟨n,g1,hk,rfl,fun a ha=>(zAh.1 ha).1⟩,h1 n.name g2⟩,trivial⟩
  ·split
   ·exact h1 par g2
   ·trivial
 ·rename_i hk
  split
  ·exact aH.2 ⟨⟨fun h=>absurd h hk,trivial⟩,trivial⟩
  ·trivial
theorem GV (A:Constraint→Str→Bool) (p:Policy) (l:List Node):∀ m∈dQ (dP A p l),mh (dQ l) m:=by
 rw [←Bb]
 unfold dP
 split
 · exact tf (ep fun y hy=>by
    obtain ⟨z,hz,hy⟩:=zCa.1 hy
    exact aP.1 (yz _ (Kr A p l [] fun m hm=>hm) z hz) y hy)
 · trivial
end Go.Abs.F
end
section
namespace Go.Abs.F
open Go.Proofs
attribute [-simp] getElem?_pos zAg zAj
end Go.Abs.F
end
section
namespace Go.Abs.F
open Go.Proofs Go.RowKit
attribute [-simp] getElem?_pos zAg zAj
structure Jb where
 sp:List Node
 ag:List V
 tg:Option (Nat×Nat×Nat)
def Jb.tv(jo:Nat)(q:Jb):V:=match q.tg with
 |none=>.q 0 jo 0 0 0
 |some (j,n,i)=>.q 2 j n i 4
def Jb.v(jo:Nat)(q:Jb):V:=.strct (q.ag++[q.tv jo])
def ee(n:Node)(kc:V):V:=.strct [.int .i64 n.kind,.str n.name,.seq 2 (n.attrs.map Attr.v),.str n.text,kc]
def wl(S:Nat->Option (List Node))(Js:List Jb)(v:V)(K:List Node)(tg:Option (Nat×Nat×Nat)):Prop:=
 ((v=.nil 5\/v=.seq 5 [])/\(K=[]\/∃q∈Js,q.sp=K/\q.tg=tg))\/∃j',v=.q 1 j' K.length 0 0/\S j'=some K
theorem wl.mono{S S':Nat->Option (List Node)}{Js Js':List Jb}{v:V}{K:List Node}{tg:Option (Nat×Nat×Nat)}(h:wl S Js v K tg)(hS:∀j L,S j=some L->S' j=some L)(hJ:∀q∈Js,q.tg=tg->q∈Js'\/q.sp=[]):wl S' Js' v K tg:=by
 rcases h with⟨e,h|⟨q,hq,e1,e2⟩⟩|⟨j',e,h⟩
 ·exact .inl ⟨e,.inl h⟩
 ·rcases hJ q hq e2 with h|h
  ·exact .inl ⟨e,.inr ⟨q,h,e1,e2⟩⟩
  ·exact .inl ⟨e,.inl (by rw[<-e1];exact h)⟩
 ·exact .inr ⟨j',e,hS _ _ h⟩
structure TI (P:Jb->Prop) (raw:Node->V->Prop) (tn tj w jo:Nat) (T:List Node) (S:Nat->Option (List Node)) (pj pi:Nat) (C:List Jb) (ms:List Po) (jw:Nat) (J:List Jb):Prop where
 dom:∀j L,S j=some L->j<ms.length/\j≠jo/\j≠jw
 jo0:jo<ms.length/\jo≠jw
 wait:ms[jw]?=some (.rw tj w (J.map (Jb.v jo)))
 var:∃v,ms[jo]?=some (.bx 0 [v])/\wl S (J++C) v T none
 rows:∀j L,S j=some L->∃el:List V,ms[j]?=some (Po.rw tn 5 el)/\el.length=L.length/\∀i m,L[i]?=some m->((j=pj/\pi<=i)/\∃v,el[i]?=some v/\raw m v)\/(¬(j=pj/\pi<=i)/\∃kc,el[i]?=some (ee m kc)/\wl S (J++C) kc m.kids (some (j,L.length,i)))
 jobs:∀q∈J++C,P q/\(q.tg=none->q.sp=T)/\∀j n i,q.tg=some (j,n,i)->∃L m,S j=some L/\n=L.length/\L[i]?=some m/\¬(j=pj/\pi<=i)/\m.kids=q.sp
def vm(S:Nat->Option (List Node))(j:Nat)(L:List Node):Nat->Option (List Node):=fun k=>if k=j then some L else S k
theorem vl(S:Nat->Option (List Node))(j:Nat)(L:List Node):vm S j L j=some L:=by simp[vm]
theorem MJ{S:Nat->Option (List Node)}{j k:Nat}{L:List Node}(h:k≠j):vm S j L k=S k:=by simp[vm,h]
section
variable{P:Jb->Prop}{raw:Node->V->Prop}{tn tj w jo:Nat}{T:List Node}{S:Nat->Option (List Node)}{pj pi:Nat}{C:List Jb}{ms ms':List Po}{jw:Nat}{J:List Jb}
theorem TI.start{q:Jb}(hq:P q)(hs:q.sp=T)(ht:q.tg=none)(hne:jo≠jw)(hv:ms[jo]?=some (.bx 0 [.nil 5]))(hw:ms[jw]?=some (.rw tj w [Jb.v jo q])):TI P raw tn tj w jo T (fun _=>none) jo 0 [] ms jw [q] where
 dom:=fun j L h=>by cases h
 jo0:=⟨(zAb.1 hv).1,hne⟩
 wait:=hw
 var:=⟨_,hv,.inl ⟨.inl rfl,.inr ⟨q,by simp,hs,ht⟩⟩⟩
 rows:=fun j L h=>by cases h
 jobs:=fun p hp=>by
  simp at hp;subst hp;exact⟨hq,fun _=>hs,fun j n i e=>by rw[ht]at e;cases e⟩
theorem TI.ext(h:TI P raw tn tj w jo T S pj pi C ms jw J)(hl:ms.length<=ms'.length)(hk:∀j p,ms[j]?=some p->(j=jo\/j=jw\/∃L,S j=some L)->ms'[j]?=some p):TI P raw tn tj w jo T S pj pi C ms' jw J where
 dom:=fun j L hj=>by have:=h.dom j L hj;exact⟨by omega,this.2⟩
 jo0:=⟨by have:=h.jo0.1;omega,h.jo0.2⟩
 wait:=hk _ _ h.wait (.inr (.inl rfl))
 var:=by
  obtain⟨v,hv,hg⟩:=h.var;exact⟨v,hk _ _ hv (.inl rfl),hg⟩
 rows:=fun j L hj=>by
  obtain⟨el,h1,h2⟩:=h.rows j L hj;exact⟨el,hk _ _ h1 (.inr (.inr ⟨L,hj⟩)),h2⟩
 jobs:=h.jobs
theorem TI.pop{q:Jb}(h:TI P raw tn tj w jo T S pj pi [] ms jw (J++[q])):TI P raw tn tj w jo T S pj pi [q] (ms.set jw .no++[.rw tj w (J.map (Jb.v jo))]) ms.length J:=by
 have hjw:=(zAb.1 h.wait).1
 have keep:∀{j:Nat}{p:Po},j≠jw->ms[j]?=some p->(ms.set jw .no++[.rw tj w (J.map (Jb.v jo))])[j]?=some p:=fun{j p} hj hp=>by
  have hlt:=(zAb.1 hp).1;rw[List.getElem?_append_left (by simpa using hlt),zBc (Ne.symm hj)]
  exact hp
 refine⟨fun j L hj=>?_,?_,?_,?_,fun j L hj=>?_,fun p hp=>h.jobs p (by simpa using hp)⟩
 ·have:=h.dom j L hj
  simp only[zBg,zCg,zBj,zCc];omega
 ·have:=h.jo0
  simp only[zBg,zCg,zBj,zCc];omega
 ·rw[List.getElem?_append_right (by simp),zCg,Nat.sub_self]
  rfl
 ·obtain⟨v,hv,hg⟩:=h.var
  exact⟨v,keep h.jo0.2 hv,by simpa using hg⟩
 ·obtain⟨el,h1,h2,h3⟩:=h.rows j L hj
  exact⟨el,keep (h.dom j L hj).2.2 h1,h2,fun i m hm=>by simpa using h3 i m hm⟩
theorem TI.row{q:Jb}{j':Nat}{el:List V}(h:TI P raw tn tj w jo T S jo 0 [q] ms jw J)(hn:S j'=none)(hj1:j'≠jo)(hj2:j'≠jw)(hr:ms[j']?=some (.rw tn 5 el))(hl:el.length=q.sp.length)(hraw:∀(i:Nat)(m:Node),q.sp[i]?=some m->∃v,el[i]?=some v/\raw m v):TI P raw tn tj w jo T (vm S j' q.sp) j' 0 [q] ms jw J:=by
 have hS:∀j L,S j=some L->vm S j' q.sp j=some L:=fun j L hj=>by
  rw[MJ (fun e=>by subst e;rw[hn]at hj;cases hj)];exact hj
 have hS':∀j L,vm S j' q.sp j=some L->(j=j'/\L=q.sp)\/(j≠j'/\S j=some L):=fun j L hj=>by
  by_cases e:j=j'
  ·subst e;rw[vl]at hj;cases hj;exact .inl ⟨rfl,rfl⟩
  ·rw[MJ e]at hj;exact .inr ⟨e,hj⟩
 refine⟨fun j L hj=>?_,h.jo0,h.wait,?_,fun j L hj=>?_,fun p hp=>?_⟩
 ·rcases hS' j L hj with⟨rfl,_⟩|⟨_,hj⟩
  ·exact⟨(zAb.1 hr).1,hj1,hj2⟩
  ·exact h.dom j L hj
 ·obtain⟨v,hv,hg⟩:=h.var
  exact⟨v,hv,hg.mono hS fun q hq _=>.inl hq⟩
 ·rcases hS' j L hj with⟨rfl,rfl⟩|⟨hne,hj⟩
  ·exact⟨el,hr,hl,fun i m hm=>.inl ⟨⟨rfl,Nat.zero_le _⟩,hraw i m hm⟩⟩
  ·obtain⟨el2,h1,h2,h3⟩:=h.rows j L hj
   refine⟨el2,h1,h2,fun i m hm=>?_⟩;rcases h3 i m hm with⟨h4,_⟩|⟨h4,kc,h5,h6⟩
   ·exact((h.dom j L hj).2.1 h4.1).elim
   ·exact .inr ⟨fun e=>hne e.1,kc,h5,h6.mono hS fun q hq _=>.inl hq⟩
 ·obtain⟨h1,h2,h3⟩:=h.jobs p hp
  refine⟨h1,h2,fun j n i e=>?_⟩;obtain⟨L,m,k1,k2,k3,k4,k5⟩:=h3 j n i e;exact⟨L,m,hS _ _ k1,k2,k3,(fun e=>by rw[e.1,hn]at k1;cases k1),k5⟩
theorem TI.next{q:Jb}{j' i:Nat}{L:List Node}{m:Node}{el el':List V}{J':List Jb}(h:TI P raw tn tj w jo T S j' i [q] ms jw J)(hS:S j'=some L)(hm:L[i]?=some m)(hel:ms[j']?=some (.rw tn 5 el))(hl:ms.length<=ms'.length)
 (hel':ms'[j']?=some (.rw tn 5 el')) (hl':el'.length=el.length) {kc0:V} (hkc:kc0=.nil 5\/kc0=.seq 5 []) (hi:el'[i]?=some (ee m kc0)) (ho:∀k,k≠i->el'[k]?=el[k]?) (hw:ms'[jw]?=some (.rw tj w (J'.map (Jb.v jo))))
 (hk:∀j p,ms[j]?=some p->j≠j'->(j=jo\/∃L,S j=some L)->ms'[j]?=some p) (hJ:(J'=J/\m.kids=[])\/∃ag,P ⟨m.kids,ag,some (j',L.length,i)⟩/\J'=J++[⟨m.kids,ag,some (j',L.length,i)⟩]):TI P raw tn tj w jo T S j' (i+1) [q] ms' jw J':=by
 obtain⟨d1,d2,d3⟩:=h.dom j' L hS;have hlt:=(zAb.1 hm).1
 have jj:∀p∈J++[q],p∈J'++[q]:=fun p hp=>by
  rcases hJ with⟨rfl,_⟩|⟨ag,_,rfl⟩
  ·exact hp
  ·simp at hp⊢;rcases hp with hp|hp<;>simp[hp]
 refine⟨fun j K hj=>?_,?_,hw,?_,fun j K hj=>?_,fun p hp=>?_⟩
 ·have:=h.dom j K hj;omega
 ·have:=h.jo0;omega
 ·obtain⟨v,hv,hg⟩:=h.var
  exact⟨v,hk _ _ hv d2.symm (.inl rfl),hg.mono (fun _ _ h=>h) fun q hq _=>.inl (jj q hq)⟩
 ·obtain⟨el2,h1,h2,h3⟩:=h.rows j K hj
  by_cases e:j=j'
  ·subst e
   rw[hel]at h1;cases h1;rw[hS]at hj;cases hj;refine⟨el',hel',by omega,fun k m2 hm2=>?_⟩
   by_cases ek:k=i
   ·subst ek
    rw[hm]at hm2;cases hm2;refine .inr ⟨by omega,_,hi,.inl ⟨hkc,?_⟩⟩
    rcases hJ with⟨_,hz⟩|⟨ag,_,rfl⟩
    ·exact .inl hz
    ·exact .inr ⟨⟨m.kids,ag,some (j,L.length,k)⟩,by simp,rfl,rfl⟩
   ·rw[ho k ek]
    rcases h3 k m2 hm2 with⟨h4,h5⟩|⟨h4,kc,h5,h6⟩
    ·exact .inl ⟨⟨rfl,by omega⟩,h5⟩
    ·exact .inr ⟨by omega,kc,h5,h6.mono (fun _ _ h=>h) fun q hq _=>.inl (jj q hq)⟩
  ·refine⟨el2,hk _ _ h1 e (.inr ⟨K,hj⟩),h2,fun k m2 hm2=>?_⟩
   rcases h3 k m2 hm2 with⟨h4,_⟩|⟨h4,kc,h5,h6⟩
   ·exact(e h4.1).elim
   ·exact .inr ⟨fun e'=>e e'.1,kc,h5,h6.mono (fun _ _ h=>h) fun q hq _=>.inl (jj q hq)⟩
 ·have old:∀p∈J++[q],P p/\(p.tg=none->p.sp=T)/\∀j n k,p.tg=some (j,n,k)->∃L m,S j=some L/\n=L.length/\L[k]?=some m/\¬(j=j'/\i+1<=k)/\m.kids=p.sp:=fun p hp=>by
   obtain⟨h1,h2,h3⟩:=h.jobs p hp;refine⟨h1,h2,fun j n k e=>?_⟩;obtain⟨L2,m2,k1,k2,k3,k4,k5⟩:=h3 j n k e;exact⟨L2,m2,k1,k2,k3,by omega,k5⟩
  rcases hJ with⟨rfl,_⟩|⟨ag,hP,rfl⟩
  ·exact old p hp
  ·have hp':p∈J++[q]\/p=⟨m.kids,ag,some (j',L.length,i)⟩:=by
    simp only[zCb,zAi,List.not_mem_nil,or_false]at hp⊢;rcases hp with(hp|hp)|hp
    ·exact .inl (.inl hp)
    ·exact .inr hp
    ·exact .inl (.inr hp)
   rcases hp' with hp'|rfl
   ·exact old p hp'
   ·refine⟨hP,fun e=>(by cases e),fun j n k e=>?_⟩
    simp only[zEf,Prod.mk.injEq]at e;obtain⟨rfl,rfl,rfl⟩:=e;exact⟨L,m,hS,rfl,hm,by omega,rfl⟩
theorem TI.full{j':Nat}{L:List Node}(h:TI P raw tn tj w jo T S j' L.length C ms jw J)(hS:S j'=some L):TI P raw tn tj w jo T S jo 0 C ms jw J:=by
 have no:∀{j i:Nat}{K:List Node}{m:Node},S j=some K->K[i]?=some m->¬(j=j'/\L.length<=i):=fun{j i K m} hj hm e=>by
  obtain⟨rfl,e⟩:=e;rw[hS]at hj;cases hj;have:=(zAb.1 hm).1;omega
 refine⟨h.dom,h.jo0,h.wait,h.var,fun j K hj=>?_,fun p hp=>?_⟩
 ·obtain⟨el2,h1,h2,h3⟩:=h.rows j K hj
  refine⟨el2,h1,h2,fun k m2 hm2=>?_⟩;rcases h3 k m2 hm2 with⟨h4,_⟩|⟨h4,h5⟩
  ·exact(no hj hm2 h4).elim
  ·exact .inr ⟨fun e=>(h.dom j K hj).2.1 e.1,h5⟩
 ·obtain⟨h1,h2,h3⟩:=h.jobs p hp
  refine⟨h1,h2,fun j n i e=>?_⟩;obtain⟨K,m,k1,k2,k3,k4,k5⟩:=h3 j n i e;exact⟨K,m,k1,k2,k3,fun e=>(h.dom j K k1).2.1 e.1,k5⟩
theorem TI.skip{q:Jb}(h:TI P raw tn tj w jo T S jo 0 [q] ms jw J)(hq:q.sp=[]):TI P raw tn tj w jo T S jo 0 [] ms jw J:=by
 have mv:∀{v:V}{K:List Node}{tg:Option (Nat×Nat×Nat)},wl S (J++[q]) v K tg->wl S (J++[]) v K tg:=fun hg=>hg.mono (fun _ _ h=>h) fun p hp _=>by
  simp at hp⊢;rcases hp with hp|rfl
  ·exact .inl hp
  ·exact .inr hq
 refine⟨h.dom,h.jo0,h.wait,?_,fun j K hj=>?_,fun p hp=>h.jobs p (by simp at hp⊢;exact .inl hp)⟩
 ·obtain⟨v,hv,hg⟩:=h.var
  exact⟨v,hv,mv hg⟩
 ·obtain⟨el2,h1,h2,h3⟩:=h.rows j K hj
  refine⟨el2,h1,h2,fun k m2 hm2=>?_⟩;rcases h3 k m2 hm2 with h4|⟨h4,kc,h5,h6⟩
  ·exact .inl h4
  ·exact .inr ⟨h4,kc,h5,mv h6⟩
theorem TI.store0{q:Jb}{u:V}(h:TI P raw tn tj w jo T S jo 0 [q] ms jw J)(hS:((u=.nil 5\/u=.seq 5 [])/\q.sp=[])\/∃j',u=.q 1 j' q.sp.length 0 0/\S j'=some q.sp)(ht:q.tg=none):TI P raw tn tj w jo T S jo 0 [] (ms.set jo (.bx 0 [u])) jw J:=by
 have hjo:=h.jo0;obtain⟨_,hq,_⟩:=h.jobs q (by simp)
 have hq:=hq ht
 have keep:∀{j:Nat}{p:Po},j≠jo->ms[j]?=some p->(ms.set jo (.bx 0 [u]))[j]?=some p:=fun{j p} hj hp=>by
  rw[zBc (Ne.symm hj)];exact hp
 refine⟨fun j L hj=>by simpa using h.dom j L hj,by simpa using hjo,keep hjo.2.symm h.wait,⟨_,zBh hjo.1,by rw[<-hq];exact hS.imp (fun h=>⟨h.1,.inl h.2⟩) id⟩,fun j K hj=>?_,fun p hp=>h.jobs p (by simp at hp⊢;exact .inl hp)⟩
 obtain⟨el2,h1,h2,h3⟩:=h.rows j K hj;have hd:=h.dom j K hj;refine⟨el2,keep hd.2.1 h1,h2,fun k m2 hm2=>?_⟩;rcases h3 k m2 hm2 with⟨h4,_⟩|⟨h4,kc,h5,h6⟩
 ·exact(hd.2.1 h4.1).elim
 ·refine .inr ⟨h4,kc,h5,h6.mono (fun _ _ h=>h) fun p hp e=>?_⟩
  simp at hp⊢;rcases hp with hp|rfl
  ·exact .inl hp
  ·rw[ht]at e;cases e
theorem TI.store1{q:Jb}{u:V}{j n i:Nat}(h:TI P raw tn tj w jo T S jo 0 [q] ms jw J)(hS:((u=.nil 5\/u=.seq 5 [])/\q.sp=[])\/∃j',u=.q 1 j' q.sp.length 0 0/\S j'=some q.sp)(ht:q.tg=some (j,n,i)):
 ∃el m kc,ms[j]?=some (.rw tn 5 el)/\n=el.length/\el[i]?=some (ee m kc)/\TI P raw tn tj w jo T S jo 0 [] (ms.set j (.rw tn 5 (el.set i (ee m u)))) jw J:=by
 have hjo:=h.jo0;obtain⟨_,_,h0⟩:=h.jobs q (by simp)
 obtain⟨L,m,k1,k2,k3,k4,k5⟩:=h0 j n i ht;obtain⟨d1,d2,d3⟩:=h.dom j L k1;obtain⟨el,e1,e2,e3⟩:=h.rows j L k1;rcases e3 i m k3 with⟨f1,_⟩|⟨_,kc,f1,f2⟩
 ·exact(k4 f1).elim
 have keep:∀{k:Nat}{p:Po},k≠j->ms[k]?=some p->(ms.set j (.rw tn 5 (el.set i (ee m u))))[k]?=some p:=fun{k p} hj hp=>by
  rw[zBc (Ne.symm hj)];exact hp
 have mv:∀{v:V}{K:List Node}{tg:Option (Nat×Nat×Nat)},tg≠some (j,n,i)->wl S (J++[q]) v K tg->wl S (J++[]) v K tg:=fun hne hg=>hg.mono (fun _ _ h=>h) fun p hp e=>by
  simp at hp⊢;rcases hp with hp|rfl
  ·exact .inl hp
  ·rw[ht]at e;exact(hne e.symm).elim
 refine⟨el,m,kc,e1,by omega,f1,fun k K hk=>by simpa using h.dom k K hk,by simpa using hjo,keep d3.symm h.wait,?_,fun k K hk=>?_,fun p hp=>h.jobs p (by simp at hp⊢;exact .inl hp)⟩
 ·obtain⟨v,hv,hg⟩:=h.var
  exact⟨v,keep d2.symm hv,mv (by simp) hg⟩
 ·obtain⟨el2,h1,h2,h3⟩:=h.rows k K hk
  have hd:=h.dom k K hk;by_cases ek:k=j
  ·subst ek
   rw[k1]at hk;cases hk;rw[e1]at h1;cases h1;refine⟨_,zBh d1,by simpa using h2,fun x m2 hm2=>?_⟩
   by_cases ex:x=i
   ·subst ex
    rw[k3]at hm2;cases hm2;have hlt:=(zAb.1 f1).1;exact .inr ⟨fun e=>d2 e.1,_,zBh hlt,by rw[k5];exact hS.imp (fun h=>⟨h.1,.inl h.2⟩) id⟩
   ·rw[zBc (Ne.symm ex)]
    rcases h3 x m2 hm2 with⟨h4,_⟩|⟨h4,kc2,h5,h6⟩
    ·exact(d2 h4.1).elim
    ·exact .inr ⟨h4,kc2,h5,mv (by simp[ex]) h6⟩
  ·refine⟨el2,keep ek h1,h2,fun x m2 hm2=>?_⟩
   rcases h3 x m2 hm2 with⟨h4,_⟩|⟨h4,kc2,h5,h6⟩
   ·exact(hd.2.1 h4.1).elim
   ·exact .inr ⟨h4,kc2,h5,mv (by simp[ek]) h6⟩
theorem Vx{ms:List Po}{F:Nat}{cs:List V}:frz ms (F+1) (.strct cs)=(fY (frz ms F) cs).map .strct:=rfl
theorem Sc{ms:List Po}{F:Nat}{k:IntKind}{n:Int}:frz ms (F+1) (.int k n)=some (.int k n):=rfl
theorem R9{ms:List Po}{F:Nat}{s:Str}:frz ms (F+1) (.str s)=some (.str s):=rfl
theorem Sa{ms:List Po}{F sz:Nat}{l:List V}:frz ms (F+1) (.seq sz l)=some (.seq sz l):=rfl
theorem yl{g g':V->Option V}(hg:∀v u,g v=some u->g' v=some u):∀(l r:List V),fY g l=some r->fY g' l=some r
 |[],r,h=>h
 |v::l,r,h=>by
   simp only[fY]at h⊢;split at h
   ·rename_i u us h1 h2
    cases h;rw[hg _ _ h1,yl hg l _ h2]
   ·cases h
theorem Jy{ms:List Po}:∀(F:Nat)(v u:V),frz ms F v=some u->frz ms (F+1) v=some u:=by
 intro F
 induction F with
 |zero=>intro v u h;simp[frz]at h
 |succ F ih=>
   intro v u h;cases v with
   |q k j n i off=>
     simp only[frz]at h⊢;split at h
     ·rename_i hk
      rw[if_pos hk];split at h
      ·rename_i e sz l hj
       split at h
       ·rename_i hn
        simp only[zBi]at h⊢;obtain⟨us,h1,h2⟩:=h;rw[if_pos hn];simp only[zBi];exact⟨us,yl ih _ _ h1,h2⟩
       ·cases h
      ·rename_i hj;exact h
      ·cases h
     ·cases h
   |strct cs=>
     simp only[frz,zBi]at h⊢;obtain⟨us,h1,h2⟩:=h;exact⟨us,yl ih _ _ h1,h2⟩
   |_=>first|(simp[frz]at h;done)|(simpa[frz]using h)
theorem Sb{ms:List Po}{F G:Nat}(h:F<=G){v u:V}(hv:frz ms F v=some u):frz ms G v=some u:=by
 induction h with
 |refl=>exact hv
 |step _ ih=>exact Jy _ _ _ ih
theorem Vw{ms:List Po}{F G:Nat}(h:F<=G){l r:List V}(hv:fY (frz ms F) l=some r):fY (frz ms G) l=some r:=yl (fun _ _ hv=>Sb h hv) _ _ hv
theorem TI.read(h:TI P raw tn tj w jo T S jo 0 [] ms jw []):∃v F,ms[jo]?=some (.bx 0 [v])/\frz ms F v=some (.seq 5 (T.map Node.v)):=by
 have YO:∀{v:V}{K:List Node}{tg:Option (Nat×Nat×Nat)},wl S ([]++[]) v K tg->((v=.nil 5\/v=.seq 5 [])/\K=[])\/∃j',v=.q 1 j' K.length 0 0/\S j'=some K:=fun hg=>by
  rcases hg with⟨e,h|⟨q,hq,_⟩⟩|hg
  ·exact .inl ⟨e,h⟩
  ·simp at hq
  ·exact .inr hg
 have tree:∀(L:List Node),(∀(v:V)(tg:Option (Nat×Nat×Nat)),wl S ([]++[]) v L tg->∃F,frz ms F v=some (.seq 5 (L.map Node.v))):=by
  -- all lists of kids that lie in a list
  have row:∀(L:List Node),(∀n∈L,∀(v:V)(tg:Option (Nat×Nat×Nat)),wl S ([]++[]) v n.kids tg->∃F,frz ms F v=some (.seq 5 (n.kids.map Node.v)))->∀(v:V)(tg:Option (Nat×Nat×Nat)),wl S ([]++[]) v L tg->∃F,frz ms F v=some (.seq 5 (L.map Node.v)):=by
   intro L hk v tg hg;rcases YO hg with⟨rfl|rfl,rfl⟩|⟨j',rfl,hS⟩
   ·exact⟨1,rfl⟩
   ·exact⟨1,rfl⟩
   ·obtain⟨el,e1,e2,e3⟩:=h.rows j' L hS
    have hd:=h.dom j' L hS
    have each:∀(i:Nat)(m:Node),L[i]?=some m->∃c F,el[i]?=some c/\frz ms F c=some m.v:=fun i m hm=>by
     rcases e3 i m hm with⟨f1,_⟩|⟨_,kc,f1,f2⟩
     ·exact(hd.2.1 f1.1).elim
     ·obtain⟨F,hF⟩:=hk m (zAf hm) kc _ f2
      refine⟨_,F+2,f1,?_⟩;have:=Jy _ _ _ hF;simp only[ee,Vx,fY,Sc,R9,Sa,this,zCh];rw[Node.v_eq]
    have rowF:∀(l:List V)(K:List Node),l.length=K.length->(∀(i:Nat)(m:Node),K[i]?=some m->∃c F,l[i]?=some c/\frz ms F c=some m.v)->∃F,fY (frz ms F) l=some (K.map Node.v):=by
     intro l
     induction l with
     |nil=>
       intro K hl _;cases K with
       |nil=>exact⟨0,rfl⟩
       |cons _ _=>simp at hl
     |cons c l ih=>
       intro K hl hc;cases K with
       |nil=>simp at hl
       |cons m K=>
         obtain⟨c',F1,g1,g2⟩:=hc 0 m rfl;simp at g1;subst g1;obtain⟨F2,g3⟩:=ih K (by simpa using hl) fun i x hx=>by simpa using hc (i+1) x (by simpa using hx)
         refine⟨max F1 F2,?_⟩;have a1:=Sb (Nat.le_max_left F1 F2) g2;have a2:fY (frz ms (max F1 F2)) l=some (K.map Node.v):=Vw (Nat.le_max_right F1 F2) g3;simp only[fY,a1,a2,zBd]
    obtain⟨F,hF⟩:=rowF el L e2 each;exact⟨F+1,by simp[frz,e1,e2,hF]⟩
  have all:∀(L:List Node),∀n∈L,∀(v:V)(tg:Option (Nat×Nat×Nat)),wl S ([]++[]) v n.kids tg->∃F,frz ms F v=some (.seq 5 (n.kids.map Node.v)):=by
   refine ax (fun n h=>by cases h) ?_
   intro n l h1 h2 x hx;rcases zAi.1 hx with rfl|hx
   ·exact row x.kids h1
   ·exact h2 x hx
  exact fun L=>row L (all L)
 obtain⟨v,hv,hg⟩:=h.var;obtain⟨F,hF⟩:=tree T v none hg;exact⟨v,F,hv,hF⟩
end
def stT(par:Str)(l:List Node):List Node:=aS par (bc ((aS par l).flatMap aL))
def gN(n:Node):Node:=if n.kind=1 then⟨n.kind,n.name,n.attrs,n.text,stT n.name n.kids⟩else n
def bA(n:Node):Node:=if n.kind=1 then⟨n.kind,n.name,n.attrs,n.text,[]⟩else n
def mK(par:Str)(l:List Node):List Node:=bc (l.filter (b9 par))
theorem kP(φ:Node->Node)(hk:∀n,(φ n).kind=n.kind)(h2:∀n,n.kind=2->φ n=n):∀l out:List Node,av (out.map φ) (l.map φ)=(av out l).map φ
 |[],out=>by simp[av]
 |n::l,out=>by
   have snoc:av (out.map φ++[φ n]) (l.map φ)=(av (out++[n]) l).map φ:=by
    have:=kP φ hk h2 l (out++[n]);simpa using this
   simp only[zBd,av,hk];by_cases h:n.kind=2
   ·rw[h2 n h]
    rw[h2 n h]at snoc;by_cases ht:n.text=[]
    ·rw[if_pos ⟨h,ht⟩,if_pos ⟨h,ht⟩]
     exact kP φ hk h2 l out
    ·rw[if_neg (fun e=>ht e.2),if_neg (fun e=>ht e.2)]
     simp only[zDj,zDg];cases ho:out[out.length-1]? with
     |none=>exact snoc
     |some o=>
       simp only[zCh,hk];by_cases h3:o.kind=2
       ·rw[if_pos ⟨h,h3⟩,if_pos ⟨h,h3⟩,h2 o h3]
        have:=kP φ hk h2 l (out.set (out.length-1) ⟨o.kind,o.name,o.attrs,o.text++n.text,o.kids⟩);rw[zEd,h2 _ (by simpa using h3)]at this
        exact this
       ·rw[if_neg (fun e=>h3 e.2),if_neg (fun e=>h3 e.2)]
        exact snoc
   ·rw[if_neg (fun e=>h e.1),if_neg (fun e=>h e.1)]
    simp only[zDj,zDg];cases ho:out[out.length-1]? with
    |none=>exact snoc
    |some o=>
      simp only[zCh];rw[if_neg (fun e=>h e.1),if_neg (fun e=>h e.1)];exact snoc
theorem D0(φ:Node->Node)(hk:∀n,(φ n).kind=n.kind)(h2:∀n,n.kind=2->φ n=n)(l:List Node):bc (l.map φ)=(bc l).map φ:=by
 have:=kP φ hk h2 l [];simpa[bc]using this
theorem HD(n:Node):(bA n).kind=n.kind:=by unfold bA;split<;>rfl
theorem Nn(n:Node):(gN n).kind=n.kind:=by unfold gN;split<;>rfl
theorem wz(par:Str):∀l:List Node,(aS par l).flatMap aL=(l.filter (b9 par)).map gN
 |[]=>rfl
 |n::l=>by
   have ih:=wz par l;simp only[aS]at ih;simp only[aS,zAc];by_cases hf:cJ par n=true
   ·rw[if_pos hf,zAd,ih,gx]
    by_cases ha:n.kind=3/\zU vc n.text=true
    ·have hs:b9 par n=false:=by simp[b9,hf,ha.1,ha.2]
     rw[if_pos ha,if_neg (by simp[hs])]
     rfl
    ·have hs:b9 par n=true:=by
      simp only[b9,hf,zEb];by_cases h3:n.kind=3
      ·have:zU vc n.text=false:=by
        cases h:zU vc n.text
        ·rfl
        ·exact absurd ⟨h3,h⟩ ha
       simp[h3,this]
      ·simp[h3]
     rw[if_neg ha,if_pos hs,zBd];unfold gN;split<;>rfl
   ·have hs:b9 par n=false:=by simp[b9,hf]
    rw[if_neg hf,if_neg (by simp[hs])]
    exact ih
theorem XJ(par:Str)(l:List Node):stT par l=aS par ((mK par l).map gN):=by
 rw[stT,wz,D0 gN Nn (fun n h=>by unfold gN;rw[if_neg (by omega)])]
 rfl
theorem Yd(par:Str)(l:List Node):bc ((l.filter (b9 par)).map bA)=(mK par l).map bA:=
 D0 bA HD (fun n h=>by unfold bA;rw[if_neg (by omega)]) _
def isE(n:Node):Bool:=decide (n.kind=1)
theorem nC{f:Node->Bool}:∀(l:List Node)(i:Nat)(o m:Node),l[i]?=some o->f o=false->f m=false->(l.set i m).filter f=l.filter f
 |[],i,o,m,h,_,_=>by simp at h
 |n::l,0,o,m,h,h1,h2=>by simp at h;subst h;simp[h1,h2]
 |n::l,i+1,o,m,h,h1,h2=>by
   simp only[zBa]at h;simp only[zBf,zAc,nC l i o m h h1 h2]
theorem kQ:∀l out:List Node,(av out l).filter isE=(out++l).filter isE
 |[],out=>by simp[av]
 |n::l,out=>by
   have snoc:=kQ l (out++[n]);simp only[zDf,zAe,zCf]at snoc;simp only[av];by_cases h:n.kind=2
   ·have he:isE n=false:=by simp[isE,h]
    have drop:(out++n::l).filter isE=(out++l).filter isE:=by simp[zCe,zAc,he]
    by_cases ht:n.text=[]
    ·rw[if_pos ⟨h,ht⟩,kQ l out,drop]
    ·rw[if_neg (fun e=>ht e.2)]
     split
     ·rename_i o ho
      by_cases h3:o.kind=2
      ·rw[if_pos ⟨h,h3⟩,kQ l _,drop,zCe,zCe,nC out _ o _ ho (by simp[isE,h3]) (by simp[isE,h3])]
      ·rw[if_neg (fun e=>h3 e.2)];exact snoc
     ·exact snoc
   ·rw[if_neg (fun e=>h e.1)]
    split
    ·rw[if_neg (fun e=>h e.1)];exact snoc
    ·exact snoc
theorem Vg(par:Str)(l:List Node):(mK par l).filter isE=(l.filter (b9 par)).filter isE:=by
 have:=kQ (l.filter (b9 par)) [];simpa[mK,bc]using this
theorem Fv{par:Str}{l:List Node}{m:Node}(h:m∈mK par l):∃n∈l,b9 par n=true/\m.kind=n.kind/\m.name=n.name/\m.attrs=n.attrs/\m.kids=n.kids:=by
 obtain⟨n,hn,e⟩:=kO _ _ m h;simp only[zCf]at hn;obtain⟨h1,h2⟩:=zAh.1 hn;exact⟨n,h1,h2,e⟩
theorem Dz{par:Str}{n:Node}(h:b9 par n=true):cJ par n=true:=by simp only[b9,zBb]at h;exact h.1
theorem RG{par:Str}{l:List Node}(hr:raw par=false):∀m∈mK par l,cJ par m=true:=fun m hm=>by
 obtain⟨n,_,h2,e1,e2,_⟩:=Fv hm;rw[Em hr e1 e2];exact Dz h2
theorem Rm{par:Str}{n:Node}(hr:raw par=true)(h:cJ par n=true):n.kind=2:=by
 unfold cJ at h;rw[hr]at h;split at h
 ·cases h
 ·simp at h;exact h.1
theorem mM:∀(l out:List Node),(∀n∈l,n.kind=2)->(∀n∈out,n.kind=2)->out.length<=1->(av out l).length<=1/\∀n∈av out l,n.kind=2
 |[],out,_,h2,h3=>by simpa[av]using⟨h3,h2⟩
 |n::l,out,h1,h2,h3=>by
   have hn:=h1 n (by simp)
   have hl:∀m∈l,m.kind=2:=fun m hm=>h1 m (by simp[hm])
   simp only[av];split
   ·exact mM l out hl h2 h3
   ·split
    ·rename_i o ho
     have ho2:=h2 o (zAf ho);rw[if_pos ⟨hn,ho2⟩];refine mM l _ hl (fun m hm=>?_) (by simpa using h3)
     rcases zBe hm with hm|hm
     ·exact h2 m hm
     ·rw[hm];exact ho2
    ·rename_i ho
     have:out=[]:=by
      match out,h3,ho with
      |[],_,_=>rfl
      |[x],_,ho=>simp at ho
      |_::_::_,h3,_=>simp at h3
     subst this;exact mM l _ hl (fun m hm=>by simp at hm;rw[hm];exact hn) (by simp)
theorem Vf{par:Str}{l:List Node}(hr:raw par=true):(mK par l).length<=1/\∀m∈mK par l,m.kind=2:=
 mM _ [] (fun n hn=>Rm hr (Dz (zAh.1 hn).2)) (fun _ h=>by cases h) (by simp)
def nR(par:Str)(l:List Node):List Node:=if raw par=true/\∃m,(mK par l)[0]?=some m/\cJ par m=false then[]else mK par l
theorem UC(par:Str)(l:List Node):stT par l=(nR par l).map gN:=by
 rw[XJ,nR];by_cases hr:raw par=true
 ·obtain⟨h1,h2⟩:=Vf (l:=l) hr
  match hm:mK par l,h1,h2 with
  |[],_,_=>simp[aS]
  |[m],_,h2=>
    have hk:=h2 m (by simp)
    have hg:gN m=m:=by unfold gN;rw[if_neg (by omega)]
    by_cases hf:cJ par m=true
    ·rw[if_neg (by rintro⟨_,x,hx,hx2⟩;simp at hx;subst hx;rw[hf]at hx2;cases hx2)]
     simp[aS,hg,hf]
    ·rw[if_pos ⟨hr,m,by simp,by simpa using hf⟩]
     simp[aS,hg,hf]
  |_::_::_,h1,_=>simp at h1
 ·rw[if_neg (fun h=>hr h.1)]
  refine List.filter_eq_self.2 fun x hx=>?_;obtain⟨m,hm,rfl⟩:=List.mem_map.1 hx;have hr':raw par=false:=by simpa using hr
  rw[Em (n:=m) hr' (Nn m) (by unfold gN;split<;>rfl)]
  exact RG hr' m hm
mutual
def ttN:Node->Nat
 |⟨_,_,_,t,ks⟩=>t.length+bh ks
def bh:List Node->Nat
 |[]=>0
 |n::l=>ttN n+bh l
end
theorem li(n:Node):ttN n=n.text.length+bh n.kids:=by cases n;rfl
theorem Hx{l:List Node}{n:Node}(h:n∈l):ttN n<=bh l:=by
 induction l with
 |nil=>cases h
 |cons x l ih=>
   simp only[bh];rcases zAi.1 h with rfl|h
   ·omega
   ·have:=ih h;omega
theorem Uu(l:List Node):bZ l<=bh l:=by
 induction l with
 |nil=>simp[bZ,bh]
 |cons n l ih=>simp only[bZ,zBd,List.sum_cons,bh,li]at *;omega
def Dj(n:Node):Prop:=n.name.length<=1000000/\n.attrs.length<=1000000/\∀a∈n.attrs,a.name.length<=1000000/\a.value.length<=1000
structure SizeB (l:List Node):Prop where
 att:an Dj l
 cnt:aj l<1000
 wt:aN l<=1000000
 tt:bh l<=1000000
theorem dX:∀a b:List Node,bh (a++b)=bh a+bh b
 |[],b=>by simp[bh]
 |n::a,b=>by simp only[zAe,bh,dX a b];omega
theorem wv(f:Node->Bool):∀l:List Node,bh (l.filter f)<=bh l
 |[]=>by simp[bh]
 |n::l=>by
   have:=wv f l;simp only[zAc];split<;>simp only[bh]<;>omega
theorem Hw:∀(l:List Node)(i:Nat)(o m:Node),l[i]?=some o->bh (l.set i m)+ttN o=bh l+ttN m
 |[],i,o,m,h=>by simp at h
 |n::l,0,o,m,h=>by simp at h;subst h;simp[bh];omega
 |n::l,i+1,o,m,h=>by
   simp only[zBa]at h;have:=Hw l i o m h;simp only[zBf,bh];omega
theorem fH:∀l out:List Node,bh (av out l)<=bh out+bh l
 |[],out=>by simp[av,bh]
 |n::l,out=>by
   simp only[av,bh];split
   ·have:=fH l out;omega
   ·split
    ·rename_i o ho
     split
     ·have h1:=fH l (out.set (out.length-1) ⟨o.kind,o.name,o.attrs,o.text++n.text,o.kids⟩)
      have h2:=Hw out _ o ⟨o.kind,o.name,o.attrs,o.text++n.text,o.kids⟩ ho;simp only[li,zBg]at h2⊢;omega
     ·have:=fH l (out++[n])
      rw[dX]at this;simp only[bh]at this;omega
    ·have:=fH l (out++[n])
     rw[dX]at this;simp only[bh]at this;omega
theorem mq(l:List Node):bh (bc l)<=bh l:=by
 have:=fH l [];simpa[bc,bh]using this
theorem Hv(f:Node->Bool):∀l:List Node,bh ((l.filter f).flatMap aL)<=bh (l.flatMap aL)
 |[]=>by simp[bh]
 |n::l=>by
   have:=Hv f l;simp only[zAc,zAd,dX];split
   ·simp only[zAd,dX];omega
   ·omega
theorem EU:∀l:List Node,bh (l.flatMap aL)<=bh l:=by
 refine ax (by simp[bh]) ?_
 intro n l h1 h2;rw[zAd,dX];simp only[bh]
 have:bh (aL n)<=ttN n:=by
  rw[gx];split
  ·simp[bh]
  ·split
   ·simp only[bh,li]
    have g1:=wv (cJ n.name) (bc ((aS n.name n.kids).flatMap aL));have g2:=mq ((aS n.name n.kids).flatMap aL);have g3:=Hv (cJ n.name) n.kids;simp only[aS]at *;omega
   ·simp[bh]
 omega
theorem QC(A:Constraint->Str->Bool)(p:Policy):∀(l:List Node)(par:Str),bh (clL A p l par)<=bh l:=by
 refine ax (fun _=>by simp[clL,bh]) ?_
 intro n l h1 h2 par;have a1:=h2 par;simp only[clL,dX,bh]
 have:bh (clN A p n par)<=ttN n:=by
  rw[pR,li];split
  ·split
   ·have g2:=h1 n.name
    simp only[bh,li,zCc];omega
   ·split
    ·have:=h1 par;omega
    ·simp[bh]
  ·split
   ·simp only[bh,li];omega
   ·simp[bh]
 omega
theorem rC(f:Node->Bool):∀l:List Node,aj (l.filter f)<=aj l
 |[]=>by simp[aj]
 |n::l=>by
   have:=rC f l;simp only[zAc];split<;>simp only[aj]<;>omega
theorem uL(n:Node):j6 n=1+aj n.kids:=by cases n;simp[j6]
theorem AU:∀(l:List Node)(i:Nat)(o m:Node),l[i]?=some o->j6 m=j6 o->aj (l.set i m)=aj l
 |[],i,o,m,h,e=>by simp at h
 |n::l,0,o,m,h,e=>by simp at h;subst h;simp[aj,e]
 |n::l,i+1,o,m,h,e=>by simp only[zBa]at h;simp only[zBf,aj,AU l i o m h e]
theorem dg:∀l out:List Node,aj (av out l)<=aj out+aj l
 |[],out=>by simp[av,aj]
 |n::l,out=>by
   simp only[av,aj];split
   ·have:=dg l out;omega
   ·split
    ·rename_i o ho
     split
     ·have h1:=dg l (out.set (out.length-1) ⟨o.kind,o.name,o.attrs,o.text++n.text,o.kids⟩)
      rw[AU out _ o _ ho (by simp[uL])]at h1
      omega
     ·have:=dg l (out++[n])
      rw[cK]at this;simp only[aj]at this;omega
    ·have:=dg l (out++[n])
     rw[cK]at this;simp only[aj]at this;omega
theorem EA(f:Node->Bool):∀l:List Node,aj ((l.filter f).flatMap aL)<=aj (l.flatMap aL)
 |[]=>by simp[aj]
 |n::l=>by
   have:=EA f l;simp only[zAc,zAd,cK];split
   ·simp only[zAd,cK];omega
   ·omega
theorem AT:∀l:List Node,aj (l.flatMap aL)<=aj l:=by
 refine ax (by simp[aj]) ?_
 intro n l h1 h2;rw[zAd,cK];simp only[aj]
 have:aj (aL n)<=j6 n:=by
  rw[gx];split
  ·simp[aj]
  ·split
   ·simp only[aj,uL]
    have g1:=rC (cJ n.name) (bc ((aS n.name n.kids).flatMap aL));have g2:=dg ((aS n.name n.kids).flatMap aL) [];have g3:=EA (cJ n.name) n.kids;simp only[aS,bc,aj]at *;omega
   ·simp[aj]
 omega
theorem A8{l:List Node}(h:an Dj l):an Dj (bc l):=ep fun m hm=>by
 obtain⟨n,hn,e1,e2,e3,e4⟩:=kO l [] m hm;obtain⟨g1,g2⟩:=aP.1 h n (by simpa using hn)
 exact⟨⟨by rw[e2];exact g1.1,by rw[e3];exact g1.2.1,by rw[e3];exact g1.2.2⟩,by rw[e4];exact g2⟩
theorem G1:∀l:List Node,an Dj l->∀n∈l,an Dj (aL n):=by
 refine ax (fun _ n h=>by cases h) ?_
 intro n l h1 h2 h x hx;obtain⟨⟨g1,g2⟩,g3⟩:=aH.1 h;rcases zAi.1 hx with rfl|hx
 ·rw[gx]
  split
  ·trivial
  ·split
   ·refine aH.2 ⟨⟨g1,?_⟩,trivial⟩
    have:an Dj (bc ((aS x.name x.kids).flatMap aL)):=A8 (ep fun y hy=>by
     obtain⟨z,hz,hy⟩:=zCa.1 hy;exact aP.1 (h1 g2 z (zAh.1 hz).1) y hy)
    exact ep fun y hy=>aP.1 this y (zAh.1 hy).1
   ·exact aH.2 ⟨⟨g1,g2⟩,trivial⟩
 ·exact h2 g3 x hx
theorem ST(A:Constraint->Str->Bool)(p:Policy):∀(l:List Node)(par:Str),an Dj l->an Dj (clL A p l par):=by
 refine ax (fun _ _=>by simp[clL,an]) ?_
 intro n l h1 h2 par h;obtain⟨⟨g1,g2⟩,g3⟩:=aH.1 h;simp only[clL];refine jB.2 ⟨?_,h2 par g3⟩;rw[pR];split
 ·split
  ·refine aH.2 ⟨⟨⟨g1.1,Nat.le_trans (zDa _ _) g1.2.1,fun a ha=>g1.2.2 a (zAh.1 ha).1⟩,h1 n.name g2⟩,trivial⟩
  ·split
   ·exact h1 par g2
   ·trivial
 ·split
  ·exact aH.2 ⟨⟨⟨by simp,by simp,fun a ha=>by cases ha⟩,trivial⟩,trivial⟩
  ·trivial
theorem HI{l:List Node}(h:SizeB l):SizeB (mt l) where
 att:=A8 (ep fun y hy=>by
  obtain⟨z,hz,hy⟩:=zCa.1 hy;exact aP.1 (G1 _ h.att z hz) y hy)
 cnt:=by
  have g1:=dg (l.flatMap aL) [];have g2:=AT l;have:=h.cnt;simp only[mt,bc,aj]at *;omega
 wt:=by
  have g1:=mf (l.flatMap aL);have g2:=me l;have:=h.wt;simp only[mt];omega
 tt:=by
  have g1:=mq (l.flatMap aL);have g2:=EU l;have:=h.tt;simp only[mt];omega
theorem SA(A:Constraint->Str->Bool)(p:Policy):∀(l:List Node)(par:Str),aj (clL A p l par)<=aj l:=by
 refine ax (fun _=>by simp[clL,aj]) ?_
 intro n l h1 h2 par;have a1:=h2 par;simp only[clL,cK,aj]
 have:aj (clN A p n par)<=j6 n:=by
  rw[pR,uL];split
  ·split
   ·have:=h1 n.name
    simp only[aj,uL];omega
   ·split
    ·have:=h1 par;omega
    ·simp[aj]
  ·split
   ·simp only[aj,uL];omega
   ·simp[aj]
 omega
theorem HK(A:Constraint->Str->Bool)(p:Policy)(par:Str){l:List Node}(h:SizeB l):SizeB (clL A p l par) where
 att:=ST A p l par h.att
 cnt:=by have:=SA A p l par;have:=h.cnt;omega
 wt:=by have:=Hl A p l par;have:=h.wt;omega
 tt:=by have:=QC A p l par;have:=h.tt;omega
theorem QW:SizeB []:=⟨trivial,by simp[aj],by simp[aN],by simp[bh]⟩
theorem yL(A:Constraint->Str->Bool)(p:Policy){l:List Node}(h:SizeB l):SizeB (dP A p l):=by
 unfold dP;split
 ·exact HI (HK A p [] h)
 ·exact QW
end Go.Abs.F
end
