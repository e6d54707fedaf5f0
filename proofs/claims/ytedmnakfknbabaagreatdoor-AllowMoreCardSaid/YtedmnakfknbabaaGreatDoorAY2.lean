/- What strainerref13's rules and Good hand back when a caller's own pool is lent: rows of the pool. No condition. -/
import Derived.Test.YtedmnakfknbabaaGreatDoorACodeY
import Derived.Test.YtedmnakfknbabaaGreatDoorAR17
set_option linter.all false
set_option maxHeartbeats 0
open List renaming reduceReplicate→zAa,take→zAb,getElem?_eq_some_iff→zAc,getElem?_map→zAd,mem_of_getElem?→zAe,getElem?_take→zAf,getElem?_set→zAg,length_take→zAh,map→zAi,ext_getElem?→zAj,getElem?_eq_none_iff→zBa,length_set→zBb,take_of_length_le→zBc,getElem?_eq_none→zBd,take_add_one→zBf,length_nil→zBg,length_map→zBh
open Bool renaming false_eq_true→zBe
open Nat renaming lt_or_ge→zBi,zero_le→zBj
section
set_option maxRecDepth 100000
namespace Go.Abs.F
open Go.Proofs
attribute [-simp] getElem?_pos Option.not_isSome List.map_map
theorem M4(ms:List Po)(l:List Rule)(hR:∀r∈l,r.value.regex.length<=1125899906842624):FnH Tryz.prog oE [] [.seq 5 (l.map Rule.v)] [some (.pool ms)] (.q 1 ms.length (du l).length 0 0) [some (.pool (ms++[.rw ax 5 ((du l).map Rule.v)]))]:=by
 refine FnH.of_image mixed wd vP rfl fun ho hh=>?_;unfold nh;have hlen:l.length<=140737488355328:=by have:=ho.1;simp[ok]at this;exact this.1
 clear ho hh;simp(disch:=omega) [-zAa];generalize hw:du l=w;have hl3:(zAb 3 l).length=min 3 l.length:=zAh
 refine an (fun(q:Nat×List Rule)=>⟨[(0,.seq 5 (l.map Rule.v)),(3,.q 1 ms.length q.2.length 0 0),(4,.ref 1 q.2.length),(5,.int .i64 q.1)],
  [some (.pool (ms++[.rw ax 5 (q.2.map Rule.v)])),some (.arr au 1 ((q.2.map Rule.name).map .str))]⟩)
  (fun q=>q.1<=(zAb 3 l).length/\q.2.length<=q.1/\ek q.1 q.2 ((zAb 3 l).drop q.1)=w) (fun q=>(zAb 3 l).length-q.1) [.q 3 ax 5,.r 4 au 1] _ (0,[]) rfl (by simp) (by simp[<-hw,du]) ?_
 rintro⟨k,out⟩ ⟨hk,hol,hi⟩ N hN;simp only at hk hol hi;have hgl:(ms++[Po.rw ax 5 (out.map Rule.v)])[ms.length]?=some (.rw ax 5 (out.map Rule.v)):=List.getElem?_concat_length ..;rcases place (zAb 3 l) k hk with⟨he,hd⟩|⟨hlt,x,hx,hd⟩<;>rw[hd,ek]at hi
 ·subst hi
  clear hw;simp(disch:=omega) [-zAa]
  repeat' (first|(refine BrKd.mk (fun h=>?_) (fun h=>?_)<;>simp(disch:=omega) [*])|(refine BrK.mk (fun h=>?_) (fun h=>?_)<;>simp(disch:=omega) [*]))
  all_goals first|omega|simp[*]
 ·have hx2:l[k]?=some x:=by rw[zAf]at hx;simpa[show k<3 by omega]using hx
  have hRx:=hR x (zAe hx2);replace hi:=hid hi;simp(disch:=omega) [-zAa,hx2];refine eA (rc x.value hRx) (by simp) ?_
  simp(disch:=omega) [-zAa,hx2];refine ae (rb _) rfl fun _=>?_;simp(disch:=omega) [-zAa,hx2];refine ae (dh _) rfl fun _=>?_;have hk3:k<3:=by omega
  obtain⟨pn,hpn⟩:∃pn,vd[k]?=some pn:=a8 (l:=vd) (k:=k) (by simpa[vd]using hk3)
  have hpn2:([.str [105,100],.str [104,114,101,102],.str [100,97,116,97,45,42]]:List V)[k]?=some (.str pn):=by
   have:(vd.map V.str)[k]?=some (.str pn):=by rw[zAd,hpn];rfl
   exact this
  have fin:∀g:Rule,cX k x=g->∀τ:St,τ.nrm [0,3,4,5]=⟨[(0,.seq 5 (l.map Rule.v)),(3,.q 1 ms.length (if hasS (out.map Rule.name) g.name then out else out++[g]).length 0 0),(4,.ref 1 (if hasS (out.map Rule.name) g.name then out else out++[g]).length),(5,.int .i64 ((k+1:Nat):Int))],
   [some (.pool (ms++[.rw ax 5 ((if hasS (out.map Rule.name) g.name then out else out++[g]).map Rule.v)])),some (.arr au 1 (((if hasS (out.map Rule.name) g.name then out else out++[g]).map Rule.name).map .str))]⟩->N τ:=by
   intro g hg τ hτ;have hi:=hi.out;rw[hg]at hi;refine hN.out _<|Nx.mk (k+1,if hasS (out.map Rule.name) g.name then out else out++[g]) hτ ⟨by simp only;omega,?_,hi⟩ (by simp only;omega)
   split<;>simp<;>omega
  simp(disch:=omega) [-zAa,hx2];refine BrK.mk (fun hb=>?_) (fun hb=>?_)
  ·simp(disch:=omega) [-zAa,hx2]
   refine BrK.mk (fun hm=>?_) (fun hm=>?_)
   all_goals
    simp(disch:=omega) [-zAa,hm,hx2];refine ae (by simpa using dJ (out.map Rule.name) x.name) rfl fun _=>?_
    simp(disch:=omega) [-zAa,hx2];refine BrK.mk (fun hh=>?_) (fun hh=>?_)
    all_goals
     simp(disch:=omega) [-zAa,hh,hx2,hgl];refine fin _ (by simp only[cX,hb,if_true,hm,Bool.not_true,Bool.not_false,Bool.true_and,Bool.false_and];rfl) _ ?_
     simp[hh]
  ·simp(disch:=omega) [-zAa,hpn2,hx2]
   have hb':cX k x=⟨pn,good12 x.value,!decide (k=2)&&x.req⟩:=by simp[cX,hb,hpn]
   refine BrKd.mk (fun hm=>?_) (fun hm=>?_)
   all_goals
    simp(disch:=omega) [-zAa,hm,hx2];refine ae (by simpa using dJ (out.map Rule.name) pn) rfl fun _=>?_
    simp(disch:=omega) [-zAa,hx2];refine BrK.mk (fun hh=>?_) (fun hh=>?_)
    all_goals
     simp(disch:=omega) [-zAa,hh,hx2,hgl];refine fin _ hb' _ ?_;simp[hh,hm]
theorem uP{P:Program}{d f vs us}{K:St->Prop}{σ:St}{r:V}{ms:List Po}(F:Nat)(hp:σ.pl?=some ms)(hu:dV (frz ms F) vs=some us)(h:(Fn P f us r/\bU r=true)\/FnN P f us r)(k:ok r->K (σ.put d r)):dj (Cn P) d f vs K σ:=.inr (.inr ⟨r,⟨F,ms,us,hp,hu,h⟩,k⟩)
theorem ze{P:Program}{d f vs us}{K:St->Prop}{σ:St}{r:V}{ms:List Po}(F:Nat)(hp:σ.pl?=some ms)(hu:dV (frz ms F) vs=some us)(h:(Fn P f us r/\bU r=true)\/FnN P f us r)(k:K (σ.put d r)):nz (Cn P) d f vs K σ:=.inr ⟨r,⟨F,ms,us,hp,hu,h⟩,k⟩
theorem MT{ms:List Po}{F:Nat}{cs:List V}:frz ms (F+1) (.strct cs)=(dV (frz ms F) cs).map .strct:=rfl
theorem Qe{ms:List Po}{F sz:Nat}:frz ms (F+1) (.nil sz)=some (.seq sz []):=rfl
theorem Qd{ms:List Po}{F sz:Nat}{l:List V}:frz ms (F+1) (.seq sz l)=some (.seq sz l):=rfl
theorem A1{k:Nat}{els:List Allowed}{x:List Po}(h:∀j e,k<=j->els[j]?=some e->e.kids=[])(r:List V)(r':List V)(hr:dV (frz (plE k els x) 8) r=some r'):
 dV (frz (plE k els x) 8) (.strct [.nil 1,.q 1 0 els.length 0 0,.nil 1]::r)=some ((⟨[],els,[]⟩:Policy).v::r'):=by
 have h1:=HC (F:=2) (x:=x) h;simp only[dV,hr,MT (F:=7),Qe (F:=6),h1];rfl
theorem plE_z{k:Nat}{els:List Allowed}{x y:List Po}:(plE k els x++y)[0]?=some (.rw ak 3 (bI k 0 els)):=rfl
theorem LX{els:List Allowed}{a b:Po}:(plE 0 els []++[a,b])[2*els.length+2]?=some b:=by
 rw[List.getElem?_append_right (by simp[ux])]
 simp[ux]
theorem Qk(p:Policy)(hR:∀e∈p.elements,∀r∈e.rules,r.value.regex.length<=1125899906842624):FnH Tryz.prog qG [] [p.v] [some (.pool [])] (Sv (bo p)) [some (.pool (LT (bo p)))]:=by
 refine FnH.of_image mixed yq xU rfl fun ho hh=>?_;unfold oX;have hlt:p.top.length<=140737488355328:=by have:=ho.1;simp[ok,oks]at this;exact this.1.1
 have hle:p.elements.length<=140737488355328:=by have:=ho.1;simp[ok,oks]at this;exact this.2.1.1
 have hlu:p.unwrap.length<=140737488355328:=by have:=ho.1;simp[ok,oks]at this;exact this.2.2.1
 clear ho hh;simp(disch:=omega) [-zAa];generalize hg:bo p=g;have hgd:g=bo p:=hg.symm;simp only[bo]at hgd;have hl5:(zAb 5 p.elements).length=min 5 p.elements.length:=zAh;have hal:=ky (p.elements.take 5) [] 0;have hak:=lg (p.elements.take 5) [] 0 (by simp)
 generalize ha:gz 0 [] (p.elements.take 5)=els at hgd hal hak
 refine an (fun(q:Nat×List Allowed)=>⟨[(1,.ptr 1 0),(2,.ptr 2 0),(3,.ptr 3 0),(4,.int .i64 q.1)],
  [some (.pool (plE 0 q.2 [])),some (.box [.seq 1 (p.top.map .str),.seq 3 (p.elements.map Allowed.v),.seq 1 (p.unwrap.map .str)]),some (.box [.nil 1,.nil 3,.nil 1]),some (.box [.nil 1,.q 1 0 q.2.length 0 0,.nil 1])]⟩)
  (fun q=>q.1<=(zAb 5 p.elements).length/\q.2.length<=q.1/\(∀e∈q.2,e.kids=[])/\gz q.1 q.2 ((zAb 5 p.elements).drop q.1)=els) (fun q=>(zAb 5 p.elements).length-q.1) [.qb 3 1 ak 3] _ (0,[]) rfl (by simp[plE,bI,tlE]) (by simp[<-ha]) ?_
 rintro⟨k,out⟩ ⟨hk,hol,hnk,hi⟩ N hN;simp only at hk hol hi hnk;have hp0:(plE 0 out [])[0]?=some (.rw ak 3 (bI 0 0 out)):=LZ;have hrl:(bI 0 0 out).length=out.length:=eR 0 out 0;have hpl:(plE 0 out []).length=2*out.length+1:=by simp[ux]
 have hnk':∀j e,0<=j->out[j]?=some e->e.kids=[]:=fun j e _ h=>hnk e (zAe h);rcases place (zAb 5 p.elements) k hk with⟨he,hd⟩|⟨hlt,x,hx,hd⟩<;>rw[hd,gz]at hi
 ·subst hi
  have hol5:out.length<=p.elements.length/\out.length<=5:=by simp only[zBg]at hal;omega
  have hkk:(k<p.elements.length/\k=5)\/k=p.elements.length:=by omega
  clear hd hN hol hk he hal ha;generalize hb:dp 0 out (p.elements.take out.length)=bs at hgd;rcases hkk with hkk|hkk
  all_goals
   simp(disch:=omega) [-zAa,hkk];have hlo:(p.elements.take out.length).length=out.length:=by rw[zAh];omega
   refine an (fun(q:Nat×List Allowed)=>⟨[(1,.ptr 1 0),(2,.ptr 2 0),(3,.ptr 3 0),(10,.int .i64 q.1)],
    [some (.pool (plE q.1 q.2 [])),some (.box [.seq 1 (p.top.map .str),.seq 3 (p.elements.map Allowed.v),.seq 1 (p.unwrap.map .str)]),some (.box [.nil 1,.nil 3,.nil 1]),some (.box [.nil 1,.q 1 0 q.2.length 0 0,.nil 1])]⟩)
    (fun q=>q.1<=(p.elements.take out.length).length/\q.2.length=out.length/\(∀j e,q.1<=j->q.2[j]?=some e->e.kids=[])/\dp q.1 q.2 ((p.elements.take out.length).drop q.1)=bs) (fun q=>(p.elements.take out.length).length-q.1) [] _ (0,out) rfl (by simp) ⟨by simp,rfl,hnk',by simpa using hb⟩ ?_
   rintro⟨k,els⟩ ⟨hk,hol,hnk2,hi⟩ N hN;simp only at hk hol hi hnk2;have hp0:(plE k els [])[0]?=some (.rw ak 3 (bI k 0 els)):=LZ;have hrl:(bI k 0 els).length=els.length:=eR k els 0;have hpl:(plE k els []).length=2*els.length+1:=by simp[ux]
   rcases place (p.elements.take out.length) k hk with⟨he,hd⟩|⟨hlt,x,hx,hd⟩<;>rw[hd,dp]at hi
   ·subst hi
    have hke:k=els.length:=by omega
    clear hd;subst hke;simp(disch:=omega) [-zAa,hp0,hrl];refine uP 8 (by rfl) (A1 (x:=[]) hnk2 [.str [],.seq 1 (p.top.map .str)] _ rfl) (.inr (by simpa using el ⟨[],els,[]⟩ [] p.top)) fun hok=>?_
    simp(disch:=omega) [-zAa];generalize hu:lz [] (p.unwrap.take 4)=us at hgd;have hl4:(zAb 4 p.unwrap).length=min 4 p.unwrap.length:=zAh;clear hN
    refine an (fun(q:Nat×List Str)=>⟨[(1,.ptr 1 0),(2,.ptr 2 0),(3,.ptr 3 0),(12,.int .i64 q.1)],
     [some (.pool (plE els.length els [.rw au 1 (q.2.map .str)])),some (.box [.seq 1 (p.top.map .str),.seq 3 (p.elements.map Allowed.v),.seq 1 (p.unwrap.map .str)]),some (.box [.nil 1,.nil 3,.nil 1]),some (.box [.seq 1 ((dW ⟨[],els,[]⟩ [] p.top).map .str),.q 1 0 els.length 0 0,.q 1 (2*els.length+1) q.2.length 0 0])]⟩)
     (fun q=>q.1<=(zAb 4 p.unwrap).length/\q.2.length<=q.1/\lz q.2 ((zAb 4 p.unwrap).drop q.1)=us) (fun q=>(zAb 4 p.unwrap).length-q.1) [.qb 3 2 au 1] _ (0,[]) rfl (by simp[hpl,plE,fL]) (by simp[<-hu]) ?_
    rintro⟨j,uw⟩ ⟨hj,hul,hi⟩ N hN;simp only at hj hul hi;have hU:(plE els.length els [.rw au 1 (uw.map .str)])[2*els.length+1]?=some (.rw au 1 (uw.map .str)):=FM 0;have hS:∀m,(plE els.length els [.rw au 1 (uw.map .str)]).set (2*els.length+1) m=plE els.length els [m]:=fun m=>zH 0 m;rcases place (zAb 4 p.unwrap) j hj with⟨he2,hd2⟩|⟨hlt2,y,hy,hd2⟩<;>rw[hd2,lz]at hi
    ·subst hi
     have hjj:(j<p.unwrap.length/\j=4)\/j=p.unwrap.length:=by omega
     rcases hjj with hjj|hjj
     all_goals
      simp(disch:=omega) [-zAa,hjj];simp[hgd,Sv,LT]
    ·have hy2:p.unwrap[j]?=some y:=by rw[zAf]at hy;simpa[show j<4 by omega]using hy
     replace hi:=hid hi;simp(disch:=omega) [-zAa,hy2];refine ae (dh _) rfl fun _=>?_;simp(disch:=omega) [-zAa,hy2]
     have hfz:dV (frz (plE els.length els [.rw au 1 (uw.map .str)]) 8) [.q 1 (2*els.length+1) uw.length 0 0,.str y]=some [.seq 1 (uw.map .str),.str y]:=by
      have:=qZ (ms:=plE els.length els [.rw au 1 (uw.map .str)]) (F:=6) uw;simp[dV,frz,hU,this]
     refine ze 8 rfl hfz (.inl ⟨by simpa using dJ uw y,rfl⟩) ?_
     simp(disch:=omega) [-zAa,hy2];have yes:plain y=true->hasS uw y=false->lz (uw++[y]) ((zAb 4 p.unwrap).drop (j+1))=us:=fun h h'=>by have hi:=hi.out;simpa[h,h']using hi
     have no:(plain y&& !hasS uw y)=false->lz uw ((zAb 4 p.unwrap).drop (j+1))=us:=fun h=>by have hi:=hi.out;rw[if_neg (by simp[h])]at hi;exact hi
     replace yes:=hid yes;replace no:=hid no;refine BrK.mk (fun h1=>?_) (fun h1=>?_)
     ·simp(disch:=omega) [-zAa,h1]
      refine BrK.mk (fun h2=>?_) (fun h2=>?_)
      ·simp(disch:=omega) [-zAa,h1,h2]
       refine hN.out _<|Nx.mk (j+1,uw) (by simp) ⟨by simp only;omega,by simp only;omega,no.out (by simp[h2])⟩ (by simp only;omega)
      ·simp(disch:=omega) [-zAa,h1,h2,hy2,hU,hS]
       refine hN.out _<|Nx.mk (j+1,uw++[y]) (by simp) ⟨by simp only;omega,by simp;omega,yes.out h1 h2⟩ (by simp only;omega)
     ·simp(disch:=omega) [-zAa,h1]
      refine hN.out _<|Nx.mk (j+1,uw) (by simp) ⟨by simp only;omega,by simp only;omega,no.out (by simp[h1])⟩ (by simp only;omega)
   ·have hx2:p.elements[k]?=some x:=by rw[zAf]at hx;simpa[show k<out.length by omega]using hx
    obtain⟨e,hex⟩:=a8 (l:=els) (k:=k) (by omega)
    have hi:=hi;have hsk:dt els k x.kids=els.set k ⟨e.name,dW ⟨[],els,[]⟩ e.name x.kids,e.rules⟩:=by simp[dt,hex]
    rw[hsk]at hi;replace hi:=hid hi;have hfit:=el ⟨[],els,[]⟩ e.name x.kids;generalize dW ⟨[],els,[]⟩ e.name x.kids=fit at *
    have hcell:(bI k 0 els)[k]?=some (.strct [.str e.name,.nil 1,.q 1 (2*k+1) e.rules.length 0 0]):=by
     have:=u6 (k:=k) els 0 k hex;simpa[fw]using this
    have hset:(plE k els []).set 0 (.rw ak 3 ((bI k 0 els).set k (.strct [.str e.name,.seq 1 (fit.map .str),.q 1 (2*k+1) e.rules.length 0 0])))=plE (k+1) (els.set k ⟨e.name,fit,e.rules⟩) []:=by
     have:=LY (x:=[]) (fit:=fit) hex;simpa[fw]using this
    simp only[ak]at hset;simp(disch:=omega) [-zAa,hx2,hp0,hrl,hcell];refine j4 ⟨[(1,.ptr 1 0),(2,.ptr 2 0),(3,.ptr 3 0),(10,.int .i64 k)],[some (.pool (plE (k+1) (els.set k ⟨e.name,fit,e.rules⟩) [])),some (.box [.seq 1 (p.top.map .str),.seq 3 (p.elements.map Allowed.v),.seq 1 (p.unwrap.map .str)]),some (.box [.nil 1,.nil 3,.nil 1]),some (.box [.nil 1,.q 1 0 els.length 0 0,.nil 1])]⟩ (fun F hF=>?_) ?_
    ·clear hN hi
     repeat' (first
      |with_reducible exact hF
      |refine rS.mk ?_ ?_
      |(refine ze 8 rfl (A1 (x:=[]) hnk2 [.str e.name,.seq 1 (x.kids.map .str)] _ rfl) (.inr (by simpa using hfit)) ?_)
      |(simp(disch:=omega) [-zAa,hx2,hp0,hrl,hcell,hset]))
    ·simp(disch:=omega) [-zAa]
     refine hN.out _<|Nx.mk (k+1,els.set k ⟨e.name,fit,e.rules⟩) (by simp) ⟨by simp only;omega,by simp;omega,fun j e' hj he'=>?_,hi.out⟩ (by simp only;omega)
     simp only at hj he';rw[List.getElem?_set_ne (by omega)]at he'
     exact hnk2 j e' (by omega) he'
 ·have hx2:p.elements[k]?=some x:=by rw[zAf]at hx;simpa[show k<5 by omega]using hx
  have hRx:=hR x (zAe hx2);obtain⟨pn,hpn⟩:∃pn,ve[k]?=some pn:=a8 (l:=ve) (k:=k) (by simp only[ve,List.length_cons,zBg];omega)
  have hpn2:([.str [97],.str [98],.str [112],.str [98,114],.str [115,116,121,108,101]]:List V)[k]?=some (.str pn):=by
   have:(ve.map V.str)[k]?=some (.str pn):=by rw[zAd,hpn];rfl
   exact this
  replace hi:=hid hi;simp(disch:=omega) [-zAa,hx2];refine ae (dh _) rfl fun _=>?_;simp(disch:=omega) [-zAa,hx2];refine BrK.mk (fun hb=>?_) (fun hb=>?_)
  all_goals
   first
    |(have hnm:iZ k x.name=x.name:=by rw[iZ,if_pos hb])
    |(have hnm:iZ k x.name=pn:=by rw[iZ,if_neg (by simp[hb]),hpn];rfl)
   have hi:=hi.out;rw[hnm]at hi;replace hi:=hid hi;simp(disch:=omega) [-zAa,hx2,hpn2];refine uP 8 rfl (A1 hnk' _ _ rfl) (.inl ⟨Fn.jk (lc ⟨[],out,[]⟩ _),by simp⟩) fun _=>?_
   simp(disch:=omega) [-zAa,hx2];refine BrK.mk (fun hf=>?_) (fun hf=>?_)
   ·simp(disch:=omega) [-zAa,hx2]
    have hi:=hi.out;rw[if_pos hf]at hi;refine hN.out _<|Nx.mk (k+1,out) (by simp) ⟨by simp only;omega,by simp only;omega,hnk,hi⟩ (by simp only;omega)
   ·simp(disch:=omega) [-zAa,hx2]
    have hi:=hi.out;rw[if_neg (by simp[hf])]at hi
    replace hi:=hid hi;have hrules:=M4 (plE 0 out []) x.rules hRx;generalize du x.rules=rs at *;rw[hpl]at hrules
    have push:∀nm:Str,(plE 0 out []++[Po.rw ax 5 (rs.map Rule.v),Po.rw ak 3 [.strct [.str nm,.nil 1,.q 1 (2*out.length+1) rs.length 0 0]]]).set 0 (.rw ak 3 (bI 0 0 out++[.strct [.str nm,.nil 1,.q 1 (2*out.length+1) rs.length 0 0]]))=plE 0 (out++[⟨nm,[],rs⟩]) []:=fun nm=>by
     have:=LW (els:=out) (nm:=nm) (rs:=rs);simpa[fw]using this
    simp only[ax,ak]at push;refine j4 ⟨[(1,.ptr 1 0),(2,.ptr 2 0),(3,.ptr 3 0),(4,.int .i64 k)],[some (.pool (plE 0 (out++[⟨if plain x.name=true then x.name else pn,[],rs⟩]) [])),some (.box [.seq 1 (p.top.map .str),.seq 3 (p.elements.map Allowed.v),.seq 1 (p.unwrap.map .str)]),some (.box [.nil 1,.nil 3,.nil 1]),some (.box [.nil 1,.q 1 0 (out.length+1) 0 0,.nil 1])]⟩ (fun F hF=>?_) ?_
    ·simp only[hb,if_true,if_false,zBe]at hF
     clear hN hi
     repeat' (first
      |with_reducible exact hF
      |refine rS.mk ?_ ?_
      |(refine Fk [] 1 [0] (by simp) (by simp) (by simp) (by simp) hrules (by simp) ?_)
      |(simp(disch:=omega) [-zAa,hx2,hp0,hrl,hpl,plE_z,LX,push]))
    ·simp only[hb,if_true,if_false,zBe]
     simp(disch:=omega) [-zAa];refine hN.out _<|Nx.mk (k+1,out++[⟨_,[],rs⟩]) (by simp) ⟨by simp only;omega,by simp;omega,fun e he=>?_,hi.out⟩ (by simp only;omega)
     rcases List.mem_append.1 he with h|h
     ·exact hnk e h
     ·simp at h;subst h;rfl
theorem Lt{α:Type}{l:List α}{i:Nat}{x:α}(h:l[i]?=some x):l.set i x=l:=by
 refine zAj fun j=>?_;rw[zAg];split
 ·rename_i e;subst e
  rw[h,if_pos (zAc.1 h).1]
 ·rfl
def HT(i:Nat)(els w:List Allowed):Prop:=w.length=els.length/\∀j e,els[j]?=some e->w[j]?=some (if j<i then cH e else e)
def HS(k:Nat)(rs w:List Rule):Prop:=w.length=rs.length/\∀j r,rs[j]?=some r->w[j]?=some (if j<k then gu r else r)
theorem Gh{k:Nat}{rs w:List Rule}{r:Rule}(h:HS k rs w)(hr:rs[k]?=some r):HS (k+1) rs (w.set k (gu r)):=by
 refine⟨by rw[zBb];exact h.1,fun j s hs=>?_⟩
 rw[zAg];split
 ·rename_i e;subst e
  rw[hr]at hs;cases hs;have:=(zAc.1 hr).1;rw[if_pos (by rw[h.1];exact this),if_pos (by omega)]
 ·rw[h.2 j s hs]
  congr 1;by_cases hj:j<k
  ·rw[if_pos hj,if_pos (by omega)]
  ·rw[if_neg hj,if_neg (by omega)]
theorem JC{rs w:List Rule}(h:HS rs.length rs w):w=rs.map gu:=by
 refine zAj fun j=>?_;rw[zAd];cases hr:rs[j]? with
 |none=>rw[zBa]at hr;rw[zBd (by rw[h.1];exact hr)];rfl
 |some r=>rw[h.2 j r hr,if_pos (zAc.1 hr).1];rfl
theorem Gi{i:Nat}{els w:List Allowed}{e:Allowed}(h:HT i els w)(he:els[i]?=some e):HT (i+1) els (w.set i ⟨e.name,e.kids,e.rules.map gu⟩):=by
 refine⟨by rw[zBb];exact h.1,fun j s hs=>?_⟩
 rw[zAg];split
 ·rename_i e';subst e'
  rw[he]at hs;cases hs;have:=(zAc.1 he).1;rw[if_pos (by rw[h.1];exact this),if_pos (by omega)]
  rfl
 ·rw[h.2 j s hs]
  congr 1;by_cases hj:j<i
  ·rw[if_pos hj,if_pos (by omega)]
  ·rw[if_neg hj,if_neg (by omega)]
theorem JD{els w:List Allowed}(h:HT els.length els w):w=els.map cH:=by
 refine zAj fun j=>?_;rw[zAd];cases hr:els[j]? with
 |none=>rw[zBa]at hr;rw[zBd (by rw[h.1];exact hr)];rfl
 |some r=>rw[h.2 j r hr,if_pos (zAc.1 hr).1];rfl
theorem ri(p:Policy)(l:List Node)(hR:∀e∈p.elements,∀r∈e.rules,r.value.regex.length<=1125899906842624):FnE Tryz.prog bE [p.v,.seq 5 (l.map Node.v)] (.bool true):=by
 refine FnE.of_imageQ mixed pX pS rfl fun ho=>?_;unfold i9;clear ho;obtain⟨b1,b2,b3⟩:=Ep l;have hb1:=Qh _ b1 (by omega)
 have hbN:=Qg _ b1;have c1:=Qx p (fG l) hb1 hbN (by omega)
 have c2:=Cz p (fG l) hb1 hbN (by omega)
 have hml:=Mg allows12 (k8 p) (l:=fG l);have hg:=Cl p hR;have hgq:=Qk p hR;have hg6:=Cm l;have hfew:=wq p;generalize hn1:ik allows12 (bo p) (fG l)=nv at *;generalize ik allows12 (bK (bo p)) (fG l)=nw at *;generalize bo p=g at *;generalize fG l=b at *;clear b1 hb1 hbN b3;obtain⟨top,els,unw⟩:=g;simp only[Sv,LT,bK]at hgq c2;simp(disch:=omega) [-zAa];refine aP (by simpa using hg) (by simp) fun _=>?_
 simp(disch:=omega) [-zAa];refine aP hg6 (by simp) fun _=>?_
 simp(disch:=omega) [-zAa];refine ae (by simpa using c1) rfl fun _=>?_
 simp(disch:=omega) [-zAa];refine aw [] 1 [0] (by simp) (by simp) (by simp) (by simp) hgq (by simp) fun _ _=>?_
 simp(disch:=omega) [-zAa];have hl5:els.length<=1000000:=by have:=hfew.2.1;simp only at this;omega
 have hr5:∀e∈els,e.rules.length<=1000000:=fun e he=>(hfew.2.2 e he).2;clear hfew hg hg6 hgq c1 hn1
 refine an (fun(q:Nat×List Allowed)=>⟨[(6,.seq 5 (b.map Node.v)),(7,.bool nv),(8,.ptr 1 0),(9,.int .i64 q.1)],
  [some (.pool (plE els.length q.2 [.rw au 1 (unw.map .str),.rw au 1 (((els.map Allowed.name).take q.1).map .str)])),some (.box [.q 1 (2*els.length+2) q.1 0 0,.q 1 0 els.length 0 0,.q 1 (2*els.length+1) unw.length 0 0])]⟩)
  (fun q=>q.1<=els.length/\HT q.1 els q.2) (fun q=>els.length-q.1) [.qb 3 0 au 1] _ (0,els) rfl (by simp[plE,fL]) ⟨zBj _,rfl,fun j e h=>by simpa using h⟩ ?_
 rintro⟨i,w⟩ ⟨hi,hw⟩ N hN;simp only at hi hw;have hwl:=hw.1;have hrl:(bI els.length 0 w).length=els.length:=by rw[eR];exact hwl
 have g0:∀(w':List Allowed)(x:List Po),(plE els.length w' x)[0]?=some (.rw ak 3 (bI els.length 0 w')):=fun _ _=>rfl
 have gT:∀(w':List Allowed)(a c:Po),w'.length=els.length->(plE els.length w' [a,c])[2*els.length+2]?=some c:=fun w' a c h=>by
  have:=FM (k:=els.length) (els:=w') (x:=[a,c]) 1;rwa[h]at this
 have sT:∀(w':List Allowed)(a c d:Po),w'.length=els.length->(plE els.length w' [a,c]).set (2*els.length+2) d=plE els.length w' [a,d]:=fun w' a c d h=>by
  have:=zH (k:=els.length) (els:=w') (x:=[a,c]) 1 d;rwa[h]at this
 have hnl:(els.map Allowed.name).length=els.length:=zBh ..;rcases zBi i els.length with hlt|hge
 ·obtain⟨e,he⟩:=a8 (l:=els) (k:=i) hlt
  have hwi:w[i]?=some e:=by rw[hw.2 i e he,if_neg (by omega)]
  have hcell:(bI els.length 0 w)[i]?=some (.strct [.str e.name,.seq 1 (e.kids.map .str),.q 1 (2*i+1) e.rules.length 0 0]):=by
   have:=u6 (k:=els.length) w 0 i hwi;simpa[fw,hlt]using this
  have htk:(els.map Allowed.name).take (i+1)=(els.map Allowed.name).take i++[e.name]:=by
   rw[zBf,zAd,he];rfl
  have hre:=hr5 e (zAe he);simp(disch:=omega) [-zAa,g0,hrl,hcell,hlt,gT _ _ _ hwl,sT _ _ _ _ hwl]
  have htk:zAb (i+1) (zAi V.str (zAi Allowed.name els))=zAb i (zAi V.str (zAi Allowed.name els))++[V.str e.name]:=by
   rw[zBf,zAd,zAd,he];rfl
  have hself:w.set i ⟨e.name,e.kids,e.rules⟩=w:=Lt hwi
  refine an (fun(q:Nat×List Rule)=>⟨[(6,.seq 5 (b.map Node.v)),(7,.bool nv),(8,.ptr 1 0),(9,.int .i64 i),(10,.int .i64 q.1)],
   [some (.pool (plE els.length (w.set i ⟨e.name,e.kids,q.2⟩) [.rw 9 1 (unw.map .str),.rw 9 1 (zAb i (zAi V.str (zAi Allowed.name els))++[V.str e.name])])),some (.box [.q 1 (2*els.length+2) (i+1) 0 0,.q 1 0 els.length 0 0,.q 1 (2*els.length+1) unw.length 0 0])]⟩)
   (fun q=>q.1<=e.rules.length/\HS q.1 e.rules q.2) (fun q=>e.rules.length-q.1) [] _ (0,e.rules) rfl (by simp[hself]) ⟨zBj _,rfl,fun j e h=>by simpa using h⟩ ?_
  rintro⟨k,rs⟩ ⟨hk,hr⟩ N2 hN2;simp only at hk hr;have hrs:=hr.1;have hwl2:(w.set i ⟨e.name,e.kids,rs⟩).length=els.length:=by rw[zBb];exact hwl
  have hrl2:(bI els.length 0 (w.set i ⟨e.name,e.kids,rs⟩)).length=els.length:=by rw[eR];exact hwl2
  have hcell2:(bI els.length 0 (w.set i ⟨e.name,e.kids,rs⟩))[i]?=some (.strct [.str e.name,.seq 1 (e.kids.map .str),.q 1 (2*i+1) e.rules.length 0 0]):=by
   rw[u5 hr.1 w 0 i hwi];exact hcell
  have hat:(w.set i ⟨e.name,e.kids,rs⟩)[i]?=some ⟨e.name,e.kids,rs⟩:=by
   rw[zAg,if_pos rfl,if_pos (by omega)]
  have hrow:∀x,(plE els.length (w.set i ⟨e.name,e.kids,rs⟩) x)[2*i+1]?=some (.rw ax 5 (rs.map Rule.v)):=fun x=>HB hat;rcases zBi k e.rules.length with hk1|hk2
  ·obtain⟨r,hr0⟩:=a8 (l:=e.rules) (k:=k) hk1
   have hget:rs[k]?=some r:=by rw[hr.2 k r hr0,if_neg (by omega)]
   have hset:∀x,(plE els.length (w.set i ⟨e.name,e.kids,rs⟩) x).set (2*i+1) (.rw ax 5 ((rs.map Rule.v).set k (gu r).v))=plE els.length (w.set i ⟨e.name,e.kids,rs.set k (gu r)⟩) x:=fun x=>by
    have:=I0 (k:=els.length) (x:=x) (rs:=rs.set k (gu r)) (by simp) hat
    rw[List.map_set]at this;rw[this,List.set_set]
   simp only[ax,gu,Rule.v]at hset;simp(disch:=omega) [-zAa,g0,hrl2,hcell2,hrow,hrs,hget,hk1];refine hN2.out _<|Nx.mk (k+1,rs.set k (gu r)) (by simp[hset,gu]) ⟨by simp only;omega,Gh hr hr0⟩ (by simp only;omega)
  ·have hke:k=e.rules.length:=by omega
   have hrf:rs=e.rules.map gu:=JC (by rw[hke]at hr;exact hr)
   subst hke;simp(disch:=omega) [-zAa,g0,hrl2,hcell2,hrow,hrs];refine hN.out _<|Nx.mk (i+1,w.set i ⟨e.name,e.kids,e.rules.map gu⟩) (by simp[hrf,htk]) ⟨by simp only;omega,Gi hw he⟩ (by simp only;omega)
 ·have hie:i=els.length:=by omega
  have hwe:w=els.map cH:=JD (by rw[hie]at hw;exact hw)
  subst hwe;subst hie;have htk:(els.map Allowed.name).take els.length=els.map Allowed.name:=zBc (by simp)
  simp(disch:=omega) [-zAa,g0,hrl,gT _ _ _ hwl,sT _ _ _ _ hwl]
  have hB:zAb els.length (zAi V.str (zAi Allowed.name els))++[V.str [35,116,101,120,116],V.str [35,99,111,109,109,101,110,116]]=(els.map Allowed.name++[eD,bD]).map V.str:=by
   rw[zBc (by simp)];simp[eD,bD]
  rw[hB];cases nv
  ·simp(disch:=omega) [-zAa]
   refine ae oS rfl fun _=>?_;simp(disch:=omega) [-zAa];exact⟨_,1,_,rfl,rfl,rfl⟩
  ·have hnw:nw=true:=hml rfl
   subst hnw;have hml:(els.map cH).length=els.length:=zBh ..;generalize hT:els.map Allowed.name++[eD,bD]=T at *;have hTl:T.length=els.length+2:=by rw[<-hT];simp
   have hfz:dV (frz (plE els.length (els.map cH) [.rw 9 1 (unw.map .str),.rw 9 1 (T.map .str)]) 8) [.strct [.q 1 (2*els.length+2) (els.length+2) 0 0,.q 1 0 els.length 0 0,.q 1 (2*els.length+1) unw.length 0 0],.seq 5 (b.map Node.v)]
    =some [(⟨T,els.map cH,unw⟩:Policy).v,.seq 5 (b.map Node.v)]:=by
    have h1:=HC (k:=els.length) (F:=2) (els:=els.map cH) (x:=[.rw 9 1 (unw.map .str),.rw 9 1 (T.map .str)]) (fun j e hj he=>by
     have:=(zAc.1 he).1;omega)
    rw[hml]at h1;have h2:=qZ (ms:=plE els.length (els.map cH) [.rw 9 1 (unw.map .str),.rw 9 1 (T.map .str)]) (F:=5) T;have h3:=qZ (ms:=plE els.length (els.map cH) [.rw 9 1 (unw.map .str),.rw 9 1 (T.map .str)]) (F:=5) unw;have h4:=gT (els.map cH) (.rw 9 1 (unw.map .str)) (.rw 9 1 (T.map .str)) hml
    have h5:(plE els.length (els.map cH) [.rw 9 1 (unw.map .str),.rw 9 1 (T.map .str)])[2*els.length+1]?=some (.rw 9 1 (unw.map .str)):=by
     have:=FM (k:=els.length) (els:=els.map cH) (x:=[.rw 9 1 (unw.map .str),.rw 9 1 (T.map .str)]) 0;rwa[hml]at this
    generalize plE els.length (els.map cH) [.rw 9 1 (unw.map .str),.rw 9 1 (T.map .str)]=ms at *;have e1:frz ms 7 (.q 1 (2*els.length+2) (els.length+2) 0 0)=some (.seq 1 (T.map .str)):=by simp[frz,h4,h2,hTl]
    have e2:frz ms 7 (.q 1 (2*els.length+1) unw.length 0 0)=some (.seq 1 (unw.map .str)):=by simp[frz,h5,h3]
    simp only[dV,MT (F:=7),Qd (F:=7),h1,e1,e2];rfl
   simp(disch:=omega) [-zAa];refine uP 8 (by rfl) hfz (.inl ⟨c2,rfl⟩) fun _=>?_
   simp(disch:=omega) [-zAa];refine ae oS rfl fun _=>?_;simp(disch:=omega) [-zAa];exact⟨_,1,_,rfl,rfl,rfl⟩
end Go.Abs.F
end
