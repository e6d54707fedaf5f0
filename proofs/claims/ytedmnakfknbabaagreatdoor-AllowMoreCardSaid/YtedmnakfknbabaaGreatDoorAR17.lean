/- Match of package regex. No condition. -/
import Derived.Test.YtedmnakfknbabaaGreatDoorAR16
import Derived.Test.YtedmnakfknbabaaGreatDoorAP4
import Derived.Test.YtedmnakfknbabaaGreatDoorAP5
set_option linter.all false
set_option maxHeartbeats 0
set_option maxRecDepth 100000
open List renaming reduceReplicate→zAa,getElem?_cons_succ→zAb,mem_of_getElem?→zAc,set_cons_succ→zAd,getElem?_replicate→zAe,replicate→zAf,map_map→zAh,length_cons→zAj,mem_map→zBa,map_cons→zBb,getElem?_eq_some_iff→zBc,getElem?_eq_none→zBd,length_filter_le→zBe,all_cons→zBf,ext_getElem?→zBh,filter_cons→zBj,cons_append→zCa,map_set→zCd
open Bool renaming and_eq_true→zAg,true_and→zCb
open Option renaming not_isSome→zAi
open Nat renaming lt_or_ge→zBg,le_trans→zCc
open Option.some renaming injEq→zBi
open Function renaming comp_def→zCe
section
namespace Go.Abs
open Go.Proofs Go.Aut
attribute [-simp] getElem?_pos zAi zAh
def vG(es:List NEdge)(n:Nat):List (List V):=(bH es n).map fun r=>r.map NEdge.v
theorem vF{es:List NEdge}{n:Nat}:(vG es n).length=n:=by simp[vG,bH]
theorem qJ{es:List NEdge}{n q:Nat}(h:q<n):(vG es n)[q]?=some ((bI es q).map NEdge.v):=by
 simp only[vG,bH,List.getElem?_map,List.getElem?_range h,Option.map_some]
theorem Bo{es:List NEdge}{n q:Nat}(h:n<=q):(vG es n)[q]?=none:=zBd (by rw[vF];exact h)
theorem Mq{n:Nat}:vG [] n=zAf n []:=by
 apply zBh;intro q;rcases zBg q n with h|h
 ·rw[qJ h,zAe,if_pos h];rfl
 ·rw[Bo h,zBd (by simpa using h)]
theorem Jg{es:List NEdge}{e:NEdge}{n:Nat}(h:e.fr<n):(vG es n).set e.fr ((bI es e.fr).map NEdge.v++[NEdge.v e])=vG (es++[e]) n:=by
 apply zBh;intro q;rw[List.getElem?_set,vF];rcases zBg q n with hq|hq
 ·rw[qJ hq,qJ hq]
  by_cases hf:e.fr=q
  ·subst hf;simp[bI,h]
  ·simp[bI,hf]
 ·rw[Bo hq,Bo hq]
  by_cases hf:e.fr=q
  ·omega
  ·simp[hf]
theorem eR{es:List NEdge}{q:Nat}:(bI es q).length<=es.length:=zBe _ _
theorem RR{N:Net}(h:N.ok):∃sn now,ow (bH N.edges N.n) 1 (N.n+1) 0 ((zAf N.n 0).set N.start 1) [N.start]=some (sn,now)/\MInv N.n 1 sn now/\Low 1 sn:=by
 have h0:MInv N.n 1 (zAf N.n 0) []:=MInv.fresh (mark:=0) (by simp) fun q v hv=>by
  rw[zAe]at hv;split at hv
  ·cases hv;exact Nat.le_refl _
  ·cases hv
 have hm:¬(zAf N.n 0)[N.start]?=some 1:=fun e=>by
  rw[zAe]at e;split at e<;>simp at e
 have h1:=h0.add h.start hm
 have hlow:Low 1 ((zAf N.n 0).set N.start 1):=Low.set fun q v hv=>by
  rw[zAe]at hv;split at hv
  ·cases hv;exact Nat.zero_le _
  ·cases hv
 obtain⟨sn,now,k1,k2,_⟩:=kA (mq h) (S:=fun _=>True) (fun _ _ _ _ _ _ _=>trivial) (N.n+1) 0 _ [N.start] h1 (fun _ _=>trivial) (by simp) (fun j hj=>by omega) (by omega)
 exact⟨sn,now,k1,k2,Low.cl _ _ _ _ _ _ hlow k1⟩
theorem stepM{N:Net}(h:N.ok){i b:Nat}{sn now:List Nat}(hI:MInv N.n (i+1) sn now)(hL:Low (i+1) sn):
 ∃sn' now',ow (bH N.edges N.n) (i+2) (N.n+1) 0 (j6 (bH N.edges N.n) (i+2) b now sn []).1 (j6 (bH N.edges N.n) (i+2) b now sn []).2=some (sn',now')/\MInv N.n (i+2) sn' now'/\Low (i+2) sn':=by
 have hto:=mq h;have hf:MInv N.n (i+2) sn []:=MInv.fresh (mark:=i+1) hI.len hL;obtain⟨h1,_⟩:=qo (b:=b) hto now sn [] hf;have hlow:Low (i+2) (j6 (bH N.edges N.n) (i+2) b now sn []).1:=Low.go _ _ _ fun q v hv=>by have:=hL q v hv;omega
 obtain⟨sn',now',k1,k2,_⟩:=kA hto (S:=fun _=>True) (fun _ _ _ _ _ _ _=>trivial) (N.n+1) 0 _ _ h1 (fun _ _=>trivial) (by omega) (fun j hj=>by omega) (by omega)
 exact⟨sn',now',k1,k2,Low.cl _ _ _ _ _ _ hlow k1⟩
theorem LD{N:Net}(h:N.ok)(hl:N.edges.length<=1000000):RowsOK N.n (bH N.edges N.n):=by
 refine⟨by simp[bH],fun r hr e he=>?_,fun r hr=>?_⟩
 ·simp only[bH,zBa]at hr
  obtain⟨q,_,rfl⟩:=hr;obtain⟨_,h2,h3,h4⟩:=h.ends e (kg.1 he).1;exact⟨h2,h3,h4⟩
 ·simp only[bH,zBa]at hr
  obtain⟨q,_,rfl⟩:=hr;exact zCc eR hl
theorem GK{x:Rx}{N:Net}(hN:N.ok)(hl:N.edges.length<=1000000)(hnet:Fn Tryz.prog cN [rxP x] (.strct (Net.c N)))(hne:0<N.edges.length)(s:Str)(hs:s.length<=1000)(R:Bool)(hR:mtP N s=R):Fn Tryz.prog dF [rxP x,.str s] (.bool R):=by
 refine Fn.of_imageE mixed mV mS rfl fun ho=>?_;unfold gC;simp only[oks,ok,and_true]at ho;clear ho;have hnl:=hN.le;simp at hnet;simp(disch:=omega) [-zAa];refine aP hnet (by simp) fun _=>?_
 simp(disch:=omega) [-zAa];rw[<-Mq]
 refine an (fun k:Nat=>if k<N.edges.length then⟨[(1,.str s),(5,.ptr 0 0),(6,.ref 1 N.n),(24,.seq 4 (N.edges.map NEdge.v)),(25,nV N.edges.length),(26,nV k)],[some (.box [nV N.n,nV N.start,nV N.stop,.seq 4 (N.edges.map NEdge.v)]),some (.mat kK bM 4 (sm (vG (N.edges.take k) N.n)))]⟩
  else⟨[(1,.str s),(5,.ptr 0 0),(6,bb (bH N.edges N.n)),(24,.seq 4 (N.edges.map NEdge.v)),(25,nV N.edges.length),(26,nV k)],[some (.box [nV N.n,nV N.start,nV N.stop,.seq 4 (N.edges.map NEdge.v)])]⟩) (fun k=>k<=N.edges.length) (fun k=>N.edges.length-k) [] _ 0 rfl (by simp[hne]) (by simp) ?_
 intro k hk M hM;rcases zBg k N.edges.length with hlt|hge
 ·obtain⟨e,he⟩:=a8 hlt
  obtain⟨e1,e2,e3,e4⟩:=hN.ends e (zAc he);have htk:=dc he;have hrg:=qJ (es:=N.edges.take k) e1;have hrl:(bI (N.edges.take k) e.fr).length<=1000000:=zCc eR (by simp;omega)
  have hml:=vF (es:=N.edges.take k) (n:=N.n);have hms:=Jg (es:=N.edges.take k) e1;rw[<-htk]at hms;simp only[NEdge.v,nV,u8V]at hms;rw[if_pos hlt];simp(disch:=omega) [-zAa,he,hrg,e1,hml];refine j4 ⟨[(1,.str s),(5,.ptr 0 0),(6,.ref 1 N.n),(24,.seq 4 (N.edges.map NEdge.v)),(25,nV N.edges.length),(26,nV k)],[some (.box [nV N.n,nV N.start,nV N.stop,.seq 4 (N.edges.map NEdge.v)]),some (.mat kK bM 4 (sm (vG (N.edges.take (k+1)) N.n)))]⟩ (fun F hF=>?_) ?_
  ·simp at hF
   repeat' first|exact hF|refine rS.mk ?_ ?_ |simp(disch:=omega) [-zAa,hrg,e1,hml,hms]
  simp(disch:=omega) [-zAa];by_cases hk1:k+1<N.edges.length
  ·exact hM.out _<|Nx.mk (k+1) (by simp only[if_pos hk1];simp) (by first|omega|(simp only;omega)) (by first|omega|(simp only;omega))
  ·have hk2:k+1=N.edges.length:=by omega
   have hrl2:(bH N.edges N.n).length=N.n:=by simp[bH]
   have hk3:((k:Int)+1)=(N.edges.length:Nat):=by omega
   refine hM.out _ ⟨[.z 6],⟨[(6,bb (bH N.edges N.n)),(1,.str s),(5,.ptr 0 0),(6,.ref 1 N.n),(24,.seq 4 (N.edges.map NEdge.v)),(25,nV N.edges.length),(26,nV (k+1))],[some (.box [nV N.n,nV N.start,nV N.stop,.seq 4 (N.edges.map NEdge.v)]),none]⟩,k+1,?_,?_,by simp only;omega,by simp only;omega⟩
   ·simp[hk2,hk3,hrl2,bb,vG,zAh,zCe]
   ·simp only[if_neg (show ¬k+1<N.edges.length by omega)]
    simp[bb]
 ·have:k=N.edges.length:=by omega
  subst this;clear hM;rw[if_neg (by omega)]
  have hst:=hN.start;have hRO:=LD hN hl;obtain⟨sn0,now0,hc0,hM0,hL0⟩:=RR hN;simp only[mtP,hc0]at hR;generalize hrw:bH N.edges N.n=rows at *;simp(disch:=omega) [-zAa,hst];refine aw [1] 1 [1,2] (by simp) (by simp[bb]) (by simp[bb]) (by simp[zCd]) (m2 hRO (by omega) 1 (N.n+1) (by omega) (by omega) ((zAf N.n 0).set N.start 1) [N.start] sn0 now0 (by simp) (by simpa using hst) (by simp) hc0) (by simp) fun _ _=>?_
  simp(disch:=omega) [-zAa]
  refine an (fun(x:Nat×List Nat×List Nat×List Nat)=>⟨[(1,.str s),(5,.ptr 0 0),(6,bb rows),(9,.ref 1 N.n),(10,.ref 2 x.2.2.1.length),(11,.ref 3 x.2.2.2.length),(12,nV x.1)],
   [some (.box [nV N.n,nV N.start,nV N.stop,.seq 4 (N.edges.map NEdge.v)]),some (.arr bC 1 (x.2.1.map nV)),some (.arr bC 1 (x.2.2.1.map nV)),some (.arr bC 1 (x.2.2.2.map nV))]⟩)
   (fun x=>x.1<=s.length/\MInv N.n (x.1+1) x.2.1 x.2.2.1/\Low (x.1+1) x.2.1/\DL N x.1 (s.drop x.1) x.2.1 x.2.2.1=R) (fun x=>s.length-x.1) [.r 11 bC 1] _ (0,sn0,now0,[]) rfl (by simp[bb]) ⟨by simp,hM0,hL0,by simpa using hR⟩ ?_
  clear hR;rintro⟨i,sn,now,nx⟩ ⟨hi,hMi,hLi,hgo⟩ M hM;simp only at hi hMi hLi hgo;have hsl:=hMi.len;have hnl2:=mE N.n now hMi.nodup hMi.lt;rcases place s i hi with⟨he,hd⟩|⟨hlt,b,hb,hd⟩<;>rw[hd]at hgo
  ·obtain⟨v,hv⟩:=a8 (l:=sn) (k:=N.stop) (by rw[hsl];exact hN.stop)
   have hst2:=hN.stop;simp only[DL,hv,zBi]at hgo;clear hM;replace hgo:=hid hgo;simp(disch:=omega) [-zAa,bb,he,hst2,hv];have hgo:=hgo.out;rw[<-hgo];congr 1;exact propext (by omega)
  ·obtain⟨sn',now',hcl,hM1,hL1⟩:=stepM (b:=b.toNat) hN hMi hLi
   have hfr:MInv N.n (i+2) sn []:=MInv.fresh (mark:=i+1) hsl hLi;simp only[DL,hcl]at hgo;rw[hrw]at hcl;by_cases hnow:now=[]
   ·subst hnow
    simp only[if_true]at hgo;subst hgo;clear hM;simp(disch:=omega) [-zAa,bb]
   ·rw[if_neg hnow]at hgo
    have hnow2:¬now.length=0:=fun h=>hnow (List.length_eq_zero_iff.1 h);have hnow3:¬(now.length:Int)=0:=by omega
    replace hgo:=hid hgo;obtain⟨T,hT⟩:∃T,T=j6 rows (i+2) b.toNat now sn []:=⟨_,rfl⟩;rw[<-hT]at hcl;have hTM:MInv N.n (i+2) T.1 T.2:=by rw[hT,<-hrw];exact(qo (b:=b.toNat) (mq hN) now sn [] hfr).1
    have hTl:=mE N.n T.2 hTM.nodup hTM.lt;replace hcl:=hid hcl;simp(disch:=omega) [-zAa,bb,hnow2,hnow3,hnow,af]
    refine an (fun(x:Nat×List Nat×List Nat)=>⟨[(1,.str s),(5,.ptr 0 0),(6,bb rows),(9,.ref 1 N.n),(10,.ref 2 now.length),(11,.ref 3 x.2.2.length),(12,nV i),(13,nV (i+2)),(69,.ref 2 now.length),(70,nV now.length),(71,nV x.1)],
     [some (.box [nV N.n,nV N.start,nV N.stop,.seq 4 (N.edges.map NEdge.v)]),some (.arr bC 1 (x.2.1.map nV)),some (.arr bC 1 (now.map nV)),some (.arr bC 1 (x.2.2.map nV))]⟩)
     (fun x=>x.1<=now.length/\MInv N.n (i+2) x.2.1 x.2.2/\j6 rows (i+2) b.toNat (now.drop x.1) x.2.1 x.2.2=T) (fun x=>now.length-x.1) [] _ (0,sn,[]) rfl (by simp[bb]) ⟨by simp,hfr,by simp[hT]⟩ ?_
    clear hT;rintro⟨j,sn2,nx2⟩ ⟨hj,hM2,hrow⟩ M2 hN2;simp only at hj hM2 hrow;have hsl2:=hM2.len;rcases place now j hj with⟨he2,hd2⟩|⟨hlt2,q,hq,hd2⟩<;>rw[hd2]at hrow
    ·simp only[j6]at hrow
     subst hrow;clear hN2;have hnx2:nx2.length<=N.n:=by simpa using hTl
     simp(disch:=omega) [-zAa,bb,he2];refine aw [1] 1 [1,3] (by simp[hsl2]) (by simp[bb]) (by simp[bb]) (by simp) (m2 hRO (by omega) (i+2) (N.n+1) (by omega) (by omega) sn2 nx2 sn' now' hsl2 hM2.lt (by omega) hcl.out) (by simp) fun _ _=>?_
     simp(disch:=omega) [-zAa];exact hM.out _<|Nx.mk (i+1,sn',now',now) (by simp[bb]) ⟨by simp only;omega,hM1,hL1,by simpa using hgo.out⟩ (by simp only;omega)
    ·have hqn:=hM2.lt
     have hqn:q<N.n:=hMi.lt q (zAc hq);obtain⟨r,hrr⟩:=a8 (l:=rows) (k:=q) (by rw[hRO.len];exact hqn)
     have hrm:=zAc hrr;have hrl:=hRO.few r hrm;simp only[j6,hrr,Option.getD_some]at hrow;obtain⟨T2,hT2⟩:∃T2,T2=iD (i+2) b.toNat r sn2 nx2:=⟨_,rfl⟩;have hT2M:MInv N.n (i+2) T2.1 T2.2:=by rw[hT2];exact(nD (b:=b.toNat) r sn2 nx2 hM2 fun e he=>(hRO.to r hrm e he).1).1
     rw[<-hT2]at hrow;replace hrow:=hid hrow;simp(disch:=omega) [-zAa,bb,hq,hrr]
     refine an (fun(x:Nat×List Nat×List Nat)=>⟨[(1,.str s),(5,.ptr 0 0),(6,bb rows),(9,.ref 1 N.n),(10,.ref 2 now.length),(11,.ref 3 x.2.2.length),(12,nV i),(13,nV (i+2)),(69,.ref 2 now.length),(70,nV now.length),(71,nV j),(78,.seq 4 (r.map NEdge.v)),(79,nV r.length),(80,nV x.1)],
      [some (.box [nV N.n,nV N.start,nV N.stop,.seq 4 (N.edges.map NEdge.v)]),some (.arr bC 1 (x.2.1.map nV)),some (.arr bC 1 (now.map nV)),some (.arr bC 1 (x.2.2.map nV))]⟩)
      (fun x=>x.1<=r.length/\MInv N.n (i+2) x.2.1 x.2.2/\iD (i+2) b.toNat (r.drop x.1) x.2.1 x.2.2=T2) (fun x=>r.length-x.1) [] _ (0,sn2,nx2) rfl (by simp[bb]) ⟨by simp,hM2,by simp[hT2]⟩ ?_
     clear hT2;rintro⟨k,sn3,nx3⟩ ⟨hk3,hM3,hrow3⟩ M3 hN3;simp only at hk3 hM3 hrow3;have hsl3:=hM3.len;have hnl3:=mE N.n nx3 hM3.nodup hM3.lt;rcases place r k hk3 with⟨he3,hd3⟩|⟨hlt3,e,hre,hd3⟩<;>rw[hd3]at hrow3
     ·simp only[iD]at hrow3
      subst hrow3;clear hN3;simp(disch:=omega) [-zAa,bb,he3];exact hN2.out _<|Nx.mk (j+1,sn3,nx3) (by simp[bb]) ⟨by simp only;omega,hM3,by simpa using hrow.out⟩ (by simp only;omega)
     ·obtain⟨g1,g2,g3⟩:=hRO.to r hrm e (zAc hre)
      obtain⟨v,hv⟩:=a8 (l:=sn3) (k:=e.to) (by omega)
      simp only[iD,hv,zBi]at hrow3;have hb8:=b.toNat_lt;clear hM hN2;by_cases c1:e.low<=b.toNat
      ·by_cases c2:b.toNat<=e.high
       ·by_cases c3:v=i+2
        ·rw[if_neg (fun h=>h.2 c3)]at hrow3
         have c3':(v:Int)=(i:Int)+2:=by omega
         replace hrow3:=hid hrow3;simp(disch:=omega) [-zAa,bb,hre,hb,c1,c2,hsl3,hv,c3,c3',g1];exact hN3.out _<|Nx.mk (k+1,sn3,nx3) (by simp[bb]) ⟨by simp only;omega,hM3,hrow3.out⟩ (by simp only;omega)
        ·rw[if_pos ⟨⟨c1,c2⟩,c3⟩]at hrow3
         have c3':¬(v:Int)=(i:Int)+2:=by omega
         have hadd:=hM3.add g1 (by rw[hv];simpa using c3)
         replace hrow3:=hid hrow3;simp(disch:=omega) [-zAa,bb,hre,hb,c1,c2,hsl3,hv,c3,c3',g1];exact hN3.out _<|Nx.mk (k+1,sn3.set e.to (i+2),nx3++[e.to]) (by simp[bb,zCd]) ⟨by simp only;omega,hadd,hrow3.out⟩ (by simp only;omega)
       ·rw[if_neg (fun h=>c2 h.1.2)]at hrow3
        replace hrow3:=hid hrow3;simp(disch:=omega) [-zAa,bb,hre,hb,c1,c2];exact hN3.out _<|Nx.mk (k+1,sn3,nx3) (by simp[bb]) ⟨by simp only;omega,hM3,hrow3.out⟩ (by simp only;omega)
      ·rw[if_neg (fun h=>c1 h.1.1)]at hrow3
       replace hrow3:=hid hrow3;simp(disch:=omega) [-zAa,bb,hre,hb,c1];exact hN3.out _<|Nx.mk (k+1,sn3,nx3) (by simp[bb]) ⟨by simp only;omega,hM3,hrow3.out⟩ (by simp only;omega)
end Go.Abs
end
section
namespace Go.Abs
open Go.Proofs Go.Aut
theorem SU:NT:=fun x N v hN hl hne hnet hv=>GK hN hl hnet hne v hv (mtP N v) rfl
end Go.Abs
end
section
namespace Go.Abs.F
open Go.Proofs
attribute [-simp] getElem?_pos zAi zAh
theorem p6(c:Constraint)(v:Str)(hv:v.length<=1000):Fn Tryz.prog bN [(good12 c).v,.str v] (.bool (allows12 (good12 c) v)):=by
 obtain⟨x,hx⟩:=Eo c;exact sr (G5 SU) hx v hv
def uJ(A:Constraint->Str->Bool)(p:Policy):Prop:=∀e∈p.elements,∀r∈e.rules,∀v:Str,v.length<=1000->Fn Tryz.prog bN [r.value.v,.str v] (.bool (A r.value v))
theorem mY(p:Policy):uJ allows12 (bo p):=by
 intro e he r hr v hv;obtain⟨_,l,hl⟩:=wt p e he;rw[hl]at hr;obtain⟨c,hc⟩:=kR (l.take 3) [] 0 (by simp) r hr
 rw[hc];exact p6 c v hv
theorem uj(A:Constraint->Str->Bool)(e:Allowed)(a:Attr)(hA:∀r∈e.rules,Fn Tryz.prog bN [r.value.v,.str a.value] (.bool (A r.value a.value))):
 FnH Tryz.prog gI [1] [a.v,.ptr 0 0] [some (.box [.str e.name,.seq 1 (e.kids.map .str),.seq 5 (e.rules.map Rule.v)])] (.bool (jc A e a)) [some (.box [.str e.name,.seq 1 (e.kids.map .str),.seq 5 (e.rules.map Rule.v)])]:=by
 refine FnH.of_image mixed ue t6 rfl fun ho hh=>?_;unfold lX;clear ho hh;simp(disch:=omega) [-zAa,jc];refine aP (yV e a.name) (by simp) fun _=>?_
 cases hf:gx e.rules a.name with
 |none=>
   simp(disch:=omega) [-zAa,hf]
 |some r=>
   simp(disch:=omega) [-zAa,hf];refine ae (by simpa using hA r (Am hf).1) rfl fun _=>?_
   simp(disch:=omega) [-zAa]
theorem y6(e:Allowed):FnH Tryz.prog xK [] [e.v] [] (.fn (.func gI) [] [.ptr 0 0]) [some (.box [.str e.name,.seq 1 (e.kids.map .str),.seq 5 (e.rules.map Rule.v)])]:=by
 refine FnH.of_image mixed yK yg rfl fun ho hh=>?_;unfold pp;clear ho hh;simp(disch:=omega) [-zAa]
def xj(e:Allowed):List Str:=(e.rules.filter (·.req)).map (·.name)
theorem rh(e:Allowed)(hl:e.rules.length<=1000000):Fn Tryz.prog qI [e.v] (.seq 1 ((xj e).map .str)):=by
 refine Fn.of_image mixed qV qS rfl fun ho=>?_;unfold jF;simp only[oks,ok,and_true]at ho;clear ho;simp(disch:=omega) [-zAa];generalize hw:xj e=w
 refine an (fun(q:Nat×List Str)=>⟨[(3,.ref 0 q.2.length),(7,.seq 5 (e.rules.map Rule.v)),(8,.int .i64 e.rules.length),(9,.int .i64 q.1)],[some (.arr au 1 (q.2.map .str))]⟩)
  (fun q=>q.1<=e.rules.length/\q.2.length<=q.1/\q.2++((e.rules.drop q.1).filter (·.req)).map (·.name)=w) (fun q=>e.rules.length-q.1) [.r 3 au 1] _ (0,[]) rfl (by simp) (by simp[<-hw,xj]) ?_
 rintro⟨k,out⟩ ⟨hk,hol,hi⟩ N hN;simp only at hk hol hi;rcases place e.rules k hk with⟨he,hd⟩|⟨hlt,x,hx,hd⟩<;>rw[hd]at hi
 ·simp at hi
  subst hi;simp(disch:=omega) [-zAa,he]
 ·simp only[zBj]at hi
  replace hi:=hid hi;simp(disch:=omega) [-zAa,hx];refine BrK.mk (fun h=>?_) (fun h=>?_)
  ·simp(disch:=omega) [-zAa,hx]
   have hi:=hi.out;refine hN.out _<|Nx.mk (k+1,out++[x.name]) (by simp) ⟨by simp only;omega,by simp;omega,?_⟩ (by simp only;omega)
   simpa[h]using hi
  ·simp(disch:=omega) [-zAa,hx]
   have hi:=hi.out;refine hN.out _<|Nx.mk (k+1,out) (by simp) ⟨by simp only;omega,by simp only;omega,?_⟩ (by simp only;omega)
   simpa[h]using hi
def pT(A:Constraint->Str->Bool)(e:Allowed)(l:List Attr):Bool:=l.all (jc A e)&&(xj e).all (jK l)
theorem y7(A:Constraint->Str->Bool)(e:Allowed)(l:List Attr)(hl:l.length<=1000000)(hr:e.rules.length<=1000000)(hA:∀r∈e.rules,∀a∈l,Fn Tryz.prog bN [r.value.v,.str a.value] (.bool (A r.value a.value))):
 Fn Tryz.prog oG [e.v,.seq 2 (l.map Attr.v)] (.bool (pT A e l)):=by
 refine Fn.of_imageE mixed yM yi rfl fun ho=>?_;unfold pr;simp only[oks,ok,and_true]at ho;clear ho;simp(disch:=omega) [-zAa];refine aw [] 0 [] (by simp) (by simp) (by simp) (by simp) (y6 e) (by simp) fun _ _=>?_
 simp(disch:=omega) [-zAa];generalize hw:pT A e l=w
 refine an (fun(k:Nat)=>⟨[(1,.seq 2 (l.map Attr.v)),(2,.ptr 0 0),(5,.fn (.func gI) [] [.ptr 1 0]),(12,.seq 2 (l.map Attr.v)),(13,.int .i64 l.length),(14,.int .i64 k)],
  [some (.box [.str e.name,.seq 1 (e.kids.map .str),.seq 5 (e.rules.map Rule.v)]),some (.box [.str e.name,.seq 1 (e.kids.map .str),.seq 5 (e.rules.map Rule.v)])]⟩)
  (fun k=>k<=l.length/\((l.drop k).all (jc A e)&&(xj e).all (jK l))=w) (fun k=>l.length-k) [] _ 0 rfl (by simp) (by simp[<-hw,pT]) ?_
 rintro k ⟨hk,hi⟩ N hN;rcases place l k hk with⟨he,hd⟩|⟨hlt,x,hx,hd⟩<;>rw[hd]at hi
 ·simp only[List.all_nil,zCb]at hi
  clear hw
  have hrl:(xj e).length<=1000000:=by
   have:=zBe (·.req) e.rules;simp only[xj,List.length_map];omega
  simp(disch:=omega) [-zAa,he];refine aP (rh e hr) (by simp) fun _=>?_
  generalize xj e=rs at *;simp(disch:=omega) [-zAa]
  refine an (fun(j:Nat)=>⟨[(1,.seq 2 (l.map Attr.v)),(24,.seq 1 (rs.map .str)),(25,.int .i64 rs.length),(26,.int .i64 j)],[]⟩)
   (fun j=>j<=rs.length/\(rs.drop j).all (jK l)=w) (fun j=>rs.length-j) [] _ 0 rfl (by simp) (by simpa using hi) ?_
  rintro j ⟨hj,hi2⟩ N2 hN2;rcases place rs j hj with⟨he2,hd2⟩|⟨hlt2,y,hy,hd2⟩<;>rw[hd2]at hi2
  ·simp at hi2
   subst hi2;simp(disch:=omega) [-zAa,he2]
  ·simp only[zBf]at hi2
   replace hi2:=hid hi2;simp(disch:=omega) [-zAa,hy];refine ae (y5 l y) rfl fun _=>?_;simp(disch:=omega) [-zAa];refine BrK.mk (fun h=>?_) (fun h=>?_)
   ·simp(disch:=omega) [-zAa,h]
    refine hN2.out _<|Nx.mk (j+1) (by simp) ⟨by omega,?_⟩ (by omega)
    have hi2:=hi2.out;simpa[h]using hi2
   ·simp(disch:=omega) [-zAa,h]
    have hi2:=hi2.out;simpa[h]using hi2
 ·simp only[zBf]at hi
  replace hi:=hid hi;have hax:=uj A e x (fun r hr=>hA r hr x (zAc hx));simp(disch:=omega) [-zAa,hx];refine aw [1] 1 [1] (by simp) (by simp) (by simp) (by simp) hax (by simp) fun _ _=>?_
  simp(disch:=omega) [-zAa];refine BrK.mk (fun h=>?_) (fun h=>?_)
  ·simp(disch:=omega) [-zAa,h]
   refine hN.out _<|Nx.mk (k+1) (by simp) ⟨by omega,?_⟩ (by omega)
   have hi:=hi.out;simpa[h]using hi
  ·simp(disch:=omega) [-zAa,h]
   have hi:=hi.out;simpa[h]using hi
theorem Gg(l:List Attr)(s:Str):jK l s=(gE l s).isSome:=by
 induction l with
 |nil=>rfl
 |cons a l ih=>by_cases h:a.name=s<;>simp[jK,gE,h,ih]
theorem Ac(A:Constraint->Str->Bool)(e:Allowed)(l:List Attr):pT A e l=jA A e l:=by
 have h1:l.all (jc A e)=decide ((HO A e l).length=l.length):=by
  rw[Bool.eq_iff_iff,decide_eq_true_iff,HO,List.length_filter_eq_length_iff,List.all_eq_true]
 have h2:(xj e).all (jK l)=whole e l:=by
  simp only[xj,whole]
  induction e.rules with
  |nil=>rfl
  |cons r rs ih=>
    simp only[zBj];cases hr:r.req
    ·simpa[hr]using ih
    ·simp only[if_true,zBb,zBf,ih,hr,Gg,zCb,Bool.not_not]
 rw[pT,jA,h1,h2]
theorem Ea(p:Policy)(hp:uJ allows12 p)(hr:∀e∈p.elements,e.rules.length<=1000000)(l:List Node)(hf:ap EB l):rP (pT allows12) p l:=by
 intro i x h1 _ _ _;have hx:EB x.2:=Pz l 0 [] hf x (zAc h1);refine y7 allows12 _ _ hx.1 ?_ ?_
 ·cases hf:aU p.elements x.2.name with
  |none=>simp[Allowed.zero]
  |some e=>exact hr e (nW hf).1
 ·intro r hr a ha
  cases hf:aU p.elements x.2.name with
  |none=>rw[hf]at hr;simp[Allowed.zero]at hr
  |some e=>rw[hf]at hr;exact hp e (nW hf).1 r hr a.value (hx.2 a ha)
end Go.Abs.F
end
section
namespace Go.Abs.F
open Go.Proofs
attribute [-simp] getElem?_pos zAi zAh
abbrev HQ:Allowed->List Attr->Bool:=pT allows12
theorem qX(p:Policy):∀e∈(bo p).elements,e.rules.length<=1000000:=fun e he=>(wq p).2.2 e he |>.2
theorem Qx(p:Policy)(l:List Node)(h1:ap ku l)(h2:ap EB l)(hc:al l<1000):Fn Tryz.prog jJ [(bo p).v,.seq 5 (l.map Node.v)] (.bool (ik allows12 (bo p) l)):=by
 rw[<-zP (H:=HQ) (Ac _) (k8 p)];exact eh HQ (bo p) l h1 hc (fun _=>Ea _ (mY p) (qX p) l h2)
end Go.Abs.F
end
section
namespace Go.Abs.F
open Go.Proofs
attribute [-simp] getElem?_pos zAi zAh
def gu(r:Rule):Rule:=⟨r.name,r.value,false⟩
def cH(e:Allowed):Allowed:=⟨e.name,e.kids,e.rules.map gu⟩
def bK(p:Policy):Policy:=⟨p.elements.map Allowed.name++[eD,bD],p.elements.map cH,p.unwrap⟩
theorem pZ:∀(l:List Allowed)(s:Str),aU (l.map cH) s=(aU l s).map cH
 |[],s=>rfl
 |e::l,s=>by
   simp only[zBb,aU,pZ l s,cH];split<;>rfl
theorem wA:∀(l:List Rule)(s:Str),gx (l.map gu) s=(gx l s).map gu
 |[],s=>rfl
 |e::l,s=>by
   simp only[zBb,gx,wA l s,gu];split<;>rfl
theorem EX(A:Constraint->Str->Bool)(e:Allowed)(a:Attr):jc A (cH e) a=jc A e a:=by
 simp only[jc,cH,wA];cases gx e.rules a.name<;>rfl
theorem Gf{A:Constraint->Str->Bool}{e:Allowed}{l:List Attr}(h:jA A e l=true):jA A (cH e) l=true:=by
 simp only[jA,zAg]at h⊢;refine⟨?_,?_⟩
 ·have:jc A (cH e)=jc A e:=funext fun a=>EX A e a
  rw[HO,this];exact h.1
 ·simp[whole,cH,gu]
theorem Jr(p:Policy)(s:Str):((aU (bK p).elements s).getD .zero).kids=((aU p.elements s).getD .zero).kids:=by
 simp only[bK,pZ];cases aU p.elements s<;>rfl
theorem DW{p:Policy}(hp:eo p){par:Str}{n:Node}(h:nT p par n=true):nT (bK p) par n=true:=by
 unfold nT DS at h⊢;rw[Jr];by_cases h0:par=[]
 ·simp only[h0,if_true]at h⊢
  have ht:eD∈(bK p).top:=by simp[bK]
  have hc:bD∈(bK p).top:=by simp[bK]
  split
  ·exact kn.2 ht
  ·rename_i h2
   rw[if_neg h2]at h;split
   ·exact kn.2 hc
   ·rename_i h3
    rw[if_neg h3]at h;simp only[zAg]at h⊢;refine⟨h.1,kn.2 ?_⟩;rcases hp.1 _ (kn.1 h.2)with h1|h1|h1
    ·rw[h1];exact ht
    ·rw[h1];exact hc
    ·exact List.mem_append_left _ (k9.1 h1)
 ·simpa only[h0,if_false]using h
theorem I5{A:Constraint->Str->Bool}{p:Policy}(hp:eo p){par:Str}{n:Node}(h:mF A p par n=true):mF A (bK p) par n=true:=by
 simp only[mF,zAg,Bool.or_eq_true]at h⊢;refine⟨DW hp h.1,h.2.imp_right fun h=>?_⟩
 have e:(aU (bK p).elements n.name).getD .zero=cH ((aU p.elements n.name).getD .zero):=by
  simp only[bK,pZ];cases aU p.elements n.name<;>rfl
 rw[e];exact Gf h
theorem L2{A:Constraint->Str->Bool}{p:Policy}(hp:eo p):∀(l:List Node)(par:Str),okN A p par l=true->okN A (bK p) par l=true:=by
 refine aN (fun par _=>by simp[okN,dn]) ?_
 intro n l h1 h2 par h;rw[L3]at h⊢;simp only[zAg]at h⊢;exact⟨I5 hp h.1,h1 _ h.2.1,h2 _ h.2.2⟩
theorem Mg(A:Constraint->Str->Bool){p:Policy}(hp:eo p){l:List Node}(h:ik A p l=true):ik A (bK p) l=true:=by
 simp only[ik,zAg]at h⊢;exact⟨h.1,L2 hp l [] h.2⟩
theorem FY{p:Policy}(hp:eo p):eo (bK p):=by
 have hn:(bK p).elements.map Allowed.name=p.elements.map Allowed.name:=by
  simp only[bK,zAh];rfl
 refine⟨fun s hs=>?_,fun e he=>?_⟩
 ·rcases List.mem_append.1 hs with h|h
  ·exact .inr (.inr (k9.2 (by rw[hn];exact h)))
  ·simp at h
   exact h.elim .inl fun h=>.inr (.inl h)
 ·simp only[bK,zBa]at he
  obtain⟨x,hx,rfl⟩:=he;exact qM hn.symm (hp.2 x hx)
theorem DM{p:Policy}{e:Allowed}(he:e∈(bK p).elements):∃x∈p.elements,e=cH x:=by
 simp only[bK,zBa]at he;obtain⟨x,hx,rfl⟩:=he;exact⟨x,hx,rfl⟩
theorem Bm{p:Policy}(hp:uJ allows12 p):uJ allows12 (bK p):=by
 intro e he r hr v hv;obtain⟨x,hx,rfl⟩:=DM he;simp only[cH,zBa]at hr;obtain⟨y,hy,rfl⟩:=hr;exact hp x hx y hy v hv
theorem Cz(p:Policy)(l:List Node)(h1:ap ku l)(h2:ap EB l)(hc:al l<1000):Fn Tryz.prog jJ [(bK (bo p)).v,.seq 5 (l.map Node.v)] (.bool (ik allows12 (bK (bo p)) l)):=by
 rw[<-zP (H:=HQ) (Ac _) (FY (k8 p))];refine eh HQ (bK (bo p)) l h1 hc (fun _=>Ea _ (Bm (mY p)) (fun e he=>?_) l h2);obtain⟨x,hx,rfl⟩:=DM he;simpa[cH]using qX p x hx
def fw(i:Nat)(e:Allowed)(kv:V):V:=.strct [.str e.name,kv,.q 1 (2*i+1) e.rules.length 0 0]
def tlE:Nat->List Allowed->List Po
 |_,[]=>[]
 |i,e::l=>.rw ax 5 (e.rules.map Rule.v)::.rw ak 3 [fw i e (.nil 1)]::tlE (i+1) l
def bI(k:Nat):Nat->List Allowed->List V
 |_,[]=>[]
 |i,e::l=>fw i e (if i<k then .seq 1 (e.kids.map .str)else .nil 1)::bI k (i+1) l
theorem fL:∀(l:List Allowed)(i:Nat),(tlE i l).length=2*l.length
 |[],i=>rfl
 |e::l,i=>by simp only[tlE,zAj,fL l];omega
theorem eR(k:Nat):∀(l:List Allowed)(i:Nat),(bI k i l).length=l.length
 |[],i=>rfl
 |e::l,i=>by simp only[bI,zAj,eR k l]
theorem CY(e:Allowed):∀(l:List Allowed)(i:Nat),tlE i (l++[e])=tlE i l++[.rw ax 5 (e.rules.map Rule.v),.rw ak 3 [fw (i+l.length) e (.nil 1)]]
 |[],i=>rfl
 |x::l,i=>by
   simp only[zCa,tlE,CY e l,zAj];rw[show i+1+l.length=i+(l.length+1) by omega]
theorem zw(e:Allowed):∀(l:List Allowed)(i:Nat),bI 0 i (l++[e])=bI 0 i l++[fw (i+l.length) e (.nil 1)]
 |[],i=>rfl
 |x::l,i=>by
   simp only[zCa,bI,zw e l,zAj];rw[show i+1+l.length=i+(l.length+1) by omega]
theorem Hm{e:Allowed}:∀(l:List Allowed)(i j:Nat),l[j]?=some e->(tlE i l)[2*j]?=some (.rw ax 5 (e.rules.map Rule.v))
 |[],i,j,h=>by simp at h
 |x::l,i,0,h=>by simp at h;subst h;rfl
 |x::l,i,j+1,h=>by
   simp only[zAb]at h;rw[show 2*(j+1)=2*j+1+1 by omega]
   simp only[tlE,zAb];exact Hm l _ j h
theorem u6{k:Nat}{e:Allowed}:∀(l:List Allowed)(i j:Nat),l[j]?=some e->(bI k i l)[j]?=some (fw (i+j) e (if i+j<k then .seq 1 (e.kids.map .str)else .nil 1))
 |[],i,j,h=>by simp at h
 |x::l,i,0,h=>by simp at h;subst h;rfl
 |x::l,i,j+1,h=>by
   simp only[zAb]at h;simp only[bI,zAb];rw[u6 l _ j h,show i+1+j=i+(j+1) by omega]
theorem zx{e:Allowed}{fit:List Str}{k:Nat}:∀(l:List Allowed)(i j:Nat),i+j=k->l[j]?=some e->(bI k i l).set j (fw k e (.seq 1 (fit.map .str)))=bI (k+1) i (l.set j ⟨e.name,fit,e.rules⟩)
 |[],i,j,hk,h=>by simp at h
 |x::l,i,0,hk,h=>by
   simp at h hk;subst h hk;simp only[bI,List.set_cons_zero,fw];rw[if_pos (by omega)]
   congr 1
   have:∀(l:List Allowed)(m:Nat),i<m->bI i m l=bI (i+1) m l:=by
    intro l
    induction l with
    |nil=>intros;rfl
    |cons y l ih=>
      intro m hm;simp only[bI];rw[ih _ (by omega),if_neg (by omega),if_neg (by omega)]
   exact this l _ (by omega)
 |x::l,i,j+1,hk,h=>by
   simp only[zAb]at h;simp only[bI,zAd];rw[zx l (i+1) j (by omega) h]
   have h1:i<k:=by omega
   have h2:i<k+1:=by omega
   simp only[h1,h2,if_true]
theorem Hl{e:Allowed}{rs:List Rule}{ks:List Str}(hl:rs.length=e.rules.length):∀(l:List Allowed)(i j:Nat),l[j]?=some e->(tlE i l).set (2*j) (.rw ax 5 (rs.map Rule.v))=tlE i (l.set j ⟨e.name,ks,rs⟩)
 |[],i,j,h=>by simp at h
 |x::l,i,0,h=>by simp at h;subst h;simp[tlE,fw,hl]
 |x::l,i,j+1,h=>by
   simp only[zAb]at h;rw[show 2*(j+1)=2*j+1+1 by omega]
   simp only[tlE,zAd,Hl (ks:=ks) hl l (i+1) j h]
theorem CZ{e:Allowed}{ks:List Str}:∀(l:List Allowed)(i j:Nat),l[j]?=some e->tlE i (l.set j ⟨e.name,ks,e.rules⟩)=tlE i l
 |[],i,j,h=>rfl
 |x::l,i,0,h=>by simp at h;subst h;simp[tlE,fw]
 |x::l,i,j+1,h=>by
   simp only[zAb]at h;simp only[zAd,tlE,CZ l _ j h]
theorem u5{k:Nat}{e:Allowed}{rs:List Rule}(hl:rs.length=e.rules.length):∀(l:List Allowed)(i j:Nat),l[j]?=some e->bI k i (l.set j ⟨e.name,e.kids,rs⟩)=bI k i l
 |[],i,j,h=>rfl
 |x::l,i,0,h=>by simp at h;subst h;simp[bI,fw,hl]
 |x::l,i,j+1,h=>by
   simp only[zAb]at h;simp only[zAd,bI,u5 hl l _ j h]
theorem Ah{ms:List Po}{F:Nat}:∀l:List Rule,dV (frz ms (F+2)) (l.map Rule.v)=some (l.map Rule.v)
 |[]=>rfl
 |r::l=>by simp[dV,frz,Ah l]
theorem qZ{ms:List Po}{F:Nat}:∀l:List Str,dV (frz ms (F+1)) (l.map .str)=some (l.map .str)
 |[]=>rfl
 |r::l=>by simp[dV,frz,qZ l]
theorem HU{ms:List Po}{F k:Nat}:∀(l:List Allowed)(i:Nat),(∀j e,l[j]?=some e->ms[2*(i+j)+1]?=some (.rw ax 5 (e.rules.map Rule.v)))->(∀j e,k<=i+j->l[j]?=some e->e.kids=[])->
 dV (frz ms (F+4)) (bI k i l)=some (l.map Allowed.v)
 |[],i,h1,h2=>rfl
 |e::l,i,h1,h2=>by
   have ih:=HU (F:=F) (k:=k) l (i+1) (fun j e h=>by have:=h1 (j+1) e (by simpa using h);rwa[show i+1+j=i+(j+1) by omega]) (fun j e hj h=>h2 (j+1) e (by omega) (by simpa using h))
   have h0:=h1 0 e (by simp)
   simp only[Nat.add_zero]at h0;simp only[bI,dV,ih,fw,zBb];have hr:=Ah (ms:=ms) (F:=F) e.rules;by_cases hk:i<k
   ·simp[frz,dV,hk,h0,hr]
   ·have hk2:=h2 0 e (by omega) (by simp)
    simp[frz,dV,hk,h0,hr,hk2]
def plE(k:Nat)(els:List Allowed)(x:List Po):List Po:=.rw ak 3 (bI k 0 els)::(tlE 0 els++x)
theorem HB{k:Nat}{els:List Allowed}{x:List Po}{j:Nat}{e:Allowed}(h:els[j]?=some e):(plE k els x)[2*j+1]?=some (.rw ax 5 (e.rules.map Rule.v)):=by
 have:=(zBc.1 h).1;rw[plE,zAb,List.getElem?_append_left (by rw[fL];omega)]
 exact Hm els 0 j h
theorem LZ{k:Nat}{els:List Allowed}{x:List Po}:(plE k els x)[0]?=some (.rw ak 3 (bI k 0 els)):=rfl
theorem FM{k:Nat}{els:List Allowed}{x:List Po}(i:Nat):(plE k els x)[2*els.length+1+i]?=x[i]?:=by
 rw[plE,show 2*els.length+1+i=(2*els.length+i)+1 by omega,zAb,List.getElem?_append_right (by rw[fL];omega),fL]
 congr 1;omega
theorem zH{k:Nat}{els:List Allowed}{x:List Po}(i:Nat)(m:Po):(plE k els x).set (2*els.length+1+i) m=plE k els (x.set i m):=by
 rw[plE,show 2*els.length+1+i=(2*els.length+i)+1 by omega,zAd,List.set_append_right _ _ (by rw[fL];omega),fL,plE]
 rw[show 2*els.length+i-2*els.length=i by omega]
theorem HC{k F:Nat}{els:List Allowed}{x:List Po}(h:∀j e,k<=j->els[j]?=some e->e.kids=[]):frz (plE k els x) (F+5) (.q 1 0 els.length 0 0)=some (.seq 3 (els.map Allowed.v)):=by
 have:=HU (ms:=plE k els x) (F:=F) (k:=k) els 0 (fun j e he=>by rw[Nat.zero_add];exact HB he) (fun j e hj he=>h j e (by omega) he)
 simp[frz,LZ,eR,this]
theorem LW{els:List Allowed}{nm:Str}{rs:List Rule}:((plE 0 els []++[Po.rw ax 5 (rs.map Rule.v)])++[Po.rw ak 3 [fw els.length ⟨nm,[],rs⟩ (.nil 1)]]).set 0 (.rw ak 3 (bI 0 0 els++[fw els.length ⟨nm,[],rs⟩ (.nil 1)]))=plE 0 (els++[⟨nm,[],rs⟩]) []:=by
 simp[plE,CY,zw]
theorem ux{k:Nat}{els:List Allowed}{x:List Po}:(plE k els x).length=2*els.length+1+x.length:=by
 simp[plE,fL];omega
theorem LY{k:Nat}{els:List Allowed}{x:List Po}{e:Allowed}{fit:List Str}(h:els[k]?=some e):(plE k els x).set 0 (.rw ak 3 ((bI k 0 els).set k (fw k e (.seq 1 (fit.map .str)))))=plE (k+1) (els.set k ⟨e.name,fit,e.rules⟩) x:=by
 rw[zx els 0 k (by omega) h]
 simp[plE,CZ els 0 k h]
theorem I0{k:Nat}{els:List Allowed}{x:List Po}{j:Nat}{e:Allowed}{rs:List Rule}(hl:rs.length=e.rules.length)(h:els[j]?=some e):(plE k els x).set (2*j+1) (.rw ax 5 (rs.map Rule.v))=plE k (els.set j ⟨e.name,e.kids,rs⟩) x:=by
 have:=(zBc.1 h).1;rw[plE,zAd,List.set_append_left _ _ (by rw[fL];omega),Hl hl els 0 j h,plE,u5 hl els 0 j h]
def Sv(g:Policy):V:=.strct [.seq 1 (g.top.map .str),.q 1 0 g.elements.length 0 0,.q 1 (2*g.elements.length+1) g.unwrap.length 0 0]
def LT(g:Policy):List Po:=plE g.elements.length g.elements [.rw au 1 (g.unwrap.map .str)]
end Go.Abs.F
end
