/- Match of package regex. No condition. -/
import Derived.Test.YtnnbodoijkbceaaGreatDoorIR16
import Derived.Test.YtnnbodoijkbceaaGreatDoorIW9
import Derived.Test.YtnnbodoijkbceaaGreatDoorIP2
import Derived.Test.YtnnbodoijkbceaaGreatDoorICodeS
import Derived.Test.YtnnbodoijkbceaaGreatDoorIB0
import Derived.Test.YtnnbodoijkbceaaGreatDoorITh4
set_option linter.all false
set_option maxHeartbeats 0
set_option maxRecDepth 100000
open List renaming reduceReplicate→zAa,mem_of_getElem?→zAb,getElem?_replicate→zAc,replicate→zAd,length_filter_le→zAe,map_map→zAg,filter_cons→zAh,getElem?_eq_none→zAi,all_cons→zAj,ext_getElem?→zBc,map_cons→zBh,mem_map→zBi,map_set→zBj
open Option renaming not_isSome→zAf
open Nat renaming lt_or_ge→zBa,le_trans→zBb,zero_le→zBe
open Option.some renaming injEq→zBd
open Bool renaming eq_iff_iff→zBf,true_and→zBg
open Function renaming comp_def→zCa
section
namespace Go.Abs
open Go.Proofs Go.Aut
attribute [-simp] getElem?_pos zAf zAg
def BZ(es:List NEdge)(n:Nat):List (List V):=(cm es n).map fun r=>r.map NEdge.v
theorem BY{es:List NEdge}{n:Nat}:(BZ es n).length=n:=by simp[BZ,cm]
theorem vN{es:List NEdge}{n q:Nat}(h:q<n):(BZ es n)[q]?=some ((DU es q).map NEdge.v):=by
 simp only[BZ,cm,List.getElem?_map,List.getElem?_range h,Option.map_some]
theorem Jq{es:List NEdge}{n q:Nat}(h:n<=q):(BZ es n)[q]?=none:=zAi (by rw[BY];exact h)
theorem WH{n:Nat}:BZ [] n=zAd n []:=by
 apply zBc;intro q;rcases zBa q n with h|h
 ·rw[vN h,zAc,if_pos h];rfl
 ·rw[Jq h,zAi (by simpa using h)]
theorem Tx{es:List NEdge}{e:NEdge}{n:Nat}(h:e.fr<n):(BZ es n).set e.fr ((DU es e.fr).map NEdge.v++[NEdge.v e])=BZ (es++[e]) n:=by
 apply zBc;intro q;rw[List.getElem?_set,BY];rcases zBa q n with hq|hq
 ·rw[vN hq,vN hq]
  by_cases hf:e.fr=q
  ·subst hf;simp[DU,h]
  ·simp[DU,hf]
 ·rw[Jq hq,Jq hq]
  by_cases hf:e.fr=q
  ·omega
  ·simp[hf]
theorem Mg{es:List NEdge}{q:Nat}:(DU es q).length<=es.length:=zAe _ _
theorem acs{N:Net}(h:N.ok):∃sn now,sL (cm N.edges N.n) 1 (N.n+1) 0 ((zAd N.n 0).set N.start 1) [N.start]=some (sn,now)/\MInv N.n 1 sn now/\Low 1 sn:=by
 have h0:MInv N.n 1 (zAd N.n 0) []:=MInv.fresh (mark:=0) (by simp) fun q v hv=>by
  rw[zAc]at hv;split at hv
  ·cases hv;exact Nat.le_refl _
  ·cases hv
 have hm:¬(zAd N.n 0)[N.start]?=some 1:=fun e=>by
  rw[zAc]at e;split at e<;>simp at e
 have h1:=h0.add h.start hm
 have hlow:Low 1 ((zAd N.n 0).set N.start 1):=Low.set fun q v hv=>by
  rw[zAc]at hv;split at hv
  ·cases hv;exact zBe _
  ·cases hv
 obtain⟨sn,now,k1,k2,_⟩:=ni (p4 h) (S:=fun _=>True) (fun _ _ _ _ _ _ _=>trivial) (N.n+1) 0 _ [N.start] h1 (fun _ _=>trivial) (by simp) (fun j hj=>by omega) (by omega)
 exact⟨sn,now,k1,k2,Low.cl _ _ _ _ _ _ hlow k1⟩
theorem stepM{N:Net}(h:N.ok){i b:Nat}{sn now:List Nat}(hI:MInv N.n (i+1) sn now)(hL:Low (i+1) sn):
 ∃sn' now',sL (cm N.edges N.n) (i+2) (N.n+1) 0 (mT (cm N.edges N.n) (i+2) b now sn []).1 (mT (cm N.edges N.n) (i+2) b now sn []).2=some (sn',now')/\MInv N.n (i+2) sn' now'/\Low (i+2) sn':=by
 have hto:=p4 h;have hf:MInv N.n (i+2) sn []:=MInv.fresh (mark:=i+1) hI.len hL;obtain⟨h1,_⟩:=vn (b:=b) hto now sn [] hf;have hlow:Low (i+2) (mT (cm N.edges N.n) (i+2) b now sn []).1:=Low.go _ _ _ fun q v hv=>by have:=hL q v hv;omega
 obtain⟨sn',now',k1,k2,_⟩:=ni hto (S:=fun _=>True) (fun _ _ _ _ _ _ _=>trivial) (N.n+1) 0 _ _ h1 (fun _ _=>trivial) (by omega) (fun j hj=>by omega) (by omega)
 exact⟨sn',now',k1,k2,Low.cl _ _ _ _ _ _ hlow k1⟩
theorem V3{N:Net}(h:N.ok)(hl:N.edges.length<=1000000):RowsOK N.n (cm N.edges N.n):=by
 refine⟨by simp[cm],fun r hr e he=>?_,fun r hr=>?_⟩
 ·simp only[cm,zBi]at hr
  obtain⟨q,_,rfl⟩:=hr;obtain⟨_,h2,h3,h4⟩:=h.ends e (mZ.1 he).1;exact⟨h2,h3,h4⟩
 ·simp only[cm,zBi]at hr
  obtain⟨q,_,rfl⟩:=hr;exact zBb Mg hl
theorem Q2{x:Rx}{N:Net}(hN:N.ok)(hl:N.edges.length<=1000000)(hnet:Fn Tryz.prog dU [rxP x] (.strct (Net.c N)))(hne:0<N.edges.length)(s:Str)(hs:s.length<=1000)(R:Bool)(hR:mtP N s=R):Fn Tryz.prog eN [rxP x,.str s] (.bool R):=by
 refine yoE qB ?_;unfold jg;have hnl:=hN.le;simp at hnet;simp(disch:=omega) [-zAa];refine al hnet (by simp) fun _=>?_
 simp(disch:=omega) [-zAa];rw[<-WH]
 refine ak (fun k:Nat=>if k<N.edges.length then⟨[(1,.str s),(5,.ptr 0 0),(6,.ref 1 N.n),(24,.seq 4 (N.edges.map NEdge.v)),(25,nV N.edges.length),(26,nV k)],[some (.box [nV N.n,nV N.start,nV N.stop,.seq 4 (N.edges.map NEdge.v)]),some (.mat nv cr 4 (sm (BZ (N.edges.take k) N.n)))]⟩
  else⟨[(1,.str s),(5,.ptr 0 0),(6,bm (cm N.edges N.n)),(24,.seq 4 (N.edges.map NEdge.v)),(25,nV N.edges.length),(26,nV k)],[some (.box [nV N.n,nV N.start,nV N.stop,.seq 4 (N.edges.map NEdge.v)])]⟩) (fun k=>k<=N.edges.length) (fun k=>N.edges.length-k) [] _ 0 rfl (by simp[hne]) (by simp) ?_
 intro k hk M hM;rcases zBa k N.edges.length with hlt|hge
 ·obtain⟨e,he⟩:=aP hlt
  obtain⟨e1,e2,e3,e4⟩:=hN.ends e (zAb he);have htk:=dv he;have hrg:=vN (es:=N.edges.take k) e1;have hrl:(DU (N.edges.take k) e.fr).length<=1000000:=zBb Mg (by simp;omega)
  have hml:=BY (es:=N.edges.take k) (n:=N.n);have hms:=Tx (es:=N.edges.take k) e1;rw[<-htk]at hms;simp only[NEdge.v,nV,u8V]at hms;rw[if_pos hlt];simp(disch:=omega) [-zAa,he,hrg,e1,hml];refine GP ⟨[(1,.str s),(5,.ptr 0 0),(6,.ref 1 N.n),(24,.seq 4 (N.edges.map NEdge.v)),(25,nV N.edges.length),(26,nV k)],[some (.box [nV N.n,nV N.start,nV N.stop,.seq 4 (N.edges.map NEdge.v)]),some (.mat nv cr 4 (sm (BZ (N.edges.take (k+1)) N.n)))]⟩ (fun F hF=>?_) ?_
  ·simp at hF
   repeat' first|exact hF|refine xw.mk ?_ ?_ |simp(disch:=omega) [-zAa,hrg,e1,hml,hms]
  simp(disch:=omega) [-zAa];by_cases hk1:k+1<N.edges.length
  ·exact hM.out _<|Nx.mk (k+1) (by simp only[if_pos hk1];simp) (by first|omega|(simp only;omega)) (by first|omega|(simp only;omega))
  ·have hk2:k+1=N.edges.length:=by omega
   have hrl2:(cm N.edges N.n).length=N.n:=by simp[cm]
   have hk3:((k:Int)+1)=(N.edges.length:Nat):=by omega
   refine hM.out _ ⟨[.z 6],⟨[(6,bm (cm N.edges N.n)),(1,.str s),(5,.ptr 0 0),(6,.ref 1 N.n),(24,.seq 4 (N.edges.map NEdge.v)),(25,nV N.edges.length),(26,nV (k+1))],[some (.box [nV N.n,nV N.start,nV N.stop,.seq 4 (N.edges.map NEdge.v)]),none]⟩,k+1,?_,?_,by simp only;omega,by simp only;omega⟩
   ·simp[hk2,hk3,hrl2,bm,BZ,zAg,zCa]
   ·simp only[if_neg (show ¬k+1<N.edges.length by omega)]
    simp[bm]
 ·have:k=N.edges.length:=by omega
  subst this;clear hM;rw[if_neg (by omega)]
  have hst:=hN.start;have hRO:=V3 hN hl;obtain⟨sn0,now0,hc0,hM0,hL0⟩:=acs hN;simp only[mtP,hc0]at hR;generalize hrw:cm N.edges N.n=rows at *;simp(disch:=omega) [-zAa,hst];refine av [1] 1 [1,2] (by simp) (by simp[bm]) (by simp[bm]) (by simp[zBj]) (qT hRO (by omega) 1 (N.n+1) (by omega) (by omega) ((zAd N.n 0).set N.start 1) [N.start] sn0 now0 (by simp) (by simpa using hst) (by simp) hc0) (by simp) fun _ _=>?_
  simp(disch:=omega) [-zAa]
  refine ak (fun(x:Nat×List Nat×List Nat×List Nat)=>⟨[(1,.str s),(5,.ptr 0 0),(6,bm rows),(9,.ref 1 N.n),(10,.ref 2 x.2.2.1.length),(11,.ref 3 x.2.2.2.length),(12,nV x.1)],
   [some (.box [nV N.n,nV N.start,nV N.stop,.seq 4 (N.edges.map NEdge.v)]),some (.arr bz 1 (x.2.1.map nV)),some (.arr bz 1 (x.2.2.1.map nV)),some (.arr bz 1 (x.2.2.2.map nV))]⟩)
   (fun x=>x.1<=s.length/\MInv N.n (x.1+1) x.2.1 x.2.2.1/\Low (x.1+1) x.2.1/\M7 N x.1 (s.drop x.1) x.2.1 x.2.2.1=R) (fun x=>s.length-x.1) [.r 11 bz 1] _ (0,sn0,now0,[]) rfl (by simp[bm]) ⟨by simp,hM0,hL0,by simpa using hR⟩ ?_
  clear hR;rintro⟨i,sn,now,nx⟩ ⟨hi,hMi,hLi,hgo⟩ M hM;simp only at hi hMi hLi hgo;have hsl:=hMi.len;have hnl2:=qh N.n now hMi.nodup hMi.lt;rcases place s i hi with⟨he,hd⟩|⟨hlt,b,hb,hd⟩<;>rw[hd]at hgo
  ·obtain⟨v,hv⟩:=aP (l:=sn) (k:=N.stop) (by rw[hsl];exact hN.stop)
   have hst2:=hN.stop;simp only[M7,hv,zBd]at hgo;clear hM;replace hgo:=hid hgo;simp(disch:=omega) [-zAa,bm,he,hst2,hv];have hgo:=hgo.out;rw[<-hgo];congr 1;exact propext (by omega)
  ·obtain⟨sn',now',hcl,hM1,hL1⟩:=stepM (b:=b.toNat) hN hMi hLi
   have hfr:MInv N.n (i+2) sn []:=MInv.fresh (mark:=i+1) hsl hLi;simp only[M7,hcl]at hgo;rw[hrw]at hcl;by_cases hnow:now=[]
   ·subst hnow
    simp only[if_true]at hgo;subst hgo;clear hM;simp(disch:=omega) [-zAa,bm]
   ·rw[if_neg hnow]at hgo
    have hnow2:¬now.length=0:=fun h=>hnow (List.length_eq_zero_iff.1 h);have hnow3:¬(now.length:Int)=0:=by omega
    replace hgo:=hid hgo;obtain⟨T,hT⟩:∃T,T=mT rows (i+2) b.toNat now sn []:=⟨_,rfl⟩;rw[<-hT]at hcl;have hTM:MInv N.n (i+2) T.1 T.2:=by rw[hT,<-hrw];exact(vn (b:=b.toNat) (p4 hN) now sn [] hfr).1
    have hTl:=qh N.n T.2 hTM.nodup hTM.lt;replace hcl:=hid hcl;simp(disch:=omega) [-zAa,bm,hnow2,hnow3,hnow,af]
    refine ak (fun(x:Nat×List Nat×List Nat)=>⟨[(1,.str s),(5,.ptr 0 0),(6,bm rows),(9,.ref 1 N.n),(10,.ref 2 now.length),(11,.ref 3 x.2.2.length),(12,nV i),(13,nV (i+2)),(69,.ref 2 now.length),(70,nV now.length),(71,nV x.1)],
     [some (.box [nV N.n,nV N.start,nV N.stop,.seq 4 (N.edges.map NEdge.v)]),some (.arr bz 1 (x.2.1.map nV)),some (.arr bz 1 (now.map nV)),some (.arr bz 1 (x.2.2.map nV))]⟩)
     (fun x=>x.1<=now.length/\MInv N.n (i+2) x.2.1 x.2.2/\mT rows (i+2) b.toNat (now.drop x.1) x.2.1 x.2.2=T) (fun x=>now.length-x.1) [] _ (0,sn,[]) rfl (by simp[bm]) ⟨by simp,hfr,by simp[hT]⟩ ?_
    clear hT;rintro⟨j,sn2,nx2⟩ ⟨hj,hM2,hrow⟩ M2 hN2;simp only at hj hM2 hrow;have hsl2:=hM2.len;rcases place now j hj with⟨he2,hd2⟩|⟨hlt2,q,hq,hd2⟩<;>rw[hd2]at hrow
    ·simp only[mT]at hrow
     subst hrow;clear hN2;have hnx2:nx2.length<=N.n:=by simpa using hTl
     simp(disch:=omega) [-zAa,bm,he2];refine av [1] 1 [1,3] (by simp[hsl2]) (by simp[bm]) (by simp[bm]) (by simp) (qT hRO (by omega) (i+2) (N.n+1) (by omega) (by omega) sn2 nx2 sn' now' hsl2 hM2.lt (by omega) hcl.out) (by simp) fun _ _=>?_
     simp(disch:=omega) [-zAa];exact hM.out _<|Nx.mk (i+1,sn',now',now) (by simp[bm]) ⟨by simp only;omega,hM1,hL1,by simpa using hgo.out⟩ (by simp only;omega)
    ·have hqn:=hM2.lt
     have hqn:q<N.n:=hMi.lt q (zAb hq);obtain⟨r,hrr⟩:=aP (l:=rows) (k:=q) (by rw[hRO.len];exact hqn)
     have hrm:=zAb hrr;have hrl:=hRO.few r hrm;simp only[mT,hrr,Option.getD_some]at hrow;obtain⟨T2,hT2⟩:∃T2,T2=kF (i+2) b.toNat r sn2 nx2:=⟨_,rfl⟩;have hT2M:MInv N.n (i+2) T2.1 T2.2:=by rw[hT2];exact(rJ (b:=b.toNat) r sn2 nx2 hM2 fun e he=>(hRO.tyo r hrm e he).1).1
     rw[<-hT2]at hrow;replace hrow:=hid hrow;simp(disch:=omega) [-zAa,bm,hq,hrr]
     refine ak (fun(x:Nat×List Nat×List Nat)=>⟨[(1,.str s),(5,.ptr 0 0),(6,bm rows),(9,.ref 1 N.n),(10,.ref 2 now.length),(11,.ref 3 x.2.2.length),(12,nV i),(13,nV (i+2)),(69,.ref 2 now.length),(70,nV now.length),(71,nV j),(78,.seq 4 (r.map NEdge.v)),(79,nV r.length),(80,nV x.1)],
      [some (.box [nV N.n,nV N.start,nV N.stop,.seq 4 (N.edges.map NEdge.v)]),some (.arr bz 1 (x.2.1.map nV)),some (.arr bz 1 (now.map nV)),some (.arr bz 1 (x.2.2.map nV))]⟩)
      (fun x=>x.1<=r.length/\MInv N.n (i+2) x.2.1 x.2.2/\kF (i+2) b.toNat (r.drop x.1) x.2.1 x.2.2=T2) (fun x=>r.length-x.1) [] _ (0,sn2,nx2) rfl (by simp[bm]) ⟨by simp,hM2,by simp[hT2]⟩ ?_
     clear hT2;rintro⟨k,sn3,nx3⟩ ⟨hk3,hM3,hrow3⟩ M3 hN3;simp only at hk3 hM3 hrow3;have hsl3:=hM3.len;have hnl3:=qh N.n nx3 hM3.nodup hM3.lt;rcases place r k hk3 with⟨he3,hd3⟩|⟨hlt3,e,hre,hd3⟩<;>rw[hd3]at hrow3
     ·simp only[kF]at hrow3
      subst hrow3;clear hN3;simp(disch:=omega) [-zAa,bm,he3];exact hN2.out _<|Nx.mk (j+1,sn3,nx3) (by simp[bm]) ⟨by simp only;omega,hM3,by simpa using hrow.out⟩ (by simp only;omega)
     ·obtain⟨g1,g2,g3⟩:=hRO.tyo r hrm e (zAb hre)
      obtain⟨v,hv⟩:=aP (l:=sn3) (k:=e.tyo) (by omega)
      simp only[kF,hv,zBd]at hrow3;have hb8:=b.toNat_lt;clear hM hN2;by_cases c1:e.low<=b.toNat
      ·by_cases c2:b.toNat<=e.high
       ·by_cases c3:v=i+2
        ·rw[if_neg (fun h=>h.2 c3)]at hrow3
         have c3':(v:Int)=(i:Int)+2:=by omega
         replace hrow3:=hid hrow3;simp(disch:=omega) [-zAa,bm,hre,hb,c1,c2,hsl3,hv,c3,c3',g1];exact hN3.out _<|Nx.mk (k+1,sn3,nx3) (by simp[bm]) ⟨by simp only;omega,hM3,hrow3.out⟩ (by simp only;omega)
        ·rw[if_pos ⟨⟨c1,c2⟩,c3⟩]at hrow3
         have c3':¬(v:Int)=(i:Int)+2:=by omega
         have hadd:=hM3.add g1 (by rw[hv];simpa using c3)
         replace hrow3:=hid hrow3;simp(disch:=omega) [-zAa,bm,hre,hb,c1,c2,hsl3,hv,c3,c3',g1];exact hN3.out _<|Nx.mk (k+1,sn3.set e.tyo (i+2),nx3++[e.tyo]) (by simp[bm,zBj]) ⟨by simp only;omega,hadd,hrow3.out⟩ (by simp only;omega)
       ·rw[if_neg (fun h=>c2 h.1.2)]at hrow3
        replace hrow3:=hid hrow3;simp(disch:=omega) [-zAa,bm,hre,hb,c1,c2];exact hN3.out _<|Nx.mk (k+1,sn3,nx3) (by simp[bm]) ⟨by simp only;omega,hM3,hrow3.out⟩ (by simp only;omega)
      ·rw[if_neg (fun h=>c1 h.1.1)]at hrow3
       replace hrow3:=hid hrow3;simp(disch:=omega) [-zAa,bm,hre,hb,c1];exact hN3.out _<|Nx.mk (k+1,sn3,nx3) (by simp[bm]) ⟨by simp only;omega,hM3,hrow3.out⟩ (by simp only;omega)
end Go.Abs
end
section
namespace Go.Abs
open Go.Proofs Go.Aut
theorem adq:Yc:=fun x N v hN hl hne hnet hv=>Q2 hN hl hnet hne v hv (mtP N v) rfl
end Go.Abs
end
section
namespace Go.Abs.F
open Go.Proofs
attribute [-simp] getElem?_pos zAf zAg
theorem uV(c:Constraint)(v:Str)(hv:v.length<=1000):Fn Tryz.prog bG [(good12 c).v,.str v] (.bool (allows12 (good12 c) v)):=by
 obtain⟨x,hx⟩:=Oc c;exact yl (Rr adq) hx v hv
def si(A:Constraint->Str->Bool)(p:Policy):Prop:=∀e∈p.elements,∀r∈e.rules,∀v:Str,v.length<=1000->Fn Tryz.prog bG [r.value.v,.str v] (.bool (A r.value v))
theorem CY(p:Policy):si allows12 (bE p):=by
 intro e he r hr v hv;obtain⟨_,l,hl⟩:=uO p e he;rw[hl]at hr;obtain⟨c,hc⟩:=j5 (l.take 3) [] 0 (by simp) r hr
 rw[hc];exact uV c v hv
theorem pg(A:Constraint->Str->Bool)(e:Allowed)(a:Attr)(hA:∀r∈e.rules,Fn Tryz.prog bG [r.value.v,.str a.value] (.bool (A r.value a.value))):
 FnH Tryz.prog fS [1] [a.v,.ptr 0 0] [some (.box [.str e.name,.seq 1 (e.kids.map .str),.seq 5 (e.rules.map Rule.v)])] (.bool (rF A e a)) [some (.box [.str e.name,.seq 1 (e.kids.map .str),.seq 5 (e.rules.map Rule.v)])]:=by
 refine yoH As ?_;simp(disch:=omega) [-zAa,rF];refine al (Gw e a.name) (by simp) fun _=>?_
 cases hf:fP e.rules a.name with
 |none=>
   simp(disch:=omega) [-zAa,hf]
 |some r=>
   simp(disch:=omega) [-zAa,hf];refine ac (by simpa using hA r (yh hf).1) rfl fun _=>?_
   simp(disch:=omega) [-zAa]
theorem te(e:Allowed):FnH Tryz.prog ED [] [e.v] [] (.fn (.func fS) [] [.ptr 0 0]) [some (.box [.str e.name,.seq 1 (e.kids.map .str),.seq 5 (e.rules.map Rule.v)])]:=by
 refine yoH Fs ?_;simp(disch:=omega) [-zAa]
def DV(e:Allowed):List Str:=(e.rules.filter (·.req)).map (·.name)
theorem ww(e:Allowed)(hl:e.rules.length<=1000000):Fn Tryz.prog vM [e.v] (.seq 1 ((DV e).map .str)):=by
 refine yoA v6 ?_;simp(disch:=omega) [-zAa];generalize hw:DV e=w
 refine ak (fun(q:Nat×List Str)=>⟨[(3,.ref 0 q.2.length),(7,.seq 5 (e.rules.map Rule.v)),(8,.int .i64 e.rules.length),(9,.int .i64 q.1)],[some (.arr aX 1 (q.2.map .str))]⟩)
  (fun q=>q.1<=e.rules.length/\q.2.length<=q.1/\q.2++((e.rules.drop q.1).filter (·.req)).map (·.name)=w) (fun q=>e.rules.length-q.1) [.r 3 aX 1] _ (0,[]) rfl (by simp) (by simp[<-hw,DV]) ?_
 rintro⟨k,out⟩ ⟨hk,hol,hi⟩ N hN;simp only at hk hol hi;rcases place e.rules k hk with⟨he,hd⟩|⟨hlt,x,hx,hd⟩<;>rw[hd]at hi
 ·simp at hi
  subst hi;simp(disch:=omega) [-zAa,he]
 ·simp only[zAh]at hi
  replace hi:=hid hi;simp(disch:=omega) [-zAa,hx];refine BrK.mk (fun h=>?_) (fun h=>?_)
  ·simp(disch:=omega) [-zAa,hx]
   have hi:=hi.out;refine hN.out _<|Nx.mk (k+1,out++[x.name]) (by simp) ⟨by simp only;omega,by simp;omega,?_⟩ (by simp only;omega)
   simpa[h]using hi
  ·simp(disch:=omega) [-zAa,hx]
   have hi:=hi.out;refine hN.out _<|Nx.mk (k+1,out) (by simp) ⟨by simp only;omega,by simp only;omega,?_⟩ (by simp only;omega)
   simpa[h]using hi
def Cu(A:Constraint->Str->Bool)(e:Allowed)(l:List Attr):Bool:=l.all (rF A e)&&(DV e).all (fO l)
theorem GE(A:Constraint->Str->Bool)(e:Allowed)(l:List Attr)(hl:l.length<=1000000)(hr:e.rules.length<=1000000)(hA:∀r∈e.rules,∀a∈l,Fn Tryz.prog bG [r.value.v,.str a.value] (.bool (A r.value a.value))):
 Fn Tryz.prog EE [e.v,.seq 2 (l.map Attr.v)] (.bool (Cu A e l)):=by
 refine yoE Ft ?_;simp(disch:=omega) [-zAa];refine av [] 0 [] (by simp) (by simp) (by simp) (by simp) (te e) (by simp) fun _ _=>?_
 simp(disch:=omega) [-zAa];generalize hw:Cu A e l=w
 refine ak (fun(k:Nat)=>⟨[(1,.seq 2 (l.map Attr.v)),(2,.ptr 0 0),(5,.fn (.func fS) [] [.ptr 1 0]),(12,.seq 2 (l.map Attr.v)),(13,.int .i64 l.length),(14,.int .i64 k)],
  [some (.box [.str e.name,.seq 1 (e.kids.map .str),.seq 5 (e.rules.map Rule.v)]),some (.box [.str e.name,.seq 1 (e.kids.map .str),.seq 5 (e.rules.map Rule.v)])]⟩)
  (fun k=>k<=l.length/\((l.drop k).all (rF A e)&&(DV e).all (fO l))=w) (fun k=>l.length-k) [] _ 0 rfl (by simp) (by simp[<-hw,Cu]) ?_
 rintro k ⟨hk,hi⟩ N hN;rcases place l k hk with⟨he,hd⟩|⟨hlt,x,hx,hd⟩<;>rw[hd]at hi
 ·simp only[List.all_nil,zBg]at hi
  clear hw
  have hrl:(DV e).length<=1000000:=by
   have:=zAe (·.req) e.rules;simp only[DV,List.length_map];omega
  simp(disch:=omega) [-zAa,he];refine al (ww e hr) (by simp) fun _=>?_
  generalize DV e=rs at *;simp(disch:=omega) [-zAa]
  refine ak (fun(j:Nat)=>⟨[(1,.seq 2 (l.map Attr.v)),(24,.seq 1 (rs.map .str)),(25,.int .i64 rs.length),(26,.int .i64 j)],[]⟩)
   (fun j=>j<=rs.length/\(rs.drop j).all (fO l)=w) (fun j=>rs.length-j) [] _ 0 rfl (by simp) (by simpa using hi) ?_
  rintro j ⟨hj,hi2⟩ N2 hN2;rcases place rs j hj with⟨he2,hd2⟩|⟨hlt2,y,hy,hd2⟩<;>rw[hd2]at hi2
  ·simp at hi2
   subst hi2;simp(disch:=omega) [-zAa,he2]
  ·simp only[zAj]at hi2
   replace hi2:=hid hi2;simp(disch:=omega) [-zAa,hy];refine ac (GD l y) rfl fun _=>?_;simp(disch:=omega) [-zAa];refine BrK.mk (fun h=>?_) (fun h=>?_)
   ·simp(disch:=omega) [-zAa,h]
    refine hN2.out _<|Nx.mk (j+1) (by simp) ⟨by omega,?_⟩ (by omega)
    have hi2:=hi2.out;simpa[h]using hi2
   ·simp(disch:=omega) [-zAa,h]
    have hi2:=hi2.out;simpa[h]using hi2
 ·simp only[zAj]at hi
  replace hi:=hid hi;have hax:=pg A e x (fun r hr=>hA r hr x (zAb hx));simp(disch:=omega) [-zAa,hx];refine av [1] 1 [1] (by simp) (by simp) (by simp) (by simp) hax (by simp) fun _ _=>?_
  simp(disch:=omega) [-zAa];refine BrK.mk (fun h=>?_) (fun h=>?_)
  ·simp(disch:=omega) [-zAa,h]
   refine hN.out _<|Nx.mk (k+1) (by simp) ⟨by omega,?_⟩ (by omega)
   have hi:=hi.out;simpa[h]using hi
  ·simp(disch:=omega) [-zAa,h]
   have hi:=hi.out;simpa[h]using hi
theorem Qv(l:List Attr)(s:Str):fO l s=(ii l s).isSome:=by
 induction l with
 |nil=>rfl
 |cons a l ih=>by_cases h:a.name=s<;>simp[fO,ii,h,ih]
theorem TQ(A:Constraint->Str->Bool)(e:Allowed)(l:List Attr):Cu A e l=m5 A e l:=by
 have h1:l.all (rF A e)=decide ((cZ A e l).length=l.length):=by
  rw[zBf,decide_eq_true_iff,cZ,List.length_filter_eq_length_iff,List.all_eq_true]
 have h2:(DV e).all (fO l)=whole e l:=by
  simp only[DV,whole]
  induction e.rules with
  |nil=>rfl
  |cons r rs ih=>
    simp only[zAh];cases hr:r.req
    ·simpa[hr]using ih
    ·simp only[if_true,zBh,zAj,ih,hr,Qv,zBg,Bool.not_not]
 rw[Cu,m5,h1,h2]
theorem Li(A:Constraint->Str->Bool)(e:Allowed)(l:List Attr)(hl:l.length<=1000000)(hA:∀r∈e.rules,∀a∈l,Fn Tryz.prog bG [r.value.v,.str a.value] (.bool (A r.value a.value))):
 Fn Tryz.prog Jn [e.v,.seq 2 (l.map Attr.v)] (.seq 2 ((cZ A e l).map Attr.v)):=by
 refine yoE Kb ?_;simp(disch:=omega) [-zAa];refine av [] 0 [] (by simp) (by simp) (by simp) (by simp) (te e) (by simp) fun _ _=>?_
 simp(disch:=omega) [-zAa];generalize hw:cZ A e l=w
 refine ak (fun(q:Nat×List Attr)=>⟨[(5,.fn (.func fS) [] [.ptr 0 0]),(6,.ref 1 q.2.length),(11,.seq 2 (l.map Attr.v)),(12,.int .i64 l.length),(13,.int .i64 q.1)],
  [some (.box [.str e.name,.seq 1 (e.kids.map .str),.seq 5 (e.rules.map Rule.v)]),some (.arr bT 2 (q.2.map Attr.v))]⟩)
  (fun q=>q.1<=l.length/\q.2.length<=q.1/\q.2++cZ A e (l.drop q.1)=w) (fun q=>l.length-q.1) [.r 6 bT 2] _ (0,[]) rfl (by simp) (by simp[<-hw]) ?_
 rintro⟨k,out⟩ ⟨hk,hol,hi⟩ N hN;simp only at hk hol hi;rcases place l k hk with⟨he,hd⟩|⟨hlt,x,hx,hd⟩<;>rw[hd]at hi
 ·simp[cZ]at hi
  subst hi;simp(disch:=omega) [-zAa,he]
 ·simp only[cZ,zAh]at hi
  replace hi:=hid hi;have hax:=pg A e x (fun r hr=>hA r hr x (zAb hx));simp(disch:=omega) [-zAa,hx];refine av [1] 1 [0] (by simp) (by simp) (by simp) (by simp) hax (by simp) fun _ _=>?_
  simp(disch:=omega) [-zAa];refine BrK.mk (fun h=>?_) (fun h=>?_)
  ·simp(disch:=omega) [-zAa,h]
   have hi:=hi.out;refine hN.out _<|Nx.mk (k+1,out++[x]) (by simp) ⟨by simp only;omega,by simp;omega,?_⟩ (by simp only;omega)
   simpa[h,cZ]using hi
  ·simp(disch:=omega) [-zAa,h]
   have hi:=hi.out;refine hN.out _<|Nx.mk (k+1,out) (by simp) ⟨by simp only;omega,by simp only;omega,?_⟩ (by simp only;omega)
   simpa[h,cZ]using hi
theorem Lh(p:Policy)(hp:fo p)(hpA:si allows12 p)(hpr:∀e∈p.elements,e.rules.length<=1000000)(par:Str)(n:Node)(hk:n.kind=1)(hw:wOK n)(hf:fineN n):
 Fn Tryz.prog Jj [p.v,.str par,n.v] (.tup [.seq 2 ((if sP allows12 p par n=true then vR allows12 p n else[]).map Attr.v),.bool (sP allows12 p par n)]):=by
 have hI:r4 p par n=cG p par n:=B5 hp ⟨fun _=>((xx hk).1 hw).2.1,fun h=>absurd hk h⟩ par;have hin:=pf p par n;rw[hI]at hin
 have hrl:((aT p.elements n.name).getD .zero).rules.length<=1000000:=by
  cases hf:aT p.elements n.name with
  |none=>simp[Allowed.zero]
  |some e=>exact hpr e (kz hf).1
 have hA:∀l:List Attr,(∀a∈l,a∈n.attrs)->∀r∈((aT p.elements n.name).getD .zero).rules,∀a∈l,Fn Tryz.prog bG [r.value.v,.str a.value] (.bool (allows12 r.value a.value)):=by
  intro l hl r hr a ha;cases hfe:aT p.elements n.name with
  |none=>rw[hfe]at hr;simp[Allowed.zero]at hr
  |some e=>rw[hfe]at hr;exact hpA e (kz hfe).1 r hr a.value (hf.2 a (hl a ha))
 have hkept:=Li allows12 ((aT p.elements n.name).getD .zero) n.attrs hf.1 (hA _ fun _ h=>h);have hkl:(cZ allows12 ((aT p.elements n.name).getD .zero) n.attrs).length<=1000000:=zBb (zAe _ _) hf.1;have hholds:=GE allows12 ((aT p.elements n.name).getD .zero) (cZ allows12 ((aT p.elements n.name).getD .zero) n.attrs) hkl hrl (hA _ fun a ha=>(List.mem_filter.1 ha).1);rw[TQ,B4]at hholds;have hst:sP allows12 p par n=(cG p par n&&((aT p.elements n.name).isSome&&whole ((aT p.elements n.name).getD .zero) (cZ allows12 ((aT p.elements n.name).getD .zero) n.attrs))):=rfl;have hfind:=iJ p n.name;rw[vR,hst];clear hst hI hA;refine yoA J8 ?_;generalize cG p par n=b1 at *;generalize(aT p.elements n.name).isSome=b2 at *;generalize(aT p.elements n.name).getD .zero=e at *;generalize cZ allows12 e n.attrs=ka at *;generalize whole e ka=b3 at *;simp(disch:=omega) [-zAa];refine ac (by simpa using hin) rfl fun _=>?_
 cases b1
 ·simp(disch:=omega) [-zAa]
 ·simp(disch:=omega) [-zAa]
  refine al (by simpa using hfind) (by simp) fun _=>?_
  cases b2
  ·simp(disch:=omega) [-zAa]
  ·simp(disch:=omega) [-zAa]
   refine al (by simpa using hkept) (by simp) fun _=>?_
   simp(disch:=omega) [-zAa];refine ac (by simpa using hholds) rfl fun _=>?_
   cases b3
   ·simp(disch:=omega) [-zAa]
   ·simp(disch:=omega) [-zAa]
def oR(o:List Node):List (Option Ob):=[some (.box [.ref 1 o.length]),some (.arr aC 5 (o.map Node.v))]
theorem zr(o:List Node)(n:Node)(ho':o.length<=1000000):FnH Tryz.prog cY [1] [.seq 5 [n.v],.ptr 0 0] (oR o) (.tup []) (oR (o++[n])):=by
 refine yoH v7 ?_;simp(disch:=omega) [-zAa,oR]
def DJ(p:Policy)(l:List Node):Prop:=∀(par:Str)(o:List Node),o.length+ai l<=1000000->∀H,(H=oR o\/(o=[]/\H=[some (.box [.nil 5])]))->
 FnH Tryz.prog Ji [3] [p.v,.str par,.seq 5 (l.map Node.v),.fn (.func cY) [] [.ptr 0 0]] H (.tup []) (oR (o++clL allows12 p l par))
theorem wy(p:Policy)(l:List Node)(par:Str)(hs:DJ p l)(hc:ai l<=1000000):Fn Tryz.prog jr [p.v,.str par,.seq 5 (l.map Node.v)] (.seq 5 ((clL allows12 p l par).map Node.v)):=by
 have h:=hs par [] (by simpa using hc) _ (.inr ⟨rfl,rfl⟩)
 simp only[List.nil_append]at h;generalize clL allows12 p l par=r at *;refine yoE Ar ?_;simp(disch:=omega) [-zAa];refine av [3] 1 [1] (by simp) (by simp) (by simp) (by simp) h (by simp[oR]) fun _ _=>?_
 simp(disch:=omega) [-zAa,oR]
theorem r8(n:Node):lF n=1+ai n.kids:=by cases n;simp[lF]
theorem aaG(A:Constraint->Str->Bool)(p:Policy):∀(l:List Node)(par:Str),ai (clL A p l par)<=ai l:=by
 refine aw (fun _=>by simp[clL,ai]) ?_
 intro n l h1 h2 par;have a1:=h2 par;simp only[clL,c9,ai]
 have:ai (clN A p n par)<=lF n:=by
  rw[ou,r8];split
  ·split
   ·have:=h1 n.name
    simp only[ai,r8];omega
   ·split
    ·have:=h1 par;omega
    ·simp[ai]
  ·split
   ·simp only[ai,r8];omega
   ·simp[ai]
 omega
theorem wz(p:Policy)(hp:fo p)(hpA:si allows12 p)(hpr:∀e∈p.elements,e.rules.length<=1000000)(l:List Node)(hw:an wOK l)(hf:an fineN l)(hrec:∀n∈l,DJ p n.kids):DJ p l:=by
 intro par o hlen H hH;have hll:=dr l;refine yoH J7 ?_;generalize hR:o++clL allows12 p l par=R;rcases hH with rfl|⟨rfl,rfl⟩
 all_goals
  simp(disch:=omega) [-zAa,oR]
  first
   |refine ak (fun(q:Nat×List Node)=>⟨[(1,.str par),(3,.fn (.func cY) [] [.ptr 0 0]),(4,.ptr 1 0),(13,.seq 5 (l.map Node.v)),(14,.int .i64 l.length),(15,.int .i64 q.1)],
      [some (.box [.ref 2 q.2.length]),some (.box [.seq 1 (p.top.map .str),.seq 3 (p.elements.map Allowed.v),.seq 1 (p.unwrap.map .str)]),some (.arr aC 5 (q.2.map Node.v))]⟩)
      (fun q=>q.1<=l.length/\q.2.length+ai (l.drop q.1)<=1000000/\q.2++clL allows12 p (l.drop q.1) par=R) (fun q=>l.length-q.1) [] _ (0,o) rfl (by simp) ⟨zBe _,by simpa using hlen,by simpa using hR⟩ ?_
   |refine ak (fun(q:Nat×List Node)=>⟨[(1,.str par),(3,.fn (.func cY) [] [.ptr 0 0]),(4,.ptr 1 0),(13,.seq 5 (l.map Node.v)),(14,.int .i64 l.length),(15,.int .i64 q.1)],
      [some (.box [.ref 2 q.2.length]),some (.box [.seq 1 (p.top.map .str),.seq 3 (p.elements.map Allowed.v),.seq 1 (p.unwrap.map .str)]),some (.arr aC 5 (q.2.map Node.v))]⟩)
      (fun q=>q.1<=l.length/\q.2.length+ai (l.drop q.1)<=1000000/\q.2++clL allows12 p (l.drop q.1) par=R) (fun q=>l.length-q.1) [.b 0 0 aC 5] _ (0,[]) rfl (by simp) ⟨zBe _,by simpa using hlen,by simpa using hR⟩ ?_
  rintro⟨k,w⟩ ⟨hk,hwl,hi⟩ N hN;simp only at hk hwl hi;rcases place l k hk with⟨he,hd⟩|⟨hlt,n,hn,hd⟩<;>rw[hd]at hi hwl
  ·simp only[clL,List.append_nil]at hi
   subst hi;simp(disch:=omega) [-zAa,he]
  ·have hnm:=zAb hn
   obtain⟨w1,w2⟩:=aN.1 hw n hnm;obtain⟨f1,f2⟩:=aN.1 hf n hnm;simp only[ai,r8]at hwl;simp only[clL,ou]at hi
   have hdc:(l.drop (k+1)).length<=1000000:=by
    have:=dr (l.drop (k+1));omega
   have next:∀(X:List Node),w++(X++clL allows12 p (l.drop (k+1)) par)=R->X.length<=1+ai n.kids->∀τ:St,τ.nrm [1,3,4,13,14,15]=⟨[(1,.str par),(3,.fn (.func cY) [] [.ptr 0 0]),(4,.ptr 1 0),(13,.seq 5 (l.map Node.v)),(14,.int .i64 l.length),(15,.int .i64 ((k+1:Nat):Int))],
    [some (.box [.ref 2 (w++X).length]),some (.box [.seq 1 (p.top.map .str),.seq 3 (p.elements.map Allowed.v),.seq 1 (p.unwrap.map .str)]),some (.arr aC 5 ((w++X).map Node.v))]⟩->N τ:=by
    intro X hX hXl τ hτ;refine hN.out _<|Nx.mk (k+1,w++X) hτ ⟨by simp only;omega,?_,by simpa using hX⟩ (by simp only;omega)
    simp only[List.length_append];omega
   by_cases hk1:n.kind=1
   ·rw[if_pos hk1]at hi
    have hheld:=Lh p hp hpA hpr par n hk1 w1 f1;by_cases hst:sP allows12 p par n=true
    ·rw[if_pos hst]at hi hheld
     rw[hst]at hheld;have hcl:=wy p n.kids n.name (hrec n hnm) (by omega)
     have h1:=zr w ⟨1,n.name,vR allows12 p n,[],clL allows12 p n.kids n.name⟩ (by omega)
     generalize vR allows12 p n=kp at *;generalize clL allows12 p n.kids n.name=kd at *;replace hi:=hid hi;simp(disch:=omega) [-zAa,hn,hk1];refine al (by simpa[hk1]using hheld) (by simp) fun _=>?_
     simp(disch:=omega) [-zAa];refine al (by simpa using hcl) (by simp) fun _=>?_
     simp(disch:=omega) [-zAa];refine av [1] 1 [0,2] (by simp) (by simp) (by simp) (by simp[oR]) h1 (by simp[oR]) fun _ _=>?_
     simp(disch:=omega) [-zAa,oR];refine next [⟨1,n.name,kp,[],kd⟩] hi.out (by simp) _ ?_
     simp
    ·have hst':sP allows12 p par n=false:=by simpa using hst
     rw[if_neg hst]at hi hheld;rw[hst']at hheld;have hcon:=f_slices_Contains_string p.unwrap n.name;by_cases hu:hasS p.unwrap n.name=true
     ·rw[if_pos hu]at hi
      rw[hu]at hcon;have hX:=aaG allows12 p n.kids par;have hXl:=dr (clL allows12 p n.kids par);have hs:=hrec n hnm par w (by omega) _ (.inl rfl)
      generalize clL allows12 p n.kids par=X at *;replace hi:=hid hi;simp(disch:=omega) [-zAa,hn,hk1];refine al (by simpa[hk1]using hheld) (by simp) fun _=>?_
      simp(disch:=omega) [-zAa];refine ac (by simpa using hcon) rfl fun _=>?_
      simp(disch:=omega) [-zAa];refine av [3] 1 [0,2] (by simp) (by simp) (by simp) (by simp[oR]) hs (by simp[oR]) fun _ _=>?_
      simp(disch:=omega) [-zAa,oR];refine next X hi.out (by omega) _ ?_
      simp
     ·have hu':hasS p.unwrap n.name=false:=by simpa using hu
      rw[if_neg hu]at hi;rw[hu']at hcon;replace hi:=hid hi;simp(disch:=omega) [-zAa,hn,hk1];refine al (by simpa[hk1]using hheld) (by simp) fun _=>?_
      simp(disch:=omega) [-zAa];refine ac (by simpa using hcon) rfl fun _=>?_
      simp(disch:=omega) [-zAa];refine next [] hi.out (by simp) _ ?_
      simp
   ·rw[if_neg hk1]at hi
    have hI:r4 p par n=cG p par n:=B5 hp ⟨fun h=>absurd h hk1,fun _=>(vh hk1 w1).2.2.2⟩ par;have hin:=pf p par n;rw[hI]at hin;by_cases hb:cG p par n=true
    ·rw[if_pos hb]at hi
     rw[hb]at hin;have h1:=zr w ⟨n.kind,[],[],n.text,[]⟩ (by omega)
     replace hi:=hid hi;simp(disch:=omega) [-zAa,hn,hk1];refine ac (by simpa using hin) rfl fun _=>?_
     simp(disch:=omega) [-zAa];refine av [1] 1 [0,2] (by simp) (by simp) (by simp) (by simp[oR]) h1 (by simp[oR]) fun _ _=>?_
     simp(disch:=omega) [-zAa,oR];refine next [⟨n.kind,[],[],n.text,[]⟩] hi.out (by simp) _ ?_
     simp
    ·have hb':cG p par n=false:=by simpa using hb
     rw[if_neg hb]at hi;rw[hb']at hin;replace hi:=hid hi;simp(disch:=omega) [-zAa,hn,hk1];refine ac (by simpa using hin) rfl fun _=>?_
     simp(disch:=omega) [-zAa];refine next [] hi.out (by simp) _ ?_
     simp
theorem VQ(p:Policy)(hp:fo p)(hpA:si allows12 p)(hpr:∀e∈p.elements,e.rules.length<=1000000):∀l:List Node,an wOK l->an fineN l->DJ p l:=by
 have all:∀l:List Node,an wOK l->an fineN l->∀n∈l,DJ p n.kids:=by
  refine aw (fun _ _ n h=>by cases h) ?_
  intro n l h1 h2 hw hf x hx;obtain⟨⟨w1,w2⟩,w3⟩:=aL.1 hw;obtain⟨⟨f1,f2⟩,f3⟩:=aL.1 hf;rcases List.mem_cons.1 hx with rfl|hx
  ·exact wz p hp hpA hpr x.kids w2 f2 (h1 w2 f2)
  ·exact h2 w3 f3 x hx
 exact fun l hw hf=>wz p hp hpA hpr l hw hf (all l hw hf)
theorem AI(p:Policy)(hp:fo p)(hpA:si allows12 p)(hpr:∀e∈p.elements,e.rules.length<=1000000)(l:List Node)(par:Str)(hw:an wOK l)(hf:an fineN l)(hc:ai l<=1000000):
 Fn Tryz.prog jr [p.v,.str par,.seq 5 (l.map Node.v)] (.seq 5 ((clL allows12 p l par).map Node.v)):=wy p l par (VQ p hp hpA hpr l hw hf) hc
end Go.Abs.F
end
section
namespace Go.Abs.F
open Go.Proofs Go.RowKit
attribute [-simp] getElem?_pos zAf zAg
theorem acl{B:Nat}:∀l:List Node,bq l<=B->an (fun n=>n.text.length<=B) l:=by
 refine aw (fun _=>trivial) ?_;intro n l h1 h2 h;simp only[bq,mj]at h;exact aL.2 ⟨⟨by omega,h1 (by omega)⟩,h2 (by omega)⟩
theorem aaC{B:Nat}:∀l:List Node,ai l<=B->an (fun n=>n.kids.length<=B) l:=by
 refine aw (fun _=>trivial) ?_;intro n l h1 h2 h;simp only[ai,u3]at h;have:=dr n.kids;exact aL.2 ⟨⟨by omega,h1 (by omega)⟩,h2 (by omega)⟩
theorem sh{f g:Node->Prop}:∀l:List Node,an f l->an g l->an (fun n=>f n/\g n) l:=by
 refine aw (fun _ _=>trivial) ?_;intro n l h1 h2 hf hg;obtain⟨⟨a,b⟩,c⟩:=aL.1 hf;obtain⟨⟨a',b'⟩,c'⟩:=aL.1 hg;exact aL.2 ⟨⟨⟨a,a'⟩,h1 b b'⟩,h2 c c'⟩
theorem SizeB.fine1{l:List Node}(h:SizeB l):an fine1 l:=
 fk (fun n h _=>⟨h.1.1,h.2,h.1.2.1,fun a ha=>⟨(h.1.2.2 a ha).1,by have:=(h.1.2.2 a ha).2;omega⟩⟩) l (sh l h.att (acl l h.tt))
theorem SizeB.fineN{l:List Node}(h:SizeB l):an fineN l:=fk (fun n h _=>⟨h.2.1,fun a ha=>(h.2.2 a ha).2⟩) l h.att
theorem SizeB.few{l:List Node}(h:SizeB l):an cF l:=fk (fun n h _=>⟨h.1.2.1,h.2⟩) l (sh l h.att (aaC l (by have:=h.cnt;omega)))
theorem SizeB.okS{l:List Node}(h:SizeB l)(hw:an wOK l):an okS l:=fk (fun n h _=>⟨h.1,h.2.1⟩) l (sh l (sh l hw h.few) h.att)
theorem QK(n:Node):bn [] n=true:=by simp[bn,DO,raw,mD,bD,hasS]
theorem Zs(l:List Node):stT [] l=cI l:=by
 have:∀K:List Node,aq [] K=K:=fun K=>List.filter_eq_self.2 fun n _=>QK n;rw[stT,this,this];rfl
theorem mB(p:Policy)(hp:fo p)(hpA:si allows12 p)(hpr:∀e∈p.elements,e.rules.length<=1000000)(l:List Node)(hb:SizeB l):Fn Tryz.prog ej [p.v,.seq 5 (l.map Node.v)] (.seq 5 ((fX allows12 p l).map Node.v)):=by
 have hM:=T6 l hb.fine1 hb.cnt;have hmw:may l=0->an wOK l:=Iw l false;have hcl:may l=0->Fn Tryz.prog jr [p.v,.str [],.seq 5 (l.map Node.v)] (.seq 5 ((clL allows12 p l []).map Node.v)):=fun h=>AI p hp hpA hpr l [] (hmw h) hb.fineN (by have:=hb.cnt;omega)
 have hst:may l=0->Fn Tryz.prog qo [.seq 5 ((clL allows12 p l []).map Node.v)] (.seq 5 ((cI (clL allows12 p l [])).map Node.v)):=fun h=>by
  have hs:=L4 allows12 p [] hb;rw[<-Zs];exact Df _ (hs.okS (Xy allows12 p l [] (hmw h))) hs.wt (by have:=hs.tt;omega)
 rw[fX];generalize clL allows12 p l []=cl at *;generalize cI cl=sd at *;generalize hm:may l=m at *;refine yoA Fo ?_;simp(disch:=omega) [-zAa];refine ac (by simpa using hM) rfl fun _=>?_
 by_cases h0:m=0
 ·simp(disch:=omega) [-zAa,h0]
  refine al (by simpa using hcl h0) (by simp) fun _=>?_
  simp(disch:=omega) [-zAa];refine al (hst h0) (by simp) fun _=>?_
  simp(disch:=omega) [-zAa]
 ·simp(disch:=omega) [-zAa,h0]
def exP:Policy:=⟨[[98]],[⟨[98],[k7],[]⟩],[]⟩
def Uc:Policy:=⟨[],[],[]⟩
def txN(c:UInt8):Node:=⟨2,[],[],[c],[]⟩
def exN:List Node:=[⟨1,[98],[⟨[105,100],[49]⟩],[],[txN 120,⟨1,[105],[],[],[txN 121]⟩]⟩]
def Q4:List Node:=[txN 120]
theorem adB:fo exP:=⟨fun s hs=>.inr (.inr (by simp[exP]at hs;subst hs;rfl)),fun e he=>by simp[exP]at he;subst he;exact fun s hs=>by simp at hs;exact .inl hs⟩
theorem aau:fo Uc:=⟨fun s hs=>by simp[Uc]at hs,fun e he=>by simp[Uc]at he⟩
theorem Xi:SizeB exN:=⟨by simp[exN,txN,an,O8,GI],by simp[exN,txN,ai,lF],by simp[exN,txN,bp,wtN],by simp[exN,txN,bq,ttN]⟩
theorem Ue:SizeB Q4:=⟨by simp[Q4,txN,an,O8,GI],by simp[Q4,txN,ai,lF],by simp[Q4,txN,bp,wtN],by simp[Q4,txN,bq,ttN]⟩
theorem Xh:fX allows12 exP exN=[⟨1,[98],[],[],[txN 120]⟩]:=by kernel_rfl
theorem Ub:fX allows12 Uc Q4=[]:=by kernel_rfl
theorem Q1:Fn Tryz.prog ej [exP.v,.seq 5 (exN.map Node.v)] (.seq 5 [.strct [.int .i64 1,.str [98],.seq 2 [],.str [],.seq 5 [.strct [.int .i64 2,.str [],.seq 2 [],.str [120],.seq 5 []]]]]):=by
 have:=mB exP adB (fun e he r hr=>by simp[exP]at he;subst he;cases hr) (fun e he=>by simp[exP]at he;subst he;simp) exN Xi
 rwa[Xh]at this
theorem OG:Fn Tryz.prog ej [Uc.v,.seq 5 (Q4.map Node.v)] (.seq 5 []):=by
 have:=mB Uc aau (fun e he=>by cases he) (fun e he=>by cases he) Q4 Ue
 rwa[Ub]at this
def exB:Str:=[60,98,32,105,100,61,49,62,120,60,105,62,121,60,47,105,62,60,47,98,62]
theorem GC(p:Policy)(l:List V)(N N':List V)(h1:Fn Tryz.prog fN [.seq 1 l] (.seq 5 N))(h2:Fn Tryz.prog ej [p.v,.seq 5 N] (.seq 5 N')){s:Str}(h3:Fn Tryz.prog gF [.seq 5 N'] (.str s))(hl:l.length<1000):
 Fn Tryz.prog EA [p.v,.seq 1 l,.int .i64 l.length] (.tup [.str s,.int .i64 0]):=by
 refine yoA Fp ?_;simp(disch:=omega) [-zAa];refine b7 h1 (by simp) ?_
 simp(disch:=omega) [-zAa];refine b7 (by simpa using h2) (by simp) ?_
 simp(disch:=omega) [-zAa];refine b7 h3 (by simp) ?_
 simp(disch:=omega) [-zAa]
theorem wA(p:Policy)(b:Str)(N N':List V)(h1:Fn Tryz.prog fN [.seq 1 (b.map bV)] (.seq 5 N))(h2:Fn Tryz.prog ej [p.v,.seq 5 N] (.seq 5 N')){s:Str}(h3:Fn Tryz.prog gF [.seq 5 N'] (.str s))(hl:b.length<1000):
 Fn Tryz.prog Jl [p.v,.str b] (.str s):=by
 have h:=GC p _ N N' h1 h2 h3 (by simpa using hl)
 refine yoA J9 ?_;simp(disch:=omega) [-zAa];refine al (by simpa using h) (by simp) fun _=>?_
 simp(disch:=omega) [-zAa]
theorem Gz:Fn Tryz.prog Ey [] (.bool true):=by
 have g1:=wA exP exB _ _ QX Q1 QN (by simp[exB])
 have g2:=wA Uc [120] _ _ OC OG Oq (by simp)
 refine yoA Fl ?_;simp(disch:=omega) [-zAa];refine al (show Ctr.p _ _ _ _ from g1) (by simp) fun _=>?_
 simp(disch:=omega) [-zAa];refine al (show Ctr.p _ _ _ _ from g2) (by simp) fun _=>?_
 simp(disch:=omega) [-zAa]
theorem Zk:∀l:List Node,an QM l->bq (l.map cE)<=120*ai l:=by
 refine aw (fun _=>by simp[bq]) ?_
 intro n l h1 h2 ha;obtain⟨⟨a1,a2⟩,a3⟩:=aL.1 ha;have g1:=h1 a2;have g2:=h2 a3;have hr:=nI n.text;have ht:=a1.2.1;have hm:=nz (n.kids.map cE);simp only[zBh,bq,ai,u3,mj];rw[k8];split
 ·simp only[List.length_nil];omega
 ·simp only[bq];omega
theorem abB{B:Nat}:∀l:List Node,an (fun n=>n.attrs.length<=B) l->bp l<=(B+1)*ai l:=by
 refine aw (fun _=>by simp[bp]) ?_
 intro n l h1 h2 ha;obtain⟨⟨a1,a2⟩,a3⟩:=aL.1 ha;have g1:=h1 a2;have g2:=h2 a3;simp only[bp,pV,ai,u3,Nat.mul_add,Nat.mul_one];omega
theorem yR(l:List Node):SizeB (eP l):=by
 obtain⟨h1,h2,h3⟩:=zl l;refine⟨fk (fun n h _=>⟨by have:=h.1;omega,by have:=h.2.1;omega,fun a ha=>⟨by have:=(h.2.2.1 a ha).1;omega,(h.2.2.1 a ha).2⟩⟩) _ h1,by omega,?_,?_⟩
 ·have:=abB (B:=1000) _ (fk (fun n h _=>h.2.1) _ h1)
  omega
 ·have g1:=Zk _ (zy l 40)
  have g2:=wG l 40;have g3:=nz ((dX l 40).1.map cE);rw[eP];omega
theorem L3(l:List Node):SizeB (ye l):=yQ (yR l)
theorem Gf(p:Policy):∀e∈(bE p).elements,e.rules.length<=1000000:=fun e he=>(QE p).2.2 e he |>.2
theorem om(p:Policy)(l:List Node)(hb:SizeB l):Fn Tryz.prog ej [(bE p).v,.seq 5 (l.map Node.v)] (.seq 5 ((fX allows12 (bE p) l).map Node.v)):=
 mB (bE p) (oe p) (CY p) (Gf p) l hb
theorem ki(p:Policy)(l:List Node)(hb:SizeB l):Fn Tryz.prog sW [(bE p).v,.seq 5 (l.map Node.v)] (.bool (iD allows12 (bE p) l)):=
 Gk allows12 (bE p) (yd p) l hb.fineN hb.fine1 (by have:=hb.cnt;omega)
theorem qS(a b:List Node)(ha:SizeB a)(hb:SizeB b):Fn Tryz.prog gH [.seq 5 (a.map Node.v),.seq 5 (b.map Node.v)] (.bool (dh a b)):=
 Lc a b ha.few hb.few (by have:=dr a;have:=ha.cnt;omega) (by have:=dr b;have:=hb.cnt;omega)
theorem PB(A:Constraint->Str->Bool){p:Policy}(hp:fo p)(l:List Node):dh l (fX A p l)=iD A p l:=by
 rw[zBf,Bn,Rd A hp]
theorem sK(p:Policy)(l:List Node)(hR:∀e∈p.elements,∀r∈e.rules,r.value.regex.length<=1125899906842624):FnE Tryz.prog bQ [p.v,.seq 5 (l.map Node.v)] (.bool true):=by
 refine FnE.of_image mixed sC.1 sC.2 rfl fun ho=>?_;clear ho;have hg:=K0 p hR;have h3:=wv l;have h6:=K8 l;have sa:=yR l;have sb:=L3 l;have sc:=Bl allows12 (bE p) sa;have sd:=Bl allows12 (bE p) sb;have ca:=om p _ sa;have cb:=om p _ sb;have cc:=om p _ sc;have nc:=ki p _ sc;have nd:=ki p _ sd;have na:=ki p _ sa;have nb:=ki p _ sb;have ec:=qS _ _ sc sc;have ea:=qS _ _ sa sc;have eb:=qS _ _ sb sd;rw[OS allows12 (oe p) (mE allows12 (bE p) (eP l))]at cc;rw[mE]at nc nd;rw[PB allows12 (oe p)]at ea eb;rw[(Bn _ _).2 rfl]at ec;clear sa sb sc sd;generalize iD allows12 (bE p) (eP l)=n1 at *;generalize iD allows12 (bE p) (ye l)=n2 at *;generalize fX allows12 (bE p) (eP l)=c at *;generalize fX allows12 (bE p) (ye l)=d at *;generalize bE p=g at *;generalize eP l=a at *;generalize ye l=b at *;simp(disch:=omega) [-zAa];refine al (by simpa using hg) (by simp) fun _=>?_
 simp(disch:=omega) [-zAa];refine al h3 (by simp) fun _=>?_
 simp(disch:=omega) [-zAa];refine al h6 (by simp) fun _=>?_
 simp(disch:=omega) [-zAa];refine al (by simpa using ca) (by simp) fun _=>?_
 simp(disch:=omega) [-zAa];refine al (by simpa using cb) (by simp) fun _=>?_
 simp(disch:=omega) [-zAa];refine ac (by simpa using nc) rfl fun _=>?_
 simp(disch:=omega) [-zAa];refine ac (by simpa using nd) rfl fun _=>?_
 simp(disch:=omega) [-zAa];refine al (by simpa using cc) (by simp) fun _=>?_
 simp(disch:=omega) [-zAa];refine ac ec rfl fun _=>?_;simp(disch:=omega) [-zAa];refine ay ea rfl ?_;simp(disch:=omega) [-zAa];refine ay (by simpa using na) rfl ?_
 simp(disch:=omega) [-zAa];refine ay eb rfl ?_;simp(disch:=omega) [-zAa];refine ay (by simpa using nb) rfl ?_
 simp(disch:=omega) [-zAa];refine ay Gz rfl ?_;simp(disch:=omega) [-zAa]
end Go.Abs.F
end
