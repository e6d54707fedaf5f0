/- Match of package regex. No condition. -/
import Derived.Test.YtnnbodoijkbceaaGreatDoorJR16
import Derived.Test.YtnnbodoijkbceaaGreatDoorJW9
import Derived.Test.YtnnbodoijkbceaaGreatDoorJP2
import Derived.Test.YtnnbodoijkbceaaGreatDoorJCodeS
import Derived.Test.YtnnbodoijkbceaaGreatDoorJB0
import Derived.Test.YtnnbodoijkbceaaGreatDoorJTh4
import Derived.Test.YtnnbodoijkbceaaGreatDoorJCodeV
set_option linter.all false
set_option maxHeartbeats 0
set_option maxRecDepth 100000
open List renaming reduceReplicate→zAa,mem_of_getElem?→zAb,getElem?_replicate→zAc,replicate→zAd,length_filter_le→zAe,all_cons→zAf,map_map→zAh,filter_cons→zAi,sum_append→zAj,take_of_length_le→zBa,getElem?_eq_none→zBb,take_append_drop→zBc,map_cons→zBd,length_append→zBg,getElem?_map→zBh,ext_getElem?→zBi,mem_cons→zCc,mem_map→zCd,map_set→zCe
open Option renaming not_isSome→zAg
open Nat renaming lt_or_ge→zBe,le_trans→zBf,zero_le→zCa
open Option.some renaming injEq→zBj
open Bool renaming true_and→zCb
open Function renaming comp_def→zCf
section
namespace Go.Abs
open Go.Proofs Go.Aut
attribute [-simp] getElem?_pos zAg zAh
def zq(es:List NEdge)(n:Nat):List (List V):=(bX es n).map fun r=>r.map NEdge.v
theorem zp{es:List NEdge}{n:Nat}:(zq es n).length=n:=by simp[zq,bX]
theorem tT{es:List NEdge}{n q:Nat}(h:q<n):(zq es n)[q]?=some ((Bk es q).map NEdge.v):=by
 simp only[zq,bX,zBh,List.getElem?_range h,Option.map_some]
theorem Fw{es:List NEdge}{n q:Nat}(h:n<=q):(zq es n)[q]?=none:=zBb (by rw[zp];exact h)
theorem RJ{n:Nat}:zq [] n=zAd n []:=by
 apply zBi;intro q;rcases zBe q n with h|h
 ·rw[tT h,zAc,if_pos h];rfl
 ·rw[Fw h,zBb (by simpa using h)]
theorem OI{es:List NEdge}{e:NEdge}{n:Nat}(h:e.fr<n):(zq es n).set e.fr ((Bk es e.fr).map NEdge.v++[NEdge.v e])=zq (es++[e]) n:=by
 apply zBi;intro q;rw[List.getElem?_set,zp];rcases zBe q n with hq|hq
 ·rw[tT hq,tT hq]
  by_cases hf:e.fr=q
  ·subst hf;simp[Bk,h]
  ·simp[Bk,hf]
 ·rw[Fw hq,Fw hq]
  by_cases hf:e.fr=q
  ·omega
  ·simp[hf]
theorem HV{es:List NEdge}{q:Nat}:(Bk es q).length<=es.length:=zAe _ _
theorem XI{N:Net}(h:N.ok):∃sn now,q8 (bX N.edges N.n) 1 (N.n+1) 0 ((zAd N.n 0).set N.start 1) [N.start]=some (sn,now)/\MInv N.n 1 sn now/\Low 1 sn:=by
 have h0:MInv N.n 1 (zAd N.n 0) []:=MInv.fresh (mark:=0) (by simp) fun q v hv=>by
  rw[zAc]at hv;split at hv
  ·cases hv;exact Nat.le_refl _
  ·cases hv
 have hm:¬(zAd N.n 0)[N.start]?=some 1:=fun e=>by
  rw[zAc]at e;split at e<;>simp at e
 have h1:=h0.add h.start hm
 have hlow:Low 1 ((zAd N.n 0).set N.start 1):=Low.set fun q v hv=>by
  rw[zAc]at hv;split at hv
  ·cases hv;exact zCa _
  ·cases hv
 obtain⟨sn,now,k1,k2,_⟩:=l7 (ov h) (S:=fun _=>True) (fun _ _ _ _ _ _ _=>trivial) (N.n+1) 0 _ [N.start] h1 (fun _ _=>trivial) (by simp) (fun j hj=>by omega) (by omega)
 exact⟨sn,now,k1,k2,Low.cl _ _ _ _ _ _ hlow k1⟩
theorem stepM{N:Net}(h:N.ok){i b:Nat}{sn now:List Nat}(hI:MInv N.n (i+1) sn now)(hL:Low (i+1) sn):
 ∃sn' now',q8 (bX N.edges N.n) (i+2) (N.n+1) 0 (lM (bX N.edges N.n) (i+2) b now sn []).1 (lM (bX N.edges N.n) (i+2) b now sn []).2=some (sn',now')/\MInv N.n (i+2) sn' now'/\Low (i+2) sn':=by
 have hto:=ov h;have hf:MInv N.n (i+2) sn []:=MInv.fresh (mark:=i+1) hI.len hL;obtain⟨h1,_⟩:=tz (b:=b) hto now sn [] hf;have hlow:Low (i+2) (lM (bX N.edges N.n) (i+2) b now sn []).1:=Low.go _ _ _ fun q v hv=>by have:=hL q v hv;omega
 obtain⟨sn',now',k1,k2,_⟩:=l7 hto (S:=fun _=>True) (fun _ _ _ _ _ _ _=>trivial) (N.n+1) 0 _ _ h1 (fun _ _=>trivial) (by omega) (fun j hj=>by omega) (by omega)
 exact⟨sn',now',k1,k2,Low.cl _ _ _ _ _ _ hlow k1⟩
theorem Q8{N:Net}(h:N.ok)(hl:N.edges.length<=1000000):RowsOK N.n (bX N.edges N.n):=by
 refine⟨by simp[bX],fun r hr e he=>?_,fun r hr=>?_⟩
 ·simp only[bX,zCd]at hr
  obtain⟨q,_,rfl⟩:=hr;obtain⟨_,h2,h3,h4⟩:=h.ends e (lS.1 he).1;exact⟨h2,h3,h4⟩
 ·simp only[bX,zCd]at hr
  obtain⟨q,_,rfl⟩:=hr;exact zBf HV hl
theorem L8{x:Rx}{N:Net}(hN:N.ok)(hl:N.edges.length<=1000000)(hnet:Fn Tryz.prog dt [rxP x] (.strct (Net.c N)))(hne:0<N.edges.length)(s:Str)(hs:s.length<=1000)(R:Bool)(hR:mtP N s=R):Fn Tryz.prog d7 [rxP x,.str s] (.bool R):=by
 refine yoE pb ?_;unfold iy;have hnl:=hN.le;simp at hnet;simp(disch:=omega) [-zAa];refine ay hnet (by simp) fun _=>?_
 simp(disch:=omega) [-zAa];rw[<-RJ]
 refine au (fun k:Nat=>if k<N.edges.length then⟨[(1,.str s),(5,.ptr 0 0),(6,.ref 1 N.n),(24,.seq 4 (N.edges.map NEdge.v)),(25,nV N.edges.length),(26,nV k)],[some (.box [nV N.n,nV N.start,nV N.stop,.seq 4 (N.edges.map NEdge.v)]),some (.mat mn b6 4 (sm (zq (N.edges.take k) N.n)))]⟩
  else⟨[(1,.str s),(5,.ptr 0 0),(6,bg (bX N.edges N.n)),(24,.seq 4 (N.edges.map NEdge.v)),(25,nV N.edges.length),(26,nV k)],[some (.box [nV N.n,nV N.start,nV N.stop,.seq 4 (N.edges.map NEdge.v)])]⟩) (fun k=>k<=N.edges.length) (fun k=>N.edges.length-k) [] _ 0 rfl (by simp[hne]) (by simp) ?_
 intro k hk M hM;rcases zBe k N.edges.length with hlt|hge
 ·obtain⟨e,he⟩:=bq hlt
  obtain⟨e1,e2,e3,e4⟩:=hN.ends e (zAb he);have htk:=c5 he;have hrg:=tT (es:=N.edges.take k) e1;have hrl:(Bk (N.edges.take k) e.fr).length<=1000000:=zBf HV (by simp;omega)
  have hml:=zp (es:=N.edges.take k) (n:=N.n);have hms:=OI (es:=N.edges.take k) e1;rw[<-htk]at hms;simp only[NEdge.v,nV,u8V]at hms;rw[if_pos hlt];simp(disch:=omega) [-zAa,he,hrg,e1,hml];refine Dq ⟨[(1,.str s),(5,.ptr 0 0),(6,.ref 1 N.n),(24,.seq 4 (N.edges.map NEdge.v)),(25,nV N.edges.length),(26,nV k)],[some (.box [nV N.n,nV N.start,nV N.stop,.seq 4 (N.edges.map NEdge.v)]),some (.mat mn b6 4 (sm (zq (N.edges.take (k+1)) N.n)))]⟩ (fun F hF=>?_) ?_
  ·simp at hF
   repeat' first|exact hF|refine vk.mk ?_ ?_ |simp(disch:=omega) [-zAa,hrg,e1,hml,hms]
  simp(disch:=omega) [-zAa];by_cases hk1:k+1<N.edges.length
  ·exact hM.out _<|Nx.mk (k+1) (by simp only[if_pos hk1];simp) (by first|omega|(simp only;omega)) (by first|omega|(simp only;omega))
  ·have hk2:k+1=N.edges.length:=by omega
   have hrl2:(bX N.edges N.n).length=N.n:=by simp[bX]
   have hk3:((k:Int)+1)=(N.edges.length:Nat):=by omega
   refine hM.out _ ⟨[.z 6],⟨[(6,bg (bX N.edges N.n)),(1,.str s),(5,.ptr 0 0),(6,.ref 1 N.n),(24,.seq 4 (N.edges.map NEdge.v)),(25,nV N.edges.length),(26,nV (k+1))],[some (.box [nV N.n,nV N.start,nV N.stop,.seq 4 (N.edges.map NEdge.v)]),none]⟩,k+1,?_,?_,by simp only;omega,by simp only;omega⟩
   ·simp[hk2,hk3,hrl2,bg,zq,zAh,zCf]
   ·simp only[if_neg (show ¬k+1<N.edges.length by omega)]
    simp[bg]
 ·have:k=N.edges.length:=by omega
  subst this;clear hM;rw[if_neg (by omega)]
  have hst:=hN.start;have hRO:=Q8 hN hl;obtain⟨sn0,now0,hc0,hM0,hL0⟩:=XI hN;simp only[mtP,hc0]at hR;generalize hrw:bX N.edges N.n=rows at *;simp(disch:=omega) [-zAa,hst];refine ar [1] 1 [1,2] (by simp) (by simp[bg]) (by simp[bg]) (by simp[zCe]) (pD hRO (by omega) 1 (N.n+1) (by omega) (by omega) ((zAd N.n 0).set N.start 1) [N.start] sn0 now0 (by simp) (by simpa using hst) (by simp) hc0) (by simp) fun _ _=>?_
  simp(disch:=omega) [-zAa]
  refine au (fun(x:Nat×List Nat×List Nat×List Nat)=>⟨[(1,.str s),(5,.ptr 0 0),(6,bg rows),(9,.ref 1 N.n),(10,.ref 2 x.2.2.1.length),(11,.ref 3 x.2.2.2.length),(12,nV x.1)],
   [some (.box [nV N.n,nV N.start,nV N.stop,.seq 4 (N.edges.map NEdge.v)]),some (.arr bQ 1 (x.2.1.map nV)),some (.arr bQ 1 (x.2.2.1.map nV)),some (.arr bQ 1 (x.2.2.2.map nV))]⟩)
   (fun x=>x.1<=s.length/\MInv N.n (x.1+1) x.2.1 x.2.2.1/\Low (x.1+1) x.2.1/\ID N x.1 (s.drop x.1) x.2.1 x.2.2.1=R) (fun x=>s.length-x.1) [.r 11 bQ 1] _ (0,sn0,now0,[]) rfl (by simp[bg]) ⟨by simp,hM0,hL0,by simpa using hR⟩ ?_
  clear hR;rintro⟨i,sn,now,nx⟩ ⟨hi,hMi,hLi,hgo⟩ M hM;simp only at hi hMi hLi hgo;have hsl:=hMi.len;have hnl2:=oG N.n now hMi.nodup hMi.lt;rcases place s i hi with⟨he,hd⟩|⟨hlt,b,hb,hd⟩<;>rw[hd]at hgo
  ·obtain⟨v,hv⟩:=bq (l:=sn) (k:=N.stop) (by rw[hsl];exact hN.stop)
   have hst2:=hN.stop;simp only[ID,hv,zBj]at hgo;clear hM;replace hgo:=hid hgo;simp(disch:=omega) [-zAa,bg,he,hst2,hv];have hgo:=hgo.out;rw[<-hgo];congr 1;exact propext (by omega)
  ·obtain⟨sn',now',hcl,hM1,hL1⟩:=stepM (b:=b.toNat) hN hMi hLi
   have hfr:MInv N.n (i+2) sn []:=MInv.fresh (mark:=i+1) hsl hLi;simp only[ID,hcl]at hgo;rw[hrw]at hcl;by_cases hnow:now=[]
   ·subst hnow
    simp only[if_true]at hgo;subst hgo;clear hM;simp(disch:=omega) [-zAa,bg]
   ·rw[if_neg hnow]at hgo
    have hnow2:¬now.length=0:=fun h=>hnow (List.length_eq_zero_iff.1 h);have hnow3:¬(now.length:Int)=0:=by omega
    replace hgo:=hid hgo;obtain⟨T,hT⟩:∃T,T=lM rows (i+2) b.toNat now sn []:=⟨_,rfl⟩;rw[<-hT]at hcl;have hTM:MInv N.n (i+2) T.1 T.2:=by rw[hT,<-hrw];exact(tz (b:=b.toNat) (ov hN) now sn [] hfr).1
    have hTl:=oG N.n T.2 hTM.nodup hTM.lt;replace hcl:=hid hcl;simp(disch:=omega) [-zAa,bg,hnow2,hnow3,hnow,af]
    refine au (fun(x:Nat×List Nat×List Nat)=>⟨[(1,.str s),(5,.ptr 0 0),(6,bg rows),(9,.ref 1 N.n),(10,.ref 2 now.length),(11,.ref 3 x.2.2.length),(12,nV i),(13,nV (i+2)),(69,.ref 2 now.length),(70,nV now.length),(71,nV x.1)],
     [some (.box [nV N.n,nV N.start,nV N.stop,.seq 4 (N.edges.map NEdge.v)]),some (.arr bQ 1 (x.2.1.map nV)),some (.arr bQ 1 (now.map nV)),some (.arr bQ 1 (x.2.2.map nV))]⟩)
     (fun x=>x.1<=now.length/\MInv N.n (i+2) x.2.1 x.2.2/\lM rows (i+2) b.toNat (now.drop x.1) x.2.1 x.2.2=T) (fun x=>now.length-x.1) [] _ (0,sn,[]) rfl (by simp[bg]) ⟨by simp,hfr,by simp[hT]⟩ ?_
    clear hT;rintro⟨j,sn2,nx2⟩ ⟨hj,hM2,hrow⟩ M2 hN2;simp only at hj hM2 hrow;have hsl2:=hM2.len;rcases place now j hj with⟨he2,hd2⟩|⟨hlt2,q,hq,hd2⟩<;>rw[hd2]at hrow
    ·simp only[lM]at hrow
     subst hrow;clear hN2;have hnx2:nx2.length<=N.n:=by simpa using hTl
     simp(disch:=omega) [-zAa,bg,he2];refine ar [1] 1 [1,3] (by simp[hsl2]) (by simp[bg]) (by simp[bg]) (by simp) (pD hRO (by omega) (i+2) (N.n+1) (by omega) (by omega) sn2 nx2 sn' now' hsl2 hM2.lt (by omega) hcl.out) (by simp) fun _ _=>?_
     simp(disch:=omega) [-zAa];exact hM.out _<|Nx.mk (i+1,sn',now',now) (by simp[bg]) ⟨by simp only;omega,hM1,hL1,by simpa using hgo.out⟩ (by simp only;omega)
    ·have hqn:=hM2.lt
     have hqn:q<N.n:=hMi.lt q (zAb hq);obtain⟨r,hrr⟩:=bq (l:=rows) (k:=q) (by rw[hRO.len];exact hqn)
     have hrm:=zAb hrr;have hrl:=hRO.few r hrm;simp only[lM,hrr,Option.getD_some]at hrow;obtain⟨T2,hT2⟩:∃T2,T2=jI (i+2) b.toNat r sn2 nx2:=⟨_,rfl⟩;have hT2M:MInv N.n (i+2) T2.1 T2.2:=by rw[hT2];exact(qj (b:=b.toNat) r sn2 nx2 hM2 fun e he=>(hRO.tyo r hrm e he).1).1
     rw[<-hT2]at hrow;replace hrow:=hid hrow;simp(disch:=omega) [-zAa,bg,hq,hrr]
     refine au (fun(x:Nat×List Nat×List Nat)=>⟨[(1,.str s),(5,.ptr 0 0),(6,bg rows),(9,.ref 1 N.n),(10,.ref 2 now.length),(11,.ref 3 x.2.2.length),(12,nV i),(13,nV (i+2)),(69,.ref 2 now.length),(70,nV now.length),(71,nV j),(78,.seq 4 (r.map NEdge.v)),(79,nV r.length),(80,nV x.1)],
      [some (.box [nV N.n,nV N.start,nV N.stop,.seq 4 (N.edges.map NEdge.v)]),some (.arr bQ 1 (x.2.1.map nV)),some (.arr bQ 1 (now.map nV)),some (.arr bQ 1 (x.2.2.map nV))]⟩)
      (fun x=>x.1<=r.length/\MInv N.n (i+2) x.2.1 x.2.2/\jI (i+2) b.toNat (r.drop x.1) x.2.1 x.2.2=T2) (fun x=>r.length-x.1) [] _ (0,sn2,nx2) rfl (by simp[bg]) ⟨by simp,hM2,by simp[hT2]⟩ ?_
     clear hT2;rintro⟨k,sn3,nx3⟩ ⟨hk3,hM3,hrow3⟩ M3 hN3;simp only at hk3 hM3 hrow3;have hsl3:=hM3.len;have hnl3:=oG N.n nx3 hM3.nodup hM3.lt;rcases place r k hk3 with⟨he3,hd3⟩|⟨hlt3,e,hre,hd3⟩<;>rw[hd3]at hrow3
     ·simp only[jI]at hrow3
      subst hrow3;clear hN3;simp(disch:=omega) [-zAa,bg,he3];exact hN2.out _<|Nx.mk (j+1,sn3,nx3) (by simp[bg]) ⟨by simp only;omega,hM3,by simpa using hrow.out⟩ (by simp only;omega)
     ·obtain⟨g1,g2,g3⟩:=hRO.tyo r hrm e (zAb hre)
      obtain⟨v,hv⟩:=bq (l:=sn3) (k:=e.tyo) (by omega)
      simp only[jI,hv,zBj]at hrow3;have hb8:=b.toNat_lt;clear hM hN2;by_cases c1:e.low<=b.toNat
      ·by_cases c2:b.toNat<=e.high
       ·by_cases c3:v=i+2
        ·rw[if_neg (fun h=>h.2 c3)]at hrow3
         have c3':(v:Int)=(i:Int)+2:=by omega
         replace hrow3:=hid hrow3;simp(disch:=omega) [-zAa,bg,hre,hb,c1,c2,hsl3,hv,c3,c3',g1];exact hN3.out _<|Nx.mk (k+1,sn3,nx3) (by simp[bg]) ⟨by simp only;omega,hM3,hrow3.out⟩ (by simp only;omega)
        ·rw[if_pos ⟨⟨c1,c2⟩,c3⟩]at hrow3
         have c3':¬(v:Int)=(i:Int)+2:=by omega
         have hadd:=hM3.add g1 (by rw[hv];simpa using c3)
         replace hrow3:=hid hrow3;simp(disch:=omega) [-zAa,bg,hre,hb,c1,c2,hsl3,hv,c3,c3',g1];exact hN3.out _<|Nx.mk (k+1,sn3.set e.tyo (i+2),nx3++[e.tyo]) (by simp[bg,zCe]) ⟨by simp only;omega,hadd,hrow3.out⟩ (by simp only;omega)
       ·rw[if_neg (fun h=>c2 h.1.2)]at hrow3
        replace hrow3:=hid hrow3;simp(disch:=omega) [-zAa,bg,hre,hb,c1,c2];exact hN3.out _<|Nx.mk (k+1,sn3,nx3) (by simp[bg]) ⟨by simp only;omega,hM3,hrow3.out⟩ (by simp only;omega)
      ·rw[if_neg (fun h=>c1 h.1.1)]at hrow3
       replace hrow3:=hid hrow3;simp(disch:=omega) [-zAa,bg,hre,hb,c1];exact hN3.out _<|Nx.mk (k+1,sn3,nx3) (by simp[bg]) ⟨by simp only;omega,hM3,hrow3.out⟩ (by simp only;omega)
end Go.Abs
end
section
namespace Go.Abs
open Go.Proofs Go.Aut
theorem YF:Tg:=fun x N v hN hl hne hnet hv=>L8 hN hl hnet hne v hv (mtP N v) rfl
end Go.Abs
end
section
namespace Go.Abs.F
open Go.Proofs
attribute [-simp] getElem?_pos zAg zAh
theorem sT(c:Constraint)(v:Str)(hv:v.length<=1000):Fn Tryz.prog bv [(good12 c).v,.str v] (.bool (allows12 (good12 c) v)):=by
 obtain⟨x,hx⟩:=Jt c;exact vR (MA YF) hx v hv
def nf(A:Constraint->Str->Bool)(p:Policy):Prop:=∀e∈p.elements,∀r∈e.rules,∀v:Str,v.length<=1000->Fn Tryz.prog bv [r.value.v,.str v] (.bool (A r.value v))
theorem pz(p:Policy):nf allows12 (bK p):=by
 intro e he r hr v hv;obtain⟨_,l,hl⟩:=Ap p e he;rw[hl]at hr;obtain⟨c,hc⟩:=mA (l.take 3) [] 0 (by simp) r hr
 rw[hc];exact sT c v hv
theorem nG(A:Constraint->Str->Bool)(e:Allowed)(a:Attr)(hA:∀r∈e.rules,Fn Tryz.prog bv [r.value.v,.str a.value] (.bool (A r.value a.value))):
 FnH Tryz.prog eZ [1] [a.v,.ptr 0 0] [some (.box [.str e.name,.seq 1 (e.kids.map .str),.seq 5 (e.rules.map Rule.v)])] (.bool (wg A e a)) [some (.box [.str e.name,.seq 1 (e.kids.map .str),.seq 5 (e.rules.map Rule.v)])]:=by
 refine yoH xQ ?_;simp(disch:=omega) [-zAa,wg];refine ay (Da e a.name) (by simp) fun _=>?_
 cases hf:lY e.rules a.name with
 |none=>
   simp(disch:=omega) [-zAa,hf]
 |some r=>
   simp(disch:=omega) [-zAa,hf];refine ah (by simpa using hA r (Er hf).1) rfl fun _=>?_
   simp(disch:=omega) [-zAa]
theorem rB(e:Allowed):FnH Tryz.prog BS [] [e.v] [] (.fn (.func eZ) [] [.ptr 0 0]) [some (.box [.str e.name,.seq 1 (e.kids.map .str),.seq 5 (e.rules.map Rule.v)])]:=by
 refine yoH Cu ?_;simp(disch:=omega) [-zAa]
def Bl(e:Allowed):List Str:=(e.rules.filter (·.req)).map (·.name)
theorem uy(e:Allowed)(hl:e.rules.length<=1000000):Fn Tryz.prog tS [e.v] (.seq 1 ((Bl e).map .str)):=by
 refine yoA uc ?_;simp(disch:=omega) [-zAa];generalize hw:Bl e=w
 refine au (fun(q:Nat×List Str)=>⟨[(3,.ref 0 q.2.length),(7,.seq 5 (e.rules.map Rule.v)),(8,.int .i64 e.rules.length),(9,.int .i64 q.1)],[some (.arr aU 1 (q.2.map .str))]⟩)
  (fun q=>q.1<=e.rules.length/\q.2.length<=q.1/\q.2++((e.rules.drop q.1).filter (·.req)).map (·.name)=w) (fun q=>e.rules.length-q.1) [.r 3 aU 1] _ (0,[]) rfl (by simp) (by simp[<-hw,Bl]) ?_
 rintro⟨k,out⟩ ⟨hk,hol,hi⟩ N hN;simp only at hk hol hi;rcases place e.rules k hk with⟨he,hd⟩|⟨hlt,x,hx,hd⟩<;>rw[hd]at hi
 ·simp at hi
  subst hi;simp(disch:=omega) [-zAa,he]
 ·simp only[zAi]at hi
  replace hi:=hid hi;simp(disch:=omega) [-zAa,hx];refine BrK.mk (fun h=>?_) (fun h=>?_)
  ·simp(disch:=omega) [-zAa,hx]
   have hi:=hi.out;refine hN.out _<|Nx.mk (k+1,out++[x.name]) (by simp) ⟨by simp only;omega,by simp;omega,?_⟩ (by simp only;omega)
   simpa[h]using hi
  ·simp(disch:=omega) [-zAa,hx]
   have hi:=hi.out;refine hN.out _<|Nx.mk (k+1,out) (by simp) ⟨by simp only;omega,by simp only;omega,?_⟩ (by simp only;omega)
   simpa[h]using hi
def zS(A:Constraint->Str->Bool)(e:Allowed)(l:List Attr):Bool:=l.all (wg A e)&&(Bl e).all (gn l)
theorem Dh(A:Constraint->Str->Bool)(e:Allowed)(l:List Attr)(hl:l.length<=1000000)(hr:e.rules.length<=1000000)(hA:∀r∈e.rules,∀a∈l,Fn Tryz.prog bv [r.value.v,.str a.value] (.bool (A r.value a.value))):
 Fn Tryz.prog BT [e.v,.seq 2 (l.map Attr.v)] (.bool (zS A e l)):=by
 refine yoE Cv ?_;simp(disch:=omega) [-zAa];refine ar [] 0 [] (by simp) (by simp) (by simp) (by simp) (rB e) (by simp) fun _ _=>?_
 simp(disch:=omega) [-zAa];generalize hw:zS A e l=w
 refine au (fun(k:Nat)=>⟨[(1,.seq 2 (l.map Attr.v)),(2,.ptr 0 0),(5,.fn (.func eZ) [] [.ptr 1 0]),(12,.seq 2 (l.map Attr.v)),(13,.int .i64 l.length),(14,.int .i64 k)],
  [some (.box [.str e.name,.seq 1 (e.kids.map .str),.seq 5 (e.rules.map Rule.v)]),some (.box [.str e.name,.seq 1 (e.kids.map .str),.seq 5 (e.rules.map Rule.v)])]⟩)
  (fun k=>k<=l.length/\((l.drop k).all (wg A e)&&(Bl e).all (gn l))=w) (fun k=>l.length-k) [] _ 0 rfl (by simp) (by simp[<-hw,zS]) ?_
 rintro k ⟨hk,hi⟩ N hN;rcases place l k hk with⟨he,hd⟩|⟨hlt,x,hx,hd⟩<;>rw[hd]at hi
 ·simp only[List.all_nil,zCb]at hi
  clear hw
  have hrl:(Bl e).length<=1000000:=by
   have:=zAe (·.req) e.rules;simp only[Bl,List.length_map];omega
  simp(disch:=omega) [-zAa,he];refine ay (uy e hr) (by simp) fun _=>?_
  generalize Bl e=rs at *;simp(disch:=omega) [-zAa]
  refine au (fun(j:Nat)=>⟨[(1,.seq 2 (l.map Attr.v)),(24,.seq 1 (rs.map .str)),(25,.int .i64 rs.length),(26,.int .i64 j)],[]⟩)
   (fun j=>j<=rs.length/\(rs.drop j).all (gn l)=w) (fun j=>rs.length-j) [] _ 0 rfl (by simp) (by simpa using hi) ?_
  rintro j ⟨hj,hi2⟩ N2 hN2;rcases place rs j hj with⟨he2,hd2⟩|⟨hlt2,y,hy,hd2⟩<;>rw[hd2]at hi2
  ·simp at hi2
   subst hi2;simp(disch:=omega) [-zAa,he2]
  ·simp only[zAf]at hi2
   replace hi2:=hid hi2;simp(disch:=omega) [-zAa,hy];refine ah (Dg l y) rfl fun _=>?_;simp(disch:=omega) [-zAa];refine BrK.mk (fun h=>?_) (fun h=>?_)
   ·simp(disch:=omega) [-zAa,h]
    refine hN2.out _<|Nx.mk (j+1) (by simp) ⟨by omega,?_⟩ (by omega)
    have hi2:=hi2.out;simpa[h]using hi2
   ·simp(disch:=omega) [-zAa,h]
    have hi2:=hi2.out;simpa[h]using hi2
 ·simp only[zAf]at hi
  replace hi:=hid hi;have hax:=nG A e x (fun r hr=>hA r hr x (zAb hx));simp(disch:=omega) [-zAa,hx];refine ar [1] 1 [1] (by simp) (by simp) (by simp) (by simp) hax (by simp) fun _ _=>?_
  simp(disch:=omega) [-zAa];refine BrK.mk (fun h=>?_) (fun h=>?_)
  ·simp(disch:=omega) [-zAa,h]
   refine hN.out _<|Nx.mk (k+1) (by simp) ⟨by omega,?_⟩ (by omega)
   have hi:=hi.out;simpa[h]using hi
  ·simp(disch:=omega) [-zAa,h]
   have hi:=hi.out;simpa[h]using hi
theorem Lv(l:List Attr)(s:Str):gn l s=(iC l s).isSome:=by
 induction l with
 |nil=>rfl
 |cons a l ih=>by_cases h:a.name=s<;>simp[gn,iC,h,ih]
theorem O2(A:Constraint->Str->Bool)(e:Allowed)(l:List Attr):zS A e l=wP A e l:=by
 have h1:l.all (wg A e)=decide ((fR A e l).length=l.length):=by
  rw[Bool.eq_iff_iff,decide_eq_true_iff,fR,List.length_filter_eq_length_iff,List.all_eq_true]
 have h2:(Bl e).all (gn l)=whole e l:=by
  simp only[Bl,whole]
  induction e.rules with
  |nil=>rfl
  |cons r rs ih=>
    simp only[zAi];cases hr:r.req
    ·simpa[hr]using ih
    ·simp only[if_true,zBd,zAf,ih,hr,Lv,zCb,Bool.not_not]
 rw[zS,wP,h1,h2]
theorem GT(A:Constraint->Str->Bool)(e:Allowed)(l:List Attr)(hl:l.length<=1000000)(hA:∀r∈e.rules,∀a∈l,Fn Tryz.prog bv [r.value.v,.str a.value] (.bool (A r.value a.value))):
 Fn Tryz.prog Fu [e.v,.seq 2 (l.map Attr.v)] (.seq 2 ((fR A e l).map Attr.v)):=by
 refine yoE F8 ?_;simp(disch:=omega) [-zAa];refine ar [] 0 [] (by simp) (by simp) (by simp) (by simp) (rB e) (by simp) fun _ _=>?_
 simp(disch:=omega) [-zAa];generalize hw:fR A e l=w
 refine au (fun(q:Nat×List Attr)=>⟨[(5,.fn (.func eZ) [] [.ptr 0 0]),(6,.ref 1 q.2.length),(11,.seq 2 (l.map Attr.v)),(12,.int .i64 l.length),(13,.int .i64 q.1)],
  [some (.box [.str e.name,.seq 1 (e.kids.map .str),.seq 5 (e.rules.map Rule.v)]),some (.arr b7 2 (q.2.map Attr.v))]⟩)
  (fun q=>q.1<=l.length/\q.2.length<=q.1/\q.2++fR A e (l.drop q.1)=w) (fun q=>l.length-q.1) [.r 6 b7 2] _ (0,[]) rfl (by simp) (by simp[<-hw]) ?_
 rintro⟨k,out⟩ ⟨hk,hol,hi⟩ N hN;simp only at hk hol hi;rcases place l k hk with⟨he,hd⟩|⟨hlt,x,hx,hd⟩<;>rw[hd]at hi
 ·simp[fR]at hi
  subst hi;simp(disch:=omega) [-zAa,he]
 ·simp only[fR,zAi]at hi
  replace hi:=hid hi;have hax:=nG A e x (fun r hr=>hA r hr x (zAb hx));simp(disch:=omega) [-zAa,hx];refine ar [1] 1 [0] (by simp) (by simp) (by simp) (by simp) hax (by simp) fun _ _=>?_
  simp(disch:=omega) [-zAa];refine BrK.mk (fun h=>?_) (fun h=>?_)
  ·simp(disch:=omega) [-zAa,h]
   have hi:=hi.out;refine hN.out _<|Nx.mk (k+1,out++[x]) (by simp) ⟨by simp only;omega,by simp;omega,?_⟩ (by simp only;omega)
   simpa[h,fR]using hi
  ·simp(disch:=omega) [-zAa,h]
   have hi:=hi.out;refine hN.out _<|Nx.mk (k+1,out) (by simp) ⟨by simp only;omega,by simp only;omega,?_⟩ (by simp only;omega)
   simpa[h,fR]using hi
theorem GQ(p:Policy)(hp:gV p)(hpA:nf allows12 p)(hpr:∀e∈p.elements,e.rules.length<=1000000)(par:Str)(n:Node)(hk:n.kind=1)(hw:wOK n)(hf:fineN n):
 Fn Tryz.prog Fq [p.v,.str par,n.v] (.tup [.seq 2 ((if yI allows12 p par n=true then zw allows12 p n else[]).map Attr.v),.bool (yI allows12 p par n)]):=by
 have hI:qy p par n=fS p par n:=zy hp ⟨fun _=>((Kw hk).1 hw).2.1,fun h=>absurd hk h⟩ par;have hin:=nF p par n;rw[hI]at hin
 have hrl:((aW p.elements n.name).getD .zero).rules.length<=1000000:=by
  cases hf:aW p.elements n.name with
  |none=>simp[Allowed.zero]
  |some e=>exact hpr e (qA hf).1
 have hA:∀l:List Attr,(∀a∈l,a∈n.attrs)->∀r∈((aW p.elements n.name).getD .zero).rules,∀a∈l,Fn Tryz.prog bv [r.value.v,.str a.value] (.bool (allows12 r.value a.value)):=by
  intro l hl r hr a ha;cases hfe:aW p.elements n.name with
  |none=>rw[hfe]at hr;simp[Allowed.zero]at hr
  |some e=>rw[hfe]at hr;exact hpA e (qA hfe).1 r hr a.value (hf.2 a (hl a ha))
 have hkept:=GT allows12 ((aW p.elements n.name).getD .zero) n.attrs hf.1 (hA _ fun _ h=>h);have hkl:(fR allows12 ((aW p.elements n.name).getD .zero) n.attrs).length<=1000000:=zBf (zAe _ _) hf.1;have hholds:=Dh allows12 ((aW p.elements n.name).getD .zero) (fR allows12 ((aW p.elements n.name).getD .zero) n.attrs) hkl hrl (hA _ fun a ha=>(List.mem_filter.1 ha).1);rw[O2,Lo]at hholds;have hst:yI allows12 p par n=(fS p par n&&((aW p.elements n.name).isSome&&whole ((aW p.elements n.name).getD .zero) (fR allows12 ((aW p.elements n.name).getD .zero) n.attrs))):=rfl;have hfind:=gO p n.name;rw[zw,hst];clear hst hI hA;refine yoA F4 ?_;generalize fS p par n=b1 at *;generalize(aW p.elements n.name).isSome=b2 at *;generalize(aW p.elements n.name).getD .zero=e at *;generalize fR allows12 e n.attrs=ka at *;generalize whole e ka=b3 at *;simp(disch:=omega) [-zAa];refine ah (by simpa using hin) rfl fun _=>?_
 cases b1
 ·simp(disch:=omega) [-zAa]
 ·simp(disch:=omega) [-zAa]
  refine ay (by simpa using hfind) (by simp) fun _=>?_
  cases b2
  ·simp(disch:=omega) [-zAa]
  ·simp(disch:=omega) [-zAa]
   refine ay (by simpa using hkept) (by simp) fun _=>?_
   simp(disch:=omega) [-zAa];refine ah (by simpa using hholds) rfl fun _=>?_
   cases b3
   ·simp(disch:=omega) [-zAa]
   ·simp(disch:=omega) [-zAa]
def oR(o:List Node):List (Option Ob):=[some (.box [.ref 1 o.length]),some (.arr aG 5 (o.map Node.v))]
theorem wW(o:List Node)(n:Node)(ho':o.length<=1000000):FnH Tryz.prog cD [1] [.seq 5 [n.v],.ptr 0 0] (oR o) (.tup []) (oR (o++[n])):=by
 refine yoH ue ?_;simp(disch:=omega) [-zAa,oR]
def Bd(p:Policy)(l:List Node):Prop:=∀(par:Str)(o:List Node),o.length+aj l<=1000000->∀H,(H=oR o\/(o=[]/\H=[some (.box [.nil 5])]))->
 FnH Tryz.prog Fp [3] [p.v,.str par,.seq 5 (l.map Node.v),.fn (.func cD) [] [.ptr 0 0]] H (.tup []) (oR (o++clL allows12 p l par))
theorem uD(p:Policy)(l:List Node)(par:Str)(hs:Bd p l)(hc:aj l<=1000000):Fn Tryz.prog iH [p.v,.str par,.seq 5 (l.map Node.v)] (.seq 5 ((clL allows12 p l par).map Node.v)):=by
 have h:=hs par [] (by simpa using hc) _ (.inr ⟨rfl,rfl⟩)
 simp only[List.nil_append]at h;generalize clL allows12 p l par=r at *;refine yoE xP ?_;simp(disch:=omega) [-zAa];refine ar [3] 1 [1] (by simp) (by simp) (by simp) (by simp) h (by simp[oR]) fun _ _=>?_
 simp(disch:=omega) [-zAa,oR]
theorem qD(n:Node):j6 n=1+aj n.kids:=by cases n;simp[j6]
theorem VO(A:Constraint->Str->Bool)(p:Policy):∀(l:List Node)(par:Str),aj (clL A p l par)<=aj l:=by
 refine ax (fun _=>by simp[clL,aj]) ?_
 intro n l h1 h2 par;have a1:=h2 par;simp only[clL,cK,aj]
 have:aj (clN A p n par)<=j6 n:=by
  rw[pR,qD];split
  ·split
   ·have:=h1 n.name
    simp only[aj,qD];omega
   ·split
    ·have:=h1 par;omega
    ·simp[aj]
  ·split
   ·simp only[aj,qD];omega
   ·simp[aj]
 omega
theorem uE(p:Policy)(hp:gV p)(hpA:nf allows12 p)(hpr:∀e∈p.elements,e.rules.length<=1000000)(l:List Node)(hw:an wOK l)(hf:an fineN l)(hrec:∀n∈l,Bd p n.kids):Bd p l:=by
 intro par o hlen H hH;have hll:=dS l;refine yoH F3 ?_;generalize hR:o++clL allows12 p l par=R;rcases hH with rfl|⟨rfl,rfl⟩
 all_goals
  simp(disch:=omega) [-zAa,oR]
  first
   |refine au (fun(q:Nat×List Node)=>⟨[(1,.str par),(3,.fn (.func cD) [] [.ptr 0 0]),(4,.ptr 1 0),(13,.seq 5 (l.map Node.v)),(14,.int .i64 l.length),(15,.int .i64 q.1)],
      [some (.box [.ref 2 q.2.length]),some (.box [.seq 1 (p.top.map .str),.seq 3 (p.elements.map Allowed.v),.seq 1 (p.unwrap.map .str)]),some (.arr aG 5 (q.2.map Node.v))]⟩)
      (fun q=>q.1<=l.length/\q.2.length+aj (l.drop q.1)<=1000000/\q.2++clL allows12 p (l.drop q.1) par=R) (fun q=>l.length-q.1) [] _ (0,o) rfl (by simp) ⟨zCa _,by simpa using hlen,by simpa using hR⟩ ?_
   |refine au (fun(q:Nat×List Node)=>⟨[(1,.str par),(3,.fn (.func cD) [] [.ptr 0 0]),(4,.ptr 1 0),(13,.seq 5 (l.map Node.v)),(14,.int .i64 l.length),(15,.int .i64 q.1)],
      [some (.box [.ref 2 q.2.length]),some (.box [.seq 1 (p.top.map .str),.seq 3 (p.elements.map Allowed.v),.seq 1 (p.unwrap.map .str)]),some (.arr aG 5 (q.2.map Node.v))]⟩)
      (fun q=>q.1<=l.length/\q.2.length+aj (l.drop q.1)<=1000000/\q.2++clL allows12 p (l.drop q.1) par=R) (fun q=>l.length-q.1) [.b 0 0 aG 5] _ (0,[]) rfl (by simp) ⟨zCa _,by simpa using hlen,by simpa using hR⟩ ?_
  rintro⟨k,w⟩ ⟨hk,hwl,hi⟩ N hN;simp only at hk hwl hi;rcases place l k hk with⟨he,hd⟩|⟨hlt,n,hn,hd⟩<;>rw[hd]at hi hwl
  ·simp only[clL,List.append_nil]at hi
   subst hi;simp(disch:=omega) [-zAa,he]
  ·have hnm:=zAb hn
   obtain⟨w1,w2⟩:=aP.1 hw n hnm;obtain⟨f1,f2⟩:=aP.1 hf n hnm;simp only[aj,qD]at hwl;simp only[clL,pR]at hi
   have hdc:(l.drop (k+1)).length<=1000000:=by
    have:=dS (l.drop (k+1));omega
   have next:∀(X:List Node),w++(X++clL allows12 p (l.drop (k+1)) par)=R->X.length<=1+aj n.kids->∀τ:St,τ.nrm [1,3,4,13,14,15]=⟨[(1,.str par),(3,.fn (.func cD) [] [.ptr 0 0]),(4,.ptr 1 0),(13,.seq 5 (l.map Node.v)),(14,.int .i64 l.length),(15,.int .i64 ((k+1:Nat):Int))],
    [some (.box [.ref 2 (w++X).length]),some (.box [.seq 1 (p.top.map .str),.seq 3 (p.elements.map Allowed.v),.seq 1 (p.unwrap.map .str)]),some (.arr aG 5 ((w++X).map Node.v))]⟩->N τ:=by
    intro X hX hXl τ hτ;refine hN.out _<|Nx.mk (k+1,w++X) hτ ⟨by simp only;omega,?_,by simpa using hX⟩ (by simp only;omega)
    simp only[zBg];omega
   by_cases hk1:n.kind=1
   ·rw[if_pos hk1]at hi
    have hheld:=GQ p hp hpA hpr par n hk1 w1 f1;by_cases hst:yI allows12 p par n=true
    ·rw[if_pos hst]at hi hheld
     rw[hst]at hheld;have hcl:=uD p n.kids n.name (hrec n hnm) (by omega)
     have h1:=wW w ⟨1,n.name,zw allows12 p n,[],clL allows12 p n.kids n.name⟩ (by omega)
     generalize zw allows12 p n=kp at *;generalize clL allows12 p n.kids n.name=kd at *;replace hi:=hid hi;simp(disch:=omega) [-zAa,hn,hk1];refine ay (by simpa[hk1]using hheld) (by simp) fun _=>?_
     simp(disch:=omega) [-zAa];refine ay (by simpa using hcl) (by simp) fun _=>?_
     simp(disch:=omega) [-zAa];refine ar [1] 1 [0,2] (by simp) (by simp) (by simp) (by simp[oR]) h1 (by simp[oR]) fun _ _=>?_
     simp(disch:=omega) [-zAa,oR];refine next [⟨1,n.name,kp,[],kd⟩] hi.out (by simp) _ ?_
     simp
    ·have hst':yI allows12 p par n=false:=by simpa using hst
     rw[if_neg hst]at hi hheld;rw[hst']at hheld;have hcon:=f_slices_Contains_string p.unwrap n.name;by_cases hu:hasS p.unwrap n.name=true
     ·rw[if_pos hu]at hi
      rw[hu]at hcon;have hX:=VO allows12 p n.kids par;have hXl:=dS (clL allows12 p n.kids par);have hs:=hrec n hnm par w (by omega) _ (.inl rfl)
      generalize clL allows12 p n.kids par=X at *;replace hi:=hid hi;simp(disch:=omega) [-zAa,hn,hk1];refine ay (by simpa[hk1]using hheld) (by simp) fun _=>?_
      simp(disch:=omega) [-zAa];refine ah (by simpa using hcon) rfl fun _=>?_
      simp(disch:=omega) [-zAa];refine ar [3] 1 [0,2] (by simp) (by simp) (by simp) (by simp[oR]) hs (by simp[oR]) fun _ _=>?_
      simp(disch:=omega) [-zAa,oR];refine next X hi.out (by omega) _ ?_
      simp
     ·have hu':hasS p.unwrap n.name=false:=by simpa using hu
      rw[if_neg hu]at hi;rw[hu']at hcon;replace hi:=hid hi;simp(disch:=omega) [-zAa,hn,hk1];refine ay (by simpa[hk1]using hheld) (by simp) fun _=>?_
      simp(disch:=omega) [-zAa];refine ah (by simpa using hcon) rfl fun _=>?_
      simp(disch:=omega) [-zAa];refine next [] hi.out (by simp) _ ?_
      simp
   ·rw[if_neg hk1]at hi
    have hI:qy p par n=fS p par n:=zy hp ⟨fun h=>absurd h hk1,fun _=>(yB hk1 w1).2.2.2⟩ par;have hin:=nF p par n;rw[hI]at hin;by_cases hb:fS p par n=true
    ·rw[if_pos hb]at hi
     rw[hb]at hin;have h1:=wW w ⟨n.kind,[],[],n.text,[]⟩ (by omega)
     replace hi:=hid hi;simp(disch:=omega) [-zAa,hn,hk1];refine ah (by simpa using hin) rfl fun _=>?_
     simp(disch:=omega) [-zAa];refine ar [1] 1 [0,2] (by simp) (by simp) (by simp) (by simp[oR]) h1 (by simp[oR]) fun _ _=>?_
     simp(disch:=omega) [-zAa,oR];refine next [⟨n.kind,[],[],n.text,[]⟩] hi.out (by simp) _ ?_
     simp
    ·have hb':fS p par n=false:=by simpa using hb
     rw[if_neg hb]at hi;rw[hb']at hin;replace hi:=hid hi;simp(disch:=omega) [-zAa,hn,hk1];refine ah (by simpa using hin) rfl fun _=>?_
     simp(disch:=omega) [-zAa];refine next [] hi.out (by simp) _ ?_
     simp
theorem QY(p:Policy)(hp:gV p)(hpA:nf allows12 p)(hpr:∀e∈p.elements,e.rules.length<=1000000):∀l:List Node,an wOK l->an fineN l->Bd p l:=by
 have all:∀l:List Node,an wOK l->an fineN l->∀n∈l,Bd p n.kids:=by
  refine ax (fun _ _ n h=>by cases h) ?_
  intro n l h1 h2 hw hf x hx;obtain⟨⟨w1,w2⟩,w3⟩:=aH.1 hw;obtain⟨⟨f1,f2⟩,f3⟩:=aH.1 hf;rcases zCc.1 hx with rfl|hx
  ·exact uE p hp hpA hpr x.kids w2 f2 (h1 w2 f2)
  ·exact h2 w3 f3 x hx
 exact fun l hw hf=>uE p hp hpA hpr l hw hf (all l hw hf)
theorem x6(p:Policy)(hp:gV p)(hpA:nf allows12 p)(hpr:∀e∈p.elements,e.rules.length<=1000000)(l:List Node)(par:Str)(hw:an wOK l)(hf:an fineN l)(hc:aj l<=1000000):
 Fn Tryz.prog iH [p.v,.str par,.seq 5 (l.map Node.v)] (.seq 5 ((clL allows12 p l par).map Node.v)):=uD p l par (QY p hp hpA hpr l hw hf) hc
end Go.Abs.F
end
section
namespace Go.Abs.F
open Go.Proofs Go.RowKit
attribute [-simp] getElem?_pos zAg zAh
theorem XB{B:Nat}:∀l:List Node,bh l<=B->an (fun n=>n.text.length<=B) l:=by
 refine ax (fun _=>trivial) ?_;intro n l h1 h2 h;simp only[bh,li]at h;exact aH.2 ⟨⟨by omega,h1 (by omega)⟩,h2 (by omega)⟩
theorem VL{B:Nat}:∀l:List Node,aj l<=B->an (fun n=>n.kids.length<=B) l:=by
 refine ax (fun _=>trivial) ?_;intro n l h1 h2 h;simp only[aj,sY]at h;have:=dS n.kids;exact aH.2 ⟨⟨by omega,h1 (by omega)⟩,h2 (by omega)⟩
theorem qI{f g:Node->Prop}:∀l:List Node,an f l->an g l->an (fun n=>f n/\g n) l:=by
 refine ax (fun _ _=>trivial) ?_;intro n l h1 h2 hf hg;obtain⟨⟨a,b⟩,c⟩:=aH.1 hf;obtain⟨⟨a',b'⟩,c'⟩:=aH.1 hg;exact aH.2 ⟨⟨⟨a,a'⟩,h1 b b'⟩,h2 c c'⟩
theorem SizeB.fine1{l:List Node}(h:SizeB l):an fine1 l:=
 dK (fun n h _=>⟨h.1.1,h.2,h.1.2.1,fun a ha=>⟨(h.1.2.2 a ha).1,by have:=(h.1.2.2 a ha).2;omega⟩⟩) l (qI l h.att (XB l h.tt))
theorem SizeB.fineN{l:List Node}(h:SizeB l):an fineN l:=dK (fun n h _=>⟨h.2.1,fun a ha=>(h.2.2 a ha).2⟩) l h.att
theorem SizeB.few{l:List Node}(h:SizeB l):an gg l:=dK (fun n h _=>⟨h.1.2.1,h.2⟩) l (qI l h.att (VL l (by have:=h.cnt;omega)))
theorem SizeB.okS{l:List Node}(h:SizeB l)(hw:an wOK l):an okS l:=dK (fun n h _=>⟨h.1,h.2.1⟩) l (qI l (qI l hw h.few) h.att)
theorem LN(n:Node):cJ [] n=true:=by simp[cJ,Hp,raw,lz,bp,hasS]
theorem UD(l:List Node):stT [] l=mt l:=by
 have:∀K:List Node,aS [] K=K:=fun K=>List.filter_eq_self.2 fun n _=>LN n;rw[stT,this,this];rfl
theorem gQ(p:Policy)(hp:gV p)(hpA:nf allows12 p)(hpr:∀e∈p.elements,e.rules.length<=1000000)(l:List Node)(hb:SizeB l):Fn Tryz.prog dI [p.v,.seq 5 (l.map Node.v)] (.seq 5 ((dP allows12 p l).map Node.v)):=by
 have hM:=Pe l hb.fine1 hb.cnt;have hmw:may l=0->an wOK l:=Ul l false;have hcl:may l=0->Fn Tryz.prog iH [p.v,.str [],.seq 5 (l.map Node.v)] (.seq 5 ((clL allows12 p l []).map Node.v)):=fun h=>x6 p hp hpA hpr l [] (hmw h) hb.fineN (by have:=hb.cnt;omega)
 have hst:may l=0->Fn Tryz.prog oP [.seq 5 ((clL allows12 p l []).map Node.v)] (.seq 5 ((mt (clL allows12 p l [])).map Node.v)):=fun h=>by
  have hs:=HK allows12 p [] hb;rw[<-UD];exact AE _ (hs.okS (YY allows12 p l [] (hmw h))) hs.wt (by have:=hs.tt;omega)
 rw[dP];generalize clL allows12 p l []=cl at *;generalize mt cl=sd at *;generalize hm:may l=m at *;refine yoA Cq ?_;simp(disch:=omega) [-zAa];refine ah (by simpa using hM) rfl fun _=>?_
 by_cases h0:m=0
 ·simp(disch:=omega) [-zAa,h0]
  refine ay (by simpa using hcl h0) (by simp) fun _=>?_
  simp(disch:=omega) [-zAa];refine ay (hst h0) (by simp) fun _=>?_
  simp(disch:=omega) [-zAa]
 ·simp(disch:=omega) [-zAa,h0]
def exP:Policy:=⟨[[98]],[⟨[98],[kT],[]⟩],[]⟩
def Pk:Policy:=⟨[],[],[]⟩
def txN(c:UInt8):Node:=⟨2,[],[],[c],[]⟩
def exN:List Node:=[⟨1,[98],[⟨[105,100],[49]⟩],[],[txN 120,⟨1,[105],[],[],[txN 121]⟩]⟩]
def Mb:List Node:=[txN 120]
theorem YR:gV exP:=⟨fun s hs=>.inr (.inr (by simp[exP]at hs;subst hs;rfl)),fun e he=>by simp[exP]at he;subst he;exact fun s hs=>by simp at hs;exact .inl hs⟩
theorem VC:gV Pk:=⟨fun s hs=>by simp[Pk]at hs,fun e he=>by simp[Pk]at he⟩
theorem Si:SizeB exN:=⟨by simp[exN,txN,an,Kf,Dj],by simp[exN,txN,aj,j6],by simp[exN,txN,aN,wtN],by simp[exN,txN,bh,ttN]⟩
theorem Pm:SizeB Mb:=⟨by simp[Mb,txN,an,Kf,Dj],by simp[Mb,txN,aj,j6],by simp[Mb,txN,aN,wtN],by simp[Mb,txN,bh,ttN]⟩
theorem Sh:dP allows12 exP exN=[⟨1,[98],[],[],[txN 120]⟩]:=by kernel_rfl
theorem Pj:dP allows12 Pk Mb=[]:=by kernel_rfl
theorem L7:Fn Tryz.prog dI [exP.v,.seq 5 (exN.map Node.v)] (.seq 5 [.strct [.int .i64 1,.str [98],.seq 2 [],.str [],.seq 5 [.strct [.int .i64 2,.str [],.seq 2 [],.str [120],.seq 5 []]]]]):=by
 have:=gQ exP YR (fun e he r hr=>by simp[exP]at he;subst he;cases hr) (fun e he=>by simp[exP]at he;subst he;simp) exN Si
 rwa[Sh]at this
theorem JQ:Fn Tryz.prog dI [Pk.v,.seq 5 (Mb.map Node.v)] (.seq 5 []):=by
 have:=gQ Pk VC (fun e he=>by cases he) (fun e he=>by cases he) Mb Pm
 rwa[Pj]at this
def exB:Str:=[60,98,32,105,100,61,49,62,120,60,105,62,121,60,47,105,62,60,47,98,62]
theorem Df(p:Policy)(l:List V)(N N':List V)(h1:Fn Tryz.prog eW [.seq 1 l] (.seq 5 N))(h2:Fn Tryz.prog dI [p.v,.seq 5 N] (.seq 5 N')){s:Str}(h3:Fn Tryz.prog fN [.seq 5 N'] (.str s))(hl:l.length<1000):
 Fn Tryz.prog BP [p.v,.seq 1 l,.int .i64 l.length] (.tup [.str s,.int .i64 0]):=by
 refine yoA Cr ?_;simp(disch:=omega) [-zAa];refine fh h1 (by simp) ?_
 simp(disch:=omega) [-zAa];refine fh (by simpa using h2) (by simp) ?_
 simp(disch:=omega) [-zAa];refine fh h3 (by simp) ?_
 simp(disch:=omega) [-zAa]
theorem uF(p:Policy)(b:Str)(N N':List V)(h1:Fn Tryz.prog eW [.seq 1 (b.map bV)] (.seq 5 N))(h2:Fn Tryz.prog dI [p.v,.seq 5 N] (.seq 5 N')){s:Str}(h3:Fn Tryz.prog fN [.seq 5 N'] (.str s))(hl:b.length<1000):
 Fn Tryz.prog Fr [p.v,.str b] (.str s):=by
 have h:=Df p _ N N' h1 h2 h3 (by simpa using hl)
 refine yoA F5 ?_;simp(disch:=omega) [-zAa];refine ay (by simpa using h) (by simp) fun _=>?_
 simp(disch:=omega) [-zAa]
theorem Dd:Fn Tryz.prog BN [] (.bool true):=by
 have g1:=uF exP exB _ _ L4 L7 LR (by simp[exB])
 have g2:=uF Pk [120] _ _ JM JQ JG (by simp)
 refine yoA Co ?_;simp(disch:=omega) [-zAa];refine ay (show Ctr.p _ _ _ _ from g1) (by simp) fun _=>?_
 simp(disch:=omega) [-zAa];refine ay (show Ctr.p _ _ _ _ from g2) (by simp) fun _=>?_
 simp(disch:=omega) [-zAa]
theorem Ut:∀l:List Node,an LQ l->bh (l.map cm)<=120*aj l:=by
 refine ax (fun _=>by simp[bh]) ?_
 intro n l h1 h2 ha;obtain⟨⟨a1,a2⟩,a3⟩:=aH.1 ha;have g1:=h1 a2;have g2:=h2 a3;have hr:=mB n.text;have ht:=a1.2.1;have hm:=mq (n.kids.map cm);simp only[zBd,bh,aj,sY,li];rw[j0];split
 ·simp only[List.length_nil];omega
 ·simp only[bh];omega
theorem WO{B:Nat}:∀l:List Node,an (fun n=>n.attrs.length<=B) l->aN l<=(B+1)*aj l:=by
 refine ax (fun _=>by simp[aN]) ?_
 intro n l h1 h2 ha;obtain⟨⟨a1,a2⟩,a3⟩:=aH.1 ha;have g1:=h1 a2;have g2:=h2 a3;simp only[aN,jH,aj,sY,Nat.mul_add,Nat.mul_one];omega
theorem HJ(l:List Node):SizeB (cR l):=by
 obtain⟨h1,h2,h3⟩:=Ju l;refine⟨dK (fun n h _=>⟨by have:=h.1;omega,by have:=h.2.1;omega,fun a ha=>⟨by have:=(h.2.2.1 a ha).1;omega,(h.2.2.1 a ha).2⟩⟩) _ h1,by omega,?_,?_⟩
 ·have:=WO (B:=1000) _ (dK (fun n h _=>h.2.1) _ h1)
  omega
 ·have g1:=Ut _ (w6 l 40)
  have g2:=uJ l 40;have g3:=mq ((dv l 40).1.map cm);rw[cR];omega
theorem qg:∀a b:List Node,dQ (a++b)=dQ a++dQ b
 |[],b=>rfl
 |n::a,b=>by simp only[List.cons_append,dQ,qg a b,List.append_assoc]
theorem Nw{f:List Node->Prop}(key:∀l:List Node,(∀n∈l,f n.kids)->f l):∀l,f l:=by
 have all:∀l:List Node,∀n∈l,f n.kids:=by
  refine ax (fun x hx=>by cases hx) ?_
  intro n l h1 h2 x hx;rcases zCc.1 hx with rfl|hx
  ·exact key _ h1
  ·exact h2 x hx
 exact fun l=>key l (all l)
theorem wV:∀l:List Node,aj l<=1000000->Fn Tryz.prog Iu [.seq 5 (l.map Node.v)] (.seq 5 ((dQ l).map Node.v)):=by
 refine Nw ?_;intro l hrec hc;refine yoA IY ?_;have hlen:=dS l;simp(disch:=omega) [-zAa]
 refine au (fun(k:Nat)=>⟨[(0,.seq 5 (l.map Node.v)),(3,.ref 0 (dQ (l.take k)).length),(4,.int .i64 k)],[some (.arr aG 5 ((dQ (l.take k)).map Node.v))]⟩)
  (fun k=>k<=l.length) (fun k=>l.length-k) [.r 3 aG 5] _ 0 rfl (by simp[dQ]) (by simp) ?_
 rintro k hk N hN;rcases place l k hk with⟨he,hd⟩|⟨hlt,x,hx,hd⟩
 ·have htk:l.take k=l:=zBa (by omega)
  rw[htk];simp(disch:=omega) [-zAa,he]
 ·have hxm:=zAb hx
  have hcx:=uK hxm;have hr:=hrec x hxm (by omega)
  have e:dQ (l.take (k+1))=dQ (l.take k)++x::dQ x.kids:=by
   rw[c5 hx,qg];simp[dQ,vg]
  have hb:(dQ (l.take k)).length<=1000000:=by
   have h1:=vf l;have h2:l=l.take k++l.drop k:=(zBc k l).symm;have h3:(dQ l).length=(dQ (l.take k)).length+(dQ (l.drop k)).length:=by rw[<-zBg,<-qg,<-h2]
   omega
  have hb2:(dQ x.kids).length<=1000000:=by rw[vf];omega
  generalize dQ (l.take k)=pre at *;generalize dQ x.kids=K at *;simp(disch:=omega) [-zAa,hx];refine ay hr (by simp) fun _=>?_
  simp(disch:=omega) [-zAa,hx];refine hN.out _<|Nx.mk (k+1) (by rw[e];simp;omega) (by omega) (by omega)
theorem Hk:∀l:List Node,l.length<=aN l
 |[]=>by simp
 |n::l=>by have:=Hk l;simp[aN,jH];omega
theorem pF:∀l:List Node,aN l<=1000000000->Fn Tryz.prog zh [.seq 5 (l.map Node.v)] (.int .i64 (aN l)):=by
 refine Nw ?_;intro l hrec hb;have hlen:l.length<=aN l:=Hk l;refine yoA zK ?_;simp(disch:=omega) [-zAa];generalize hw:aN l=w at *;refine au (fun x:Nat×Nat=>⟨[(0,.seq 5 (l.map Node.v)),(3,.int .i64 x.2),(4,.int .i64 x.1)],[]⟩) (fun x=>x.1<=l.length/\x.2+aN (l.drop x.1)=w) (fun x=>l.length-x.1) [] _ (0,0) rfl (by simp) (by simp[hw]) ?_
 rintro⟨j,a⟩ ⟨hj,hi⟩ N hN;simp only at hj hi;rcases place l j hj with⟨he,hd⟩|⟨hlt,x,hx,hd⟩<;>rw[hd]at hi
 ·simp[aN]at hi
  subst hi;simp(disch:=omega) [-zAa,he]
 ·simp only[aN,jH]at hi
  have hr:=hrec x (zAb hx) (by omega)
  generalize aN x.kids=wk at *;simp(disch:=omega) [-zAa,hx];refine aI hr rfl ?_;simp(disch:=omega) [-zAa];refine hN.out _<|Nx.mk (j+1,a+(1+x.attrs.length+wk)) (by simp;omega) ⟨by simp only;omega,by simp only;omega⟩ (by simp only;omega)
def wAt(x:List Node×Nat):Nat:=match x.1[x.2]? with
 |some n=>1+n.attrs.length
 |none=>0
theorem Um:∀(l row:List Node)(i:Nat),row.drop i=l->((itL row l i).map wAt).sum=aN l:=by
 refine ax (fun row i _=>by simp[itL,aN]) ?_
 intro n l h1 h2 row i hd
 have hn:row[i]?=some n:=by
  have:=congrArg (fun m=>m[0]?) hd;simpa using this
 have hd2:row.drop (i+1)=l:=by rw[<-List.drop_drop,hd];rfl
 simp only[itL,zBd,List.map_append,List.sum_cons,zAj,zx,h1 n.kids 0 rfl,h2 row (i+1) hd2,aN,jH,wAt,hn];omega
theorem Uw{l:List Nat}(i:Nat):(l.take i).sum<=l.sum:=by
 have:=zBc i l;have h:=congrArg List.sum this;rw[zAj]at h;omega
theorem uC(l:List Node)(hf:an fine1 l)(hc:aj l<1000)(hw:aN l<=1000000000):Fn Tryz.prog Fo [.seq 5 (l.map Node.v)] (.int .i64 (aN l)):=by
 have hs:((itL l l 0).map wAt).sum=aN l:=Um l l 0 rfl;have hlen:=JZ itV (fun _=>true) (itL l l 0) (by simp)
 refine FnE.fn ?_;refine FnE.of_rng mixed Tryz.func40 F0 rfl (full:=fC itV (fun _=>true) (itL l l 0)) (st:=fun i=>⟨[(2,.int .i64 0),(3,.ptr 0 0)],[some (.box [.int .i64 ((((itL l l 0).map wAt).take i).sum:Nat)])]⟩) (stx:=⟨[],[]⟩) ?_ ?_ ?_ ?_ ?_ ?_
 ·intro i us b h
  obtain⟨x,h1,h2,h3,h4⟩:=pP _ _ _ _ _ _ h;simp only[itV,V.tup.injEq]at h2;subst h2;rfl
 ·exact fun i v h=>vW _ _ _ _ _ h
 ·intro ho
  clear ho;unfold jz;simp only[xv];simp(disch:=omega) [-zAa,ent];refine ar [] 0 [] (by simp) (by simp) (by simp) (by simp) (AI l) (by simp) fun _ _=>?_
  simp(disch:=omega) [-zAa,MD];exact⟨jt,1,⟨rfl,rfl⟩,_,rfl,_,by simp,rfl,enters_of Tryz.func77 (by kernel_rfl) rfl,uB (fun _=>true) l hc⟩
 ·intro i us b h
  obtain⟨x,h1,h2,h3,h4⟩:=pP _ _ _ _ _ _ h;simp only[itV,V.tup.injEq]at h2;subst h2;unfold jz;obtain⟨n,hn,hfn,hrl⟩:=Nl (m:=1000) l l 0 rfl hf (by omega) x (zAb h1)
  have hx:((itL l l 0).map wAt)[i]?=some (1+n.attrs.length):=by rw[zBh,h1];simp[wAt,hn]
  have e:(((itL l l 0).map wAt).take (i+1)).sum=(((itL l l 0).map wAt).take i).sum+(1+n.attrs.length):=by
   rw[c5 hx,zAj];simp
  have hle:=Uw (l:=(itL l l 0).map wAt) (i+1);rw[hs]at hle;obtain⟨row,j⟩:=x;simp only at hn hrl;have hj:j<row.length:=(List.getElem?_eq_some_iff.1 hn).1;clear hs hx h1 h;generalize(((itL l l 0).map wAt).take i).sum=S at *;simp(disch:=omega) [-zAa,xw,hn];refine s5 h3 ?_;rw[e];simp
 ·intro h
  unfold jz;simp only[xv];rw[hlen,zBa (by simp),hs]
  simp(disch:=omega) [-zAa];exact⟨by simp(disch:=omega) [-zAa],rfl⟩
 ·intro h
  have:=(AP itV (fun _=>true) (itL l l 0)).2 (by simp)
  obtain⟨q,hq,hq2⟩:=h;rw[this q hq]at hq2;cases hq2
theorem GS(p:Policy)(hp:gV p)(hpA:nf allows12 p)(hpr:∀e∈p.elements,e.rules.length<=1000000)(l:List Node)(hb:SizeB l):Fn Tryz.prog Fs [p.v,.seq 5 (l.map Node.v)] (.int .i64 (aN l-aN (dP allows12 p l))):=by
 have hs:=yL allows12 p hb;have h1:=uC l hb.fine1 hb.cnt (by have:=hb.wt;omega)
 have h2:=uC _ hs.fine1 hs.cnt (by have:=hs.wt;omega)
 have h3:=gQ p hp hpA hpr l hb;have b1:=hb.wt;have b2:=hs.wt;generalize dP allows12 p l=c at *;refine yoA F6 ?_;simp(disch:=omega) [-zAa];refine aI h1 rfl ?_;simp(disch:=omega) [-zAa];refine fh (by simpa using h3) (by simp) ?_
 simp(disch:=omega) [-zAa];refine aI h2 rfl ?_;simp(disch:=omega) [-zAa]
def Lw(b:List Attr)(x:Attr):Bool:=b.any fun y=>decide (x.name=y.name)&&decide (x.value=y.value)
def gH(a b:List Attr):Bool:=a.all (Lw b)
theorem eqA(x y:Attr):(x=y)↔x.name=y.name/\x.value=y.value:=by cases x;cases y;simp
theorem AG(a b:List Attr)(ha:a.length<=1000000)(hb:b.length<=1000000):Fn Tryz.prog zk [.seq 2 (a.map Attr.v),.seq 2 (b.map Attr.v)] (.bool (gH a b)):=by
 refine yoA zP ?_;unfold qd;simp(disch:=omega) [-zAa];generalize hr:gH a b=r;refine au (fun k:Nat=>⟨[(0,.seq 2 (a.map Attr.v)),(1,.seq 2 (b.map Attr.v)),(5,.int .i64 k)],[]⟩) (fun k=>k<=a.length/\gH (a.drop k) b=r) (fun k=>a.length-k) [] _ 0 rfl (by simp) (by simp[hr]) ?_
 rintro k ⟨hk,hi⟩ N hN;rcases place a k hk with⟨he,hd⟩|⟨hlt,x,hx,hd⟩<;>rw[hd]at hi
 ·simp[gH]at hi
  subst hi;simp(disch:=omega) [-zAa,he]
 ·simp only[gH,zAf]at hi
  simp(disch:=omega) [-zAa];generalize hh:Lw b x=hd' at hi;refine au (fun q:Nat×Bool=>⟨[(0,.seq 2 (a.map Attr.v)),(1,.seq 2 (b.map Attr.v)),(5,.int .i64 k),(6,.bool q.2),(7,.int .i64 q.1)],[]⟩) (fun q=>q.1<=b.length/\(q.2||Lw (b.drop q.1) x)=hd') (fun q=>b.length-q.1) [] _ (0,false) rfl (by simp) (by simp[hh]) ?_
  rintro⟨j,f⟩ ⟨hj,hg⟩ N2 hN2;simp only at hj hg;rcases place b j hj with⟨he2,hd2⟩|⟨hlt2,y,hy,hd2⟩<;>rw[hd2]at hg
  ·simp[Lw]at hg
   subst hg;simp(disch:=omega) [-zAa,he2];refine BrK.mk (fun h=>?_) (fun h=>?_)
   ·simp(disch:=omega) [-zAa]
    exact hN.out _<|Nx.mk (k+1) (by simp) ⟨by omega,by simpa[h,gH]using hi⟩ (by omega)
   ·have h:f=false:=by simpa using h
    subst h;simp at hi;subst hi;simp(disch:=omega) [-zAa]
  ·simp only[Lw,List.any_cons]at hg
   simp(disch:=omega) [-zAa,hy];refine BrK.mk (fun h=>?_) (fun h=>?_)
   ·subst h
    simp(disch:=omega) [-zAa];exact hN2.out _<|Nx.mk (j+1,true) (by simp) ⟨by simp only;omega,by simpa using hg⟩ (by simp only;omega)
   ·have h:f=false:=by simpa using h
    subst h;simp(disch:=omega) [-zAa,hx,hy,Sl,LM];exact hN2.out _<|Nx.mk (j+1,decide (x.name=y.name)&&decide (x.value=y.value)) (by simp) ⟨by simp only;omega,by simpa[Lw]using hg⟩ (by simp only;omega)
end Go.Abs.F
end
