/- Match of package regex. No condition. -/
import Derived.Test.YtloaikaippankaaGreatDoorQR16
import Derived.Test.YtloaikaippankaaGreatDoorQP9
import Derived.Test.YtloaikaippankaaGreatDoorQCodeH
set_option linter.all false open List renaming reduceReplicate→zAa,mem_of_getElem?→zAb,range→zAc,cons_append→zAd,getElem?_eq_some_iff→zAe,mem_cons→zAf,nil_append→zAh,length_cons→zAi,getElem?_eq_none→zAj,length_append→zBa,append_assoc→zBb,getElem?_map→zBc,getElem?_range→zBe,replicate→zBf,map_map→zBg,mem_map→zBh,length_take→zBj,getElem?_replicate→zCa,length→zCc,ext_getElem?→zCd,take_add_one→zCe,take_append_drop→zCf,set_append_right→zCg,mem_append→zCj,map_set→zDa,take_of_length_le→zDc,perm_middle→zDd,pairwise_append→zDe,length_map→zDf,append_nil→zDg,eq_nil_of_length_eq_zero→zDh,map_congr_left→zDi,dropLast_concat_getLast→zDj,mem_range→zEa,getElem?_append_right→zEb,map_cons→zEc,getElem?_append_left→zEd,take_length→zEf,mem_flatMap→zEh,all_eq_true→zEi,getLast_eq_getElem→zEj,getElem?_cons_zero→zFa,getElem?_cons_succ→zFb,length_nil→zFc,length_filter_le→zFd,pairwise_cons→zFe,set_cons_zero→zFf,getElem?_set→zFg,length_range→zFi,length_drop→zGa,any_eq_true→zGb,take_left'→zGc,mem_filter→zGd,all_cons→zGe
open Nat renaming lt_or_ge→zAg,lt_irrefl→zBi,sub_self→zEe,zero_le→zFj,le_trans→zGf,le_refl→zGg
open Option.some renaming injEq→zBd
open Bool renaming true_and→zCb
open Option renaming getD_some→zCh,map_some→zCi,not_isSome→zDb,bind_some→zEg
open Function renaming comp_def→zFh open Option renaming some→ś open Bool renaming true→ť,false→ğ open Go.Proofs.Tryz renaming prog→ŷ
section
set_option maxHeartbeats 4000000
set_option maxRecDepth 100000
namespace Go.Abs
open Go.Proofs Go.Aut
attribute [-simp] getElem?_pos zDb zBg
def JM(es:List NEdge)(n:Nat):List (List V):=(c8 es n).map λr=>r.map NEdge.v
theorem JL{es n}:(JM es n).length=n:=by simp[JM,c8]
theorem Cu{es n q}(h:q<n):(JM es n)[q]?=ś ((L7 es q).map NEdge.v):=by
 grind[JM,c8,zBe]
theorem R1{es n q}(h:n<=q):(JM es n)[q]?=none:=zAj (by rw[JL];exact h)
theorem afq{n}:JM [] n=zBf n []:=by
 apply zCd;intro q;rcases zAg q n with h|h
 ·rw[Cu h,zCa,if_pos h];rfl
 grind[R1,zAj]
theorem aco{es e n}(h:e.fr<n):(JM es n).set e.fr ((L7 es e.fr).map NEdge.v++[NEdge.v e])=JM (es++[e]) n:=by
 apply zCd;grind[JL,zAg,Cu,L7,R1]
theorem U0{es q}:(L7 es q).length<=es.length:=zFd _ _
theorem akk{N:Net}(h:N.ok):∃sn now,yW (c8 N.edges N.n) 1 (N.n+1) 0 ((zBf N.n 0).set N.start 1) [N.start]=ś (sn,now)/\MInv N.n 1 sn now/\Low 1 sn:=by
 have h0:MInv N.n 1 (zBf N.n 0) []:=MInv.fresh (mark:=0) (by simp) λq v hv=>by
  grind
 have hm:¬(zBf N.n 0)[N.start]?=ś 1:=λe=>by
  grind
 have h1:=h0.add h.start hm
 have hlow:Low 1 ((zBf N.n 0).set N.start 1):=Low.set λq v hv=>by
  grind
 obtain⟨sn,now,k1,k2,_⟩:=r9 (vF h) (S:=λ_=>True) (λ_ _ _ _ _ _ _=>trivial) (N.n+1) 0 _ [N.start] h1 (λ_ _=>trivial) (by simp) (λj hj=>by omega) (by omega)
 grind[Low.cl]
theorem stepM{N:Net}(h:N.ok){i b sn now}(hI:MInv N.n (i+1) sn now)(hL:Low (i+1) sn):
 ∃sn' now',yW (c8 N.edges N.n) (i+2) (N.n+1) 0 (rB (c8 N.edges N.n) (i+2) b now sn []).1 (rB (c8 N.edges N.n) (i+2) b now sn []).2=ś (sn',now')/\MInv N.n (i+2) sn' now'/\Low (i+2) sn':=by
 have hto:=vF h;have hf:MInv N.n (i+2) sn []:=MInv.fresh (mark:=i+1) hI.len hL;obtain⟨h1,_⟩:=BW (b:=b) hto now sn [] hf;have hlow:Low (i+2) (rB (c8 N.edges N.n) (i+2) b now sn []).1:=Low.go _ _ _ λq v hv=>by have:=hL q v hv;omega
 obtain⟨sn',now',k1,k2,_⟩:=r9 hto (S:=λ_=>True) (λ_ _ _ _ _ _ _=>trivial) (N.n+1) 0 _ _ h1 (λ_ _=>trivial) (by omega) (λj hj=>by omega) (by omega)
 grind[Low.cl]
theorem aeK{N:Net}(h:N.ok)(hl:N.edges.length<=1000000):RowsOK N.n (c8 N.edges N.n):=by
 refine⟨by simp[c8],λr hr e he=>?_,λr hr=>?_⟩
 ·simp only[c8,zBh]at hr
  obtain⟨q,_,rfl⟩:=hr;obtain⟨_,h2,h3,h4⟩:=h.ends e (rN.1 he).1;exact⟨h2,h3,h4⟩
 ·simp only[c8,zBh]at hr
  obtain⟨q,_,rfl⟩:=hr;exact zGf U0 hl
theorem ZI{x N}(hN:N.ok)(hl:N.edges.length<=1000000)(hnet:Fn ŷ dE [rxP x] (.strct (Net.c N)))(hne:0<N.edges.length)(s)(hs:s.length<=1000)(R)(hR:mtP N s=R):Fn ŷ gg [rxP x,.str s] (.bool R):=by
 refine yoE wv ?_;unfold mq;have hnl:=hN.le;simp at hnet;simp;refine ae hnet (by simp) λ_=>?_
 simp(disch:=omega);rw[<-afq]
 refine ah (λk:Nat=>if k<N.edges.length then⟨[(1,.str s),(5,.ptr 0 0),(6,.ref 1 N.n),(24,.seq 4 (N.edges.map NEdge.v)),(25,nV N.edges.length),(26,nV k)],[ś (.box [nV N.n,nV N.start,nV N.stop,.seq 4 (N.edges.map NEdge.v)]),ś (.mat sD dk 4 (sm (JM (N.edges.take k) N.n)))]⟩
  else⟨[(1,.str s),(5,.ptr 0 0),(6,bX (c8 N.edges N.n)),(24,.seq 4 (N.edges.map NEdge.v)),(25,nV N.edges.length),(26,nV k)],[ś (.box [nV N.n,nV N.start,nV N.stop,.seq 4 (N.edges.map NEdge.v)])]⟩) (λk=>k<=N.edges.length) (λk=>N.edges.length-k) [] _ 0 rfl (by simp[hne]) (by simp) ?_
 intro k hk M hM;rcases zAg k N.edges.length with hlt|hge
 ·obtain⟨e,he⟩:=av hlt
  obtain⟨e1,e2,e3,e4⟩:=hN.ends e (zAb he);have htk:=bk he;have hrg:=Cu (es:=N.edges.take k) e1;have hrl:(L7 (N.edges.take k) e.fr).length<=1000000:=zGf U0 (by simp;omega)
  have hml:=JL (es:=N.edges.take k) (n:=N.n);have hms:=aco (es:=N.edges.take k) e1;rw[<-htk]at hms;simp only[NEdge.v,nV,u8V]at hms;rw[if_pos hlt];simp(disch:=omega) [he,hrg];refine cd ⟨[(1,.str s),(5,.ptr 0 0),(6,.ref 1 N.n),(24,.seq 4 (N.edges.map NEdge.v)),(25,nV N.edges.length),(26,nV k)],[ś (.box [nV N.n,nV N.start,nV N.stop,.seq 4 (N.edges.map NEdge.v)]),ś (.mat sD dk 4 (sm (JM (N.edges.take (k+1)) N.n)))]⟩ (λF hF=>?_) ?_
  ·simp at hF
   repeat' first|exact hF|refine QU.mk ?_ ?_ |simp(disch:=omega) [hrg,hms]
  simp(disch:=omega);by_cases hk1:k+1<N.edges.length
  ·exact hM.out _<|Nx.mk (k+1) (by simp_all) (by omega) (by omega)
  ·have hk2:k+1=N.edges.length:=by omega
   have hrl2:(c8 N.edges N.n).length=N.n:=by simp[c8]
   have hk3:((k:Int)+1)=(N.edges.length:Nat):=by omega
   refine hM.out _ ⟨[.z 6],⟨[(6,bX (c8 N.edges N.n)),(1,.str s),(5,.ptr 0 0),(6,.ref 1 N.n),(24,.seq 4 (N.edges.map NEdge.v)),(25,nV N.edges.length),(26,nV (k+1))],[ś (.box [nV N.n,nV N.start,nV N.stop,.seq 4 (N.edges.map NEdge.v)]),none]⟩,k+1,?_,?_,by simp only;omega,by simp only;omega⟩
   ·simp[hk2,hk3,hrl2,bX,JM,zBg]
   ·simp only[if_neg (show ¬k+1<N.edges.length by omega)]
    simp[bX]
 ·have:k=N.edges.length:=by omega
  subst this;clear hM;rw[if_neg (by omega)]
  have hst:=hN.start;have hRO:=aeK hN hl;obtain⟨sn0,now0,hc0,hM0,hL0⟩:=akk hN;simp only[mtP,hc0]at hR;generalize hrw:c8 N.edges N.n=rows at *;simp(disch:=omega);refine am [1] 1 [1,2] (by simp) (by simp[bX]) (by simp[bX]) (by simp) (w4 hRO (by omega) 1 (N.n+1) (by omega) (by omega) ((zBf N.n 0).set N.start 1) [N.start] sn0 now0 (by simp) (by simpa using hst) (by simp) hc0) (by simp) λ_ _=>?_
  simp
  refine ah (λ(x:Nat×List Nat×List Nat×List Nat)=>⟨[(1,.str s),(5,.ptr 0 0),(6,bX rows),(9,.ref 1 N.n),(10,.ref 2 x.2.2.1.length),(11,.ref 3 x.2.2.2.length),(12,nV x.1)],
   [ś (.box [nV N.n,nV N.start,nV N.stop,.seq 4 (N.edges.map NEdge.v)]),ś (.arr ap 1 (x.2.1.map nV)),ś (.arr ap 1 (x.2.2.1.map nV)),ś (.arr ap 1 (x.2.2.2.map nV))]⟩)
   (λx=>x.1<=s.length/\MInv N.n (x.1+1) x.2.1 x.2.2.1/\Low (x.1+1) x.2.1/\Vy N x.1 (s.drop x.1) x.2.1 x.2.2.1=R) (λx=>s.length-x.1) [.r 11 ap 1] _ (0,sn0,now0,[]) rfl (by simp[bX]) ⟨by simp,hM0,hL0,by simpa using hR⟩ ?_
  clear hR;rintro⟨i,sn,now,nx⟩ ⟨hi,hMi,hLi,hgo⟩ M hM;simp only at hi hMi hLi hgo;have hsl:=hMi.len;have hnl2:=cU N.n now hMi.nodup hMi.lt;rcases place s i hi with⟨he,hd⟩|⟨hlt,b,hb,hd⟩<;>rw[hd]at hgo
  ·obtain⟨v,hv⟩:=av (l:=sn) (k:=N.stop) (by rw[hsl];exact hN.stop)
   have hst2:=hN.stop;simp only[Vy,hv,zBd]at hgo;clear hM;replace hgo:=hid hgo;simp(disch:=omega) [hv];have hgo:=hgo.out;rw[<-hgo];grind
  ·obtain⟨sn',now',hcl,hM1,hL1⟩:=stepM (b:=b.toNat) hN hMi hLi
   have hfr:MInv N.n (i+2) sn []:=MInv.fresh (mark:=i+1) hsl hLi;simp only[Vy,hcl]at hgo;rw[hrw]at hcl;by_cases hnow:now=[]
   ·simp_all
   ·rw[if_neg hnow]at hgo
    have hnow2:¬now.length=0:=λh=>hnow (List.length_eq_zero_iff.1 h);have hnow3:¬(now.length:Int)=0:=by omega
    replace hgo:=hid hgo;obtain⟨T,hT⟩:∃T,T=rB rows (i+2) b.toNat now sn []:=⟨_,rfl⟩;rw[<-hT]at hcl;have hTM:MInv N.n (i+2) T.1 T.2:=by grind[BW,vF]
    have hTl:=cU N.n T.2 hTM.nodup hTM.lt;replace hcl:=hid hcl;simp(disch:=omega) [bX,ak]
    refine ah (λ(x:Nat×List Nat×List Nat)=>⟨[(1,.str s),(5,.ptr 0 0),(6,bX rows),(9,.ref 1 N.n),(10,.ref 2 now.length),(11,.ref 3 x.2.2.length),(12,nV i),(13,nV (i+2)),(69,.ref 2 now.length),(70,nV now.length),(71,nV x.1)],
     [ś (.box [nV N.n,nV N.start,nV N.stop,.seq 4 (N.edges.map NEdge.v)]),ś (.arr ap 1 (x.2.1.map nV)),ś (.arr ap 1 (now.map nV)),ś (.arr ap 1 (x.2.2.map nV))]⟩)
     (λx=>x.1<=now.length/\MInv N.n (i+2) x.2.1 x.2.2/\rB rows (i+2) b.toNat (now.drop x.1) x.2.1 x.2.2=T) (λx=>now.length-x.1) [] _ (0,sn,[]) rfl (by simp[bX]) ⟨by simp,hfr,by simp[hT]⟩ ?_
    clear hT;rintro⟨j,sn2,nx2⟩ ⟨hj,hM2,hrow⟩ M2 hN2;simp only at hj hM2 hrow;have hsl2:=hM2.len;rcases place now j hj with⟨he2,hd2⟩|⟨hlt2,q,hq,hd2⟩<;>rw[hd2]at hrow
    ·simp only[rB]at hrow
     subst hrow;clear hN2;have hnx2:nx2.length<=N.n:=by simpa using hTl
     simp[bX,he2];refine am [1] 1 [1,3] (by simp[hsl2]) (by simp) (by simp[bX]) (by simp) (w4 hRO (by omega) (i+2) (N.n+1) (by omega) (by omega) sn2 nx2 sn' now' hsl2 hM2.lt (by omega) hcl.out) (by simp) λ_ _=>?_
     simp(disch:=omega);exact hM.out _<|Nx.mk (i+1,sn',now',now) (by simp[bX]) ⟨by simp only;omega,hM1,hL1,by simpa using hgo.out⟩ (by simp only;omega)
    ·have hqn:=hM2.lt
     have hqn:q<N.n:=hMi.lt q (zAb hq);obtain⟨r,hrr⟩:=av (l:=rows) (k:=q) (by rw[hRO.len];exact hqn)
     have hrm:=zAb hrr;have hrl:=hRO.few r hrm;simp only[rB,hrr,zCh]at hrow;obtain⟨T2,hT2⟩:∃T2,T2=oy (i+2) b.toNat r sn2 nx2:=⟨_,rfl⟩;have hT2M:MInv N.n (i+2) T2.1 T2.2:=by rw[hT2];exact(x0 (b:=b.toNat) r sn2 nx2 hM2 λe he=>(hRO.to r hrm e he).1).1
     rw[<-hT2]at hrow;replace hrow:=hid hrow;simp(disch:=omega) [bX,hq,hrr]
     refine ah (λ(x:Nat×List Nat×List Nat)=>⟨[(1,.str s),(5,.ptr 0 0),(6,bX rows),(9,.ref 1 N.n),(10,.ref 2 now.length),(11,.ref 3 x.2.2.length),(12,nV i),(13,nV (i+2)),(69,.ref 2 now.length),(70,nV now.length),(71,nV j),(78,.seq 4 (r.map NEdge.v)),(79,nV r.length),(80,nV x.1)],
      [ś (.box [nV N.n,nV N.start,nV N.stop,.seq 4 (N.edges.map NEdge.v)]),ś (.arr ap 1 (x.2.1.map nV)),ś (.arr ap 1 (now.map nV)),ś (.arr ap 1 (x.2.2.map nV))]⟩)
      (λx=>x.1<=r.length/\MInv N.n (i+2) x.2.1 x.2.2/\oy (i+2) b.toNat (r.drop x.1) x.2.1 x.2.2=T2) (λx=>r.length-x.1) [] _ (0,sn2,nx2) rfl (by simp[bX]) ⟨by simp,hM2,by simp[hT2]⟩ ?_
     clear hT2;rintro⟨k,sn3,nx3⟩ ⟨hk3,hM3,hrow3⟩ M3 hN3;simp only at hk3 hM3 hrow3;have hsl3:=hM3.len;have hnl3:=cU N.n nx3 hM3.nodup hM3.lt;rcases place r k hk3 with⟨he3,hd3⟩|⟨hlt3,e,hre,hd3⟩<;>rw[hd3]at hrow3
     ·simp only[oy]at hrow3
      subst hrow3;clear hN3;simp(disch:=omega) [bX];exact hN2.out _<|Nx.mk (j+1,sn3,nx3) (by simp[bX]) ⟨by simp only;omega,hM3,by simpa using hrow.out⟩ (by simp only;omega)
     ·obtain⟨g1,g2,g3⟩:=hRO.to r hrm e (zAb hre)
      obtain⟨v,hv⟩:=av (l:=sn3) (k:=e.to) (by omega)
      simp only[oy,hv,zBd]at hrow3;have hb8:=b.toNat_lt;clear hM hN2;by_cases c1:e.low<=b.toNat
      ·by_cases c2:b.toNat<=e.high
       ·by_cases c3:v=i+2
        ·rw[if_neg (λh=>h.2 c3)]at hrow3
         have c3':(v:Int)=(i:Int)+2:=by omega
         replace hrow3:=hid hrow3;simp(disch:=omega) [bX,hre,hb,hv];exact hN3.out _<|Nx.mk (k+1,sn3,nx3) (by simp[bX]) ⟨by simp only;omega,hM3,hrow3.out⟩ (by simp only;omega)
        ·rw[if_pos ⟨⟨c1,c2⟩,c3⟩]at hrow3
         have c3':¬(v:Int)=(i:Int)+2:=by omega
         have hadd:=hM3.add g1 (by simp_all)
         replace hrow3:=hid hrow3;simp(disch:=omega) [bX,hre,hb,hv];exact hN3.out _<|Nx.mk (k+1,sn3.set e.to (i+2),nx3++[e.to]) (by simp[bX]) ⟨by simp only;omega,hadd,hrow3.out⟩ (by simp only;omega)
       ·rw[if_neg (λh=>c2 h.1.2)]at hrow3
        replace hrow3:=hid hrow3;simp(disch:=omega) [bX,hre,hb];exact hN3.out _<|Nx.mk (k+1,sn3,nx3) (by simp[bX]) ⟨by simp only;omega,hM3,hrow3.out⟩ (by simp only;omega)
      ·rw[if_neg (λh=>c1 h.1.1)]at hrow3
       replace hrow3:=hid hrow3;simp(disch:=omega) [bX,hre,hb];exact hN3.out _<|Nx.mk (k+1,sn3,nx3) (by simp[bX]) ⟨by simp only;omega,hM3,hrow3.out⟩ (by simp only;omega)
end Go.Abs
end
section
set_option maxRecDepth 100000
set_option maxHeartbeats 1000000
namespace Go.Abs
open Go.Proofs Go.Aut
theorem akY:agO:=λx N v hN hl hne hnet hv=>ZI hN hl hnet hne v hv (mtP N v) rfl
end Go.Abs
end
section
set_option maxHeartbeats 4000000
set_option maxRecDepth 100000
namespace Go.Abs.F
open Go.Proofs
attribute [-simp] getElem?_pos zDb zBg
theorem FnH.boxedFn{P f us H' cs cs' g}(h:FnH P f [] us [] (.fn g [] [.ptr 0 0]) H')(hb:H'[0]?=ś (ś (.box cs)))(hp:purs H' cs=ś cs'):Fn P f us (.fn g [] [.sptr (.strct cs') 0]):=by
 intro M w ca hM hus o a Nx Q hN;refine h M w _ ca noJ (rI rfl) (FnH.start hM ca) (bv (λ_ _ h=>h) (λ_ _ h=>h.elim) _ _ hus) o a Nx Q ?_;intro c M' w' κ' hr hu hh hM1 hM2 _;simp only[rep,af]at hr;obtain⟨a1,a2,rfl,e1,c1,cs1,e2,hr1,e3⟩:=hr;obtain⟨M2,k1,k2,k3,k4⟩:=hh.boxed (P:=P) hu hb hp (c:=c1) (by simpa only[rep]using hr1)
 refine hN _ M2 w' ?_ ⟨hu.os,hu.tape,hu.output,hu.size,λk hk=>hu.block k hk (λ⟨i,ob,g1,_⟩=>by simp at g1)⟩ k2 (λp v h=>k1 p v (hM1 p v h)) (λp v h=>?_)
 ·simp only[rep,af]at k4⊢
  exact⟨a1,a2,rfl,e1,c1,cs1,e2,k4,e3⟩
 ·rcases k3 p v h with h|h
  ·rcases hM2 p v h with h|h|⟨i,ob,g1,_⟩
   ·exact .inl h
   ·exact .inr h
   ·simp at g1
  ·exact .inr h
theorem Bt(c)(v:Str)(hv:v.length<=1000):Fn ŷ dr [(good12 c).v,.str v] (.bool (allows12 (good12 c) v)):=by
 obtain⟨x,hx⟩:=Gr c;exact Fh (aac akY) hx v hv
theorem O3(e:Allowed):FnH ŷ zk [] [e.v] [] (.fn (.func mG) [] [.ptr 0 0]) [ś (.box [.str e.name,.seq 1 (e.kids.map .str),.seq 5 (e.rules.map Rule.v)])]:=by
 refine yoH NH ?_;simp
def oB(e:Allowed):List Str:=(e.rules.filter (·.req)).map (·.name)
theorem De(e)(hl:e.rules.length<=1000000):Fn ŷ p8 [e.v] (.seq 1 ((oB e).map .str)):=by
 refine yoA CI ?_;simp;generalize hw:oB e=w
 refine ah (λ(q:Nat×List Str)=>⟨[(3,.ref 0 q.2.length),(7,.seq 5 (e.rules.map Rule.v)),(8,.int .i64 e.rules.length),(9,.int .i64 q.1)],[ś (.arr aA 1 (q.2.map .str))]⟩)
  (λq=>q.1<=e.rules.length/\q.2.length<=q.1/\q.2++((e.rules.drop q.1).filter (·.req)).map (·.name)=w) (λq=>e.rules.length-q.1) [.r 3 aA 1] _ (0,[]) rfl (by simp) (by simp[<-hw,oB]) ?_
 rintro⟨k,out⟩ ⟨hk,hol,hi⟩ N hN;simp only at hk hol hi;rcases place e.rules k hk with⟨he,hd⟩|⟨hlt,x,hx,hd⟩<;>rw[hd]at hi
 ·simp at hi
  subst hi;simp[he]
 ·simp only[List.filter_cons]at hi
  replace hi:=hid hi;simp(disch:=omega) [hx];refine BrK.mk (λh=>?_) (λh=>?_)
  ·simp(disch:=omega)
   have hi:=hi.out;refine hN.out _<|Nx.mk (k+1,out++[x.name]) (by simp) ⟨by simp only;omega,by simp;omega,?_⟩ (by simp only;omega)
   simpa[h]using hi
  ·simp(disch:=omega)
   have hi:=hi.out;refine hN.out _<|Nx.mk (k+1,out) (by simp) ⟨by simp only;omega,by simp only;omega,?_⟩ (by simp only;omega)
   simpa[h]using hi
theorem Ic(e:Allowed):Fn ŷ zk [e.v] (.fn (.func mG) [] [.sptr e.v 0]):=
 FnH.boxedFn (O3 e) (cs:=[.str e.name,.seq 1 (e.kids.map .str),.seq 5 (e.rules.map Rule.v)]) (by simp) (by simp)
theorem Fk(A)(e)(a)(hA:∀r∈e.rules,Fn ŷ dr [r.value.v,.str a.value] (.bool (A r.value a.value))):
 Fn ŷ mG [a.v,.sptr e.v 0] (.bool (xU A e a)):=by
 refine yoB EP λho=>?_;clear ho;simp[xU];refine ae (zD e a.name) (by simp) λ_=>?_
 cases hf:dK e.rules a.name with
 |none=>
   simp
 |some r=>
   simp;refine aa (by simpa using hA r (rX hf).1) rfl λ_=>?_
   simp
theorem Ue(A)(e)(a)(hA:∀r∈e.rules,Fn ŷ dr [r.value.v,.str a.value] (.bool (A r.value a.value))):
 Fn ŷ RY [e.v,a.v] (.bool (xU A e a)):=by
 refine Fn.of_imageE mixed NI.1 NI.2 rfl λho=>?_;clear ho;have h1:=Fk A e a hA;have h2:=Ic e;simp only[Allowed.v,Attr.v]at h1 h2;simp;refine az h2 (by simp) ?_
 simp;refine aw h1 rfl ?_;simp
def tW(A:Constraint->Str->Bool)(p:Policy)(m:Nat):Prop:=∀e∈p.elements,∀r∈e.rules,∀v:Str,v.length<=m->Fn ŷ dr [r.value.v,.str v] (.bool (A r.value v))
theorem uz(p)(m)(hA:tW allows12 p m)(el:Str)(a:Attr)(ha:a.value.length<=m):Fn ŷ Hk [p.v,.str el,a.v] (.bool (bD p el a.name a.value)):=by
 refine yoA HC ?_;simp;refine ae (d8 p el) (by simp) λ_=>?_
 simp;cases he:aJ p.elements el with
 |none=>
   have:bD p el a.name a.value=false:=by simp[bD,dp,aC,he,Allowed.zero,dK]
   rw[this];simp
 |some e=>
   have h2:=Ue allows12 e a λr hr=>hA e (k8 he).1 r hr a.value ha;rw[BE he]at h2;simp only[Allowed.v,Attr.v]at h2;simp;refine aa h2 rfl λ_=>?_;simp
theorem Lj(C)(hC:C.length<=1000000)(a:Attr)(ex:Str):FnH ŷ oO [1,2] [.str ex,.ptr 0 0,.ptr 1 0] [ś (.box [.seq 1 (C.map .str)]),ś (.box [.str a.name,.str a.value])] (.bool (ro C a.name ex)) [ś (.box [.seq 1 (C.map .str)]),ś (.box [.str a.name,.str a.value])]:=by
 refine yoH Kj ?_;simp;obtain⟨R,hR⟩:∃R,R=ro C a.name ex:=⟨_,rfl⟩;rw[<-hR];refine ah (λk:Nat=>⟨[(0,.str ex),(1,.ptr 0 0),(2,.ptr 1 0),(7,.seq 1 (C.map .str)),(8,.int .i64 C.length),(9,.int .i64 k)],[ś (.box [.seq 1 (C.map .str)]),ś (.box [.str a.name,.str a.value])]⟩) (λk=>k<=C.length/\ro (C.drop k) a.name ex=R) (λk=>C.length-k) [] _ 0 rfl (by simp) (by simp[hR]) ?_
 rintro k ⟨hk,hi⟩ N hN;rcases place C k hk with⟨he,hd⟩|⟨hlt,x,hx,hd⟩<;>rw[hd]at hi<;>replace hi:=hid hi
 ·simp[he]
  have hi:=hi.out;simpa[ro]using hi
 ·simp(disch:=omega) [hx]
  refine aw (lG x ex) rfl ?_;simp;refine aw (lG x a.name) rfl ?_;simp;have hi:=hi.out;simp only[ro,zGe]at hi;by_cases hf:fits x ex=fits x a.name
  ·simp only[hf,beq_self_eq_true,zCb]at hi
   simp(disch:=omega) [hf];exact hN.out _<|Nx.mk (k+1) (by simp) ⟨by omega,hi⟩ (by omega)
  ·have hb:(fits x ex == fits x a.name)=false:=by simpa using hf
   simp only[hb,Bool.false_and]at hi;subst hi;simp[hb]
def Ul(n:Node):Option Ob:=ś (.box [.int .i64 n.kind,.str n.name,.seq 2 (n.attrs.map Attr.v),.str n.text,.seq 5 (n.kids.map Node.v)])
theorem Dl(n)(b):FnH ŷ p9 [1] [b.v,.ptr 0 0] [Ul n] (.bool (fG n.kind n.name b)) [Ul n]:=by
 refine yoH CL ?_;have hbv:b.v=.strct [.int .i64 b.kind,.str b.element,.str b.name,.bool b.many,.str b.value,.bool b.one,.bool b.two]:=rfl;simp[Ul,hbv,fG];by_cases h2:n.kind=2
 ·simp[h2]
 ·by_cases h3:n.kind=3
  ·simp[h3]
  ·by_cases h1:n.kind=1
   ·by_cases hb:b.kind=3
    ·simp[h1,hb]
    ·simp[h1,hb]
   ·simp[h1,h2,h3]
theorem Lm(L)(hL:L.length<=1000000000)(F)(f)(n)(hF:∀x∈L,FnH ŷ F [1] [x.v,.ptr 0 0] [Ul n] (.bool (f x)) [Ul n]):
 FnH ŷ cK [1] [.seq 7 (L.map Label.v),.fn (.func F) [] [.ptr 0 0]] [Ul n] (.int .i64 (fdx f 0 L)) [Ul n]:=by
 unfold Ul at hF⊢;refine yoH cL ?_;simp;generalize hr:fdx f 0 L=r;refine ah (λk:Nat=>⟨[(0,.seq 7 (L.map Label.v)),(1,.fn (.func F) [] [.ptr 0 0]),(7,.int .i64 L.length),(8,.int .i64 k)],[ś (.box [.int .i64 n.kind,.str n.name,.seq 2 (n.attrs.map Attr.v),.str n.text,.seq 5 (n.kids.map Node.v)])]⟩) (λk=>k<=L.length/\fdx f k (L.drop k)=r) (λk=>L.length-k) [] _ 0 rfl (by simp) (by simp[hr]) ?_
 rintro k ⟨hk,hi⟩ N hN;rcases place L k hk with⟨he,hd⟩|⟨hlt,x,hx,hd⟩<;>rw[hd]at hi<;>replace hi:=hid hi
 ·simp[he]
  simpa[fdx]using hi.out
 ·have hFx:=hF x (zAb hx)
  have hxv:x.v=.strct [.int .i64 x.kind,.str x.element,.str x.name,.bool x.many,.str x.value,.bool x.one,.bool x.two]:=rfl;rw[hxv]at hFx;simp(disch:=omega) [hx,hxv];refine am [1] 1 [0] (by simp) (by simp) (by simp) (by simp) hFx (by simp) λ_ _=>?_
  simp;refine BrK.mk (λh=>?_) (λh=>?_)
  ·simp
   have hi:=hi.out;simpa[fdx,h]using hi
  ·simp(disch:=omega)
   refine hN.out _<|Nx.mk (k+1) (by simp) ⟨by omega,?_⟩ (by omega)
   have hi:=hi.out;simpa[fdx,h]using hi
theorem Ia(L)(hL:L.length<=1000000000)(n:Node):Fn ŷ Hh [.seq 7 (L.map Label.v),n.v] (.int .i64 (cD L n.kind n.name)):=by
 refine yoE Hx ?_;have h:=Lm L hL p9 (fG n.kind n.name) n λx _=>Dl n x;unfold Ul at h;simp;refine am [1] 1 [0] (by simp) (by simp) (by simp) (by simp) h (by simp) λ_ _=>?_
 simp[cD]
def Um(C:List Str)(el:Str)(a:Attr)(one two:Bool):List (Option Ob):=
 [ś (.box [.str el]),ś (.box [.bool one]),ś (.box [.bool two]),ś (.box [.fn (.func oO) [] [.ptr 4 0,.ptr 5 0]]),ś (.box [.seq 1 (C.map .str)]),ś (.box [.str a.name,.str a.value])]
theorem Li(C)(hC:C.length<=1000000)(el)(a)(one two)(b:Label):FnH ŷ jK [1,2,3,4] [b.v,.ptr 0 0,.ptr 1 0,.ptr 2 0,.ptr 3 0] (Um C el a one two)
 (.bool (decide (b.kind=4)&&(decide (b.element=el)&&(decide (b.one=one)&&(decide (b.two=two)&&ro C a.name b.name))))) (Um C el a one two):=by
 refine yoH Ki ?_;have hbv:b.v=.strct [.int .i64 b.kind,.str b.element,.str b.name,.bool b.many,.str b.value,.bool b.one,.bool b.two]:=rfl;have h1:=Lj C hC a b.name;simp[Um,hbv];by_cases k1:b.kind=4
 ·by_cases k2:b.element=el
  ·by_cases k3:b.one=one
   ·by_cases k4:b.two=two
    ·simp[k1,k2,k3,k4]
     refine am [1,2] 2 [4,5] (by simp) (by simp) (by simp) (by simp) h1 (by simp) λ_ _=>?_
     simp
    ·have k5:(b.two == two)=false:=by simpa using k4
     simp[k1,k2,k3,k4,k5]
   ·have k5:(b.one == one)=false:=by simpa using k3
    simp[k1,k2,k3,k5]
  ·simp[k1,k2]
 ·simp[k1]
theorem Ll(L)(hL:L.length<=1000000000)(C)(el)(a)(one two)(f)
 (hF:∀x∈L,FnH ŷ jK [1,2,3,4] [x.v,.ptr 0 0,.ptr 1 0,.ptr 2 0,.ptr 3 0] (Um C el a one two) (.bool (f x)) (Um C el a one two)):
 FnH ŷ cK [1] [.seq 7 (L.map Label.v),.fn (.func jK) [] [.ptr 0 0,.ptr 1 0,.ptr 2 0,.ptr 3 0]] (Um C el a one two) (.int .i64 (fdx f 0 L)) (Um C el a one two):=by
 unfold Um at hF⊢;refine yoH cL ?_;simp;generalize hr:fdx f 0 L=r
 refine ah (λk:Nat=>⟨[(0,.seq 7 (L.map Label.v)),(1,.fn (.func jK) [] [.ptr 0 0,.ptr 1 0,.ptr 2 0,.ptr 3 0]),(7,.int .i64 L.length),(8,.int .i64 k)],[ś (.box [.str el]),ś (.box [.bool one]),ś (.box [.bool two]),ś (.box [.fn (.func oO) [] [.ptr 4 0,.ptr 5 0]]),ś (.box [.seq 1 (C.map .str)]),ś (.box [.str a.name,.str a.value])]⟩)
  (λk=>k<=L.length/\fdx f k (L.drop k)=r) (λk=>L.length-k) [] _ 0 rfl (by simp) (by simp[hr]) ?_
 rintro k ⟨hk,hi⟩ N hN;rcases place L k hk with⟨he,hd⟩|⟨hlt,x,hx,hd⟩<;>rw[hd]at hi<;>replace hi:=hid hi
 ·simp[he]
  simpa[fdx]using hi.out
 ·have hFx:=hF x (zAb hx)
  have hxv:x.v=.strct [.int .i64 x.kind,.str x.element,.str x.name,.bool x.many,.str x.value,.bool x.one,.bool x.two]:=rfl;rw[hxv]at hFx;simp(disch:=omega) [hx,hxv];refine am [1,2,3,4] 4 [0,1,2,3,4,5] (by simp) (by simp) (by simp) (by simp) hFx (by simp) λ_ _=>?_
  simp;refine BrK.mk (λh=>?_) (λh=>?_)
  ·simp
   have hi:=hi.out;simpa[fdx,h]using hi
  ·simp(disch:=omega)
   refine hN.out _<|Nx.mk (k+1) (by simp) ⟨by omega,?_⟩ (by omega)
   have hi:=hi.out;simpa[fdx,h]using hi
theorem Ud(p q)(m)(hpA:tW allows12 p m)(hqA:tW allows12 q m)(hp:∀el,(aC p el).length<=1000)(hq:∀el,(aC q el).length<=1000)(L)(hL:L.length<=1000000000)(el:Str)(a)(ha:a.value.length<=m):
 Fn ŷ np [p.v,q.v,.seq 7 (L.map Label.v),.str el,a.v] (.int .i64 (bf p q L el a)):=by
 have hcl:(aP p q el).length<=1000000:=by have:=pt p q el;have:=hp el;have:=hq el;omega
 have hC:=xh p q el (hp el) (hq el);have h1:=uz p m hpA el a ha;have h2:=uz q m hqA el a ha;have h6:=Ll L hL (aP p q el) el a (bD p el a.name a.value) (bD q el a.name a.value) _ λx _=>Li (aP p q el) hcl el a (bD p el a.name a.value) (bD q el a.name a.value) x;have hfd:bf p q L el a=fdx (λb=>decide (b.kind=4)&&(decide (b.element=el)&&(decide (b.one=bD p el a.name a.value)&&(decide (b.two=bD q el a.name a.value)&&ro (aP p q el) a.name b.name)))) 0 L:=rfl;rw[<-hfd]at h6;generalize bf p q L el a=R at *;clear hfd;generalize aP p q el=C at *;generalize bD p el a.name a.value=one at *;generalize bD q el a.name a.value=two at *;unfold Um at h6;refine yoE SV ?_;simp;refine ae hC (by simp) λ_=>?_
 simp;refine aa h1 rfl λ_=>?_;simp;refine aa h2 rfl λ_=>?_;simp;refine am [1] 4 [2,5,6,7,4,3] (by simp) (by simp) (by simp) (by simp) h6 (by simp) λ_ _=>?_
 simp
mutual
def Tr.v:Tr->V
 |⟨l,ks⟩=>.strct [.int .i64 l,.seq 2 (Tr.vs ks)]
def Tr.vs:List Tr->List V
 |[]=>[]
 |t::l=>t.v::Tr.vs l
end
theorem Tr.vs_map:∀l:List Tr,Tr.vs l=l.map Tr.v
 |[]=>by simp[Tr.vs]
 |t::l=>by simp[Tr.vs,Tr.vs_map l]
theorem Tr.v_eq(t:Tr):t.v=.strct [.int .i64 t.label,.seq 2 (t.kids.map Tr.v)]:=by
 cases t;simp[Tr.v,Tr.vs_map,Tr.label,Tr.kids]
def lfV(j:Nat):V:=.strct [.int .i64 j,.seq 2 []]
theorem R6(j):(bP j).v=lfV j:=by simp[bP,Tr.v,Tr.vs,lfV]
def adi(a b:Nat):Int:=if a<b then -1 else if b<a then 1 else 0
theorem xe(x):Fn ŷ Hj [.int .i64 x] (.bool ğ):=by
 refine yoB HB λho=>?_;simp only[oks,ok,and_true]at ho;simp
theorem O2(a b:Nat):Fn ŷ Cq [.int .i64 a,.int .i64 b] (.int .i64 (adi a b)):=by
 refine yoA CN ?_;simp;refine aa (xe a) rfl λ_=>?_;simp;refine aa (xe b) rfl λ_=>?_;simp;by_cases h:a<b
 ·simp[adi,h]
 ·by_cases h2:b<a
  ·simp[adi,h,h2]
  ·simp[adi,h,h2]
theorem Fi(a b):Fn ŷ bO [lfV a,lfV b] (.int .i64 (adi a b)):=by
 refine yoA EN ?_;simp[lfV];refine aa (O2 a b) rfl λ_=>?_;simp
theorem vP:∀{a b:List Nat},a.Perm b->a.Pairwise (λx y=>x<=y)->b.Pairwise (λx y=>x<=y)->a=b
 |[],b,h,_,_=>(List.nil_perm.1 h).symm ▸ rfl
 |x::a,[],h,_,_=>by simp at h
 |x::a,y::b,h,h1,h2=>by
   rw[zFe]at h1 h2;have hx:x∈y::b:=h.mem_iff.1 (by simp)
   have hy:y∈x::a:=h.mem_iff.2 (by simp)
   have hxy:x=y:=by
    rcases zAf.1 hx with e|hx
    ·exact e
    ·rcases zAf.1 hy with e|hy
     ·exact e.symm
     ·have:=h2.1 x hx;have:=h1.1 y hy;omega
   subst hxy;rw[vP ((List.perm_cons x).1 h) h1.2 h2.2]
theorem aat{a l}(h:a.Perm l)(hs:a.Pairwise λx y=>x<=y):a=dz l:=vP (h.trans (bo l).symm) hs (FV l)
theorem FW{A B}{x:Nat}(h:(A++B).Pairwise λx y=>x<=y)(hx:∀b∈B,x<b)(ha:∀a∈A,a<=x):(A++x::B).Pairwise λx y=>x<=y:=by
 rw[zDe]at h⊢;refine⟨h.1,?_,λa ha' b hb=>?_⟩
 ·rw[zFe]
  exact⟨λb hb=>Nat.le_of_lt (hx b hb),h.2.1⟩
 ·rcases zAf.1 hb with rfl|hb
  ·exact ha a ha'
  ·exact h.2.2 a ha' b hb
theorem W3(xs)(hxs:xs.length<=1000000):FnH ŷ ga [0] [.ref 0 xs.length,.int .i64 0,.int .i64 xs.length,.fn (.func bO) [] []] [ś (.arr bG 2 (xs.map lfV))] (.tup []) [ś (.arr bG 2 ((dz xs).map lfV))]:=by
 refine yoH gm ?_;simp
 refine ah (λq:Nat×List Nat=>⟨[(0,.ref 0 q.2.length),(1,.int .i64 0),(2,.int .i64 xs.length),(3,.fn (.func bO) [] []),(8,.int .i64 q.1)],[ś (.arr bG 2 (q.2.map lfV))]⟩)
  (λq=>1<=q.1/\(q.1<=xs.length\/q.1=1)/\q.2.Perm xs/\(q.2.take q.1).Pairwise λx y=>x<=y) (λq=>xs.length-q.1) [] _ (1,xs) rfl (by simp) ?_ ?_
 ·refine⟨by simp,by simp,List.Perm.refl _,?_⟩
  cases xs<;>simp
 rintro⟨i,D⟩ ⟨h1,h2,hp,hs⟩ N hN;simp only at h1 h2 hp hs;have hDl:D.length=xs.length:=hp.length_eq;by_cases hlt:i<xs.length
 ·obtain⟨x,hx⟩:=av (l:=D) (k:=i) (by omega)
  simp[hDl,hlt]
  refine ah (λq:Nat×List Nat=>⟨[(0,.ref 0 q.2.length),(1,.int .i64 0),(2,.int .i64 xs.length),(3,.fn (.func bO) [] []),(8,.int .i64 i),(9,.int .i64 q.1)],[ś (.arr bG 2 (q.2.map lfV))]⟩)
   (λq=>∃A B,q.2=A++x::(B++D.drop (i+1))/\A.length=q.1/\A++B=D.take i/\∀b∈B,x<b) (λq=>q.1) [] _ (i,D) rfl (by simp[hDl]) ?_ ?_
  ·refine⟨D.take i,[],?_,by simp;omega,by simp,by simp⟩
   simp only[zAh];obtain⟨_,y,hy,hd⟩:=(place D i (by omega)).resolve_left (by omega)
   rw[hx]at hy;cases hy;rw[<-hd,zCf]
  rintro⟨j,E⟩ ⟨A,B,hE,hA,hAB,hB⟩ N' hN';simp only at hE hA
  have hEl:E.length=xs.length:=by
   have h3:=congrArg zCc hE;have h4:=congrArg zCc hAB;simp only[zBa,zAi,zGa,zBj]at h3 h4;omega
  have hji:j<=i:=by
   have h4:=congrArg zCc hAB;simp only[zBa,zBj]at h4;omega
  have hEj:E[j]?=ś x:=by rw[hE,zEb (by omega)];simp[hA]
  have hfin:(∀a∈A,a<=x)->N ⟨[(0,.ref 0 E.length),(1,.int .i64 0),(2,.int .i64 xs.length),(3,.fn (.func bO) [] []),(8,.int .i64 (i+1))],[ś (.arr bG 2 (E.map lfV))]⟩:=λha=>by
   refine hN.out _<|Nx.mk (i+1,E) (by simp) ⟨by simp only;omega,by simp only;omega,?_,?_⟩ (by simp only;omega)
   ·have e1:E.Perm D:=by
     obtain⟨_,y,hy,hd2⟩:=(place D i (by omega)).resolve_left (by omega)
     rw[hx]at hy;cases hy;have hD:(A++B)++x::D.drop (i+1)=D:=by rw[hAB,<-hd2,zCf]
     rw[hE];have k1:(A++x::(B++D.drop (i+1))).Perm (x::(A++(B++D.drop (i+1)))):=zDd;have k2:((A++B)++x::D.drop (i+1)).Perm (x::((A++B)++D.drop (i+1))):=zDd;rw[hD,zBb]at k2;exact k1.trans k2.symm
    exact e1.trans hp
   ·have e2:E.take (i+1)=A++x::B:=by
     have hl:(A++x::B).length=i+1:=by
      have h4:=congrArg zCc hAB;simp only[zBa,zBj,zAi]at h4⊢;omega
     rw[hE,<-zAd,<-zBb,<-hl,zGc];rfl
    simp only[e2];rw[<-hAB]at hs;exact FW hs hB ha
  by_cases hj:j=0
  ·subst hj
   have hA0:A=[]:=zDh hA;simp(disch:=omega);exact hfin (by simp[hA0])
  ·obtain⟨y,hy⟩:=av (l:=E) (k:=j-1) (by omega)
   have hc:=Fi x y;have hjj:((j:Int)-1).toNat=j-1:=by omega
   have hj0:0<j:=by omega
   have hj1:(1:Int)<=j:=by omega
   obtain⟨A',hA'⟩:∃A',A=A'++[y]:=by
    have hne:A≠[]:=λe=>by rw[e]at hA;simp at hA;omega
    refine⟨A.dropLast,?_⟩
    have h5:A[j-1]?=ś y:=by
     rw[hE,zEd (by omega)]at hy
     exact hy
    have h6:A.getLast hne=y:=by
     rw[zEj];have:=(zAe.1 h5).2;rw[<-this];congr 1;omega
    rw[<-h6];exact(zDj hne).symm
   have hset:(E.set j y).set (j-1) x=A'++x::(y::B++D.drop (i+1)):=by
    have hAl:A'.length=j-1:=by rw[hA']at hA;simp at hA;omega
    rw[hE,zCg _ _ (by omega),hA,zEe,zFf,hA',zBb]
    rw[zCg _ _ (by omega),hAl,zEe]
    simp
   unfold lfV at hc;simp(disch:=omega) [hj0,hEj,hy,lfV];refine aw hc rfl ?_;unfold adi;by_cases hxy:x<y
   ·have hms:∀(E:List Nat)(j y:Nat),(E.map lfV).set j (.strct [.int .i64 y,.seq 2 []])=(E.set j y).map lfV:=λE j y=>by simp[lfV]
    have hly:lfV y=.strct [.int .i64 y,.seq 2 []]:=rfl;have hlx:lfV x=.strct [.int .i64 x,.seq 2 []]:=rfl;simp(disch:=omega) [-zDa,hy,hEj,hly,hlx,hms];refine hN'.out _<|Nx.mk (j-1,(E.set j y).set (j-1) x) (by simp;omega) ⟨A',y::B,hset,?_,?_,?_⟩ (by simp only;omega)
    ·rw[hA']at hA;simp at hA⊢;omega
    ·rw[<-hAB,hA'];simp
    ·intro b hb
     rcases zAf.1 hb with rfl|hb
     ·exact hxy
     ·exact hB b hb
   ·have hfin2:=hfin (λa ha=>by
     rw[hA']at ha;rcases zCj.1 ha with ha|ha
     ·have h7:(A'++[y]++B).Pairwise λx y=>x<=y:=by rw[<-hA',hAB];exact hs
      rw[zBb,zDe]at h7;have:=h7.2.2 a ha y (by simp)
      omega
     ·simp at ha;omega)
    by_cases hyx:y<x
    ·simp(disch:=omega)
     exact hfin2
    ·simp(disch:=omega)
     exact hfin2
 ·have hD:D=dz xs:=by
   refine aat hp ?_;rw[zDc (by omega)]at hs
   exact hs
  subst hD;simp[hDl,hlt]
theorem af0(xs)(hxs:xs.length<20):FnH ŷ kj [0] [.ref 0 xs.length,.int .i64 xs.length,.fn (.func bO) [] []] [ś (.arr bG 2 (xs.map lfV))] (.tup []) [ś (.arr bG 2 ((dz xs).map lfV))]:=by
 have h:=W3 xs (by omega)
 have hl:(dz xs).length=xs.length:=(bo xs).length_eq;refine yoH kn ?_;simp;refine ah (λk:Nat=>⟨[(0,.ref 0 xs.length),(1,.int .i64 xs.length),(2,.fn (.func bO) [] []),(6,.int .i64 20),(7,.int .i64 0),(8,.int .i64 20)],[ś (.arr bG 2 (xs.map lfV))]⟩) (λk=>True) (λk=>0) [] _ 0 rfl (by simp) (by simp) ?_
 rintro k _ N hN;have h20:¬(20:Int)<=xs.length:=by omega
 simp[h20];refine am [0] 1 [0] (by simp) (by simp) (by simp) (by simp) h (by simp) λ_ _=>?_
 simp;refine ah (λk:Nat=>⟨[(0,.ref 0 xs.length),(1,.int .i64 xs.length),(2,.fn (.func bO) [] []),(6,.int .i64 20)],[ś (.arr bG 2 ((dz xs).map lfV))]⟩) (λk=>True) (λk=>0) [] _ 0 rfl (by simp) (by simp) ?_
 rintro k _ N hN;have h21:¬(20:Int)<xs.length:=by omega
 simp[h21]
theorem Uf(xs)(hxs:xs.length<20):FnH ŷ eV [0] [.ref 0 xs.length,.fn (.func bO) [] []] [ś (.arr bG 2 (xs.map lfV))] (.tup []) [ś (.arr bG 2 ((dz xs).map lfV))]:=by
 have h:=af0 xs hxs;have hl:(dz xs).length=xs.length:=(bo xs).length_eq;refine yoH e9 ?_;simp;refine am [0] 1 [0] (by simp) (by simp) (by simp) (by simp) h (by simp) λ_ _=>?_
 simp
def trV(o:Option Tr):V:=.tup [(o.getD (bP 0)).v,.bool o.isSome]
def BQ(o:Option (List Tr)):V:=.tup [.seq 2 ((o.getD []).map Tr.v),.bool o.isSome]
def zw(m:Nat)(n:Node):Prop:=n.attrs.length<20/\n.kids.length<=1000000/\∀a∈n.attrs,a.value.length<=m
theorem ou{L F}:∀(l:List Node)(ts:List Tr),bc L F l=ś ts->ts.length=l.length
 |[],ts,h=>by simp[bc]at h;subst h;rfl
 |n::l,ts,h=>by
   simp only[bc]at h;split at h
   ·cases h
   ·split at h
    ·cases h
    ·rename_i h2
     cases h;simp[ou l _ h2]
section
variable (p q:Policy)(L:List Label)(m:Nat)
structure FindOK:Prop where
 len:L.length<=1000000000
 find:∀(el:Str)(a:Attr),a.value.length<=m->Fn ŷ np [p.v,q.v,.seq 7 (L.map Label.v),.str el,a.v] (.int .i64 (bf p q L el a))
theorem acV(hF:FindOK p q L m)(n)(hn:zw m n)(hk:Fn ŷ iE [p.v,q.v,.seq 7 (L.map Label.v),.seq 5 (n.kids.map Node.v)] (BQ (bc L (bf p q L) n.kids))):
 Fn ŷ oK [p.v,q.v,.seq 7 (L.map Label.v),n.v] (trV (mS L (bf p q L) n)):=by
 obtain⟨hal,hkl,hav⟩:=hn;have hpl:=Ia L hF.len n;have hfind:=hF.find n.name;have hte:=ov L (bf p q L) n;have htl:=ou (L:=L) (F:=bf p q L) n.kids;generalize bc L (bf p q L) n.kids=K at *;generalize cD L n.kind n.name=pl at *;obtain⟨F,hFe⟩:∃F,F=bf p q L n.name:=⟨_,rfl⟩;rw[<-hFe]at hte
 have hfind:∀a∈n.attrs,Fn ŷ np [p.v,q.v,.seq 7 (L.map Label.v),.str n.name,a.v] (.int .i64 (F a)):=λa ha=>by
  have:=hfind a (hav a ha);rw[hFe];exact this
 clear hFe;generalize mS L (bf p q L) n=T at *;obtain⟨k,nm,ats,tx,ks⟩:=n;simp only at hal hkl hav hpl hk htl hfind hte⊢;refine yoE Ke ?_;simp;refine ae (by simpa using hpl) (by simp) λ_=>?_
 simp;by_cases h0:pl<0
 ·rw[if_pos h0]at hte
  subst hte;simp[h0,trV,Tr.v_eq,bP,Tr.label,Tr.kids]
 ·obtain⟨pn,hpn⟩:∃pn:Nat,pl=pn:=⟨pl.toNat,by omega⟩
  subst hpn;rw[if_neg h0]at hte;simp;by_cases hk1:k=1
  ·rw[if_pos hk1]at hte
   simp[hk1]
   refine ah (λj:Nat=>⟨[(2,.seq 7 (L.map Label.v)),(4,.ptr 0 0),(5,.ptr 1 0),(7,.ptr 2 0),(8,.ptr 3 0),(11,.ptr 4 0),(30,.seq 2 (ats.map Attr.v)),(31,.int .i64 ats.length),(32,.int .i64 j)],
    [ś (.box [.seq 1 (p.top.map .str),.seq 3 (p.elements.map Allowed.v),.seq 1 (p.unwrap.map .str)]),ś (.box [.seq 1 (q.top.map .str),.seq 3 (q.elements.map Allowed.v),.seq 1 (q.unwrap.map .str)]),
     ś (.box [.int .i64 1,.str nm,.seq 2 (ats.map Attr.v),.str tx,.seq 5 (ks.map Node.v)]),ś (.box [.int .i64 0,.nil 2]),ś (.box [.int .i64 pn,.ref 5 j]),ś (.arr bG 2 (((ats.take j).map λx=>(F x).toNat).map lfV))]⟩)
    (λj=>j<=ats.length/\∀x∈ats.take j,0<=F x) (λj=>ats.length-j) [.b 4 1 bG 2] _ 0 rfl (by simp) (by simp) ?_
   rintro j ⟨hj,hi⟩ N hN;rcases zAg j ats.length with hlt|hge
   ·obtain⟨x,hx⟩:=av hlt
    have hxm:=zAb hx;have hfx:=hfind x hxm;have hstep:(ats.take (j+1)).map (λx=>(F x).toNat)=(ats.take j).map (λx=>(F x).toNat)++[(F x).toNat]:=by simp[zCe,hx]
    have hlen:((ats.take j).map λx=>(F x).toNat).length=j:=by simp;omega
    simp only[Attr.v]at hfx;generalize(ats.take j).map (λx=>(F x).toNat)=X at *;simp(disch:=omega) [hx];refine ae hfx (by simp) λ_=>?_
    simp;by_cases hneg:F x<0
    ·have hno:¬∀x,x∈ats->0<=F x:=λh=>by have:=h x hxm;omega
     rw[if_neg (by simpa using hno)]at hte
     subst hte;simp[hneg,trV,Tr.v_eq,bP,Tr.label,Tr.kids]
    ·obtain⟨fn,hfn⟩:∃fn:Nat,F x=fn:=⟨(F x).toNat,by omega⟩
     have hlv:lfV fn=.strct [.int .i64 fn,.seq 2 []]:=rfl;rw[hfn]at hstep hneg;simp(disch:=omega) [hfn];refine hN.out _<|Nx.mk (j+1) (by simp[hstep,hlv]) ⟨by omega,?_⟩ (by omega)
     intro y hy;rw[zCe,hx]at hy;rcases zCj.1 hy with hy|hy
     ·exact hi y hy
     ·simp at hy;subst hy;omega
   ·obtain rfl:j=ats.length:=by omega
    rw[zEf]at hi⊢;rw[if_pos (by simpa using hi)]at hte
    obtain⟨X,hX⟩:∃X,X=ats.map λx=>(F x).toNat:=⟨_,rfl⟩;rw[<-hX]at hte⊢;have hXl:X.length=ats.length:=by rw[hX];simp
    have hsl:(dz X).length=ats.length:=by rw[(bo X).length_eq,hXl]
    have hs:=Uf X (by omega)
    rw[hXl]at hs;simp;refine am [0] 1 [5] (by simp[hXl]) (by simp) (by simp) (by simp) hs (by simp) λ_ _=>?_
    simp;refine ae hk (by simp) λ_=>?_
    cases K with
    |none=>
      simp only at hte;subst hte;simp[BQ,trV,Tr.v_eq,bP,Tr.label,Tr.kids]
    |some ts=>
      have hts:=htl ts rfl
      have hmm:(dz X).map lfV=((dz X).map bP).map Tr.v:=by
       rw[zBg];exact zDi λj _=>(R6 j).symm
      simp(disch:=omega) [BQ];simp only at hte;rw[hte];simp[trV,Tr.v_eq,Tr.label,Tr.kids,hmm]
  ·rw[if_neg hk1]at hte
   subst hte;simp[hk1,trV,Tr.v_eq,Tr.label,Tr.kids]
end
theorem pS(L)(F)(n)(l):bc L F (n::l)=(mS L F n).bind λt=>(bc L F l).map λts=>t::ts:=by
 grind[bc,mS]
section
variable (p q:Policy)(L:List Label)(m:Nat)
theorem Lk(l)(hl:l.length<=1000000)(ht:∀n∈l,Fn ŷ oK [p.v,q.v,.seq 7 (L.map Label.v),n.v] (trV (mS L (bf p q L) n))):
 Fn ŷ iE [p.v,q.v,.seq 7 (L.map Label.v),.seq 5 (l.map Node.v)] (BQ (bc L (bf p q L) l)):=by
 obtain⟨T,hT⟩:∃T,T=bc L (bf p q L) l:=⟨_,rfl⟩;rw[<-hT];obtain⟨G,hG⟩:∃G,G=mS L (bf p q L):=⟨_,rfl⟩;rw[<-hG]at ht;obtain⟨S,hS⟩:∃S,S=bc L (bf p q L):=⟨_,rfl⟩;have hcons:∀n l,S (n::l)=(G n).bind λt=>(S l).map λts=>t::ts:=by simp_all[pS,bf]
 have hnil:S []=ś []:=by rw[hS];rfl
 rw[<-hS]at hT;clear hS hG;refine yoA Hy ?_;simp
 refine ah (λx:Nat×List Tr=>⟨[(2,.seq 7 (L.map Label.v)),(4,.ptr 0 0),(5,.ptr 1 0),(10,.ref 2 x.2.length),(15,.seq 5 (l.map Node.v)),(16,.int .i64 l.length),(17,.int .i64 x.1)],
  [ś (.box [.seq 1 (p.top.map .str),.seq 3 (p.elements.map Allowed.v),.seq 1 (p.unwrap.map .str)]),ś (.box [.seq 1 (q.top.map .str),.seq 3 (q.elements.map Allowed.v),.seq 1 (q.unwrap.map .str)]),ś (.arr bG 2 (x.2.map Tr.v))]⟩)
  (λx=>x.1<=l.length/\x.2.length=x.1/\T=(S (l.drop x.1)).map λr=>x.2++r) (λx=>l.length-x.1) [.r 10 bG 2] _ (0,[]) rfl (by simp) (by simp[hT]) ?_
 rintro⟨j,ts⟩ ⟨hj,hlen,hi⟩ N hN;simp only at hj hlen hi;rcases place l j hj with⟨he,hd⟩|⟨hlt,x,hx,hd⟩<;>rw[hd]at hi
 ·rw[hnil]at hi
  simp at hi;simp[he];simp[BQ,hi]
 ·have hxm:=zAb hx
  have htx:=ht x hxm;rw[hcons]at hi;rw[Node.v_eq]at htx;simp(disch:=omega) [hx];refine ae htx (by simp) λ_=>?_
  cases hg:G x with
  |none=>
    rw[hg]at hi;simp at hi;simp[trV,Tr.v_eq];simp[BQ,hi]
  |some t=>
    rw[hg]at hi;simp only[zEg,Option.map_map]at hi;simp(disch:=omega) [trV,Tr.v_eq];refine hN.out _<|Nx.mk (j+1,ts++[t]) (by simp[Tr.v_eq]) ⟨by simp only;omega,by simp[hlen],?_⟩ (by simp only;omega)
    simp only[hi];congr 1;funext r;simp
theorem mK(hF:FindOK p q L m):∀l:List Node,aq (zw m) l->l.length<=1000000->Fn ŷ iE [p.v,q.v,.seq 7 (L.map Label.v),.seq 5 (l.map Node.v)] (BQ (bc L (bf p q L) l)):=by
 have key:∀l:List Node,aq (zw m) l->∀n∈l,Fn ŷ oK [p.v,q.v,.seq 7 (L.map Label.v),n.v] (trV (mS L (bf p q L) n)):=by
  refine aE (λ_ n h=>by cases h) ?_
  intro n l h1 h2 ha x hx;simp only[aq,bE]at ha;rcases zAf.1 hx with rfl|hx
  ·exact acV p q L m hF x ha.1.1 (Lk p q L x.kids ha.1.1.2.1 (h1 ha.1.2))
  simp_all
 grind[Lk]
end
mutual
def ai2(f:Tr->Prop):Tr->Prop
 |⟨l,ks⟩=>f ⟨l,ks⟩/\dw f ks
def dw(f:Tr->Prop):List Tr->Prop
 |[]=>True
 |t::l=>ai2 f t/\dw f l
end
theorem nR(f)(t):ai2 f t=(f t/\dw f t.kids):=by cases t;simp[ai2,Tr.kids]
theorem QL{f}:∀{l:List Tr}{t:Tr},dw f l->t∈l->f t/\dw f t.kids
 |[],t,_,h=>by cases h
 |x::l,t,ha,h=>by
   simp only[dw,nR]at ha;rcases zAf.1 h with rfl|h
   ·exact ha.1
   ·exact QL ha.2 h
def Label.zero:Label:=⟨0,[],[],ğ,[],ğ,ğ⟩
def fV(L:List Label)(i:Nat):Label:=(L[i]?).getD .zero
theorem xc(L)(hL:L.length<=1000000000)(t:Tr):Fn ŷ JF [.seq 7 (L.map Label.v),t.v] (fV L t.label).v:=by
 rw[Tr.v_eq];generalize t.label=i;refine yoA Kf ?_;have hn:¬(i:Int)<0:=by omega
 by_cases h:i<L.length
 ·obtain⟨x,hx⟩:=av h
  have hxv:x.v=.strct [.int .i64 x.kind,.str x.element,.str x.name,.bool x.many,.str x.value,.bool x.one,.bool x.two]:=rfl;simp_all[zAa,fV]
 simp_all[zAj,zAa,fV,Label.zero,Label.v]
def Av(L:List Label)(t:Tr):List Attr:=if(fV L t.label).kind=4 then[⟨(fV L t.label).name,(fV L t.label).value⟩]else[]
def cX(L:List Label)(ts:List Tr):List Attr:=ts.flatMap (Av L)
theorem xd(L)(hL:L.length<=1000000000)(ts)(hts:ts.length<=1000000):Fn ŷ wa [.seq 7 (L.map Label.v),.seq 2 (ts.map Tr.v)] (.seq 2 ((cX L ts).map Attr.v)):=by
 refine yoA wB ?_;simp;generalize hw:cX L ts=w
 refine ah (λx:Nat×List Attr=>⟨[(0,.seq 7 (L.map Label.v)),(5,.ref 0 x.2.length),(9,.seq 2 (ts.map Tr.v)),(10,.int .i64 ts.length),(11,.int .i64 x.1)],[ś (.arr bW 2 (x.2.map Attr.v))]⟩)
  (λx=>x.1<=ts.length/\x.2.length<=x.1/\x.2++cX L (ts.drop x.1)=w) (λx=>ts.length-x.1) [.r 5 bW 2] _ (0,[]) rfl (by simp) (by simp[hw]) ?_
 rintro⟨j,out⟩ ⟨hj,hol,hi⟩ N hN;simp only at hj hol hi;rcases place ts j hj with⟨he,hd⟩|⟨hlt,t,ht,hd⟩<;>rw[hd]at hi
 ·simp_all[cX,zAa]
 ·have htold:=xc L hL t
  have hcons:cX L (t::ts.drop (j+1))=Av L t++cX L (ts.drop (j+1)):=rfl;rw[hcons]at hi;replace hi:=hid hi;have htv:=Tr.v_eq t;rw[htv]at htold;unfold Av at hi;generalize fV L t.label=b at *;have hbv:b.v=.strct [.int .i64 b.kind,.str b.element,.str b.name,.bool b.many,.str b.value,.bool b.one,.bool b.two]:=rfl;rw[hbv]at htold;simp(disch:=omega) [ht,htv];refine ae htold (by simp) λ_=>?_
  simp;by_cases hk:b.kind=4
  ·simp(disch:=omega) [hk]
   refine hN.out _<|Nx.mk (j+1,out++[⟨b.name,b.value⟩]) (by simp) ⟨by simp only;omega,by simp;omega,?_⟩ (by simp only;omega)
   have hi:=hi.out;simpa[hk]using hi
  ·simp(disch:=omega)
   refine hN.out _<|Nx.mk (j+1,out) (by simp) ⟨by simp only;omega,by simp only;omega,?_⟩ (by simp only;omega)
   have hi:=hi.out;simpa[hk]using hi
mutual
def F4(L:List Label):Tr->List Node
 |⟨i,ks⟩=>if(fV L i).kind=1 then[⟨2,[],[],[120],[]⟩]else if(fV L i).kind=2 then[⟨3,[],[],[],[]⟩]
   else if(fV L i).kind=3 then[⟨1,(fV L i).element,cX L ks,[],br L ks⟩]else[]
def br(L:List Label):List Tr->List Node
 |[]=>[]
 |t::ts=>F4 L t++br L ts
end
theorem im(L)(t):F4 L t=if(fV L t.label).kind=1 then[⟨2,[],[],[120],[]⟩]else if(fV L t.label).kind=2 then[⟨3,[],[],[],[]⟩]
 else if(fV L t.label).kind=3 then[⟨1,(fV L t.label).element,cX L t.kids,[],br L t.kids⟩]else[]:=by
 cases t;grind[F4,Tr.label,Tr.kids]
theorem ab9(L)(t):(F4 L t).length<=1:=by
 grind[im]
def gO(t:Tr):Prop:=t.kids.length<=1000000
theorem uy(L)(hL:L.length<=1000000000):∀ts:List Tr,dw gO ts->ts.length<=1000000->Fn ŷ fy [.seq 7 (L.map Label.v),.seq 2 (ts.map Tr.v)] (.seq 5 ((br L ts).map Node.v)):=by
 have key:∀ts:List Tr,ts.length<=1000000->(∀t∈ts,gO t/\Fn ŷ fy [.seq 7 (L.map Label.v),.seq 2 (t.kids.map Tr.v)] (.seq 5 ((br L t.kids).map Node.v)))->
  Fn ŷ fy [.seq 7 (L.map Label.v),.seq 2 (ts.map Tr.v)] (.seq 5 ((br L ts).map Node.v)):=by
  intro ts hts hrec;refine yoA Hz ?_;simp;generalize hw:br L ts=w
  refine ah (λx:Nat×List Node=>⟨[(0,.seq 7 (L.map Label.v)),(5,.ref 0 x.2.length),(9,.seq 2 (ts.map Tr.v)),(10,.int .i64 ts.length),(11,.int .i64 x.1)],[ś (.arr aL 5 (x.2.map Node.v))]⟩)
   (λx=>x.1<=ts.length/\x.2.length<=x.1/\x.2++br L (ts.drop x.1)=w) (λx=>ts.length-x.1) [.r 5 aL 5] _ (0,[]) rfl (by simp) (by simp[hw]) ?_
  rintro⟨j,out⟩ ⟨hj,hol,hi⟩ N hN;simp only at hj hol hi;rcases place ts j hj with⟨he,hd⟩|⟨hlt,t,ht,hd⟩<;>rw[hd]at hi
  ·simp_all[br,zAa]
  ·have htold:=xc L hL t
   obtain⟨hkf,hkn⟩:=hrec t (zAb ht);have hat:=xd L hL t.kids hkf;rw[br,im]at hi;replace hi:=hid hi;have htv:=Tr.v_eq t;rw[htv]at htold;generalize fV L t.label=b at *;have hbv:b.v=.strct [.int .i64 b.kind,.str b.element,.str b.name,.bool b.many,.str b.value,.bool b.one,.bool b.two]:=rfl;rw[hbv]at htold;simp(disch:=omega) [ht,htv];refine ae htold (by simp) λ_=>?_
   simp;by_cases h1:b.kind=1
   ·simp(disch:=omega) [h1]
    refine hN.out _<|Nx.mk (j+1,out++[⟨2,[],[],[120],[]⟩]) (by simp) ⟨by simp only;omega,by simp;omega,?_⟩ (by simp only;omega)
    have hi:=hi.out;simpa[h1]using hi
   ·by_cases h2:b.kind=2
    ·simp(disch:=omega) [h2]
     refine hN.out _<|Nx.mk (j+1,out++[⟨3,[],[],[],[]⟩]) (by simp) ⟨by simp only;omega,by simp;omega,?_⟩ (by simp only;omega)
     have hi:=hi.out;simp_all
    ·by_cases h3:b.kind=3
     ·simp[h3]
      refine az hat (by simp) ?_
      simp;refine az hkn (by simp) ?_
      simp(disch:=omega);refine hN.out _<|Nx.mk (j+1,out++[⟨1,b.element,cX L t.kids,[],br L t.kids⟩]) (by simp) ⟨by simp only;omega,by simp;omega,?_⟩ (by simp only;omega)
      have hi:=hi.out;simp_all
     ·simp(disch:=omega)
      refine hN.out _<|Nx.mk (j+1,out) (by simp) ⟨by simp only;omega,by simp only;omega,?_⟩ (by simp only;omega)
      have hi:=hi.out;simp_all
 have all:∀ts:List Tr,dw gO ts->∀t∈ts,gO t/\Fn ŷ fy [.seq 7 (L.map Label.v),.seq 2 (t.kids.map Tr.v)] (.seq 5 ((br L t.kids).map Node.v)):=by
  refine kJ (λ_ t h=>by cases h) ?_
  intro t l h1 h2 ha x hx;simp only[dw,nR]at ha;rcases zAf.1 hx with rfl|hx
  ·exact⟨ha.1.1,key x.kids ha.1.1 (h1 ha.1.2)⟩
  simp_all
 grind
mutual
def wtN:Node->Nat
 |⟨_,_,a,_,ks⟩=>1+a.length+ek ks
def ek:List Node->Nat
 |[]=>0
 |n::l=>wtN n+ek l
end
theorem qC(n):wtN n=1+n.attrs.length+ek n.kids:=by cases n;simp[wtN]
mutual
def wtT:Tr->Nat
 |⟨_,ks⟩=>1+iH ks
def iH:List Tr->Nat
 |[]=>0
 |t::l=>wtT t+iH l
end
theorem Iz(t):wtT t=1+iH t.kids:=by cases t;simp[wtT,Tr.kids]
theorem BH:∀l:List Node,l.length<=ek l
 |[]=>by simp
 |n::l=>by have:=BH l;simp[ek,qC];omega
theorem UC:∀l:List Tr,l.length<=iH l
 |[]=>by simp
 |n::l=>by have:=UC l;simp[iH,Iz];omega
theorem w7:∀l:List Node,ek l<=1000000000->Fn ŷ ge [.seq 5 (l.map Node.v)] (.int .i64 (ek l)):=by
 have key:∀l:List Node,ek l<=1000000000->(∀n∈l,Fn ŷ ge [.seq 5 (n.kids.map Node.v)] (.int .i64 (ek n.kids)))->Fn ŷ ge [.seq 5 (l.map Node.v)] (.int .i64 (ek l)):=by
  intro l hb hrec;have hlen:=BH l;refine yoA J5 ?_;simp;generalize hw:ek l=w at *;refine ah (λx:Nat×Nat=>⟨[(0,.seq 5 (l.map Node.v)),(3,.int .i64 x.2),(4,.int .i64 x.1)],[]⟩) (λx=>x.1<=l.length/\x.2+ek (l.drop x.1)=w) (λx=>l.length-x.1) [] _ (0,0) rfl (by simp) (by simp[hw]) ?_
  rintro⟨j,a⟩ ⟨hj,hi⟩ N hN;simp only at hj hi;rcases place l j hj with⟨he,hd⟩|⟨hlt,x,hx,hd⟩<;>rw[hd]at hi
  ·simp_all[ek,zAa]
  ·have hr:=hrec x (zAb hx)
   simp only[ek,qC]at hi;generalize ek x.kids=wk at *;have hal:x.attrs.length<=1000000000:=by omega
   simp(disch:=omega) [hx];refine aw hr rfl ?_;simp(disch:=omega);refine hN.out _<|Nx.mk (j+1,a+(1+x.attrs.length+wk)) (by simp;omega) ⟨by simp only;omega,by simp only;omega⟩ (by simp only;omega)
 have all:∀l:List Node,ek l<=1000000000->∀n∈l,Fn ŷ ge [.seq 5 (n.kids.map Node.v)] (.int .i64 (ek n.kids)):=by
  refine aE (λ_ n h=>by cases h) ?_
  intro n l h1 h2 hb x hx;simp only[ek,qC]at hb;grind
 grind
theorem K5:∀l:List Tr,iH l<=1000000000->Fn ŷ gb [.seq 2 (l.map Tr.v)] (.int .i64 (iH l)):=by
 have key:∀l:List Tr,iH l<=1000000000->(∀n∈l,Fn ŷ gb [.seq 2 (n.kids.map Tr.v)] (.int .i64 (iH n.kids)))->Fn ŷ gb [.seq 2 (l.map Tr.v)] (.int .i64 (iH l)):=by
  intro l hb hrec;have hlen:=UC l;refine yoA JX ?_;simp;generalize hw:iH l=w at *;refine ah (λx:Nat×Nat=>⟨[(0,.seq 2 (l.map Tr.v)),(3,.int .i64 x.2),(4,.int .i64 x.1)],[]⟩) (λx=>x.1<=l.length/\x.2+iH (l.drop x.1)=w) (λx=>l.length-x.1) [] _ (0,0) rfl (by simp) (by simp[hw]) ?_
  rintro⟨j,a⟩ ⟨hj,hi⟩ N hN;simp only at hj hi;rcases place l j hj with⟨he,hd⟩|⟨hlt,x,hx,hd⟩<;>rw[hd]at hi
  ·simp_all[iH,zAa]
  ·have hr:=hrec x (zAb hx)
   have hxv:=Tr.v_eq x;simp only[iH,Iz]at hi;generalize iH x.kids=wk at *;simp(disch:=omega) [hx,hxv];refine aa hr rfl λ_=>?_;simp(disch:=omega);refine hN.out _<|Nx.mk (j+1,a+(1+wk)) (by simp;omega) ⟨by simp only;omega,by simp only;omega⟩ (by simp only;omega)
 have all:∀l:List Tr,iH l<=1000000000->∀n∈l,Fn ŷ gb [.seq 2 (n.kids.map Tr.v)] (.int .i64 (iH n.kids)):=by
  refine kJ (λ_ n h=>by cases h) ?_
  intro n l h1 h2 hb x hx;simp only[iH,Iz]at hb;grind
 grind
theorem aga(a b a' b':Str):eqK (.strct [.str a,.str b]) (.strct [.str a',.str b'])=(decide (a=a')&&decide (b=b')):=by
 simp[eqK,pm,eqC]
theorem Zf(a b:Str):bH ⟨ť,[.s,.s]⟩ (.strct [.str a,.str b])=true:=by
 simp[bH,gD,b5,kOf,aU]
def xT(n:Node):Prop:=n.attrs.length<=1000000/\n.kids.length<=1000000
theorem Dc:∀l:List Node,aq xT l->l.length<=1000000->Fn ŷ jz [.seq 5 (l.map Node.v),.seq 5 (l.map Node.v)] (.bool ť):=by
 have key:∀l:List Node,l.length<=1000000->(∀n∈l,xT n/\Fn ŷ jz [.seq 5 (n.kids.map Node.v),.seq 5 (n.kids.map Node.v)] (.bool ť))->Fn ŷ jz [.seq 5 (l.map Node.v),.seq 5 (l.map Node.v)] (.bool ť):=by
  intro l hb hrec;refine yoA SD ?_;unfold DJ;simp;refine ah (λk:Nat=>⟨[(0,.seq 5 (l.map Node.v)),(1,.seq 5 (l.map Node.v)),(5,.int .i64 k)],[]⟩) (λk=>k<=l.length) (λk=>l.length-k) [] _ 0 rfl (by simp) (by simp) ?_
  rintro j hj N hN;rcases zAg j l.length with hlt|hge
  ·obtain⟨x,hx⟩:=av hlt
   obtain⟨⟨hal,_⟩,hk⟩:=hrec x (zAb hx);simp(disch:=omega) [hx]
   refine ah (λk:Nat=>⟨[(0,.seq 5 (l.map Node.v)),(1,.seq 5 (l.map Node.v)),(5,.int .i64 j),(6,.ptr 0 0),(7,.ptr 1 0),(8,.int .i64 k)],
    [ś (.box [.int .i64 x.kind,.str x.name,.seq 2 (x.attrs.map Attr.v),.str x.text,.seq 5 (x.kids.map Node.v)]),ś (.box [.int .i64 x.kind,.str x.name,.seq 2 (x.attrs.map Attr.v),.str x.text,.seq 5 (x.kids.map Node.v)])]⟩)
    (λk=>k<=x.attrs.length) (λk=>x.attrs.length-k) [] _ 0 rfl (by simp) (by simp) ?_
   rintro i hi N' hN';rcases zAg i x.attrs.length with hlt2|hge2
   ·obtain⟨a,ha⟩:=av hlt2
    simp(disch:=omega) [ha,aga,Zf];exact hN'.out _<|Nx.mk (i+1) (by simp) (by omega) (by omega)
   ·obtain rfl:i=x.attrs.length:=by omega
    simp;refine aa hk rfl λ_=>?_;simp(disch:=omega);exact hN.out _<|Nx.mk (j+1) (by simp) (by omega) (by omega)
  simp_all
 have all:∀l:List Node,aq xT l->∀n∈l,xT n/\Fn ŷ jz [.seq 5 (n.kids.map Node.v),.seq 5 (n.kids.map Node.v)] (.bool ť):=by
  refine aE (λ_ n h=>by cases h) ?_
  intro n l h1 h2 ha x hx;simp only[aq,bE]at ha;rcases zAf.1 hx with rfl|hx
  ·exact⟨ha.1.1,key x.kids ha.1.1.2 (h1 ha.1.2)⟩
  simp_all
 grind
def inR(n:Nat)(t:Tr):Prop:=t.label<n/\gO t
theorem BR{L i b}(h:L[i]?=ś b):fV L i=b:=by simp[fV,h]
theorem OD(L)(hL:L.length<=1000000000):∀ts:List Tr,dw (inR L.length) ts->ts.length<=1000000->Fn ŷ iq [.seq 7 (L.map Label.v),.seq 2 (ts.map Tr.v)] (.seq 5 ((br L ts).map Node.v)):=by
 have key:∀ts:List Tr,ts.length<=1000000->(∀t∈ts,inR L.length t/\(∀u∈t.kids,u.label<L.length)/\Fn ŷ iq [.seq 7 (L.map Label.v),.seq 2 (t.kids.map Tr.v)] (.seq 5 ((br L t.kids).map Node.v)))->
  Fn ŷ iq [.seq 7 (L.map Label.v),.seq 2 (ts.map Tr.v)] (.seq 5 ((br L ts).map Node.v)):=by
  intro ts hts hrec;refine yoA MY ?_;simp;generalize hw:br L ts=w
  refine ah (λx:Nat×List Node=>⟨[(0,.seq 7 (L.map Label.v)),(1,.seq 2 (ts.map Tr.v)),(5,.ref 0 x.2.length),(6,.int .i64 x.1)],[ś (.arr aL 5 (x.2.map Node.v))]⟩)
   (λx=>x.1<=ts.length/\x.2.length<=x.1/\x.2++br L (ts.drop x.1)=w) (λx=>ts.length-x.1) [.r 5 aL 5] _ (0,[]) rfl (by simp) (by simp[hw]) ?_
  rintro⟨j,out⟩ ⟨hj,hol,hi⟩ N hN;simp only at hj hol hi;rcases place ts j hj with⟨he,hd⟩|⟨hlt,t,ht,hd⟩<;>rw[hd]at hi
  ·simp_all[br,zAa]
  ·obtain⟨⟨hin,hkf⟩,hkin,hkn⟩:=hrec t (zAb ht)
   have hkf:t.kids.length<=1000000:=hkf;obtain⟨b,hb⟩:=av hin;rw[br,im,BR hb]at hi;replace hi:=hid hi;have htv:=Tr.v_eq t;have hbv:b.v=.strct [.int .i64 b.kind,.str b.element,.str b.name,.bool b.many,.str b.value,.bool b.one,.bool b.two]:=rfl;simp(disch:=omega) [ht,htv,hb,hbv];by_cases h1:b.kind=1
   ·simp(disch:=omega) [h1]
    refine hN.out _<|Nx.mk (j+1,out++[⟨2,[],[],[120],[]⟩]) (by simp) ⟨by simp only;omega,by simp;omega,?_⟩ (by simp only;omega)
    have hi:=hi.out;simpa[h1]using hi
   ·by_cases h2:b.kind=2
    ·simp(disch:=omega) [h2]
     refine hN.out _<|Nx.mk (j+1,out++[⟨3,[],[],[],[]⟩]) (by simp) ⟨by simp only;omega,by simp;omega,?_⟩ (by simp only;omega)
     have hi:=hi.out;simpa[h1,h2]using hi
    ·by_cases h3:b.kind=3
     ·simp[h3,ht,htv]
      refine az hkn (by simp) ?_
      simp;have hi:=hi.out;simp only[h3,if_true]at hi
      refine ah (λx:Nat×List Attr=>⟨[(0,.seq 7 (L.map Label.v)),(1,.seq 2 (ts.map Tr.v)),(5,.ref 0 out.length),(6,.int .i64 j),(8,.ptr 1 0),(9,.int .i64 x.1)],
       [ś (.arr aL 5 (out.map Node.v)),ś (.box [.int .i64 1,.str b.element,.ref 2 x.2.length,.str [],.seq 5 ((br L t.kids).map Node.v)]),ś (.arr bW 2 (x.2.map Attr.v))]⟩)
       (λx=>x.1<=t.kids.length/\x.2.length<=x.1/\x.2++cX L (t.kids.drop x.1)=cX L t.kids) (λx=>t.kids.length-x.1) [.b 2 2 bW 2] _ (0,[]) rfl (by simp) (by simp) ?_
      rintro⟨i,at'⟩ ⟨hi1,hi2,hi3⟩ N' hN';simp only at hi1 hi2 hi3;rcases place t.kids i hi1 with⟨he',hd'⟩|⟨hlt',u,hu,hd'⟩<;>rw[hd']at hi3
      ·simp[cX]at hi3
       rw[<-cX]at hi3;simp(disch:=omega) [ht,htv];refine hN.out _<|Nx.mk (j+1,out++[⟨1,b.element,cX L t.kids,[],br L t.kids⟩]) (by simp[hi3]) ⟨by simp only;omega,by simp;omega,?_⟩ (by simp only;omega)
       simpa using hi
      ·have hul:=hkin u (zAb hu)
       obtain⟨c,hc⟩:=av hul;have huv:=Tr.v_eq u;have hcv:c.v=.strct [.int .i64 c.kind,.str c.element,.str c.name,.bool c.many,.str c.value,.bool c.one,.bool c.two]:=rfl;have hcons:cX L (u::t.kids.drop (i+1))=Av L u++cX L (t.kids.drop (i+1)):=rfl;rw[hcons]at hi3;unfold Av at hi3;rw[BR hc]at hi3;replace hi3:=hid hi3;simp(disch:=omega) [ht,htv,hu,huv,hc,hcv];by_cases h4:c.kind=4
       ·simp(disch:=omega) [h4]
        refine hN'.out _<|Nx.mk (i+1,at'++[⟨c.name,c.value⟩]) (by simp) ⟨by simp only;omega,by simp;omega,?_⟩ (by simp only;omega)
        have hi3:=hi3.out;simpa[h4]using hi3
       ·simp(disch:=omega)
        refine hN'.out _<|Nx.mk (i+1,at') (by simp) ⟨by simp only;omega,by simp only;omega,?_⟩ (by simp only;omega)
        have hi3:=hi3.out;simpa[h4]using hi3
     ·simp(disch:=omega)
      refine hN.out _<|Nx.mk (j+1,out) (by simp) ⟨by simp only;omega,by simp only;omega,?_⟩ (by simp only;omega)
      have hi:=hi.out;simpa[h1,h2,h3]using hi
 have all:∀ts:List Tr,dw (inR L.length) ts->∀t∈ts,inR L.length t/\(∀u∈t.kids,u.label<L.length)/\Fn ŷ iq [.seq 7 (L.map Label.v),.seq 2 (t.kids.map Tr.v)] (.seq 5 ((br L t.kids).map Node.v)):=by
  refine kJ (λ_ t h=>by cases h) ?_
  intro t l h1 h2 ha x hx;simp only[dw,nR]at ha;rcases zAf.1 hx with rfl|hx
  ·exact⟨ha.1.1,λu hu=>(QL ha.1.2 hu).1.1,key x.kids ha.1.1.2 (h1 ha.1.2)⟩
  ·exact h2 ha.2 x hx
 grind
mutual
def lbN(p q:Policy)(F:Str->Attr->Int):Node->Bool
 |⟨k,nm,a,t,ks⟩=>if k=1 then((aJ p.elements nm).isSome||(aJ q.elements nm).isSome)&&(a.all (λx=>decide (0<=F nm x))&&yH p q F ks)else ť
def yH(p q:Policy)(F:Str->Attr->Int):List Node->Bool
 |[]=>ť
 |n::l=>lbN p q F n&&yH p q F l
end
theorem afx(p q)(F)(n):lbN p q F n=if n.kind=1 then((aJ p.elements n.name).isSome||(aJ q.elements n.name).isSome)&&(n.attrs.all (λx=>decide (0<=F n.name x))&&yH p q F n.kids)else true:=by
 cases n;simp only[lbN]
section
variable (p q:Policy)(L:List Label)(m:Nat)
theorem Fg(hF:FindOK p q L m):∀l:List Node,aq (zw m) l->l.length<=1000000->Fn ŷ gK [p.v,q.v,.seq 7 (L.map Label.v),.seq 5 (l.map Node.v)] (.bool (yH p q (bf p q L) l)):=by
 have key:∀l:List Node,l.length<=1000000->(∀n∈l,zw m n/\Fn ŷ gK [p.v,q.v,.seq 7 (L.map Label.v),.seq 5 (n.kids.map Node.v)] (.bool (yH p q (bf p q L) n.kids)))->
  Fn ŷ gK [p.v,q.v,.seq 7 (L.map Label.v),.seq 5 (l.map Node.v)] (.bool (yH p q (bf p q L) l)):=by
  intro l hl hrec;refine yoA EL ?_;simp;generalize hw:yH p q (bf p q L) l=w
  refine ah (λk:Nat=>⟨[(2,.seq 7 (L.map Label.v)),(3,.seq 5 (l.map Node.v)),(4,.ptr 0 0),(5,.ptr 1 0),(9,.int .i64 k)],
   [ś (.box [.seq 1 (p.top.map .str),.seq 3 (p.elements.map Allowed.v),.seq 1 (p.unwrap.map .str)]),ś (.box [.seq 1 (q.top.map .str),.seq 3 (q.elements.map Allowed.v),.seq 1 (q.unwrap.map .str)])]⟩)
   (λk=>k<=l.length/\yH p q (bf p q L) (l.drop k)=w) (λk=>l.length-k) [] _ 0 rfl (by simp) (by simp[hw]) ?_
  rintro j ⟨hj,hi⟩ N hN;rcases place l j hj with⟨he,hd⟩|⟨hlt,x,hx,hd⟩<;>rw[hd]at hi
  ·simp[yH]at hi
   subst hi;simp[he]
  ·obtain⟨⟨hal,hkl,hav⟩,hk⟩:=hrec x (zAb hx)
   have hf:∀a∈x.attrs,Fn ŷ np [p.v,q.v,.seq 7 (L.map Label.v),.str x.name,a.v] (.int .i64 (bf p q L x.name a)):=λa ha=>hF.find x.name a (hav a ha);rw[yH,afx]at hi;generalize yH p q (bf p q L) x.kids=K at *;generalize bf p q L x.name=F at *;have h1:=gQ p x.name;have h2:=gQ q x.name;generalize aJ p.elements x.name=e1 at *;generalize aJ q.elements x.name=e2 at *;replace hi:=hid hi;simp(disch:=omega) [hx];by_cases hk1:x.kind=1
   ·simp[hk1,hx]
    refine az h1 (by simp) ?_
    simp[hx];refine az h2 (by simp) ?_
    have hi:=hi.out;rw[if_pos hk1]at hi;by_cases hno:e1.isSome=ğ/\e2.isSome=ğ
    ·rw[hno.1,hno.2]at hi
     simp at hi;subst hi;simp[hno.1,hno.2]
    ·have hor:(e1.isSome||e2.isSome)=true:=by
      cases h3:e1.isSome<;>cases h4:e2.isSome<;>simp_all
     rw[hor,zCb]at hi;replace hi:=hid hi
     have hgo:∀Q:Prop,(e1.isSome=ť->Q)->(e1.isSome=ğ->e2.isSome=ť->Q)->Q:=λQ a b=>by
      cases h3:e1.isSome<;>cases h4:e2.isSome<;>simp_all
     refine hgo _ (λg1=>?_) (λg1 g2=>?_)
     all_goals
      first|simp(disch:=omega) [-zAa,g1,g2]|simp[g1]
      refine ah (λk:Nat=>⟨[(2,.seq 7 (L.map Label.v)),(3,.seq 5 (l.map Node.v)),(4,.ptr 0 0),(5,.ptr 1 0),(9,.int .i64 j),(14,.int .i64 k)],
       [ś (.box [.seq 1 (p.top.map .str),.seq 3 (p.elements.map Allowed.v),.seq 1 (p.unwrap.map .str)]),ś (.box [.seq 1 (q.top.map .str),.seq 3 (q.elements.map Allowed.v),.seq 1 (q.unwrap.map .str)])]⟩)
       (λk=>k<=x.attrs.length/\(((x.attrs.drop k).all (λa=>decide (0<=F a))&&K)&&yH p q (bf p q L) (l.drop (j+1)))=w) (λk=>x.attrs.length-k) [] _ 0 rfl (by simp) (by simpa using hi.out) ?_
      rintro k ⟨hk2,hi2⟩ N' hN';rcases place x.attrs k hk2 with⟨he',hd'⟩|⟨hlt',a,ha,hd'⟩<;>rw[hd']at hi2
      ·simp only[List.all_nil,zCb]at hi2
       replace hi2:=hid hi2;simp[hx,he'];refine aw hk rfl ?_;simp;have hi2:=hi2.out;cases K with
       |false=>
         simp at hi2;subst hi2;simp
       |true=>
         simp only[zCb]at hi2;simp(disch:=omega);exact hN.out _<|Nx.mk (j+1) (by simp) ⟨by omega,hi2⟩ (by omega)
      ·have hfa:=hf a (zAb ha)
       simp only[Attr.v]at hfa;simp only[zGe]at hi2;replace hi2:=hid hi2;simp(disch:=omega) [hx,ha];refine aw hfa rfl ?_;have hi2:=hi2.out;by_cases hneg:F a<0
       ·have h0:¬0<=F a:=by omega
        simp[h0]at hi2;subst hi2;simp[hneg]
       ·have h0:0<=F a:=by omega
        simp only[h0,decide_true,zCb]at hi2;simp(disch:=omega);exact hN'.out _<|Nx.mk (k+1) (by simp) ⟨by omega,hi2⟩ (by omega)
   ·simp(disch:=omega)
    refine hN.out _<|Nx.mk (j+1) (by simp) ⟨by omega,?_⟩ (by omega)
    have hi:=hi.out;simpa[hk1]using hi
 have all:∀l:List Node,aq (zw m) l->∀n∈l,zw m n/\Fn ŷ gK [p.v,q.v,.seq 7 (L.map Label.v),.seq 5 (n.kids.map Node.v)] (.bool (yH p q (bf p q L) n.kids)):=by
  refine aE (λ_ n h=>by cases h) ?_
  intro n l h1 h2 ha x hx;simp only[aq,bE]at ha;rcases zAf.1 hx with rfl|hx
  ·exact⟨ha.1.1,key x.kids ha.1.1.2.1 (h1 ha.1.2)⟩
  ·exact h2 ha.2 x hx
 exact λl ha hl=>key l hl (all l ha)
end
theorem W5(a b:Nat):Fn ŷ JG [.int .i64 a,.int .i64 b] (.bool (decide (a<b))):=by
 refine yoA Kg ?_;simp;refine aa (xe a) rfl λ_=>?_;simp
theorem T7(xs)(hxs:xs.length<=1000000):FnH ŷ ji [0] [.ref 0 xs.length,.int .i64 0,.int .i64 xs.length] [ś (.arr ap 1 (xs.map nV))] (.tup []) [ś (.arr ap 1 ((dz xs).map nV))]:=by
 refine yoH jl ?_;simp
 refine ah (λq:Nat×List Nat=>⟨[(0,.ref 0 q.2.length),(1,.int .i64 0),(2,.int .i64 xs.length),(6,.int .i64 q.1)],[ś (.arr ap 1 (q.2.map nV))]⟩)
  (λq=>1<=q.1/\(q.1<=xs.length\/q.1=1)/\q.2.Perm xs/\(q.2.take q.1).Pairwise λx y=>x<=y) (λq=>xs.length-q.1) [] _ (1,xs) rfl (by simp) ?_ ?_
 ·refine⟨by simp,by simp,List.Perm.refl _,?_⟩
  cases xs<;>simp
 rintro⟨i,D⟩ ⟨h1,h2,hp,hs⟩ N hN;simp only at h1 h2 hp hs;have hDl:D.length=xs.length:=hp.length_eq;by_cases hlt:i<xs.length
 ·obtain⟨x,hx⟩:=av (l:=D) (k:=i) (by omega)
  simp[hDl,hlt]
  refine ah (λq:Nat×List Nat=>⟨[(0,.ref 0 q.2.length),(1,.int .i64 0),(2,.int .i64 xs.length),(6,.int .i64 i),(7,.int .i64 q.1)],[ś (.arr ap 1 (q.2.map nV))]⟩)
   (λq=>∃A B,q.2=A++x::(B++D.drop (i+1))/\A.length=q.1/\A++B=D.take i/\∀b∈B,x<b) (λq=>q.1) [] _ (i,D) rfl (by simp[hDl]) ?_ ?_
  ·refine⟨D.take i,[],?_,by simp;omega,by simp,by simp⟩
   simp only[zAh];obtain⟨_,y,hy,hd⟩:=(place D i (by omega)).resolve_left (by omega)
   rw[hx]at hy;cases hy;rw[<-hd,zCf]
  rintro⟨j,E⟩ ⟨A,B,hE,hA,hAB,hB⟩ N' hN';simp only at hE hA
  have hEl:E.length=xs.length:=by
   have h3:=congrArg zCc hE;have h4:=congrArg zCc hAB;simp only[zBa,zAi,zGa,zBj]at h3 h4;omega
  have hji:j<=i:=by
   have h4:=congrArg zCc hAB;simp only[zBa,zBj]at h4;omega
  have hEj:E[j]?=ś x:=by rw[hE,zEb (by omega)];simp[hA]
  have hfin:(∀a∈A,a<=x)->N ⟨[(0,.ref 0 E.length),(1,.int .i64 0),(2,.int .i64 xs.length),(6,.int .i64 (i+1))],[ś (.arr ap 1 (E.map nV))]⟩:=λha=>by
   refine hN.out _<|Nx.mk (i+1,E) (by simp) ⟨by simp only;omega,by simp only;omega,?_,?_⟩ (by simp only;omega)
   ·have e1:E.Perm D:=by
     obtain⟨_,y,hy,hd2⟩:=(place D i (by omega)).resolve_left (by omega)
     rw[hx]at hy;cases hy;have hD:(A++B)++x::D.drop (i+1)=D:=by rw[hAB,<-hd2,zCf]
     rw[hE];have k1:(A++x::(B++D.drop (i+1))).Perm (x::(A++(B++D.drop (i+1)))):=zDd;have k2:((A++B)++x::D.drop (i+1)).Perm (x::((A++B)++D.drop (i+1))):=zDd;rw[hD,zBb]at k2;exact k1.trans k2.symm
    exact e1.trans hp
   ·have e2:E.take (i+1)=A++x::B:=by
     have hl:(A++x::B).length=i+1:=by
      have h4:=congrArg zCc hAB;simp only[zBa,zBj,zAi]at h4⊢;omega
     rw[hE,<-zAd,<-zBb,<-hl,zGc];rfl
    simp only[e2];rw[<-hAB]at hs;exact FW hs hB ha
  by_cases hj:j=0
  ·subst hj
   have hA0:A=[]:=zDh hA;simp(disch:=omega);exact hfin (by simp[hA0])
  ·obtain⟨y,hy⟩:=av (l:=E) (k:=j-1) (by omega)
   have hc:=W5 x y;have hjj:((j:Int)-1).toNat=j-1:=by omega
   have hj0:0<j:=by omega
   have hj1:(1:Int)<=j:=by omega
   obtain⟨A',hA'⟩:∃A',A=A'++[y]:=by
    have hne:A≠[]:=λe=>by rw[e]at hA;simp at hA;omega
    refine⟨A.dropLast,?_⟩
    have h5:A[j-1]?=ś y:=by
     rw[hE,zEd (by omega)]at hy
     exact hy
    have h6:A.getLast hne=y:=by
     rw[zEj];have:=(zAe.1 h5).2;rw[<-this];congr 1;omega
    rw[<-h6];exact(zDj hne).symm
   have hset:(E.set j y).set (j-1) x=A'++x::(y::B++D.drop (i+1)):=by
    have hAl:A'.length=j-1:=by rw[hA']at hA;simp at hA;omega
    rw[hE,zCg _ _ (by omega),hA,zEe,zFf,hA',zBb]
    rw[zCg _ _ (by omega),hAl,zEe]
    simp
   simp(disch:=omega) [hj0,hEj,hy];refine aw hc rfl ?_;by_cases hxy:x<y
   ·have hms:∀(E:List Nat)(j y:Nat),(E.map nV).set j (.int .i64 y)=(E.set j y).map nV:=λE j y=>by simp
    simp(disch:=omega) [-zDa,hy,hEj,hms];refine hN'.out _<|Nx.mk (j-1,(E.set j y).set (j-1) x) (by simp;omega) ⟨A',y::B,hset,?_,?_,?_⟩ (by simp only;omega)
    ·rw[hA']at hA;simp at hA⊢;omega
    ·rw[<-hAB,hA'];simp
    ·intro b hb
     rcases zAf.1 hb with rfl|hb
     ·exact hxy
     ·exact hB b hb
   ·have hfin2:=hfin (λa ha=>by
     rw[hA']at ha;rcases zCj.1 ha with ha|ha
     ·have h7:(A'++[y]++B).Pairwise λx y=>x<=y:=by rw[<-hA',hAB];exact hs
      rw[zBb,zDe]at h7;have:=h7.2.2 a ha y (by simp)
      omega
     ·simp at ha;omega)
    simp(disch:=omega);exact hfin2
 ·have hD:D=dz xs:=by
   refine aat hp ?_;rw[zDc (by omega)]at hs
   exact hs
  subst hD;simp[hDl,hlt]
theorem aiP(k:Nat)(hk:k<13):Fn ŷ Cp [.int .u64 k] (.int .i64 (([0,1,2,2,3,3,3,3,4,4,4,4,4]:List Nat).getD k 0)):=by
 refine yoA CJ ?_;have h:k=0\/k=1\/k=2\/k=3\/k=4\/k=5\/k=6\/k=7\/k=8\/k=9\/k=10\/k=11\/k=12:=by omega
 rcases h with rfl|rfl|rfl|rfl|rfl|rfl|rfl|rfl|rfl|rfl|rfl|rfl|rfl<;>simp
theorem ac4(k:Nat)(hk:k<13):Fn ŷ Hf [.int .u64 k] (.int .i64 (([0,1,2,2,3,3,3,3,4,4,4,4,4]:List Nat).getD k 0)):=by
 refine yoA Ht ?_;simp;refine aa (aiP k hk) rfl λ_=>?_;simp
theorem f_pdq(xs)(hxs:xs.length<13)(z):FnH ŷ nh [0] [.ref 0 xs.length,.int .i64 0,.int .i64 xs.length,.int .i64 z] [ś (.arr ap 1 (xs.map nV))] (.tup []) [ś (.arr ap 1 ((dz xs).map nV))]:=by
 have h:=T7 xs (by omega)
 have hl:(dz xs).length=xs.length:=(bo xs).length_eq;refine yoH nA ?_;simp;refine ah (λk:Nat=>⟨[(0,.ref 0 xs.length),(1,.int .i64 0),(2,.int .i64 xs.length),(3,.int .i64 z),(8,.bool ť),(9,.bool ť)],[ś (.arr ap 1 (xs.map nV))]⟩) (λk=>True) (λk=>0) [] _ 0 rfl (by simp) (by simp) ?_
 rintro k _ N hN;have h12:(xs.length:Int)<=12:=by omega
 simp(disch:=omega) [h12];refine am [0] 1 [0] (by simp) (by simp) (by simp) (by simp) h (by simp) λ_ _=>?_
 simp
theorem aiO(xs)(hxs:xs.length<13):FnH ŷ sV [0] [.ref 0 xs.length] [ś (.arr ap 1 (xs.map nV))] (.tup []) [ś (.arr ap 1 ((dz xs).map nV))]:=by
 have hl:(dz xs).length=xs.length:=(bo xs).length_eq;have hb:=ac4 xs.length hxs;generalize(([0,1,2,2,3,3,3,3,4,4,4,4,4]:List Nat).getD xs.length 0)=z at *;have h:=f_pdq xs hxs z;refine yoH tc ?_;have hwr:IntKind.u64.wrap (xs.length:Int)=xs.length:=by rw[Go.IntKind.wrap_u64];omega
 simp;simp[L4,hwr];refine aa hb rfl λ_=>?_;simp;refine am [0] 1 [0] (by simp) (by simp) (by simp) (by simp) h (by simp) λ_ _=>?_
 simp
theorem ac1(f t r:Nat):FnH ŷ b7 [1,2] [.int .i64 r,.ptr 0 0,.ptr 1 0] [ś (.box [.int .i64 f]),ś (.box [.int .i64 t])] (.bool (decide (f<r)&&decide (r<t))) [ś (.box [.int .i64 f]),ś (.box [.int .i64 t])]:=by
 refine yoH qM ?_;simp;by_cases h:f<r
 ·simp[h]
 ·simp[h]
theorem Ug(l)(hl:l.length<=1000000)(f t:Nat):FnH ŷ nj [1] [.seq 1 (l.map nV),.fn (.func b7) [] [.ptr 0 0,.ptr 1 0]] [ś (.box [.int .i64 f]),ś (.box [.int .i64 t])]
 (.int .i64 (fdx (λr=>decide (f<r)&&decide (r<t)) 0 l)) [ś (.box [.int .i64 f]),ś (.box [.int .i64 t])]:=by
 obtain⟨g,hg⟩:∃g:Nat->Bool,g=λr:Nat=>decide (f<r)&&decide (r<t):=⟨_,rfl⟩
 have hF:∀r:Nat,FnH ŷ b7 [1,2] [.int .i64 r,.ptr 0 0,.ptr 1 0] [ś (.box [.int .i64 f]),ś (.box [.int .i64 t])] (.bool (g r)) [ś (.box [.int .i64 f]),ś (.box [.int .i64 t])]:=λr=>by
  rw[hg];exact ac1 f t r
 rw[<-hg];clear hg;refine yoH nC ?_;simp;generalize hr:fdx g 0 l=r;refine ah (λk:Nat=>⟨[(0,.seq 1 (l.map nV)),(1,.fn (.func b7) [] [.ptr 0 0,.ptr 1 0]),(7,.int .i64 l.length),(8,.int .i64 k)],[ś (.box [.int .i64 f]),ś (.box [.int .i64 t])]⟩) (λk=>k<=l.length/\fdx g k (l.drop k)=r) (λk=>l.length-k) [] _ 0 rfl (by simp) (by simp[hr]) ?_
 rintro k ⟨hk,hi⟩ N hN;rcases place l k hk with⟨he,hd⟩|⟨hlt,x,hx,hd⟩<;>rw[hd]at hi<;>replace hi:=hid hi
 ·simp[he]
  simpa[fdx]using hi.out
 ·have hFx:=hF x
  simp(disch:=omega) [hx];refine am [1,2] 2 [0,1] (by simp) (by simp) (by simp) (by simp) hFx (by simp) λ_ _=>?_
  simp;refine BrK.mk (λh=>?_) (λh=>?_)
  ·simp
   have hi:=hi.out;simpa[fdx,h]using hi
  ·simp(disch:=omega)
   refine hN.out _<|Nx.mk (k+1) (by simp) ⟨by omega,?_⟩ (by omega)
   have hi:=hi.out;simpa[fdx,h]using hi
theorem Id(l:List Nat)(hl:l.length<=1000000)(f t:Nat):FnH ŷ kO [1] [.seq 1 (l.map nV),.fn (.func b7) [] [.ptr 0 0,.ptr 1 0]] [ś (.box [.int .i64 f]),ś (.box [.int .i64 t])]
 (.bool (l.any λr=>decide (f<r)&&decide (r<t))) [ś (.box [.int .i64 f]),ś (.box [.int .i64 t])]:=by
 have h:=Ug l hl f t;have ha:=Ir (λr:Nat=>decide (f<r)&&decide (r<t)) l 0;generalize(λr:Nat=>decide (f<r)&&decide (r<t))=g at *;generalize fdx g 0 l=z at *;refine yoH kU ?_;simp;refine am [1] 2 [0,1] (by simp) (by simp) (by simp) (by simp) h (by simp) λ_ _=>?_
 simp[ha]
def mkC(p:Policy)(L:List Label)(g:Nat):List V:=[.seq 1 (p.top.map .str),.seq 3 (p.elements.map Allowed.v),.seq 1 (p.unwrap.map .str),.seq 7 (L.map Label.v),.fn (.func g) [] []]
structure WD where
 label:Int
 names:List Str
 row:List Nat
 st:List Bool
 nd:List Nat
def WD.c(p:Policy)(L:List Label)(g:Nat)(w:WD):List V:=mkC p L g++[.int .i64 w.label,.seq 1 (w.names.map .str),.seq 1 (w.row.map nV),.seq 1 (w.st.map .bool),.seq 1 (w.nd.map nV)]
structure WD.few (L:List Label) (w:WD):Prop where
 names:w.names.length<=1000000
 row:w.row.length=L.length
 st:w.st.length=L.length
 nd:w.nd.length<=1000000
 ln:L.length<=1000000
def WD.wi(L:List Label)(w:WD):Wi where
 len:=w.names.length
 nl:=L.length
 row r:=(w.row[r]?).getD 0
 many r:=match L[r]? with
  |some b=>b.many
  |none=>ğ
 attr r:=match L[r]? with
  |some b=>decide (b.kind=4)
  |none=>ğ
 text r:=match L[r]? with
  |some b=>decide (b.kind=1)
  |none=>ğ
 stands r:=(w.st[r]?).getD ğ
 needed:=w.nd
section
variable (p:Policy)(L:List Label)(g:Nat)(w:WD)(hw:w.few L)
include hw
theorem lB:Fn ŷ kq [.strct (w.c p L g)] (.int .i64 (w.names.length+3:Nat)):=by
 have hn:=hw.names;refine yoA u5 ?_;simp(disch:=omega) [WD.c,mkC]
theorem zy:Fn ŷ uX [.strct (w.c p L g)] (.int .i64 (w.names.length+1:Nat)):=by
 have hn:=hw.names;refine yoA u6 ?_;simp(disch:=omega) [WD.c,mkC]
theorem K0:Fn ŷ sZ [.strct (w.c p L g)] (.int .i64 (w.names.length+2:Nat)):=by
 have hn:=hw.names;refine yoA te ?_;simp(disch:=omega) [WD.c,mkC]
theorem wW(f t:Nat):Fn ŷ jJ [.strct (w.c p L g),.int .i64 f,.int .i64 t] (.bool ((w.wi L).lacks f t)):=by
 have h:=Id w.nd hw.nd f t;refine yoE tg ?_;simp[WD.c,mkC];refine am [1] 2 [1,2] (by simp) (by simp) (by simp) (by simp) h (by simp) λ_ _=>?_
 simp[Wi.lacks,WD.wi]
theorem qU(s:Nat)(hs:s<=2000000):Fn ŷ uW [.strct (w.c p L g),.int .i64 s] (.bool ((w.wi L).ends s)):=by
 have hn:=hw.names;have hd:=lB p L g w hw;have hc:=zy p L g w hw;have hl:=wW p L g w hw s (w.names.length+2);have he:(w.wi L).ends s=(!decide (s=w.names.length+3)&&(decide (w.names.length+1<=s)|| !(w.wi L).lacks s (w.names.length+2))):=rfl;rw[he];generalize(w.wi L).lacks s (w.names.length+2)=lk at *;simp only[WD.c,mkC,zAd,zAh]at hd hc hl⊢;refine yoA u4 ?_;simp;refine az hd (by simp) ?_
 by_cases h1:s=w.names.length+3
 ·simp[h1]
 ·have h1':¬(s:Int)=(w.names.length:Int)+3:=by omega
  simp[h1,h1'];refine az hc (by simp) ?_
  by_cases h2:w.names.length+1<=s
  ·have h2':(w.names.length:Int)+1<=s:=by omega
   simp[h2,h2']
  ·have h2':¬(w.names.length:Int)+1<=s:=by omega
   simp[h2,h2'];refine az hc (by simp) ?_
   simp(disch:=omega);have e2:((w.names.length:Int)+1+1)=((w.names.length+2:Nat):Int):=by omega
   rw[e2];refine az hl (by simp) ?_
   simp
end
section
variable (p:Policy)(L:List Label)(g:Nat)(w:WD)(hw:w.few L)
include hw
theorem zx(s r:Nat)(hs:s<=2000000)(hr:r<=2000000)(hrow:∀i:Nat,(w.row[i]?).getD 0<=2000000):Fn ŷ cG [.strct (w.c p L g),.int .i64 s,.int .i64 r] (.int .i64 ((w.wi L).next s r:Nat)):=by
 have hn:=hw.names;have hrl:=hw.row;have hsl:=hw.st;have hd:=lB p L g w hw;have hc:=zy p L g w hw;have ht:=K0 p L g w hw;have he:=qU p L g w hw s hs;have hlk:=wW p L g w hw s
 have hx:(w.wi L).next s r=if w.names.length+3<=s\/L.length<=r then w.names.length+3
  else if(w.wi L).attr r=ť then(if w.names.length+1<=s\/(w.row[r]?).getD 0=0\/((w.row[r]?).getD 0<=s/\¬((w.row[r]?).getD 0=s/\(w.wi L).many r=ť))\/(w.wi L).lacks s ((w.row[r]?).getD 0)=ť then w.names.length+3 else(w.row[r]?).getD 0)
  else if(w.wi L).ends s=ğ\/(w.st[r]?).getD ğ=ğ then w.names.length+3
  else if(w.wi L).text r=ğ then w.names.length+1
  else if s=w.names.length+2 then w.names.length+3 else w.names.length+2:=rfl
 have hrw:=hrow r;obtain⟨X,hX⟩:∃X,X=(w.wi L).next s r:=⟨_,rfl⟩;rw[<-hX]at hx⊢;clear hX;have hattr:∀b,L[r]?=ś b->(w.wi L).attr r=decide (b.kind=4)/\(w.wi L).many r=b.many/\(w.wi L).text r=decide (b.kind=1):=λb hb=>by simp[WD.wi,hb]
 generalize(w.wi L).ends s=en at *;have hlk:∀R:Nat,Fn ŷ jJ [.strct (w.c p L g),.int .i64 s,.int .i64 R] (.bool ((w.wi L).lacks s R)):=hlk;generalize(w.wi L).lacks s=lk at *;generalize(w.wi L).attr r=at' at *;generalize(w.wi L).many r=mn at *;generalize(w.wi L).text r=tx at *;simp only[WD.c,mkC,zAd,zAh]at hd hc ht he hlk⊢;refine yoA u3 ?_;simp;refine ae hd (by simp) λ_=>?_
 by_cases h1:w.names.length+3<=s
 ·have h1':(w.names.length:Int)+3<=s:=by omega
  rw[if_pos (.inl h1)]at hx;simp[h1'];refine ae hd (by simp) λ_=>?_
  simp[hx]
 ·have h1':¬(w.names.length:Int)+3<=s:=by omega
  by_cases h2:L.length<=r
  ·have h2':(L.length:Int)<=r:=by omega
   rw[if_pos (.inr h2)]at hx;simp[h1',h2'];refine ae hd (by simp) λ_=>?_
   simp[hx]
  ·have h2':¬(L.length:Int)<=r:=by omega
   rw[if_neg (by omega)]at hx
   obtain⟨b,hb⟩:=av (l:=L) (k:=r) (by omega)
   obtain⟨row,hrow2⟩:=av (l:=w.row) (k:=r) (by omega)
   obtain⟨st,hst⟩:=av (l:=w.st) (k:=r) (by omega)
   obtain⟨e1,e2,e3⟩:=hattr b hb;have hbv:b.v=.strct [.int .i64 b.kind,.str b.element,.str b.name,.bool b.many,.str b.value,.bool b.one,.bool b.two]:=rfl;rw[hrow2,hst,zCh,zCh]at hx;rw[hrow2,zCh]at hrw;have hl2:=hlk row;simp[h1',h2',hb,hbv];by_cases hk:b.kind=4
   ·rw[e1,if_pos (by simp[hk])]at hx
    simp[hk,hrow2]
    have hgoal:∀ag:Bool,ag=(decide (row=s)&&b.many)->(X=if w.names.length+1<=s\/row=0\/(row<=s/\ag=ğ)\/lk row=ť then w.names.length+3 else row):=λag hag=>by
     rw[hx,e2];subst hag;by_cases q:row=s<;>cases b.many<;>simp
    clear hx;by_cases hrs:row=s
    ·have hrs':(row:Int)=s:=by omega
     have hx:=hgoal b.many (by simp[hrs])
     clear hgoal;generalize b.many=ag at *;subst hrs;simp;refine ae hc (by simp) λ_=>?_
     by_cases h3:w.names.length+1<=row
     ·have h3':(w.names.length:Int)+1<=row:=by omega
      rw[if_pos (.inl h3)]at hx;simp[h3'];refine ae hd (by simp) λ_=>?_
      simp[hx]
     ·have h3':¬(w.names.length:Int)+1<=row:=by omega
      by_cases h4:row=0
      ·rw[if_pos (.inr (.inl h4))]at hx
       simp[h4];refine ae (by simpa[h4]using hd) (by simp) λ_=>?_
       simp[hx]
      ·have h4':¬(row:Int)=0:=by omega
       cases ag with
       |false=>
         rw[if_pos (.inr (.inr (.inl ⟨zGg _,rfl⟩)))]at hx;simp[h3',h4];refine ae hd (by simp) λ_=>?_
         simp[hx]
       |true=>
         simp[h3',h4];refine ae hl2 (by simp) λ_=>?_
         cases hlr:lk row with
         |true=>
           rw[if_pos (.inr (.inr (.inr hlr)))]at hx;simp;refine ae hd (by simp) λ_=>?_
           simp[hx]
         |false=>
           rw[if_neg (by simp[h3,h4,hlr])]at hx
           simp[hx]
    ·have hrs':¬(row:Int)=s:=by omega
     have hx:=hgoal ğ (by simp[hrs])
     clear hgoal;simp[hrs'];refine ae hc (by simp) λ_=>?_
     by_cases h3:w.names.length+1<=s
     ·have h3':(w.names.length:Int)+1<=s:=by omega
      rw[if_pos (.inl h3)]at hx;simp[h3'];refine ae hd (by simp) λ_=>?_
      simp[hx]
     ·have h3':¬(w.names.length:Int)+1<=s:=by omega
      by_cases h4:row=0
      ·rw[if_pos (.inr (.inl h4))]at hx
       simp[h3',h4];refine ae hd (by simp) λ_=>?_
       simp[hx]
      ·have h4':¬(row:Int)=0:=by omega
       by_cases h5:row<=s
       ·have h5':(row:Int)<=s:=by omega
        rw[if_pos (.inr (.inr (.inl ⟨h5,rfl⟩)))]at hx;simp[h3',h4,h5'];refine ae hd (by simp) λ_=>?_
        simp[hx]
       ·have h5':¬(row:Int)<=s:=by omega
        simp[h3',h4,h5'];refine ae hl2 (by simp) λ_=>?_
        cases hlr:lk row with
        |true=>
          rw[if_pos (.inr (.inr (.inr hlr)))]at hx;simp;refine ae hd (by simp) λ_=>?_
          simp[hx]
        |false=>
          rw[if_neg (by simp[h3,h4,h5,hlr])]at hx
          simp[hx]
   ·rw[e1,if_neg (by simp[hk])]at hx
    simp[hk];refine ae he (by simp) λ_=>?_
    cases hen:en with
    |false=>
      rw[if_pos (.inl hen)]at hx;simp;refine ae hd (by simp) λ_=>?_
      simp[hx]
    |true=>
      simp[hst];cases hst2:st with
      |false=>
        rw[if_pos (.inr hst2)]at hx;simp;refine ae hd (by simp) λ_=>?_
        simp[hx]
      |true=>
        rw[if_neg (by simp[hen,hst2]),e3]at hx
        by_cases hk1:b.kind=1
        ·rw[if_neg (by simp[hk1])]at hx
         simp[hk1];refine ae ht (by simp) λ_=>?_
         by_cases h6:s=w.names.length+2
         ·have h6':(s:Int)=(w.names.length:Int)+2:=by omega
          rw[if_pos h6]at hx;simp[h6'];refine ae hd (by simp) λ_=>?_
          simp[hx]
         ·have h6':¬(s:Int)=(w.names.length:Int)+2:=by omega
          rw[if_neg h6]at hx;simp[h6'];refine ae ht (by simp) λ_=>?_
          simp[hx]
        ·rw[if_pos (by simp[hk1])]at hx
         simp[hk1];refine ae hc (by simp) λ_=>?_
         simp[hx]
end
section
variable (p:Policy)(L:List Label)(g:Nat)
theorem K1(w:WD)(hw:w.few L)(s:Nat)(hs:s<=2000000):Fn ŷ eX [.strct (w.c p L g),.int .i64 s] (.int .i64 (if(w.wi L).ends s=ť then w.label else L.length)):=by
 have he:=qU p L g w hw s hs;have hl:=hw.ln;generalize(w.wi L).ends s=en at *;simp only[WD.c,mkC,zAd,zAh]at he⊢;refine yoA tf ?_;simp;refine ae he (by simp) λ_=>?_
 cases en<;>simp
theorem Fc(w:WD)(hw:w.few L)(s:Nat)(hs:s<=2000000):Fn ŷ d7 [.strct (w.c p L g),.int .i64 s] (.int .i64 (if(w.wi L).ends s=ť then 1 else 0)):=by
 have he:=qU p L g w hw s hs;generalize(w.wi L).ends s=en at *;simp only[WD.c,mkC,zAd,zAh]at he⊢;refine yoA qN ?_;simp;refine ae he (by simp) λ_=>?_
 cases en<;>simp
def CA(i:Nat):List V:=mkC p L g++[.int .i64 i]
theorem WY(i)(s r:Nat):Fn ŷ mV [.strct (CA p L g i),.int .i64 s,.int .i64 r] (.int .i64 1):=by
 refine yoA yN ?_;simp
theorem T4(al)(hg:∀b:Label,Fn ŷ g [b.v] (.bool (al b)))(hl:L.length<=1000000)(i)(b)(hb:L[i]?=ś b)(s:Nat):
 Fn ŷ lT [.strct (CA p L g i),.int .i64 s] (.int .i64 (if s=0/\qj al b=ť then i else L.length:Nat)):=by
 have hgb:=hg b;have hbv:b.v=.strct [.int .i64 b.kind,.str b.element,.str b.name,.bool b.many,.str b.value,.bool b.one,.bool b.two]:=rfl;rw[hbv]at hgb;obtain⟨X,hX⟩:∃X,X=(if s=0/\qj al b=ť then i else L.length:Nat):=⟨_,rfl⟩
 rw[<-hX];unfold qj at hX;generalize al b=ab at *;refine yoA wA ?_;have hlt:=(zAe.1 hb).1;simp[CA,mkC,hb,hbv];have hs0:(s:Int)=0↔s=0:=by omega
 by_cases h1:b.kind=1
 ·by_cases h0:s=0
  ·simp[h1,h0,hX]
  ·simp[h1,h0,hX]
 ·by_cases h2:b.kind=2
  ·by_cases h0:s=0
   ·simp[h2,h0,hX]
   ·simp[h2,h0,hX]
  ·by_cases h4:b.kind=4
   ·simp[h4]
    rw[h4]at hgb;refine aa hgb rfl λ_=>?_;by_cases h0:s=0
    ·cases ab<;>simp[h4,h0,hX]
    ·simp[h0,hX]
   ·by_cases h0:s=0
    ·simp[h1,h2,h4,h0,hX]
    ·simp[h1,h2,h4,h0,hX]
theorem ac6(b:Label):Fn ŷ qd [b.v] (.bool b.one):=by
 refine yoA CM ?_;simp[Label.v]
theorem ZH(b:Label):Fn ŷ oL [b.v] (.bool b.two):=by
 refine yoA A7 ?_;simp[Label.v]
def SideP.v(s:SideP):V:=.strct [.seq 1 (s.next.map λr=>.seq 1 (r.map nV)),.seq 1 (s.out.map nV)]
def aW{α:Type}(n i:Nat)(f:Nat->α)(z:α):List α:=(zAc n).map λj=>if j<i then f j else z
theorem fW{α n f}{z:α}:aW n 0 f z=zBf n z:=by
 simp[aW,List.map_const']
theorem nW{α n f}{z:α}:aW n n f z=(zAc n).map f:=
 zDi λj hj=>if_pos (zEa.1 hj)
theorem iV{α n i f}{z:α}:(aW n i f z).length=n:=by simp[aW]
theorem iU{α n i f}{z:α}(h:i<n):(aW n i f z).set i (f i)=aW n (i+1) f z:=by
 refine zCd λj=>?_;rw[zFg];simp only[aW,zBc,zDf,zFi];by_cases hij:i=j
 ·subst hij
  simp[h,zBe h]
 ·rw[if_neg hij]
  by_cases hj:j<n
  ·have:(j<i)=(j<i+1):=propext ⟨λh=>by omega,λh=>by omega⟩
   simp[zBe hj,this]
  ·simp[zAj (l:=zAc n) (i:=j) (by simp;omega)]
theorem iW{α n i k f}{z:α}(h:k<n):(aW n i f z)[k]?=ś (if k<i then f k else z):=by
 simp[aW,zBe h]
theorem pe{f:Nat->Int}:∀l:List Nat,dJ (l.map λk=>V.int .i64 (f k))=ť
 |[]=>rfl
 |x::l=>by
   have:=pe (f:=f) l;simp[this]
theorem ajr(n own)(next)(tells):(fM n own next tells).v=.strct [.seq 1 ((zAc own).map λj=>.seq 1 ((zAc (n+1)).map λk=>nV (next j k))),.seq 1 ((zAc own).map λj=>nV (tells j))]:=by
 simp[SideP.v,fM,zBg]
theorem Fj(i)(a b own:Nat)(hown:own<=1000000)(next)(tells)(hl:L.length<=1000000)
 (ha:∀s r,s<own->r<=L.length->Fn ŷ a [.strct (CA p L g i),.int .i64 s,.int .i64 r] (.int .i64 (next s r:Nat))) (hb:∀s,s<own->Fn ŷ b [.strct (CA p L g i),.int .i64 s] (.int .i64 (tells s:Nat))):
 FnN ŷ dQ [.strct (mkC p L g),.int .i64 own,.fn (.func a) [.strct (CA p L g i)] [],.fn (.func b) [.strct (CA p L g i)] []] (fM L.length own next tells).v:=by
 simp only[CA,mkC,zAd,zAh]at ha hb⊢;refine FnN.of_image mixed l5.1 l5.2 rfl λho=>?_;unfold gz;clear ho;simp;obtain⟨W,hW⟩:∃W,W=(fM L.length own next tells).v:=⟨_,rfl⟩
 rw[<-hW]
 refine cd ⟨[(1,.int .i64 own),(2,.fn (.func a) [.strct [.seq 1 (p.top.map .str),.seq 3 (p.elements.map Allowed.v),.seq 1 (p.unwrap.map .str),.seq 7 (L.map Label.v),.fn (.func g) [] [],.int .i64 i]] []),(3,.fn (.func b) [.strct [.seq 1 (p.top.map .str),.seq 3 (p.elements.map Allowed.v),.seq 1 (p.unwrap.map .str),.seq 7 (L.map Label.v),.fn (.func g) [] [],.int .i64 i]] []),(4,.ptr 0 0),(8,.ptr 1 0),(9,.ptr 2 0)],
  [ś (.box [.seq 1 (p.top.map .str),.seq 3 (p.elements.map Allowed.v),.seq 1 (p.unwrap.map .str),.seq 7 (L.map Label.v),.fn (.func g) [] []]),ś (.box [.nil 1,.nil 1]),ś (.box [.ref 3 own,.ref 4 own]),ś (.mat aN ap 1 (sm (aW own 0 (λj=>(zAc (L.length+1)).map λk=>nV (next j k)) []))),ś (.arr ap 1 (aW own 0 (λj=>nV (tells j)) (nV 0)))]⟩ (λF hF=>?_) ?_
 ·try simp at hF
  rw[fW,fW]at hF
  repeat' (first
   |with_reducible exact hF
   |refine QU.mk ?_ ?_
   |(simp(disch:=omega)))
 simp
 refine ah (λi':Nat=>⟨[(2,.fn (.func a) [.strct [.seq 1 (p.top.map .str),.seq 3 (p.elements.map Allowed.v),.seq 1 (p.unwrap.map .str),.seq 7 (L.map Label.v),.fn (.func g) [] [],.int .i64 i]] []),(3,.fn (.func b) [.strct [.seq 1 (p.top.map .str),.seq 3 (p.elements.map Allowed.v),.seq 1 (p.unwrap.map .str),.seq 7 (L.map Label.v),.fn (.func g) [] [],.int .i64 i]] []),(4,.ptr 0 0),(8,.ptr 1 0),(9,.ptr 2 0),(18,.int .i64 own),(19,.int .i64 i')],
  [ś (.box [.seq 1 (p.top.map .str),.seq 3 (p.elements.map Allowed.v),.seq 1 (p.unwrap.map .str),.seq 7 (L.map Label.v),.fn (.func g) [] []]),ś (.box [.nil 1,.nil 1]),ś (.box [.ref 3 own,.ref 4 own]),ś (.mat aN ap 1 (sm (aW own i' (λj=>(zAc (L.length+1)).map λk=>nV (next j k)) []))),ś (.arr ap 1 (aW own i' (λj=>nV (tells j)) (nV 0)))]⟩)
  (λi'=>i'<=own) (λi'=>own-i') [] _ 0 rfl (by simp) (by simp) ?_
 intro i' hi' N hN;rcases zAg i' own with hlt|hge
 ·have hbi:=hb i' hlt
  have hai:=ha i';simp(disch:=omega)
  refine ah (λk:Nat=>⟨[(2,.fn (.func a) [.strct [.seq 1 (p.top.map .str),.seq 3 (p.elements.map Allowed.v),.seq 1 (p.unwrap.map .str),.seq 7 (L.map Label.v),.fn (.func g) [] [],.int .i64 i]] []),(3,.fn (.func b) [.strct [.seq 1 (p.top.map .str),.seq 3 (p.elements.map Allowed.v),.seq 1 (p.unwrap.map .str),.seq 7 (L.map Label.v),.fn (.func g) [] [],.int .i64 i]] []),(4,.ptr 0 0),(8,.ptr 1 0),(9,.ptr 2 0),(10,.int .i64 i'),(11,.ref 3 (L.length+1)),(18,.int .i64 own),(19,.int .i64 i'),(28,.int .i64 (L.length+1:Nat)),(29,.int .i64 k)],
   [ś (.box [.seq 1 (p.top.map .str),.seq 3 (p.elements.map Allowed.v),.seq 1 (p.unwrap.map .str),.seq 7 (L.map Label.v),.fn (.func g) [] []]),ś (.box [.nil 1,.nil 1]),ś (.box [.ref 4 own,.ref 5 own]),ś (.arr ap 1 (aW (L.length+1) k (λk=>nV (next i' k)) (nV 0))),ś (.mat aN ap 1 (sm (aW own i' (λj=>(zAc (L.length+1)).map λk=>nV (next j k)) []))),ś (.arr ap 1 (aW own i' (λj=>nV (tells j)) (nV 0)))]⟩)
   (λk=>k<=L.length+1) (λk=>L.length+1-k) [] _ 0 rfl (by simp[fW]) (by simp) ?_
  intro k hk N' hN';rcases zAg k (L.length+1)with hlt2|hge2
  ·have hak:=hai k hlt (by omega)
   have hset:=iU (f:=λk=>nV (next i' k)) (z:=nV 0) hlt2
   have hl2:=iV (n:=L.length+1) (i:=k) (f:=λk=>nV (next i' k)) (z:=nV 0)
   have hxk:(aW (L.length+1) k (λk=>nV (next i' k)) (nV 0))[k]?=ś (.int .i64 0):=by rw[iW hlt2,if_neg (zBi _)];rfl
   generalize aW (L.length+1) k (λk=>nV (next i' k)) (nV 0)=X at *
   generalize aW own i' (λj=>(zAc (L.length+1)).map λk=>nV (next j k)) []=Y at *
   generalize aW own i' (λj=>nV (tells j)) (nV 0)=Z at *;simp(disch:=omega);refine ae hak (by simp) λ_=>?_
   simp(disch:=omega) [hxk];have hset2:X.set k (.int .i64 (next i' k))=aW (L.length+1) (k+1) (λk=>nV (next i' k)) (nV 0):=hset
   exact hN'.out _<|Nx.mk (k+1) (by simp[hset2]) (by omega) (by omega)
  ·obtain rfl:k=L.length+1:=by omega
   have hRall:aW (L.length+1) (L.length+1) (λk=>nV (next i' k)) (nV 0)=(zAc (L.length+1)).map λk=>nV (next i' k):=nW
   have hset:(aW own i' (λj=>(zAc (L.length+1)).map λk=>nV (next j k)) []).set i' ((zAc (L.length+1)).map λk=>nV (next i' k))=aW own (i'+1) (λj=>(zAc (L.length+1)).map λk=>nV (next j k)) []:=iU hlt
   have hset3:(aW own i' (λj=>nV (tells j)) (nV 0)).set i' (.int .i64 (tells i'))=aW own (i'+1) (λj=>nV (tells j)) (nV 0):=iU hlt;have hy1:=iV (n:=own) (i:=i') (f:=λj=>(zAc (L.length+1)).map λk=>nV (next j k)) (z:=([]:List V))
   have hz1:=iV (n:=own) (i:=i') (f:=λj=>nV (tells j)) (z:=nV 0);have hyg:(aW own i' (λj=>(zAc (L.length+1)).map λk=>nV (next j k)) [])[i']?=ś []:=by rw[iW hlt,if_neg (zBi _)]
   have hzg:(aW own i' (λj=>nV (tells j)) (nV 0))[i']?=ś (.int .i64 0):=by rw[iW hlt,if_neg (zBi _)];rfl
   rw[hRall];have hRl:((zAc (L.length+1)).map λk=>nV (next i' k)).length=L.length+1:=by simp
   generalize aW own i' (λj=>(zAc (L.length+1)).map λk=>nV (next j k)) []=Y at *
   generalize aW own i' (λj=>nV (tells j)) (nV 0)=Z at *;generalize((zAc (L.length+1)).map λk=>nV (next i' k))=R at *
   simp;refine az hbi (by simp) ?_
   simp(disch:=omega)
   refine cd ⟨[(2,.fn (.func a) [.strct [.seq 1 (p.top.map .str),.seq 3 (p.elements.map Allowed.v),.seq 1 (p.unwrap.map .str),.seq 7 (L.map Label.v),.fn (.func g) [] [],.int .i64 i]] []),(3,.fn (.func b) [.strct [.seq 1 (p.top.map .str),.seq 3 (p.elements.map Allowed.v),.seq 1 (p.unwrap.map .str),.seq 7 (L.map Label.v),.fn (.func g) [] [],.int .i64 i]] []),(4,.ptr 0 0),(8,.ptr 1 0),(9,.ptr 2 0),(18,.int .i64 own),(19,.int .i64 i')],
    [ś (.box [.seq 1 (p.top.map .str),.seq 3 (p.elements.map Allowed.v),.seq 1 (p.unwrap.map .str),.seq 7 (L.map Label.v),.fn (.func g) [] []]),ś (.box [.nil 1,.nil 1]),ś (.box [.ref 3 own,.ref 4 own]),ś (.mat aN ap 1 (sm (Y.set i' R))),ś (.arr ap 1 (Z.set i' (.int .i64 (tells i'))))]⟩ (λF hF=>?_) ?_
   ·try simp at hF
    repeat' (first
     |with_reducible exact hF
     |refine QU.mk ?_ ?_
     |(simp(disch:=omega) [hyg,hzg]))
   simp(disch:=omega);exact hN.out _<|Nx.mk (i'+1) (by simp[hset,hset3]) (by omega) (by omega)
 ·obtain rfl:i'=own:=by omega
  rw[nW,nW];simp;rw[hW,ajr,zBg];exact⟨⟨λ_ _=>pe _,pe _⟩,rfl⟩
theorem rY(w:WD)(a b own:Nat)(hown:own<=1000000)(next)(tells)(hl:L.length<=1000000)
 (ha:∀s r,s<own->r<=L.length->Fn ŷ a [.strct (w.c p L g),.int .i64 s,.int .i64 r] (.int .i64 (next s r:Nat))) (hb:∀s,s<own->Fn ŷ b [.strct (w.c p L g),.int .i64 s] (.int .i64 (tells s:Nat))):
 FnN ŷ dQ [.strct (mkC p L g),.int .i64 own,.fn (.func a) [.strct (w.c p L g)] [],.fn (.func b) [.strct (w.c p L g)] []] (fM L.length own next tells).v:=by
 simp only[WD.c,mkC,zAd,zAh]at ha hb⊢;refine FnN.of_image mixed l5.1 l5.2 rfl λho=>?_;unfold gz;clear ho;simp;obtain⟨W,hW⟩:∃W,W=(fM L.length own next tells).v:=⟨_,rfl⟩
 rw[<-hW]
 refine cd ⟨[(1,.int .i64 own),(2,.fn (.func a) [.strct [.seq 1 (p.top.map .str),.seq 3 (p.elements.map Allowed.v),.seq 1 (p.unwrap.map .str),.seq 7 (L.map Label.v),.fn (.func g) [] [],.int .i64 w.label,.seq 1 (w.names.map .str),.seq 1 (w.row.map nV),.seq 1 (w.st.map .bool),.seq 1 (w.nd.map nV)]] []),(3,.fn (.func b) [.strct [.seq 1 (p.top.map .str),.seq 3 (p.elements.map Allowed.v),.seq 1 (p.unwrap.map .str),.seq 7 (L.map Label.v),.fn (.func g) [] [],.int .i64 w.label,.seq 1 (w.names.map .str),.seq 1 (w.row.map nV),.seq 1 (w.st.map .bool),.seq 1 (w.nd.map nV)]] []),(4,.ptr 0 0),(8,.ptr 1 0),(9,.ptr 2 0)],
  [ś (.box [.seq 1 (p.top.map .str),.seq 3 (p.elements.map Allowed.v),.seq 1 (p.unwrap.map .str),.seq 7 (L.map Label.v),.fn (.func g) [] []]),ś (.box [.nil 1,.nil 1]),ś (.box [.ref 3 own,.ref 4 own]),ś (.mat aN ap 1 (sm (aW own 0 (λj=>(zAc (L.length+1)).map λk=>nV (next j k)) []))),ś (.arr ap 1 (aW own 0 (λj=>nV (tells j)) (nV 0)))]⟩ (λF hF=>?_) ?_
 ·try simp at hF
  rw[fW,fW]at hF
  repeat' (first
   |with_reducible exact hF
   |refine QU.mk ?_ ?_
   |(simp(disch:=omega)))
 simp
 refine ah (λi':Nat=>⟨[(2,.fn (.func a) [.strct [.seq 1 (p.top.map .str),.seq 3 (p.elements.map Allowed.v),.seq 1 (p.unwrap.map .str),.seq 7 (L.map Label.v),.fn (.func g) [] [],.int .i64 w.label,.seq 1 (w.names.map .str),.seq 1 (w.row.map nV),.seq 1 (w.st.map .bool),.seq 1 (w.nd.map nV)]] []),(3,.fn (.func b) [.strct [.seq 1 (p.top.map .str),.seq 3 (p.elements.map Allowed.v),.seq 1 (p.unwrap.map .str),.seq 7 (L.map Label.v),.fn (.func g) [] [],.int .i64 w.label,.seq 1 (w.names.map .str),.seq 1 (w.row.map nV),.seq 1 (w.st.map .bool),.seq 1 (w.nd.map nV)]] []),(4,.ptr 0 0),(8,.ptr 1 0),(9,.ptr 2 0),(18,.int .i64 own),(19,.int .i64 i')],
  [ś (.box [.seq 1 (p.top.map .str),.seq 3 (p.elements.map Allowed.v),.seq 1 (p.unwrap.map .str),.seq 7 (L.map Label.v),.fn (.func g) [] []]),ś (.box [.nil 1,.nil 1]),ś (.box [.ref 3 own,.ref 4 own]),ś (.mat aN ap 1 (sm (aW own i' (λj=>(zAc (L.length+1)).map λk=>nV (next j k)) []))),ś (.arr ap 1 (aW own i' (λj=>nV (tells j)) (nV 0)))]⟩)
  (λi'=>i'<=own) (λi'=>own-i') [] _ 0 rfl (by simp) (by simp) ?_
 intro i' hi' N hN;rcases zAg i' own with hlt|hge
 ·have hbi:=hb i' hlt
  have hai:=ha i';simp(disch:=omega)
  refine ah (λk:Nat=>⟨[(2,.fn (.func a) [.strct [.seq 1 (p.top.map .str),.seq 3 (p.elements.map Allowed.v),.seq 1 (p.unwrap.map .str),.seq 7 (L.map Label.v),.fn (.func g) [] [],.int .i64 w.label,.seq 1 (w.names.map .str),.seq 1 (w.row.map nV),.seq 1 (w.st.map .bool),.seq 1 (w.nd.map nV)]] []),(3,.fn (.func b) [.strct [.seq 1 (p.top.map .str),.seq 3 (p.elements.map Allowed.v),.seq 1 (p.unwrap.map .str),.seq 7 (L.map Label.v),.fn (.func g) [] [],.int .i64 w.label,.seq 1 (w.names.map .str),.seq 1 (w.row.map nV),.seq 1 (w.st.map .bool),.seq 1 (w.nd.map nV)]] []),(4,.ptr 0 0),(8,.ptr 1 0),(9,.ptr 2 0),(10,.int .i64 i'),(11,.ref 3 (L.length+1)),(18,.int .i64 own),(19,.int .i64 i'),(28,.int .i64 (L.length+1:Nat)),(29,.int .i64 k)],
   [ś (.box [.seq 1 (p.top.map .str),.seq 3 (p.elements.map Allowed.v),.seq 1 (p.unwrap.map .str),.seq 7 (L.map Label.v),.fn (.func g) [] []]),ś (.box [.nil 1,.nil 1]),ś (.box [.ref 4 own,.ref 5 own]),ś (.arr ap 1 (aW (L.length+1) k (λk=>nV (next i' k)) (nV 0))),ś (.mat aN ap 1 (sm (aW own i' (λj=>(zAc (L.length+1)).map λk=>nV (next j k)) []))),ś (.arr ap 1 (aW own i' (λj=>nV (tells j)) (nV 0)))]⟩)
   (λk=>k<=L.length+1) (λk=>L.length+1-k) [] _ 0 rfl (by simp[fW]) (by simp) ?_
  intro k hk N' hN';rcases zAg k (L.length+1)with hlt2|hge2
  ·have hak:=hai k hlt (by omega)
   have hset:=iU (f:=λk=>nV (next i' k)) (z:=nV 0) hlt2
   have hl2:=iV (n:=L.length+1) (i:=k) (f:=λk=>nV (next i' k)) (z:=nV 0)
   have hxk:(aW (L.length+1) k (λk=>nV (next i' k)) (nV 0))[k]?=ś (.int .i64 0):=by rw[iW hlt2,if_neg (zBi _)];rfl
   generalize aW (L.length+1) k (λk=>nV (next i' k)) (nV 0)=X at *
   generalize aW own i' (λj=>(zAc (L.length+1)).map λk=>nV (next j k)) []=Y at *
   generalize aW own i' (λj=>nV (tells j)) (nV 0)=Z at *;simp(disch:=omega);refine ae hak (by simp) λ_=>?_
   simp(disch:=omega) [hxk];have hset2:X.set k (.int .i64 (next i' k))=aW (L.length+1) (k+1) (λk=>nV (next i' k)) (nV 0):=hset
   exact hN'.out _<|Nx.mk (k+1) (by simp[hset2]) (by omega) (by omega)
  ·obtain rfl:k=L.length+1:=by omega
   have hRall:aW (L.length+1) (L.length+1) (λk=>nV (next i' k)) (nV 0)=(zAc (L.length+1)).map λk=>nV (next i' k):=nW
   have hset:(aW own i' (λj=>(zAc (L.length+1)).map λk=>nV (next j k)) []).set i' ((zAc (L.length+1)).map λk=>nV (next i' k))=aW own (i'+1) (λj=>(zAc (L.length+1)).map λk=>nV (next j k)) []:=iU hlt
   have hset3:(aW own i' (λj=>nV (tells j)) (nV 0)).set i' (.int .i64 (tells i'))=aW own (i'+1) (λj=>nV (tells j)) (nV 0):=iU hlt;have hy1:=iV (n:=own) (i:=i') (f:=λj=>(zAc (L.length+1)).map λk=>nV (next j k)) (z:=([]:List V))
   have hz1:=iV (n:=own) (i:=i') (f:=λj=>nV (tells j)) (z:=nV 0);have hyg:(aW own i' (λj=>(zAc (L.length+1)).map λk=>nV (next j k)) [])[i']?=ś []:=by rw[iW hlt,if_neg (zBi _)]
   have hzg:(aW own i' (λj=>nV (tells j)) (nV 0))[i']?=ś (.int .i64 0):=by rw[iW hlt,if_neg (zBi _)];rfl
   rw[hRall];have hRl:((zAc (L.length+1)).map λk=>nV (next i' k)).length=L.length+1:=by simp
   generalize aW own i' (λj=>(zAc (L.length+1)).map λk=>nV (next j k)) []=Y at *
   generalize aW own i' (λj=>nV (tells j)) (nV 0)=Z at *;generalize((zAc (L.length+1)).map λk=>nV (next i' k))=R at *
   simp;refine az hbi (by simp) ?_
   simp(disch:=omega)
   refine cd ⟨[(2,.fn (.func a) [.strct [.seq 1 (p.top.map .str),.seq 3 (p.elements.map Allowed.v),.seq 1 (p.unwrap.map .str),.seq 7 (L.map Label.v),.fn (.func g) [] [],.int .i64 w.label,.seq 1 (w.names.map .str),.seq 1 (w.row.map nV),.seq 1 (w.st.map .bool),.seq 1 (w.nd.map nV)]] []),(3,.fn (.func b) [.strct [.seq 1 (p.top.map .str),.seq 3 (p.elements.map Allowed.v),.seq 1 (p.unwrap.map .str),.seq 7 (L.map Label.v),.fn (.func g) [] [],.int .i64 w.label,.seq 1 (w.names.map .str),.seq 1 (w.row.map nV),.seq 1 (w.st.map .bool),.seq 1 (w.nd.map nV)]] []),(4,.ptr 0 0),(8,.ptr 1 0),(9,.ptr 2 0),(18,.int .i64 own),(19,.int .i64 i')],
    [ś (.box [.seq 1 (p.top.map .str),.seq 3 (p.elements.map Allowed.v),.seq 1 (p.unwrap.map .str),.seq 7 (L.map Label.v),.fn (.func g) [] []]),ś (.box [.nil 1,.nil 1]),ś (.box [.ref 3 own,.ref 4 own]),ś (.mat aN ap 1 (sm (Y.set i' R))),ś (.arr ap 1 (Z.set i' (.int .i64 (tells i'))))]⟩ (λF hF=>?_) ?_
   ·try simp at hF
    repeat' (first
     |with_reducible exact hF
     |refine QU.mk ?_ ?_
     |(simp(disch:=omega) [hyg,hzg]))
   simp(disch:=omega);exact hN.out _<|Nx.mk (i'+1) (by simp[hset,hset3]) (by omega) (by omega)
 ·obtain rfl:i'=own:=by omega
  rw[nW,nW];simp;rw[hW,ajr,zBg];exact⟨⟨λ_ _=>pe _,pe _⟩,rfl⟩
end
theorem aiM(l:List Str)(s):∀k,fdx (λx=>decide (s=x)) k l=match l.findIdx? (λx=>decide (x=s))with
 |some i=>((k+i:Nat):Int)
 |none=>-1:=by
 induction l with
 |nil=>intro k;rfl
 |cons x l ih=>
   intro k;simp only[fdx,List.findIdx?_cons];by_cases h:s=x
   ·subst h;simp
   ·have h2:¬x=s:=λe=>h e.symm
    simp only[h,h2,decide_false,Bool.false_eq_true,if_false,ih];cases l.findIdx? (λx=>decide (x=s))with
    |none=>rfl
    |some i=>simp only[zCi];congr 1;omega
theorem afZ(l)(s):(if fdx (λx=>decide (s=x)) 0 l<0 then(l.length:Int)else fdx (λx=>decide (s=x)) 0 l)=jj l s:=by
 rw[aiM];unfold jj;cases l.findIdx? (λx=>decide (x=s))with
 |none=>simp
 |some i=>
   have:¬((0+i:Nat):Int)<0:=by omega
   simp only[this,if_false];omega
theorem Heap.purV{P:Program}{J κ κ0 M w w' ca H'}(h:Heap κ M (dR κ0 [] w [] ca J) w' H')(hu:Und (dR κ0 [] w [] ca J) w w'){r r' c}
 (hp:purs H' [r]=ś [r']) (hr:rep M (XX κ H') r c):
 ∃M',(∀p v,M p=ś v->M' p=ś v)/\(∀p v,M' p=ś v->w'.cell? p=ś v)/\(∀p v,M' p=ś v->M p=ś v\/w.heap.size<=p.block)/\rep M' NX r' c:=by
 have H:Rel 0 M (dR κ0 [] w [] ca J) w κ M ⟨[],H'⟩ { tmps:=#[],defers:=[] } w':=
  { dfr:=rfl,jst:=h.jst,pin:=λi hi=>(by cases hi),size:=rfl,regs:=λt v ht=>(by simp at ht),heap:=h.heap,inj:=h.inj,snd:=h.snd,sep:=h.sep
    sub:=⟨λ_ _ h=>h,h.fmS,λ_ _ _=>zFj _,zFj _,h.gl⟩,new:=λ_ _ h=>.inl h,base:=rfl,blw:=hu }
 obtain⟨ids,yO⟩:∃ids,ids=ax [r]:=⟨_,rfl⟩
 obtain⟨H2,hM⟩:=H.kill ids (λi hi=>by
  rw[yO]at hi;exact eT hp i hi)
 have k3:af (ext M w' (rm κ ids)) NX [r'] [c]:=by
  refine cz H hM (λi hi g hg p hpb=>?_) (by simp only[af];exact⟨c,[],rfl,hr,rfl⟩) hp
  unfold ext;rw[if_pos (eC.2 ⟨i,by rw[yO];exact hi,by rw[hpb];exact hg⟩)]
 refine⟨ext M w' (rm κ ids),hM,H2.snd,λp v hv=>?_,?_⟩
 ·rcases H2.new p v hv with h|h|⟨i,ob,g1,_⟩
  ·exact .inl h
  ·exact .inr h
  ·simp at g1
 ·simp only[af]at k3
  obtain⟨c',cs',e,k,_⟩:=k3;cases e;exact k
theorem FnH.purV{P f us H' r r'}(h:FnH P f [] us [] r H')(hp:purs H' [r]=ś [r']):Fn P f us r':=by
 intro M w ca hM hus o a Nx Q hN;refine h M w _ ca noJ (rI rfl) (FnH.start hM ca) (bv (λ_ _ h=>h) (λ_ _ h=>h.elim) _ _ hus) o a Nx Q ?_;intro c M' w' κ' hr hu hh hM1 hM2 _;obtain⟨M2,k1,k2,k3,k4⟩:=Heap.purV (P:=P) hh hu hp hr;refine hN c M2 w' k4 ⟨hu.os,hu.tape,hu.output,hu.size,λk hk=>hu.block k hk (λ⟨i,ob,g1,_⟩=>by simp at g1)⟩ k2 (λp v h=>k1 p v (hM1 p v h)) (λp v h=>?_)
 rcases k3 p v h with h|h
 ·rcases hM2 p v h with h|h|⟨i,ob,g1,_⟩
  ·exact .inl h
  ·exact .inr h
  ·simp at g1
 ·exact .inr h
section
variable (p:Policy)(L:List Label)(g:Nat)
theorem acZ(w:WD)(hn:w.names.length<=1000000)(req:List Str)(hq:req.length<13):
 FnH ŷ gU [0] [.ptr 0 0,.seq 1 (req.map .str)]
  [ś (.box [.seq 1 (p.top.map .str),.seq 3 (p.elements.map Allowed.v),.seq 1 (p.unwrap.map .str),.seq 7 (L.map Label.v),.fn (.func g) [] [],.int .i64 w.label,.ref 1 w.names.length,.ref 2 w.row.length,.ref 3 w.st.length,.nil 1]),
   ś (.arr aA 1 (w.names.map .str)),ś (.arr ap 1 (w.row.map nV)),ś (.arr aH 1 (w.st.map .bool))] (.tup [])
  [ś (.box [.seq 1 (p.top.map .str),.seq 3 (p.elements.map Allowed.v),.seq 1 (p.unwrap.map .str),.seq 7 (L.map Label.v),.fn (.func g) [] [],.int .i64 w.label,.ref 1 w.names.length,.ref 2 w.row.length,.ref 3 w.st.length,.ref 4 req.length]),
   ś (.arr aA 1 (w.names.map .str)),ś (.arr ap 1 (w.row.map nV)),ś (.arr aH 1 (w.st.map .bool)),ś (.arr ap 1 ((dz (req.map λs=>jj w.names s+1)).map nV))]:=by
 have hs:=aiO (req.map λs=>jj w.names s+1) (by simpa using hq)
 have hsl:(dz (req.map λs=>jj w.names s+1)).length=req.length:=by rw[(bo _).length_eq];simp
 have hidx:=λs=>kx w.names s;have hle:=aaZ w.names;have hfi:=afZ w.names;refine yoH pP ?_;simp
 refine ah (λk:Nat=>⟨[(0,.ptr 0 0),(7,.seq 1 (req.map .str)),(8,.int .i64 req.length),(9,.int .i64 k)],
  [ś (.box [.seq 1 (p.top.map .str),.seq 3 (p.elements.map Allowed.v),.seq 1 (p.unwrap.map .str),.seq 7 (L.map Label.v),.fn (.func g) [] [],.int .i64 w.label,.ref 1 w.names.length,.ref 2 w.row.length,.ref 3 w.st.length,.ref 4 k]),
   ś (.arr aA 1 (w.names.map .str)),ś (.arr ap 1 (w.row.map nV)),ś (.arr aH 1 (w.st.map .bool)),ś (.arr ap 1 (((req.take k).map λs=>jj w.names s+1).map nV))]⟩)
  (λk=>k<=req.length) (λk=>req.length-k) [.b 0 9 ap 1] _ 0 rfl (by simp) (by simp) ?_
 intro k hk N hN;rcases zAg k req.length with hlt|hge
 ·obtain⟨x,hx⟩:=av hlt
  have hix:=hidx x;have hlx:=hle x;have hfx:=hfi x;have hst:(req.take (k+1)).map (λs=>jj w.names s+1)=(req.take k).map (λs=>jj w.names s+1)++[jj w.names x+1]:=by simp[zCe,hx]
  have hlen:((req.take k).map λs=>jj w.names s+1).length=k:=by simp;omega
  generalize(req.take k).map (λs=>jj w.names s+1)=X at *;generalize jj w.names x=ix at *;generalize fdx (λy=>decide (x=y)) 0 w.names=z at *;simp(disch:=omega) [hx];refine aa hix rfl λ_=>?_;simp;by_cases hz:z<0
  ·rw[if_pos hz]at hfx
   simp(disch:=omega);refine hN.out _<|Nx.mk (k+1) (by simp[hst,hfx]) (by omega) (by omega)
  ·rw[if_neg hz]at hfx
   subst hfx;simp(disch:=omega);refine hN.out _<|Nx.mk (k+1) (by simp[hst]) (by omega) (by omega)
 ·obtain rfl:k=req.length:=by omega
  rw[zEf];have hl0:(req.map λs=>jj w.names s+1).length=req.length:=by simp
  generalize req.map (λs=>jj w.names s+1)=X at *;rw[hl0]at hs;simp;refine am [0] 1 [4] (by simp[hl0]) (by simp) (by simp) (by simp) hs (by simp) λ_ _=>?_
  simp
end
theorem IP{α n i f}{z:α}(h:f i=z):aW n (i+1) f z=aW n i f z:=by
 refine zDi λj _=>?_;by_cases hj:j<i
 ·rw[if_pos hj,if_pos (by omega)]
 ·by_cases hij:j=i
  ·subst hij;rw[if_pos (by omega),if_neg hj,h]
  ·rw[if_neg hj,if_neg (by omega)]
theorem Rl{par l b ns}:ar par ns (l++[b])=aR par (ar par ns l) b:=by
 rw[eA];rfl
theorem I1{par}:∀(l:List Label)(ns:List Str)(k:Nat)(b:Label),l[k]?=ś b->(bp par ns l)[k]?=ś (if lP par b then(aR par (ar par ns (l.take k)) b).length else 0)
 |[],ns,k,b,h=>by simp at h
 |x::l,ns,0,b,h=>by
   simp only[zFa,zBd]at h;subst h;simp only[bp,zFa,List.take_zero,ar];rfl
 |x::l,ns,k+1,b,h=>by
   simp only[zFb]at h;simpa only[bp,zFb,List.take_succ_cons,ar]using I1 l (aR par ns x) k b h
theorem MT(p)(par)(b)(n)(h:F4 [b] (bP 0)=[n]):Ip p par n=cH p par b:=by
 have hb:fV [b] 0=b:=rfl;rw[im]at h;simp only[bP,Tr.label,Tr.kids,hb]at h;unfold cH mW Ip;by_cases h1:b.kind=1
 ·simp[h1]at h
  subst h;by_cases h0:par=[]
  ·simp[h0,h1]
  ·cases hf:aJ p.elements par<;>simp[h0,h1,Allowed.zero,hasS]
 ·by_cases h2:b.kind=2
  ·simp[h2]at h
   subst h;by_cases h0:par=[]
   ·simp[h0,h2]
   ·cases hf:aJ p.elements par<;>simp[h0,h2,Allowed.zero,hasS]
  ·by_cases h3:b.kind=3
   ·simp[h3]at h
    subst h;by_cases h0:par=[]
    ·simp[h0,h3]
    ·cases hf:aJ p.elements par<;>simp[h0,h3,Allowed.zero,hasS]
   ·simp[h1,h2,h3]at h
theorem Vj{L k b}(hb:L[k]?=ś b):br L [bP k]=F4 [b] (bP 0):=by
 have h1:fV L k=b:=BR hb;have h2:fV [b] 0=b:=rfl;simp only[br,zDg];rw[im,im];simp only[bP,Tr.label,Tr.kids,h1,h2];rfl
theorem Mc{par}(ns)(b):(aR par ns b).length<=ns.length+1:=by
 unfold aR
 repeat' split
 all_goals simp
theorem dO{par}:∀(l:List Label)(ns:List Str),(ar par ns l).length<=ns.length+l.length
 |[],ns=>by simp[ar]
 |b::l,ns=>by
   have h1:=dO (par:=par) l (aR par ns b);have h2:=Mc (par:=par) ns b;simp only[ar,zAi];omega
theorem Yr{p par b}(h:F4 [b] (bP 0)=[]):cH p par b=false:=by
 have hb:fV [b] 0=b:=rfl;rw[im]at h;simp only[bP,Tr.label,Tr.kids,hb]at h;unfold cH;by_cases h1:b.kind=1
 ·simp[h1]at h
 ·by_cases h2:b.kind=2
  ·simp[h2]at h
  ·by_cases h3:b.kind=3
   ·simp[h3]at h
   ·simp[h1,h2,h3]
section
variable (p:Policy)(L:List Label)(g:Nat)
theorem W2(par:Str)(hl:L.length<=1000000):
 FnH ŷ s6 [] [.strct (mkC p L g),.str par] [] (.strct [.seq 1 (p.top.map .str),.seq 3 (p.elements.map Allowed.v),.seq 1 (p.unwrap.map .str),.seq 7 (L.map Label.v),.fn (.func g) [] [],.int .i64 0,.ref 0 (ar par [] L).length,.ref 1 L.length,.ref 2 L.length,.nil 1])
  [ś (.arr aA 1 ((ar par [] L).map .str)),ś (.arr ap 1 ((bp par [] L).map nV)),ś (.arr aH 1 ((L.map (cH p par)).map .bool))]:=by
 have hRf:(zAc L.length).map (λj=>nV (((bp par [] L)[j]?).getD 0))=(bp par [] L).map nV:=by
  refine zCd λj=>?_;rw[zBc,zBc];by_cases hj:j<L.length
  ·obtain⟨r,hr⟩:=av (l:=bp par [] L) (k:=j) (by rw[fX];exact hj)
   simp[zBe hj,hr]
  ·rw[zAj (by simp;omega),zAj (by rw[fX];omega)];rfl
 have hSf:(zAc L.length).map (λj=>V.bool ((L[j]?.map (cH p par)).getD ğ))=(L.map (cH p par)).map .bool:=by
  refine zCd λj=>?_;rw[zBc,zBc,zBc];by_cases hj:j<L.length
  ·obtain⟨r,hr⟩:=av hj
   simp[zBe hj,hr]
  ·rw[zAj (by simp;omega),zAj (l:=L) (by omega)];rfl
 unfold mkC;refine yoH th ?_;unfold kh;simp
 refine cd ⟨[(1,.str par),(2,.ptr 0 0),(4,.ptr 1 0),(5,.ptr 2 0)],
  [ś (.box [.seq 1 (p.top.map .str),.seq 3 (p.elements.map Allowed.v),.seq 1 (p.unwrap.map .str),.seq 7 (L.map Label.v),.fn (.func g) [] []]),ś (.box [.nil 1,.nil 3,.nil 1,.nil 7,.nilfn,.int .i64 0,.nil 1,.nil 1,.nil 1,.nil 1]),
   ś (.box [.seq 1 (p.top.map .str),.seq 3 (p.elements.map Allowed.v),.seq 1 (p.unwrap.map .str),.seq 7 (L.map Label.v),.fn (.func g) [] [],.int .i64 0,.nil 1,.ref 3 L.length,.ref 4 L.length,.nil 1]),
   ś (.arr ap 1 (aW L.length 0 (λj=>nV (((bp par [] L)[j]?).getD 0)) (nV 0))),ś (.arr aH 1 (aW L.length 0 (λj=>V.bool ((L[j]?.map (cH p par)).getD ğ)) (.bool ğ)))]⟩ (λF hF=>?_) ?_
 ·try simp at hF
  rw[fW,fW]at hF;have e0:zBf L.length (V.bool ğ)=be L.length λ_=>false:=by simp
  rw[e0]at hF
  repeat' (first
   |with_reducible exact hF
   |refine QU.mk ?_ ?_
   |(simp(disch:=omega)))
 simp
 refine ah (λk:Nat=>⟨[(1,.str par),(2,.ptr 0 0),(4,.ptr 1 0),(5,.ptr 2 0),(21,.seq 7 (L.map Label.v)),(22,.int .i64 L.length),(23,.int .i64 k)],
  [ś (.box [.seq 1 (p.top.map .str),.seq 3 (p.elements.map Allowed.v),.seq 1 (p.unwrap.map .str),.seq 7 (L.map Label.v),.fn (.func g) [] []]),ś (.box [.nil 1,.nil 3,.nil 1,.nil 7,.nilfn,.int .i64 0,.nil 1,.nil 1,.nil 1,.nil 1]),
   ś (.box [.seq 1 (p.top.map .str),.seq 3 (p.elements.map Allowed.v),.seq 1 (p.unwrap.map .str),.seq 7 (L.map Label.v),.fn (.func g) [] [],.int .i64 0,.ref 3 (ar par [] (L.take k)).length,.ref 4 L.length,.ref 5 L.length,.nil 1]),ś (.arr aA 1 ((ar par [] (L.take k)).map .str)),
   ś (.arr ap 1 (aW L.length k (λj=>nV (((bp par [] L)[j]?).getD 0)) (nV 0))),ś (.arr aH 1 (aW L.length k (λj=>V.bool ((L[j]?.map (cH p par)).getD ğ)) (.bool ğ)))]⟩)
  (λk=>k<=L.length) (λk=>L.length-k) [.b 2 6 aA 1] _ 0 rfl (by simp[ar]) (by simp) ?_
 intro k hk N hN;rcases zAg k L.length with hlt|hge
 ·obtain⟨b,hb⟩:=av hlt
  have hbv:b.v=.strct [.int .i64 b.kind,.str b.element,.str b.name,.bool b.many,.str b.value,.bool b.one,.bool b.two]:=rfl;have htk:L.take (k+1)=L.take k++[b]:=by rw[zCe,hb];rfl
  have hrow:=I1 (par:=par) L [] k b hb;have hnm:ar par [] (L.take (k+1))=aR par (ar par [] (L.take k)) b:=by rw[htk,Rl]
  have hnl:(ar par [] (L.take k)).length<=k:=by have:=dO (par:=par) (L.take k) [];simp at this;omega
  have hr1:=iU (f:=λj=>nV (((bp par [] L)[j]?).getD 0)) (z:=nV 0) hlt;have hr2:=IP (n:=L.length) (i:=k) (f:=λj=>nV (((bp par [] L)[j]?).getD 0)) (z:=nV 0);have hs1:=iU (f:=λj=>V.bool ((L[j]?.map (cH p par)).getD ğ)) (z:=V.bool ğ) hlt;have hs2:=IP (n:=L.length) (i:=k) (f:=λj=>V.bool ((L[j]?.map (cH p par)).getD ğ)) (z:=V.bool ğ);simp only[hrow,hb,zCh,zCi]at hr1 hr2 hs1 hs2;have hrg:(aW L.length k (λj=>nV (((bp par [] L)[j]?).getD 0)) (nV 0))[k]?=ś (.int .i64 0):=by rw[iW hlt,if_neg (zBi _)];rfl
  have hsg:(aW L.length k (λj=>V.bool ((L[j]?.map (cH p par)).getD ğ)) (.bool ğ))[k]?=ś (.bool ğ):=by rw[iW hlt,if_neg (zBi _)]
  have hrl:=iV (n:=L.length) (i:=k) (f:=λj=>nV (((bp par [] L)[j]?).getD 0)) (z:=nV 0);have hsl:=iV (n:=L.length) (i:=k) (f:=λj=>V.bool ((L[j]?.map (cH p par)).getD ğ)) (z:=V.bool ğ);obtain⟨RR',hRR'⟩:∃R,R=aW L.length (k+1) (λj=>nV (((bp par [] L)[j]?).getD 0)) (nV 0):=⟨_,rfl⟩;obtain⟨SS',hSS'⟩:∃R,R=aW L.length (k+1) (λj=>V.bool ((L[j]?.map (cH p par)).getD ğ)) (.bool ğ):=⟨_,rfl⟩;rw[<-hRR']at hr1 hr2;rw[<-hSS']at hs1 hs2;have hRv:aW L.length (k+1) (λj=>V.int .i64 ((((bp par [] L)[j]?).getD 0:Nat):Int)) (V.int .i64 0)=RR':=hRR'.symm;have hSv:=hSS'.symm;clear hRR' hSS';generalize aW L.length k (λj=>nV (((bp par [] L)[j]?).getD 0)) (nV 0)=RR at *;generalize aW L.length k (λj=>V.bool ((L[j]?.map (cH p par)).getD ğ)) (.bool ğ)=SS at *;simp(disch:=omega) [hb,hbv];by_cases hk4:b.kind=4
  ·have hst0:cH p par b=false:=by simp[cH,hk4]
   have hSS:SS'=SS:=hs2 (by rw[hst0])
   have hno:¬lP par b->RR'=RR/\aR par (ar par [] (L.take k)) b=ar par [] (L.take k):=λh=>by
    rw[if_neg h]at hr2;exact⟨hr2 rfl,ip h⟩
   have hyes:lP par b->RR.set k (.int .i64 ((aR par (ar par [] (L.take k)) b).length:Nat))=RR'/\aR par (ar par [] (L.take k)) b=if(ar par [] (L.take k)).getLast?=ś b.name then ar par [] (L.take k)else ar par [] (L.take k)++[b.name]:=λh=>by
    rw[if_pos h]at hr1;exact⟨hr1,io h⟩
   clear hr1 hr2 hs1 hs2 hrow;have hnl2:(ar par [] (L.take (k+1))).length<=k+1:=by have:=dO (par:=par) (L.take (k+1)) [];simp at this;omega
   rw[hnm]at hnl2;generalize aR par (ar par [] (L.take k)) b=X' at *;generalize ar par [] (L.take k)=X at *;simp[hk4];by_cases hp0:par=[]
   ·obtain⟨e1,e2⟩:=hno λh=>h.2.1 hp0
    subst hp0;simp(disch:=omega);exact hN.out _<|Nx.mk (k+1) (by simp[hnm,e1,e2,hSS,hRv,hSv]) (by omega) (by omega)
   ·by_cases hel:b.element=par
    ·obtain⟨e1,e2⟩:=hyes ⟨hk4,hp0,hel⟩
     simp[hp0,hel];by_cases hX:X=[]
     ·subst hX
      rw[if_neg (by simp)]at e2
      rw[e2]at e1;simp only[zAh,zAi,zFc]at e1;simp(disch:=omega) [hrg];exact hN.out _<|Nx.mk (k+1) (by simp[hnm,e2,hSS,hRv,hSv];simpa using e1) (by omega) (by omega)
     ·have hXl:0<X.length:=List.length_pos_iff.2 hX
      have hXl':¬(X.length:Int)=0:=by omega
      have hX1:(1:Int)<=X.length:=by omega
      have hX2:((X.length:Int)-1).toNat=X.length-1:=by omega
      obtain⟨y,hy⟩:=av (l:=X) (k:=X.length-1) (by omega)
      rw[List.getLast?_eq_getElem?,hy]at e2;by_cases hyb:y=b.name
      ·rw[if_pos (by rw[hyb])]at e2
       rw[e2]at e1;simp(disch:=omega) [hy,hrg];exact hN.out _<|Nx.mk (k+1) (by simp[hnm,e2,e1,hSS,hRv,hSv]) (by omega) (by omega)
      ·rw[if_neg (by simpa using hyb)]at e2
       rw[e2]at e1;simp only[zBa,zAi,zFc]at e1;simp(disch:=omega) [hy,hrg];exact hN.out _<|Nx.mk (k+1) (by simp[hnm,e2,hSS,hRv,hSv];simpa using e1) (by omega) (by omega)
    ·obtain⟨e1,e2⟩:=hno λh=>hel h.2.2
     simp(disch:=omega);exact hN.out _<|Nx.mk (k+1) (by simp[hnm,e1,e2,hSS,hRv,hSv]) (by omega) (by omega)
  ·have hno:¬lP par b:=λh=>hk4 h.1
   rw[if_neg hno]at hr2;have hRR:RR'=RR:=hr2 rfl;rw[ip hno]at hnm;clear hr1 hr2 hrow;have hnodes:=uy L (by omega) [bP k] (by simp[dw,nR,bP,gO,Tr.kids]) (by simp)
   rw[Vj hb]at hnodes;have hns:=ab9 [b] (bP 0);have hin:=MT p par b;have hnn:=Yr (p:=p) (par:=par) (b:=b);generalize F4 [b] (bP 0)=ns at *;have hlv:[bP k].map Tr.v=[.strct [.int .i64 k,.seq 2 []]]:=by simp[R6,lfV]
   rw[hlv]at hnodes;generalize ar par [] (L.take k)=X at *;simp[hk4];refine ae hnodes (by simp) λ_=>?_
   match ns,hns,hin,hnn with
   |[],_,_,hnn=>
     have hSS:SS'=SS:=hs2 (by rw[hnn rfl])
     simp
     refine ah (λ_:Nat=>⟨[(1,.str par),(2,.ptr 0 0),(4,.ptr 1 0),(5,.ptr 2 0),(6,.int .i64 k),(21,.seq 7 (L.map Label.v)),(22,.int .i64 L.length),(23,.int .i64 k),(36,.seq 5 []),(37,.int .i64 0),(38,.int .i64 0)],
      [ś (.box [.seq 1 (p.top.map .str),.seq 3 (p.elements.map Allowed.v),.seq 1 (p.unwrap.map .str),.seq 7 (L.map Label.v),.fn (.func g) [] []]),ś (.box [.nil 1,.nil 3,.nil 1,.nil 7,.nilfn,.int .i64 0,.nil 1,.nil 1,.nil 1,.nil 1]),
       ś (.box [.seq 1 (p.top.map .str),.seq 3 (p.elements.map Allowed.v),.seq 1 (p.unwrap.map .str),.seq 7 (L.map Label.v),.fn (.func g) [] [],.int .i64 0,.ref 3 X.length,.ref 4 L.length,.ref 5 L.length,.nil 1]),ś (.arr aA 1 (X.map .str)),ś (.arr ap 1 RR),ś (.arr aH 1 SS)]⟩)
      (λ_=>True) (λ_=>0) [] _ 0 rfl (by simp) (by simp) ?_
     intro _ _ N' hN';simp(disch:=omega);exact hN.out _<|Nx.mk (k+1) (by simp[hnm,hRR,hSS,hRv,hSv]) (by omega) (by omega)
   |[n],_,hin,_=>
     have hi:=H7 p par n;rw[hin n rfl]at hi;have hSS:SS.set k (.bool (cH p par b))=SS':=hs1;generalize cH p par b=sb at *;simp
     refine ah (λj:Nat=>⟨[(1,.str par),(2,.ptr 0 0),(4,.ptr 1 0),(5,.ptr 2 0),(6,.int .i64 k),(21,.seq 7 (L.map Label.v)),(22,.int .i64 L.length),(23,.int .i64 k),(36,.seq 5 [n.v]),(37,.int .i64 1),(38,.int .i64 j)],
      [ś (.box [.seq 1 (p.top.map .str),.seq 3 (p.elements.map Allowed.v),.seq 1 (p.unwrap.map .str),.seq 7 (L.map Label.v),.fn (.func g) [] []]),ś (.box [.nil 1,.nil 3,.nil 1,.nil 7,.nilfn,.int .i64 0,.nil 1,.nil 1,.nil 1,.nil 1]),
       ś (.box [.seq 1 (p.top.map .str),.seq 3 (p.elements.map Allowed.v),.seq 1 (p.unwrap.map .str),.seq 7 (L.map Label.v),.fn (.func g) [] [],.int .i64 0,.ref 3 X.length,.ref 4 L.length,.ref 5 L.length,.nil 1]),ś (.arr aA 1 (X.map .str)),ś (.arr ap 1 RR),ś (.arr aH 1 (if j=0 then SS else SS'))]⟩)
      (λj=>j<=1) (λj=>1-j) [] _ 0 rfl (by simp) (by simp) ?_
     intro j hj N' hN';have hj2:j=0\/j=1:=by omega
     rcases hj2 with rfl|rfl
     ·simp
      refine aw (by simpa using hi) rfl ?_
      simp(disch:=omega) [hsg];exact hN'.out _<|Nx.mk 1 (by simp[hSS]) (by omega) (by omega)
     ·simp(disch:=omega)
      exact hN.out _<|Nx.mk (k+1) (by simp[hnm,hRR,hRv,hSv]) (by omega) (by omega)
   |_::_::_,h,_,_=>simp at h
 ·obtain rfl:k=L.length:=by omega
  rw[zEf];simp;exact⟨nW.trans hRf,nW.trans hSf⟩
end
theorem Wi.ext_next{a b:Wi}(h1:a.len=b.len)(h2:a.nl=b.nl)(h3:a.row=b.row)(h4:a.many=b.many)(h5:a.attr=b.attr)(h6:a.text=b.text)(h7:a.stands=b.stands)(h8:∀n,n∈a.needed↔n∈b.needed):a.next=b.next/\a.ends=b.ends:=by
 have hl:a.lacks=b.lacks:=by
  funext f t;unfold Wi.lacks;rw[Bool.eq_iff_iff,zGb,zGb];constructor<;>(rintro⟨n,hn,h⟩;exact⟨n,by first|exact(h8 n).1 hn|exact(h8 n).2 hn,h⟩)
 have he:a.ends=b.ends:=by
  funext s;unfold Wi.ends;rw[hl,h1]
 refine⟨?_,he⟩;funext s r;unfold Wi.next;rw[he,hl,h1,h2,h3,h4,h5,h6,h7]
def fI(p:Policy)(L:List Label)(i:Int)(par:Str)(req:List Str):WD:=⟨i,ar par [] L,bp par [] L,L.map (cH p par),dz (req.map λs=>jj (ar par [] L) s+1)⟩
theorem UE(p)(L)(i)(par)(req):((fI p L i par req).wi L).next=(au p L par req).next/\((fI p L i par req).wi L).ends=(au p L par req).ends:=by
 refine Wi.ext_next rfl rfl rfl rfl rfl rfl ?_ λn=>?_
 ·funext r
  simp only[fI,WD.wi,au,zBc];cases L[r]?<;>rfl
 ·simp only[fI,WD.wi,au]
  exact(bo _).mem_iff
theorem Pc{p L i par req}(hl:L.length<=190)(hq:req.length<=12):(fI p L i par req).few L where
 names:=by have:=dO (par:=par) L [];simp only[fI];simp at this;omega
 row:=fX L []
 st:=by simp[fI]
 nd:=by simp only[fI];rw[(bo _).length_eq];simp;omega
 ln:=by omega
theorem Pt(p)(L)(i)(par)(req)(hl:L.length<=190)(r:Nat):((fI p L i par req).row[r]?).getD 0<=2000000:=by
 have h:=En p L par req r;have h2:=dO (par:=par) L [];simp only[au,fI]at h⊢;simp at h2;omega
section
variable (p:Policy)(L:List Label)(g:Nat)
theorem ZB(al)(hg:∀b:Label,Fn ŷ g [b.v] (.bool (al b)))(hl:L.length<=190)(hr:∀e∈p.elements,e.rules.length<=12)(i:Nat)(b)(hb:L[i]?=ś b):
 Fn ŷ qK [.strct (mkC p L g),.int .i64 i] (eo p L al i b).v:=by
 have hlt:=(zAe.1 hb).1;have hbv:b.v=.strct [.int .i64 b.kind,.str b.element,.str b.name,.bool b.many,.str b.value,.bool b.one,.bool b.two]:=rfl;have hleaf:=Fj p L g i mV lT 2 (by omega) (λ_ _=>1) (λs=>if s=0/\qj al b=ť then i else L.length) (by omega) (λs r _ _=>WY p L g i s r) (λs _=>T4 p L g al hg (by omega) i b hb s)
 have hls:fM L.length 2 (λ_ _=>1) (λs=>if s=0/\qj al b=ť then i else L.length)=jM L al i b:=rfl
 rw[hls]at hleaf;have hfind:=d8 p b.element;have hins:=W2 p L g b.element (by omega)
 have hside:∀e,aJ p.elements b.element=ś e->FnN ŷ dQ [.strct (mkC p L g),.int .i64 ((ar b.element [] L).length+3+1:Nat),.fn (.func cG) [.strct ((fI p L i b.element (oB e)).c p L g)] [],.fn (.func eX) [.strct ((fI p L i b.element (oB e)).c p L g)] []]
  (sy L (au p L b.element (b6 e)) i).v/\FnH ŷ gU [0] [.ptr 0 0,.seq 1 ((oB e).map .str)]
  [ś (.box [.seq 1 (p.top.map .str),.seq 3 (p.elements.map Allowed.v),.seq 1 (p.unwrap.map .str),.seq 7 (L.map Label.v),.fn (.func g) [] [],.int .i64 i,.ref 1 (ar b.element [] L).length,.ref 2 L.length,.ref 3 L.length,.nil 1]),
   ś (.arr aA 1 ((ar b.element [] L).map .str)),ś (.arr ap 1 ((bp b.element [] L).map nV)),ś (.arr aH 1 ((L.map (cH p b.element)).map .bool))] (.tup [])
  [ś (.box [.seq 1 (p.top.map .str),.seq 3 (p.elements.map Allowed.v),.seq 1 (p.unwrap.map .str),.seq 7 (L.map Label.v),.fn (.func g) [] [],.int .i64 i,.ref 1 (ar b.element [] L).length,.ref 2 L.length,.ref 3 L.length,.ref 4 (oB e).length]),
   ś (.arr aA 1 ((ar b.element [] L).map .str)),ś (.arr ap 1 ((bp b.element [] L).map nV)),ś (.arr aH 1 ((L.map (cH p b.element)).map .bool)),ś (.arr ap 1 ((dz ((oB e).map λs=>jj (ar b.element [] L) s+1)).map nV))]/\
  Fn ŷ kq [.strct ((fI p L i b.element (oB e)).c p L g)] (.int .i64 ((ar b.element [] L).length+3:Nat))/\(oB e).length<=12/\Fn ŷ p8 [e.v] (.seq 1 ((oB e).map .str)):=λe he=>by
  have hel:=hr e (k8 he).1
  have hq:(oB e).length<=12:=by
   have:=zFd (λr:Rule=>r.req) e.rules;simp only[oB,zDf];omega
  have hfew:(fI p L i b.element (oB e)).few L:=Pc hl hq;obtain⟨w1,w2⟩:=UE p L i b.element (oB e);have hnl:(ar b.element [] L).length<=190:=by have:=dO (par:=b.element) L [];simp at this;omega
  refine⟨?_,?_,lB p L g _ hfew,hq,De e (by omega)⟩
  ·refine rY p L g (fI p L i b.element (oB e)) cG eX _ (by omega) (au p L b.element (b6 e)).next (λs=>if(au p L b.element (b6 e)).ends s=ť then i else L.length) (by omega) (λs r hs hr=>?_) (λs hs=>?_)
   ·have:=zx p L g _ hfew s r (by omega) (by omega) (Pt p L i b.element (oB e) hl)
    rw[w1]at this;exact this
   ·have:=K1 p L g _ hfew s (by omega)
    rw[w2]at this
    have e:(if(au p L b.element (oB e)).ends s=ť then(fI p L i b.element (oB e)).label else(L.length:Int))=((if(au p L b.element (b6 e)).ends s=ť then i else L.length:Nat):Int):=by
     show(if(au p L b.element (b6 e)).ends s=ť then(i:Int)else(L.length:Int))=_
     split<;>rfl
    rw[e]at this;exact this
  ·have:=acZ p L g ⟨i,ar b.element [] L,bp b.element [] L,L.map (cH p b.element),[]⟩ (by simp only;omega) (oB e) (by omega)
   simp only[fX,zDf]at this;exact this
 have hso:eo p L al i b=if b.kind=3 then(match aJ p.elements b.element with
  |some e=>sy L (au p L b.element (b6 e)) i
  |none=>jM L al i b)else jM L al i b:=rfl
 generalize eo p L al i b=S at *;generalize jM L al i b=LS at *;simp only[mkC,CA,WD.c,fI,zAd,zAh]at hleaf hins hside⊢;obtain⟨Z,hZ⟩:∃Z,Z=S.v:=⟨_,rfl⟩;rw[<-hZ];refine yoE qO ?_;simp[hb,hbv];by_cases hk:b.kind=3
 ·rw[if_pos hk]at hso
  simp[hk];refine ae hfind (by simp) λ_=>?_
  cases he:aJ p.elements b.element with
  |none=>
    rw[he]at hso;simp only at hso;subst hso;unfold SideP.v at hleaf hZ;simp;refine fD hleaf λ_=>?_;simp[hZ]
  |some e=>
    rw[he]at hso;simp only at hso;subst hso;obtain⟨s1,s2,s3,s4,s5⟩:=hside e he;simp;refine am [] 0 [] (by simp) (by simp) (by simp) (by simp) hins (by simp) λ_ _=>?_
    simp;refine ae s5 (by simp) λ_=>?_
    simp;have hRl:(bp b.element [] L).length=L.length:=fX L [];have hNM:(ar b.element [] L).length<=190:=by have:=dO (par:=b.element) L [];simp at this;omega
    have hnq:(dz ((oB e).map λs=>jj (ar b.element [] L) s+1)).length=(oB e).length:=by rw[(bo _).length_eq];simp
    unfold SideP.v at s1 hZ;generalize dz ((oB e).map λs=>jj (ar b.element [] L) s+1)=ND at *;generalize bp b.element [] L=RW at *;generalize ar b.element [] L=NM at *;refine am [0] 1 [7,4,5,6] (by simp) (by simp) (by simp) (by simp) s2 (by simp) λ_ _=>?_
    simp[hRl,hnq];refine aw s3 rfl ?_;simp(disch:=omega);refine ol s1 ?_;simp[hZ]
 ·rw[if_neg hk]at hso
  subst hso;unfold SideP.v at hleaf hZ;simp[hk];refine fD hleaf λ_=>?_;simp[hZ]
end
def HedgeP.v(h:HedgeP):V:=.strct [.int .i64 h.states,.seq 2 (h.labels.map SideP.v),.seq 1 (h.root.next.map λr=>.seq 1 (r.map nV)),.seq 1 (h.root.out.map nV)]
section
variable (p:Policy)(L:List Label)(g:Nat)
theorem aa4(al)(hg:∀b:Label,Fn ŷ g [b.v] (.bool (al b)))(hl:L.length<=190)(hr:∀e∈p.elements,e.rules.length<=12):
 Fn ŷ uY [.strct (mkC p L g)] (ba p L al).v:=by
 have hlab:=ZB p L g al hg hl hr;have hins:=FnH.purV (W2 p L g [] (by omega)) (r':=.strct ((fI p L 0 [] []).c p L g)) (by simp[fI,WD.c,mkC,dz,fX])
 have hfew:(fI p L 0 [] []).few L:=Pc hl (by simp)
 have hdead:=lB p L g _ hfew;obtain⟨w1,w2⟩:=UE p L 0 [] [];have hnl:(ar [] [] L).length<=190:=by have:=dO (par:=[]) L [];simp at this;omega
 have hside:FnN ŷ dQ [.strct (mkC p L g),.int .i64 ((ar [] [] L).length+3+1:Nat),.fn (.func cG) [.strct ((fI p L 0 [] []).c p L g)] [],.fn (.func d7) [.strct ((fI p L 0 [] []).c p L g)] []] (rD p L).v:=by
  refine rY p L g (fI p L 0 [] []) cG d7 _ (by omega) (au p L [] []).next (λs=>if(au p L [] []).ends s=ť then 1 else 0) (by omega) (λs r hs hr=>?_) (λs hs=>?_)
  ·have:=zx p L g _ hfew s r (by omega) (by omega) (Pt p L 0 [] [] hl)
   rw[w1]at this;exact this
  ·have:=Fc p L g _ hfew s (by omega)
   rw[w2]at this;have e:(if(au p L [] []).ends s=ť then(1:Int)else 0)=((if(au p L [] []).ends s=ť then 1 else 0:Nat):Int):=by split<;>rfl
   rw[e]at this;exact this
 obtain⟨Z,hZ⟩:∃Z,Z=(ba p L al).v:=⟨_,rfl⟩;rw[<-hZ];have hZ2:Z=.strct [.int .i64 (L.length+1:Nat),.seq 2 ((L.mapIdx λi b=>eo p L al i b).map SideP.v),.seq 1 ((rD p L).next.map λr=>.seq 1 (r.map nV)),.seq 1 ((rD p L).out.map nV)]:=hZ;clear hZ w1 w2 hfew;unfold SideP.v at hside;generalize(rD p L).next=RN at *;generalize(rD p L).out=RO at *;simp only[mkC,WD.c,fI,zAd,zAh]at hlab hins hside hdead⊢;generalize dz (([]:List Str).map λs=>jj (ar [] [] L) s+1)=ND at *;generalize ar [] [] L=NM at *;generalize bp [] [] L=RW at *;generalize L.map (cH p [])=ST at *;refine yoA u7 ?_;simp(disch:=omega)
 refine ah (λk:Nat=>⟨[(1,.ptr 0 0),(2,.ptr 1 0),(3,.ptr 2 0),(13,.int .i64 L.length),(14,.int .i64 k)],
  [ś (.box [.seq 1 (p.top.map .str),.seq 3 (p.elements.map Allowed.v),.seq 1 (p.unwrap.map .str),.seq 7 (L.map Label.v),.fn (.func g) [] []]),ś (.box [.int .i64 0,.nil 2,.nil 1,.nil 1]),ś (.box [.int .i64 (L.length+1:Nat),.ref 3 k,.nil 1,.nil 1]),
   ś (.arr vp 2 (((L.mapIdx λi b=>eo p L al i b).take k).map SideP.v))]⟩)
  (λk=>k<=L.length) (λk=>L.length-k) [.b 2 1 vp 2] _ 0 rfl (by simp) (by simp) ?_
 intro k hk N hN;rcases zAg k L.length with hlt|hge
 ·obtain⟨b,hb⟩:=av hlt
  have hlk:=hlab k b hb
  have hst:((L.mapIdx λi b=>eo p L al i b).take (k+1)).map SideP.v=((L.mapIdx λi b=>eo p L al i b).take k).map SideP.v++[(eo p L al k b).v]:=by
   rw[zCe,List.getElem?_mapIdx,hb];simp
  have hlen:(((L.mapIdx λi b=>eo p L al i b).take k).map SideP.v).length=k:=by simp;omega
  generalize((L.mapIdx λi b=>eo p L al i b).take k).map SideP.v=X at *;generalize eo p L al k b=S at *;have hSv:S.v=.strct [.seq 1 (S.next.map λr=>.seq 1 (r.map nV)),.seq 1 (S.out.map nV)]:=rfl;rw[hSv]at hlk hst;simp(disch:=omega);refine az hlk (by simp) ?_
  simp(disch:=omega);exact hN.out _<|Nx.mk (k+1) (by simp[hst]) (by omega) (by omega)
 ·obtain rfl:k=L.length:=by omega
  have htk:(L.mapIdx λi b=>eo p L al i b).take L.length=L.mapIdx λi b=>eo p L al i b:=zDc (by simp)
  rw[htk];have hll:(L.mapIdx λi b=>eo p L al i b).length=L.length:=by simp
  generalize(L.mapIdx λi b=>eo p L al i b)=LS at *;simp;refine ae hins (by simp) λ_=>?_
  simp;refine aw hdead rfl ?_;simp(disch:=omega);refine ol hside ?_;simp[hll];rw[hZ2];simp
theorem mL(hl:L.length<=190)(hr:∀e∈p.elements,e.rules.length<=12):Fn ŷ Hi [p.v,.seq 7 (L.map Label.v)] (ba p L Label.one).v:=by
 have h:=aa4 p L qd Label.one ac6 hl hr;unfold HedgeP.v at h⊢;unfold mkC at h;refine yoA HA ?_;simp;refine ae h (by simp) λ_=>?_
 simp
theorem rZ(hl:L.length<=190)(hr:∀e∈p.elements,e.rules.length<=12):Fn ŷ EB [p.v,.seq 7 (L.map Label.v)] (ba p L Label.two).v:=by
 have h:=aa4 p L oL Label.two ZH hl hr;unfold HedgeP.v at h⊢;unfold mkC at h;refine yoA EO ?_;simp;refine ae h (by simp) λ_=>?_
 simp
end
theorem Wx{h s a t ts r}(hg:goT h s a (t::ts)=ś r):∃v row b,stT h t=ś v/\s.next[a]?=ś row/\row[v]?=ś b/\goT h s b ts=ś r:=by
 simp only[goT]at hg;split at hg
 ·cases hg
 ·rename_i v hv
  split at hg
  ·cases hg
  ·rename_i row hrow
   split at hg
   ·cases hg
   ·rename_i b hb
    exact⟨v,row,b,hv,hrow,hb,hg⟩
theorem ZG(h)(t)(hk:t.kids.length<=1000000)(hrec:∀u∈t.kids,∀v,stT h u=ś v->Fn ŷ qI [h.v,u.v] (.int .i64 v))(v)(hv:stT h t=ś v):Fn ŷ qI [h.v,t.v] (.int .i64 v):=by
 rw[XT]at hv;split at hv
 ·cases hv
 ·rename_i s hs
  split at hv
  ·cases hv
  ·rename_i a ha
   have hlt:=(zAe.1 hs).1;have hneg:¬(t.label:Int)<0:=by omega
   have hge:¬(h.labels.length:Int)<=t.label:=by omega
   have hsv:s.v=.strct [.seq 1 (s.next.map λr=>.seq 1 (r.map nV)),.seq 1 (s.out.map nV)]:=rfl;rw[Tr.v_eq];simp only[HedgeP.v]at hrec⊢;refine yoB MZ λho=>?_;simp only[oks,ok,and_true]at ho;have hll:h.labels.length<=140737488355328:=by have:=ho;simp at this;omega
   clear ho;simp[hge,hs,hsv]
   refine ah (λx:Nat×Nat=>⟨[(2,.ptr 0 0),(3,.ptr 1 0),(5,.ptr 2 0),(6,.int .i64 x.2),(7,.int .i64 x.1)],
    [ś (.box [.int .i64 h.states,.seq 2 (h.labels.map SideP.v),.seq 1 (h.root.next.map λr=>.seq 1 (r.map nV)),.seq 1 (h.root.out.map nV)]),ś (.box [.int .i64 t.label,.seq 2 (t.kids.map Tr.v)]),ś (.box [.seq 1 (s.next.map λr=>.seq 1 (r.map nV)),.seq 1 (s.out.map nV)])]⟩)
    (λx=>x.1<=t.kids.length/\goT h s x.2 (t.kids.drop x.1)=ś a) (λx=>t.kids.length-x.1) [] _ (0,0) rfl (by simp) (by simp[ha]) ?_
   rintro⟨k,at'⟩ ⟨hk2,hi⟩ N hN;simp only at hk2 hi;rcases place t.kids k hk2 with⟨he,hd⟩|⟨hlt2,u,hu,hd⟩<;>rw[hd]at hi
   ·simp only[goT,zBd]at hi
    subst hi;simp[he,hv]
   ·obtain⟨v',row,b,e1,e2,e3,e4⟩:=Wx hi
    have hr:=hrec u (zAb hu) v' e1;have huv:=Tr.v_eq u;rw[huv]at hr;have hn:¬(v':Int)<0:=by omega
    simp(disch:=omega) [hu,huv];refine aw hr rfl ?_;simp(disch:=omega) [e2,e3];exact hN.out _<|Nx.mk (k+1,b) (by simp) ⟨by simp only;omega,e4⟩ (by simp only;omega)
theorem OE(h):∀ts:List Tr,dw gO ts->∀t∈ts,∀v,stT h t=ś v->Fn ŷ qI [h.v,t.v] (.int .i64 v):=by
 refine kJ (λ_ t h=>by cases h) ?_
 intro t l h1 h2 ha x hx;simp only[dw,nR]at ha;rcases zAf.1 hx with rfl|hx
 ·exact ZG h x ha.1.1 (h1 ha.1.2)
 ·exact h2 ha.2 x hx
theorem H4(h)(ts)(hts:dw gO ts)(hlen:ts.length<=1000000)(a o)(hg:goT h h.root 0 ts=ś a)(ho2:h.root.out[a]?=ś o):Fn ŷ iD [h.v,.seq 2 (ts.map Tr.v)] (.bool (xW h ts)):=by
 have hacc:xW h ts=decide (o=1):=by simp[xW,hg,ho2]
 rw[hacc];have hst:=OE h ts hts;simp only[HedgeP.v]at hst⊢;refine yoA Hn ?_;simp
 refine ah (λx:Nat×Nat=>⟨[(1,.seq 2 (ts.map Tr.v)),(2,.ptr 0 0),(5,.int .i64 x.2),(6,.int .i64 x.1)],
  [ś (.box [.int .i64 h.states,.seq 2 (h.labels.map SideP.v),.seq 1 (h.root.next.map λr=>.seq 1 (r.map nV)),.seq 1 (h.root.out.map nV)])]⟩)
  (λx=>x.1<=ts.length/\goT h h.root x.2 (ts.drop x.1)=ś a) (λx=>ts.length-x.1) [] _ (0,0) rfl (by simp) (by simp[hg]) ?_
 rintro⟨k,at'⟩ ⟨hk2,hi⟩ N hN;simp only at hk2 hi;rcases place ts k hk2 with⟨he,hd⟩|⟨hlt2,u,hu,hd⟩<;>rw[hd]at hi
 ·simp only[goT,zBd]at hi
  subst hi;have h1:((o:Int)=1)=(o=1):=propext (by omega)
  simp[he,ho2]
 ·obtain⟨v',row,b,e1,e2,e3,e4⟩:=Wx hi
  have hr:=hst u (zAb hu) v' e1;have huv:=Tr.v_eq u;rw[huv]at hr;have hn:¬(v':Int)<0:=by omega
  simp(disch:=omega) [hu,huv];refine aw hr rfl ?_;simp(disch:=omega) [e2,e3];exact hN.out _<|Nx.mk (k+1,b) (by simp) ⟨by simp only;omega,e4⟩ (by simp only;omega)
structure SideOK (s:SideP) (st out:Nat):Prop where
 pos:1<=s.next.length
 few:s.next.length<=200
 len:s.out.length=s.next.length
 rows:∀r∈s.next,r.length=st/\∀v∈r,v<s.next.length
 G8:∀o∈s.out,o<out
theorem C6(s)(st out)(hs:SideOK s st out)(hst:st<=200)(hout:out<=200):Fn ŷ Rm [s.v,.int .i64 st,.int .i64 out] (.bool ť):=by
 obtain⟨h1,h2,h3,h4,h5⟩:=hs;unfold SideP.v;refine yoA Sg ?_;have e1:¬(s.next.length:Int)<1:=by omega
 have e2:¬(200:Int)<s.next.length:=by omega
 simp[e1,e2,h3]
 refine ah (λk:Nat=>⟨[(1,.int .i64 st),(2,.int .i64 out),(3,.ptr 0 0),(7,.int .i64 s.next.length),(8,.int .i64 k)],[ś (.box [.seq 1 (s.next.map λr=>.seq 1 (r.map nV)),.seq 1 (s.out.map nV)])]⟩)
  (λk=>k<=s.next.length) (λk=>s.next.length-k) [] _ 0 rfl (by simp) (by simp) ?_
 intro k hk N hN;rcases zAg k s.next.length with hlt|hge
 ·obtain⟨row,hrow⟩:=av hlt
  obtain⟨o,ho⟩:=av (l:=s.out) (k:=k) (by omega)
  obtain⟨r1,r2⟩:=h4 row (zAb hrow);have ho2:=h5 o (zAb ho);have f1:¬(o:Int)<0:=by omega
  have f2:¬(out:Int)<=o:=by omega
  simp(disch:=omega) [hrow,ho]
  refine ah (λj:Nat=>⟨[(1,.int .i64 st),(2,.int .i64 out),(3,.ptr 0 0),(7,.int .i64 s.next.length),(8,.int .i64 k),(9,.int .i64 j)],[ś (.box [.seq 1 (s.next.map λr=>.seq 1 (r.map nV)),.seq 1 (s.out.map nV)])]⟩)
   (λj=>j<=st) (λj=>st-j) [] _ 0 rfl (by simp) (by simp) ?_
  intro j hj N' hN';rcases zAg j st with hlt2|hge2
  ·obtain⟨v,hv⟩:=av (l:=row) (k:=j) (by omega)
   have hv2:=r2 v (zAb hv);have f1:¬(v:Int)<0:=by omega
   have f2:¬(s.next.length:Int)<=v:=by omega
   simp(disch:=omega) [hrow,hv];exact hN'.out _<|Nx.mk (j+1) (by simp) (by omega) (by omega)
  ·obtain rfl:j=st:=by omega
   simp(disch:=omega);exact hN.out _<|Nx.mk (k+1) (by simp) (by omega) (by omega)
 ·obtain rfl:k=s.next.length:=by omega
  simp
theorem WN(h:HedgeP)(h1:1<=h.states)(h2:h.states<=200)(hl:h.labels.length<=200)(hs:∀s∈h.labels,SideOK s h.states h.states)(hr:SideOK h.root h.states 2):Fn ŷ Gb [h.v] (.bool ť):=by
 have hside:=λs hm=>C6 s h.states h.states (hs s hm) h2 h2;have hroot:=C6 h.root h.states 2 hr h2 (by omega)
 unfold SideP.v at hroot;unfold HedgeP.v;refine yoA VO ?_;have e1:¬(h.states:Int)<1:=by omega
 have e2:¬(200:Int)<h.states:=by omega
 simp[e1,e2]
 refine ah (λk:Nat=>⟨[(1,.ptr 0 0),(3,.int .i64 k)],[ś (.box [.int .i64 h.states,.seq 2 (h.labels.map SideP.v),.seq 1 (h.root.next.map λr=>.seq 1 (r.map nV)),.seq 1 (h.root.out.map nV)])]⟩)
  (λk=>k<=h.labels.length) (λk=>h.labels.length-k) [] _ 0 rfl (by simp) (by simp) ?_
 intro k hk N hN;rcases zAg k h.labels.length with hlt|hge
 ·obtain⟨s,hs2⟩:=av hlt
  have hc:=hside s (zAb hs2);have hsv:s.v=.strct [.seq 1 (s.next.map λr=>.seq 1 (r.map nV)),.seq 1 (s.out.map nV)]:=rfl;rw[hsv]at hc;simp(disch:=omega) [hs2,hsv];refine aw hc rfl ?_;simp(disch:=omega);exact hN.out _<|Nx.mk (k+1) (by simp) (by omega) (by omega)
 ·obtain rfl:k=h.labels.length:=by omega
  simp;refine aa hroot rfl λ_=>?_;simp
end Go.Abs.F
end
section
set_option maxHeartbeats 1000000
set_option maxRecDepth 100000
namespace Go.Abs.F
open Go.Proofs
attribute [-simp] getElem?_pos zDb zBg
def wV(n:Node):Prop:=n.attrs.length<=5
theorem EZ:∀(l acc:List Attr),(ku acc l).length<=acc.length+l.length
 |[],acc=>by simp[ku]
 |a::l,acc=>by
   simp only[ku,zAi];split
   ·have:=EZ l acc;omega
   ·have:=EZ l (acc++[⟨cJ a.name,eS a.value⟩]);simp at this;omega
theorem s8{l}(h:aq wV l):aq wV (dt l):=
 bF.2 (PU (P:=λn=>wV n/\aq wV n.kids) (λk n a t ks t' h=>h) (bF.1 h))
theorem Y8:∀l:List Node,aq Zi l->aq wV (l.map dG):=by
 refine aE (λ_=>by simp[aq]) ?_
 intro n l h1 h2 ha;simp only[aq,bE]at ha;simp only[zEc,aq,bE];refine⟨?_,h2 ha.2⟩;rw[l9];split
 ·have:=EZ n.attrs []
  have h5:=ha.1.1.2.2.1;refine⟨?_,s8 (h1 ha.1.2)⟩;unfold wV;simp at this⊢;omega
 ·exact⟨by simp[wV],by simp[aq]⟩
theorem Gt(l):aq wV (bI l):=s8 (Y8 _ (GH l 40))
theorem Q2:∀l:List Node,aq wV l->aq wV (l.flatMap aQ):=by
 refine aE (λ_=>by simp[aq]) ?_
 intro n l h1 h2 ha;simp only[aq,bE]at ha
 have happ:∀a b:List Node,aq wV a->aq wV b->aq wV (a++b):=λa b ha hb=>bF.2 λx hx=>by
  rcases zCj.1 hx with h|h
  ·exact bF.1 ha x h
  ·exact bF.1 hb x h
 rw[List.flatMap_cons];refine happ _ _ ?_ (h2 ha.2);rw[ox];split
 ·simp[aq]
 ·split
  ·simp only[aq,bE]
   refine⟨⟨ha.1.1,?_⟩,trivial⟩
   have hsub:aq wV ((aD n.name n.kids).flatMap aQ):=bF.2 λx hx=>by
    obtain⟨y,hy,hxy⟩:=zEh.1 hx;exact bF.1 (h1 ha.1.2) x (zEh.2 ⟨y,(zGd.1 hy).1,hxy⟩)
   exact bF.2 λx hx=>bF.1 (s8 hsub) x (zGd.1 hx).1
  ·simp only[aq]
   exact⟨by rw[bE];exact ha.1,trivial⟩
theorem Ww(l):aq wV (bR l):=s8 (Q2 _ (Gt l))
theorem adx{f g l}(h1:aq f l)(h2:aq g l):aq (λn=>f n/\g n) l:=by
 revert h1 h2;refine aE (p:=λl=>aq f l->aq g l->aq (λn=>f n/\g n) l) (λ_ _=>trivial) ?_ l;intro n l i1 i2 h1 h2;simp only[aq,bE]at h1 h2⊢;exact⟨⟨⟨h1.1.1,h2.1.1⟩,i1 h1.1.2 h2.1.2⟩,i2 h1.2 h2.2⟩
def Zh(m:Nat)(n:Node):Prop:=zw m n/\n.kids.length<=1000
theorem WJ{l}(h1:aq wV l)(h2:aq kw l):aq (Zh 1000) l:=
 yy (λn h _=>by
  have hf:n.attrs.length<=5:=h.1;exact⟨⟨by omega,by have:=h.2.2.2.2.1;omega,λa ha=>(h.2.2.2.1 a ha).2⟩,h.2.2.2.2.1⟩) l (adx h1 h2)
theorem KX{m l}(h:aq (Zh m) l):aq (zw m) l:=yy (λn h _=>h.1) l h
theorem FJ:∀(a b:List Tr),iH (a++b)=iH a+iH b
 |[],b=>by simp[iH]
 |t::a,b=>by simp only[zAd,iH,FJ a b];omega
theorem O9:∀l:List Nat,iH (l.map bP)=l.length
 |[]=>by simp[iH]
 |i::l=>by simp only[zEc,iH,O9 l,zAi];simp[bP,wtT,iH];omega
theorem D2{f}:∀{a b:List Tr},dw f a->dw f b->dw f (a++b)
 |[],b,_,h=>h
 |t::a,b,h1,h2=>by
   simp only[zAd,dw]at h1⊢;exact⟨h1.1,D2 h1.2 h2⟩
theorem QM{f g}(h:∀t,f t->g t):∀l:List Tr,dw f l->dw g l:=by
 refine kJ (λ_=>trivial) ?_;intro t l h1 h2 ha;simp only[dw,nR]at ha⊢;exact⟨⟨h t ha.1.1,h1 ha.1.2⟩,h2 ha.2⟩
def bare(n:Node):Prop:=n.kind≠1->n.attrs=[]/\n.kids=[]
theorem UL(p q)(L)(m):∀l:List Node,aq (Zh m) l->∀ts,bc L (bf p q L) l=ś ts->dw (inR L.length) ts/\(aq bare l->iH ts=ek l):=by
 refine aE (λ_ ts h=>by simp[bc]at h;subst h;exact⟨trivial,λ_=>rfl⟩) ?_
 intro n l h1 h2 ha ts h;simp only[aq,bE]at ha;rw[pS]at h;cases ht:mS L (bf p q L) n with
 |none=>rw[ht]at h;cases h
 |some t=>
   cases hts:bc L (bf p q L) l with
   |none=>rw[ht,hts]at h;cases h
   |some us=>
     rw[ht,hts]at h;simp only[zEg,zCi,zBd]at h;subst h;obtain⟨i1,i2⟩:=h2 ha.2 us hts;rw[ov]at ht;split at ht
     ·cases ht
     ·rename_i hpl
      obtain⟨b,hb,_⟩:=iZ (L:=L) (k:=n.kind) (nm:=n.name) (by omega)
      have hlt:=(zAe.1 hb).1;split at ht
      ·rename_i hk
       split at ht
       ·rename_i hall
        split at ht
        ·cases ht
        ·rename_i vs hvs
         cases ht;obtain⟨k1,k2⟩:=h1 ha.1.2 vs hvs;have hvl:=ou _ _ hvs;have hsl:(dz (n.attrs.map λx=>(bf p q L n.name x).toNat)).length=n.attrs.length:=by rw[(bo _).length_eq];simp
         have hf:=ha.1.1
         have hleaf:dw (inR L.length) ((dz (n.attrs.map λx=>(bf p q L n.name x).toNat)).map bP):=by
          have:∀zs:List Nat,(∀z∈zs,z<L.length)->dw (inR L.length) (zs.map bP):=λzs=>by
           induction zs with
           |nil=>intro _;trivial
           |cons z zs ih=>
             intro h;simp only[zEc,dw,nR];exact⟨⟨⟨h z (by simp),by simp[gO,bP,Tr.kids]⟩,by simp[bP,Tr.kids,dw]⟩,ih λy hy=>h y (by simp[hy])⟩
          refine this _ λz hz=>?_;obtain⟨a,ha',rfl⟩:=zBh.1 ((bo _).mem_iff.1 hz);have:=zEi.1 hall a ha';obtain⟨c,hc,_⟩:=C3 (by simpa using this)
          exact(zAe.1 hc).1
         refine⟨?_,λhb=>?_⟩
         ·simp only[dw,nR,Tr.kids]
          refine⟨⟨⟨hlt,?_⟩,D2 hleaf k1⟩,i1⟩;have h5:=hf.1.1;have h6:=hf.2;simp[gO,Tr.kids,hsl,hvl];omega
         ·simp only[aq,bE]at hb
          simp only[iH,ek,qC,Iz,Tr.kids,FJ,O9,hsl,k2 hb.1.2,i2 hb.2];omega
       ·cases ht
      ·rename_i hk
       cases ht;refine⟨?_,λhb=>?_⟩
       ·simp only[dw,nR,Tr.kids]
        exact⟨⟨⟨hlt,by simp[gO,Tr.kids]⟩,trivial⟩,i1⟩
       ·simp only[aq,bE]at hb
        obtain⟨b1,b2⟩:=hb.1.1 hk;simp[iH,ek,qC,Iz,Tr.kids,b1,b2,i2 hb.2]
end Go.Abs.F
end
section
set_option maxHeartbeats 4000000
set_option maxRecDepth 100000
namespace Go.Abs.F
open Go.Proofs Go.Aut
attribute [-simp] getElem?_pos zDb zBg
theorem acP(c):(1<=(good12 c).kind/\(good12 c).kind<=4)/\((good12 c).kind=4->rxB (good12 c).regex=ť):=by
 have hr:=kind12_range c.kind;unfold good12;simp only;split
 ·refine⟨by simp,λ_=>?_⟩
  simp only;have hm:sumB c.regex%7<pool12.length:=Nat.mod_lt _ (by decide)
  rw[List.getElem?_eq_getElem hm];exact zEi.1 ah6 _ (List.getElem_mem hm)
 ·rename_i h
  exact⟨by simp only;omega,λh'=>absurd h' h⟩
theorem E0(p):D4 allows12 (ai p):=by
 intro e he r hr v hv;obtain⟨_,l,hl⟩:=tu p e he;rw[hl]at hr;obtain⟨c,hc⟩:=jw (l.take 3) [] 0 (by simp) r hr
 rw[hc];have:=acP c;exact K7 (good12 c) v this.1 this.2 (by omega)
theorem wQ(p):tW allows12 (ai p) 1000:=by
 intro e he r hr v hv;obtain⟨_,l,hl⟩:=tu p e he;rw[hl]at hr;obtain⟨c,hc⟩:=jw (l.take 3) [] 0 (by simp) r hr
 rw[hc];exact Bt c v hv
theorem Qs{p q}(hp:RulesOK p)(hq:RulesOK q)(hpA:tW allows12 p 1000)(hqA:tW allows12 q 1000){L}(hl:L.length<=1000000000):FindOK p q L 1000 where
 len:=hl
 find el a ha:=Ud p q 1000 hpA hqA (λel=>by have:=hp.few el;omega) (λel=>by have:=hq.few el;omega) L hl el a ha
theorem Xw{p L al F}(hL:LabOK p L al F)(l)(ha:aq ndC l)(ts)(h:bc L F l=ś ts):
 ∃a o,goT (ba p L al) (ba p L al).root 0 ts=ś a/\(ba p L al).root.out[a]?=ś o:=by
 have hm:=UR hL l ha ts h;have hpl:=jq l ts h
 have hrdN:∀m∈l,rdN p L m<=L.length:=λm hm=>by
  unfold rdN;split
  ·obtain⟨c,hc,_⟩:=iZ (hpl m hm)
   have:=(zAe.1 hc).1;omega
  ·omega
 have hts2:∀t∈ts,stT (ba p L al) t=ś ((stT (ba p L al) t).getD 0)/\(stT (ba p L al) t).getD 0<=L.length:=λt ht=>by
  have:stT (ba p L al) t∈l.map λn=>ś (rdN p L n):=by
   rw[<-hm];exact zBh.2 ⟨t,ht,rfl⟩
  obtain⟨m,hmm,h⟩:=zBh.1 this;rw[<-h];exact⟨rfl,hrdN m hmm⟩
 obtain⟨g1,g2⟩:=rT (ba p L al) L.length ((au p L [] []).len+4) (au p L [] []).next (λs=>if(au p L [] []).ends s=ť then 1 else 0) (λs r _ _=>Wi.next_lt _ (En _ _ _ _) s r) ts _ 0 (by omega) hts2
 exact⟨_,_,g1,rG g2⟩
theorem Fl{p L al F}(hL:LabOK p L al F)(l)(ha:aq ndC l)(hj:qG ğ l)(ts)(h:bc L F l=ś ts)(hk:dw gO ts)(hlen:ts.length<=1000000):
 Fn ŷ iD [(ba p L al).v,.seq 2 (ts.map Tr.v)] (.bool (qF p [] l)):=by
 obtain⟨a,o,h1,h2⟩:=Xw hL l ha ts h;have:=H4 (ba p L al) ts hk hlen a o h1 h2;rw[O8 hL l ha hj ts h]at this;exact this
theorem UU{n own out next tells}(h1:1<=own)(h2:own<=200)(hx:∀s r,s<own->r<=n->next s r<own)(ht:∀s,s<own->tells s<out):SideOK (fM n own next tells) (n+1) out where
 pos:=by simpa[fM]using h1
 few:=by simpa[fM]using h2
 len:=by simp[fM]
 rows r hr:=by
  simp only[fM,zBh,zEa]at hr;obtain⟨s,hs,rfl⟩:=hr;refine⟨by simp,λv hv=>?_⟩
  simp only[zBh,zEa]at hv;obtain⟨r,hr,rfl⟩:=hv;simp only[fM,zDf,zFi];exact hx s r hs (by omega)
 G8 o ho:=by
  simp only[fM,zBh,zEa]at ho;obtain⟨s,hs,rfl⟩:=ho;exact ht s hs
theorem vk(p){L}(hl:L.length<=190)(par)(req){out tells}(ht:∀s,tells s<out):SideOK (fM L.length ((au p L par req).len+4) (au p L par req).next tells) (L.length+1) out:=by
 have hn:=dO (par:=par) L [];refine UU (by omega) ?_ (λs r _ _=>Wi.next_lt _ (En _ _ _ _) s r) λs _=>ht s
 simp only[au];simp at hn;omega
theorem acH(p){L}(al)(hl:L.length<=190):Fn ŷ Gb [(ba p L al).v] (.bool ť):=by
 refine WN _ (by simp[ba]) (by simp[ba];omega) (by simp[ba];omega) (λs hs=>?_) ?_
 ·simp only[ba]at hs⊢
  obtain⟨i,hi,rfl⟩:=List.mem_mapIdx.1 hs;have hleaf:SideOK (jM L al i L[i]) (L.length+1) (L.length+1):=UU (by omega) (by omega) (λs r _ _=>by omega) λs _=>by split<;>omega
  unfold eo;split
  ·split
   ·exact vk p hl _ _ λs=>by split<;>omega
   ·exact hleaf
  ·exact hleaf
 ·exact vk p hl _ _ λs=>by split<;>omega
def eI:Policy:=⟨[ja],[],[]⟩
theorem nY(el):aC eI el=[]:=by simp[aC,eI,aJ,Allowed.zero]
theorem x9:RulesOK eI where
 plain el r hr:=by rw[nY]at hr;cases hr
 good el nm c h:=by simp[dp,nY,dK]at h
 few el:=by rw[nY];simp
 req el r hr:=by rw[nY]at hr;cases hr
theorem acw:tV eI:=⟨λs hs=>by simp[eI]at hs;exact .inl hs,λe he=>by simp[eI]at he⟩
theorem afg:iL eI eI=[]:=by
 refine List.eq_nil_iff_forall_not_mem.2 λs hs=>?_;rw[oF]at hs;simp[eI]at hs
theorem afA:aY eI eI=[cc 1 [],cc 2 []]:=by simp[aY,fO,afg]
def ze:Node:=⟨2,[],[],[113],[]⟩
theorem aaq(F):bc [cc 1 [],cc 2 []] F [ze]=ś [bP 0]:=by
 simp[bc,mS,ze,cD,fG,fdx,cc,bP]
theorem q8:Fn ŷ MI [] (.bool ť):=by
 have hno:∀el nm c,dp eI el nm=ś c->∃x,GoodC c x:=x9.good;have f1:=xg eI eI (by decide) (by decide) (λel=>by rw[nY];simp) (λel=>by rw[nY];simp) (atR eI eI) (Ur eI eI) (af2 eI eI hno hno)
 have e1:fO eI eI (atR eI eI)=[cc 1 [],cc 2 []]:=afA;rw[e1]at f1;have hA:tW allows12 eI 1000:=λe he=>by simp[eI]at he
 have hF:FindOK eI eI [cc 1 [],cc 2 []] 1000:=Qs x9 x9 hA hA (by simp)
 have f2:=mK eI eI [cc 1 [],cc 2 []] 1000 hF [ze] (by simp[aq,aae,ze,zw]) (by simp)
 rw[aaq]at f2;have f3:=mL eI [cc 1 [],cc 2 []] (by simp) (λe he=>by simp[eI]at he)
 have f4:=acH eI (L:=[cc 1 [],cc 2 []]) Label.one (by simp)
 have hL:LabOK eI [cc 1 [],cc 2 []] Label.one (bf eI eI (aY eI eI)):=by
  have:=Qd x9 x9 acw;rw[afA]at this⊢;exact this
 have hnd:aq ndC [ze]:=by simp[aq,aae,ze,ndC,qG]
 have f5:=Fl hL [ze] hnd (by simp[qG]) [bP 0] (aaq _) (by simp[dw,ai2,bP,gO,Tr.kids]) (by simp)
 have hok:qF eI [] [ze]=true:=by decide
 rw[hok]at f5;have hpv:eI.v=.strct [.seq 1 [.str ja],.seq 3 [],.seq 1 []]:=rfl;have hnv:[ze].map Node.v=[.strct [.int .i64 2,.str [],.seq 2 [],.str [113],.seq 5 []]]:=by simp[ze]
 have htv:[bP 0].map Tr.v=[.strct [.int .i64 0,.seq 2 []]]:=by simp[R6,lfV]
 have hlv:[cc 1 [],cc 2 []].map Label.v=[.strct [.int .i64 1,.str [],.str [],.bool ğ,.str [],.bool ğ,.bool ğ],.strct [.int .i64 2,.str [],.str [],.bool ğ,.str [],.bool ğ,.bool ğ]]:=rfl;have hr2:BQ (ś [bP 0])=.tup [.seq 2 [.strct [.int .i64 0,.seq 2 []]],.bool ť]:=by simp[BQ,R6,lfV]
 rw[hr2]at f2;rw[hpv]at f1 f2 f3;rw[hnv]at f2;rw[htv]at f5;unfold HedgeP.v at f3 f4 f5;generalize ba eI [cc 1 [],cc 2 []] Label.one=H at *;rw[hlv]at f1 f2 f3;clear hL hF hA hno e1 hpv hnv htv hlv hr2;refine yoA Nw ?_;simp;refine ae (by simpa[ja]using f1) (by simp) λ_=>?_
 simp;refine ae (by simpa[ja]using f2) (by simp) λ_=>?_
 simp;refine ae (by simpa[ja]using f3) (by simp) λ_=>?_
 simp;refine aa f4 rfl λ_=>?_;simp;refine aa f5 rfl λ_=>?_;simp
theorem VF(p q)(hp:p.elements.length<=1000)(hq:q.elements.length<=1000)(hpr:∀el,(aC p el).length<=1000)(hqr:∀el,(aC q el).length<=1000)(at')(hat:∀el nm,(at' el nm).length<=4):(fO p q at').length<=1000000000:=by
 have hEl:∀el,(bC p q at' el).length<=20000:=λel=>by
  have h1:=rU (at' el) 4 (aP p q el) λx _=>hat el x;have h2:=pt p q el;have h3:=hpr el;have h4:=hqr el;simp only[bC,zAi];omega
 have h1:=rU (bC p q at') 20000 (iL p q) λx _=>hEl x;have h2:=Jq p q;simp only[fO,zBa,zAi,zFc];omega
theorem CB(p q):(aY (ai p) (ai q)).length<=1000000000:=
 VF _ _ (j1 p) (j1 q) (iF p) (iF q) _ (Ur _ _)
theorem ra(p q):Fn ŷ we [(ai p).v,(ai q).v] (.seq 7 ((aY (ai p) (ai q)).map Label.v)):=
 xg _ _ (j1 p) (j1 q) (iF p) (iF q) _ (Ur _ _) (af2 _ _ (tr p) (tr q))
theorem Gv(p q):FindOK (ai p) (ai q) (aY (ai p) (ai q)) 1000:=
 Qs (eD p) (eD q) (wQ p) (wQ q) (CB p q)
theorem j0(p):∀e∈(ai p).elements,e.rules.length<=12:=λe he=>by
 obtain⟨_,l,hl⟩:=tu p e he;rw[hl];have:=vE l;omega
theorem Y9(n):aq ndC (bR n)/\qG ğ (bR n):=by
 have hs:=zr n;simp only[vu,may,Bool.and_eq_true]at hs;exact R0 _ ğ (of_decide_eq_true hs.1)
theorem Pi(p q)(n)(hl:(aY (ai p) (ai q)).length<=189):
 Fn ŷ iE [(ai p).v,(ai q).v,.seq 7 ((aY (ai p) (ai q)).map Label.v),.seq 5 ((bR n).map Node.v)] (BQ (bc (aY (ai p) (ai q)) (bf (ai p) (ai q) (aY (ai p) (ai q))) (bR n)))/\
 (bc (aY (ai p) (ai q)) (bf (ai p) (ai q) (aY (ai p) (ai q))) (bR n)=none->iC allows12 (ai p) (bR n)=ğ/\iC allows12 (ai q) (bR n)=ğ)/\
 (∀ts,bc (aY (ai p) (ai q)) (bf (ai p) (ai q) (aY (ai p) (ai q))) (bR n)=ś ts->
   Fn ŷ iD [(ba (ai p) (aY (ai p) (ai q)) Label.one).v,.seq 2 (ts.map Tr.v)] (.bool (iC allows12 (ai p) (bR n)))/\
   Fn ŷ iD [(ba (ai q) (aY (ai p) (ai q)) Label.two).v,.seq 2 (ts.map Tr.v)] (.bool (iC allows12 (ai q) (bR n)))):=by
 have hst:=zr n;obtain⟨hnd,hnt⟩:=Y9 n;have hfi:=Gs n;have hf2:=WJ (Ww n) hfi.1;have hcl:=tI (bR n);have h1:=Qd (eD p) (eD q) (nI p);have h2:=acz (eD p) (eD q) (nI q);have e1:=Jk (nI p) hst;have e2:=Jk (nI q) hst;refine⟨mK _ _ _ 1000 (Gv p q) _ (KX hf2) (by omega),λhno=>?_,λts hts=>?_⟩
 ·rw[e1,e2]
  constructor
  ·cases h:qF (ai p) [] (bR n)
   ·rfl
   ·obtain⟨ts,hts⟩:=FU h1 _ hnd [] h
    rw[hno]at hts;cases hts
  ·cases h:qF (ai q) [] (bR n)
   ·rfl
   ·obtain⟨ts,hts⟩:=FU h2 _ hnd [] h
    rw[hno]at hts;cases hts
 ·have hin:=(UL _ _ _ 1000 _ hf2 ts hts).1
  have hkf:=QM (λt (h:inR _ t)=>h.2) _ hin;have hlen:=ou _ _ hts;rw[e1,e2];exact⟨Fl h1 _ hnd hnt ts hts hkf (by omega),Fl h2 _ hnd hnt ts hts hkf (by omega)⟩
theorem tA(p)(n):Fn ŷ zh [(ai p).v,.seq 5 ((bR n).map Node.v)] (.bool (iC allows12 (ai p) (bR n))):=by
 have hfi:=Gs n;exact OG allows12 (ai p) (E0 p) (bR n) (aiK _ hfi.1) (aiL _ hfi.1 (by omega)) (by omega)
theorem xa(p q:Policy)(n:List Node)(hR:∀e∈p.elements,∀r∈e.rules,r.value.regex.length<=1125899906842624)(hR':∀e∈q.elements,∀r∈e.rules,r.value.regex.length<=1125899906842624):
 FnE ŷ cf [p.v,q.v,.seq 5 (n.map Node.v)] (.bool ť):=by
 have hg:=j3 p hR;have hg':=j3 q hR';have hn:=C8 n;have hlab:=ra p q;have hll:=CB p q;have ht:=Pi p q n;have h15:=tA p n;have h15':=tA q n;have hF:=λhl=>mL (ai p) (aY (ai p) (ai q)) hl (j0 p);have hS:=λhl=>rZ (ai q) (aY (ai p) (ai q)) hl (j0 q);have hlv:=q8;unfold HedgeP.v at hF hS ht;generalize bc (aY (ai p) (ai q)) (bf (ai p) (ai q) (aY (ai p) (ai q))) (bR n)=T at *;generalize ba (ai p) (aY (ai p) (ai q)) Label.one=H1 at *;generalize ba (ai q) (aY (ai p) (ai q)) Label.two=H2 at *;generalize aY (ai p) (ai q)=L at *;generalize iC allows12 (ai p) (bR n)=o1 at *;generalize iC allows12 (ai q) (bR n)=o2 at *;generalize ai p=a at *;generalize ai q=b at *;generalize bR n=s at *;refine FnE.of_image mixed wx.1 wx.2 rfl λho=>?_;clear ho;simp;refine ae hg (by simp) λ_=>?_
 simp;refine ae hg' (by simp) λ_=>?_
 simp;refine ae hn (by simp) λ_=>?_
 simp;refine ae hlab (by simp) λ_=>?_
 simp;by_cases hl:L.length<=189
 ·have hl':¬(189:Int)<L.length:=by omega
  obtain⟨t1,t2,t3⟩:=ht hl;have hF:=hF (by omega)
  have hS:=hS (by omega)
  simp(disch:=omega);refine ae t1 (by simp) λ_=>?_
  simp[BQ];refine aa h15 rfl λ_=>?_;simp;refine aa h15' rfl λ_=>?_;cases T with
  |none=>
    obtain⟨rfl,rfl⟩:=t2 rfl;simp;refine aa hlv rfl λ_=>?_;simp
  |some ts=>
    obtain⟨a1,a2⟩:=t3 ts rfl;simp;refine ae hF (by simp) λ_=>?_
    simp;refine aa a1 rfl λ_=>?_;simp;refine ae hS (by simp) λ_=>?_
    simp;refine aa a2 rfl λ_=>?_;simp;refine aa hlv rfl λ_=>?_;simp
 ·have hl':(189:Int)<L.length:=by omega
  simp(disch:=omega);refine aa hlv rfl λ_=>?_;simp
theorem Bs(p:Policy)(n:List Node)(hR:∀e∈p.elements,∀r∈e.rules,r.value.regex.length<=1125899906842624):
 FnE ŷ cI [p.v,.seq 5 (n.map Node.v)] (.bool ť):=by
 have hg:=j3 p hR;have hn:=C8 n;have hlab:=ra p p;have hll:=CB p p;have ht:=Pi p p n;have h15:=tA p n;have hF:=λhl=>mL (ai p) (aY (ai p) (ai p)) hl (j0 p);have hS:=λhl=>rZ (ai p) (aY (ai p) (ai p)) hl (j0 p);have hlv:=q8;unfold HedgeP.v at hF hS ht;generalize bc (aY (ai p) (ai p)) (bf (ai p) (ai p) (aY (ai p) (ai p))) (bR n)=T at *;generalize ba (ai p) (aY (ai p) (ai p)) Label.one=H1 at *;generalize ba (ai p) (aY (ai p) (ai p)) Label.two=H2 at *;generalize aY (ai p) (ai p)=L at *;generalize iC allows12 (ai p) (bR n)=o1 at *;generalize ai p=a at *;generalize bR n=s at *;refine FnE.of_image mixed A1.1 A1.2 rfl λho=>?_;clear ho;simp;refine ae hg (by simp) λ_=>?_
 simp;refine ae hn (by simp) λ_=>?_
 simp;refine ae hlab (by simp) λ_=>?_
 simp;by_cases hl:L.length<=189
 ·have hl':¬(189:Int)<L.length:=by omega
  obtain⟨t1,t2,t3⟩:=ht hl;have hF:=hF (by omega)
  have hS:=hS (by omega)
  simp(disch:=omega);refine ae t1 (by simp) λ_=>?_
  simp[BQ];cases T with
  |none=>
    obtain⟨rfl,_⟩:=t2 rfl;simp;refine aa h15 rfl λ_=>?_;simp;refine aa hlv rfl λ_=>?_;simp
  |some ts=>
    obtain⟨a1,a2⟩:=t3 ts rfl;simp;refine ae hF (by simp) λ_=>?_
    simp;refine aa a1 rfl λ_=>?_;simp;refine ae hS (by simp) λ_=>?_
    simp;refine aa a2 rfl λ_=>?_;simp;refine aa h15 rfl λ_=>?_;simp;refine aa hlv rfl λ_=>?_;simp
 ·have hl':(189:Int)<L.length:=by omega
  simp(disch:=omega);refine aa hlv rfl λ_=>?_;simp
theorem Yl{p q el}:0<=cD (aY p q) 1 el↔el∈iL p q:=by
 constructor
 ·intro h
  obtain⟨b,hb,hpb⟩:=iZ h;have hb:=zAb hb;simp[fG]at hpb;simp only[aY,fO,zCj,zAf,List.not_mem_nil,or_false,zEh,bC]at hb;rcases hb with(rfl|rfl)|⟨x,hx,rfl|⟨c,_,h⟩⟩
  ·simp[cc]at hpb
  ·simp[cc]at hpb
  ·have:x=el:=by simpa[cc]using hpb
   subst this;exact hx
  ·have:=(Z8 h).1
   omega
 ·exact Jb
theorem UK{p q}:∀l:List Node,aq ndC l->(bc (aY p q) (bf p q (aY p q)) l).isSome=yH p q (bf p q (aY p q)) l:=by
 refine aE (λ_=>rfl) ?_;intro n l h1 h2 ha;simp only[aq,bE]at ha
 have e:(mS (aY p q) (bf p q (aY p q)) n).isSome=lbN p q (bf p q (aY p q)) n:=by
  rw[ov,afx];rcases ha.1.1.1 with hk|hk|hk
  ·rw[hk,if_pos rfl,if_pos rfl,<-h1 ha.1.2]
   have hpl:=Yl (p:=p) (q:=q) (el:=n.name);rw[oF,<-kZ,<-kZ]at hpl;by_cases hp:cD (aY p q) 1 n.name<0
   ·rw[if_pos hp]
    have hno:((aJ p.elements n.name).isSome||(aJ q.elements n.name).isSome)=false:=by
     cases h3:(aJ p.elements n.name).isSome<;>cases h4:(aJ q.elements n.name).isSome<;>simp[h3,h4]at hpl⊢<;>omega
    rw[hno];rfl
   ·rw[if_neg hp]
    have hyes:((aJ p.elements n.name).isSome||(aJ q.elements n.name).isSome)=true:=by
     rw[Bool.or_eq_true];exact hpl.1 (by omega)
    rw[hyes,zCb];cases n.attrs.all λx=>decide (0<=bf p q (aY p q) n.name x)
    ·simp
    ·simp only[if_true,zCb]
     cases bc (aY p q) (bf p q (aY p q)) n.kids<;>rfl
  ·rw[hk,if_neg (by have:=(yh (p:=p) (q:=q) n.name).1;omega),if_neg (by omega),if_neg (by omega)];rfl
  ·rw[hk,if_neg (by have:=(yh (p:=p) (q:=q) n.name).2;omega),if_neg (by omega),if_neg (by omega)];rfl
 rw[pS,yH,<-e,<-h2 ha.2];cases mS (aY p q) (bf p q (aY p q)) n with
 |none=>rfl
 |some t=>cases bc (aY p q) (bf p q (aY p q)) l<;>rfl
theorem FK:∀(a b:List Node),ek (a++b)=ek a+ek b
 |[],b=>by simp[ek]
 |t::a,b=>by simp only[zAd,ek,FK a b];omega
theorem O6(L)(a b):cX L (a++b)=cX L a++cX L b:=by simp[cX]
theorem zd(L):∀(a b:List Tr),br L (a++b)=br L a++br L b
 |[],b=>by simp[br]
 |t::a,b=>by simp only[zAd,br,zd L a b,zBb]
theorem Gj{L}:∀zs:List Nat,(∀z∈zs,∃b,L[z]?=ś b/\b.kind=4)->(cX L (zs.map bP)).length=zs.length/\br L (zs.map bP)=[]
 |[],_=>⟨rfl,rfl⟩
 |z::zs,h=>by
   obtain⟨b,h1,h2⟩:=h z (by simp)
   obtain⟨i1,i2⟩:=Gj zs λy hy=>h y (by simp[hy])
   have ht:fV L (bP z).label=b:=BR h1;constructor
   ·have e:cX L ((z::zs).map bP)=Av L (bP z)++cX L (zs.map bP):=rfl
    rw[e,zBa,i1,Av,ht,if_pos h2];simp;omega
   ·simp only[zEc,br,i2,zDg]
    rw[im,ht,if_neg (by omega),if_neg (by omega),if_neg (by omega)]
theorem Ri{p q}:∀l:List Node,aq ndC l->aq bare l->∀ts,bc (aY p q) (bf p q (aY p q)) l=ś ts->ek (br (aY p q) ts)=ek l/\cX (aY p q) ts=[]:=by
 refine aE (λ_ _ ts h=>by simp[bc]at h;subst h;exact⟨rfl,rfl⟩) ?_
 intro n l h1 h2 ha hb ts h;simp only[aq,bE]at ha hb;rw[pS]at h;cases ht:mS (aY p q) (bf p q (aY p q)) n with
 |none=>rw[ht]at h;cases h
 |some t=>
   cases hts:bc (aY p q) (bf p q (aY p q)) l with
   |none=>rw[ht,hts]at h;cases h
   |some us=>
     rw[ht,hts]at h;simp only[zEg,zCi,zBd]at h;subst h;obtain⟨i1,i2⟩:=h2 ha.2 hb.2 us hts;have hc:cX (aY p q) (t::us)=Av (aY p q) t++cX (aY p q) us:=rfl;rw[hc,i2,zDg,br,FK,i1,ek];rw[ov]at ht;split at ht
     ·cases ht
     ·rename_i hpl
      obtain⟨b,hb1,hb2⟩:=iZ (L:=aY p q) (k:=n.kind) (nm:=n.name) (by omega)
      have htold:=BR hb1;split at ht
      ·rename_i hk
       split at ht
       ·rename_i hall
        split at ht
        ·cases ht
        ·rename_i vs hvs
         cases ht;obtain⟨k1,k2⟩:=h1 ha.1.2 hb.1.2 vs hvs;have hb3:b.kind=3:=by simp[fG,hk]at hb2;exact hb2.1
         have hsl:(dz (n.attrs.map λx=>(bf p q (aY p q) n.name x).toNat)).length=n.attrs.length:=by rw[(bo _).length_eq];simp
         obtain⟨l1,l2⟩:=Gj (L:=aY p q) (dz (n.attrs.map λx=>(bf p q (aY p q) n.name x).toNat)) λz hz=>by
          obtain⟨a,ha',rfl⟩:=zBh.1 ((bo _).mem_iff.1 hz);have:=zEi.1 hall a ha';obtain⟨c,hc,hh⟩:=C3 (by simpa using this)
          exact⟨c,hc,(wD.1 hh).1⟩
         refine⟨?_,?_⟩
         ·rw[im]
          simp only[Tr.label,Tr.kids,htold];rw[if_neg (by omega),if_neg (by omega),if_pos hb3]
          simp only[ek,qC,O6,zd,l2,k2,zAh,zDg,k1,l1,hsl];omega
         ·simp only[Av,Tr.label,htold]
          rw[if_neg (by omega)]
       ·cases ht
      ·rename_i hk
       cases ht;obtain⟨b1,b2⟩:=hb.1.1 hk
       have hb12:b.kind=1\/b.kind=2:=by
        rcases ha.1.1.1 with h|h|h
        ·exact absurd h hk
        ·left;simpa[fG,h]using hb2
        ·right;simpa[fG,h]using hb2
       refine⟨?_,?_⟩
       ·rw[im]
        simp only[Tr.label,Tr.kids,htold];rcases hb12 with h|h
        ·rw[if_pos h];simp[ek,qC,b1,b2]
        ·rw[if_neg (by omega),if_pos h];simp[ek,qC,b1,b2]
       ·simp only[Av,Tr.label,htold]
        rw[if_neg (by omega)]
theorem afp:∀(l:List Node)(txt:Bool),lW txt l=0->aq bare l:=by
 refine aE (λtxt _=>trivial) ?_;intro n l h1 h2 txt h;obtain⟨e1,e2,e3⟩:=ym.1 h;simp only[aq,bE];refine⟨⟨λhk=>?_,h1 ğ e2⟩,h2 _ e3⟩;unfold gJ at e1;rw[if_neg hk]at e1;split at e1
 ·split at e1
  ·rename_i hz;exact⟨hz.2.1,hz.2.2⟩
  ·cases e1
 ·cases e1
theorem ajz:∀l:List Node,aq wV l->ek l<=6*aK l:=by
 refine aE (λ_=>by simp[ek]) ?_
 intro n l h1 h2 ha;simp only[aq,bE]at ha;have k1:=h1 ha.1.2;have k2:=h2 ha.2;have k3:n.attrs.length<=5:=ha.1.1;simp only[ek,qC,aK,qn];omega
theorem Xq:∀l:List Node,ek l<=1000000->aq xT l:=by
 refine aE (λ_=>trivial) ?_;intro n l h1 h2 hb;simp only[ek,qC]at hb;simp only[aq,bE];exact⟨⟨⟨by omega,by have:=BH n.kids;omega⟩,h1 (by omega)⟩,h2 (by omega)⟩
theorem w9(p q:Policy)(n:List Node)(hR:∀e∈p.elements,∀r∈e.rules,r.value.regex.length<=1125899906842624)(hR':∀e∈q.elements,∀r∈e.rules,r.value.regex.length<=1125899906842624):
 FnE ŷ ce [p.v,q.v,.seq 5 (n.map Node.v)] (.bool ť):=by
 have hg:=j3 p hR;have hg':=j3 q hR';have hn:=Dd n;have hlab:=ra p q;have hll:=CB p q;have hlv:=q8;obtain⟨hfi,hcn,_⟩:=wR n;have hf5:=Gt n;have hf2:=WJ hf5 hfi;have hmay:=Za n;have hnd:=(R0 _ _ hmay).1;have hba:=afp _ _ hmay;have hwt:=ajz _ hf5;have hcl:=tI (bI n);have hF:=Gv p q;have hTr:=mK _ _ _ 1000 hF (bI n) (KX hf2) (by omega)
 have hLb:=Fg _ _ _ 1000 hF (bI n) (KX hf2) (by omega)
 have his:=UK (p:=ai p) (q:=ai q) (bI n) hnd;have hW:=w7 (bI n) (by omega)
 have hts:∀ts,bc (aY (ai p) (ai q)) (bf (ai p) (ai q) (aY (ai p) (ai q))) (bI n)=ś ts->
  Fn ŷ gb [.seq 2 (ts.map Tr.v)] (.int .i64 (ek (bI n)))/\Fn ŷ fy [.seq 7 ((aY (ai p) (ai q)).map Label.v),.seq 2 (ts.map Tr.v)] (.seq 5 ((br (aY (ai p) (ai q)) ts).map Node.v))/\
  Fn ŷ iq [.seq 7 ((aY (ai p) (ai q)).map Label.v),.seq 2 (ts.map Tr.v)] (.seq 5 ((br (aY (ai p) (ai q)) ts).map Node.v))/\
  Fn ŷ jz [.seq 5 ((br (aY (ai p) (ai q)) ts).map Node.v),.seq 5 ((br (aY (ai p) (ai q)) ts).map Node.v)] (.bool ť)/\
  Fn ŷ ge [.seq 5 ((br (aY (ai p) (ai q)) ts).map Node.v)] (.int .i64 (ek (bI n))):=λts hts=>by
  obtain⟨t1,t2⟩:=UL _ _ _ 1000 _ hf2 ts hts;have t2:=t2 hba;have hkf:=QM (λt (h:inR _ t)=>h.2) _ t1;have hlen:=ou _ _ hts;obtain⟨w1,_⟩:=Ri (p:=ai p) (q:=ai q) (bI n) hnd hba ts hts;have hnl:=BH (br (aY (ai p) (ai q)) ts);have a1:=K5 ts (by omega)
  rw[t2]at a1;have a5:=w7 (br (aY (ai p) (ai q)) ts) (by omega)
  rw[w1]at a5;exact⟨a1,uy _ hll ts hkf (by omega),OD _ hll ts t1 (by omega),Dc _ (Xq _ (by omega)) (by omega),a5⟩
 generalize yH (ai p) (ai q) (bf (ai p) (ai q) (aY (ai p) (ai q))) (bI n)=lb at *;generalize bc (aY (ai p) (ai q)) (bf (ai p) (ai q) (aY (ai p) (ai q))) (bI n)=T at *;generalize ek (bI n)=wt at *;clear hF;generalize aY (ai p) (ai q)=L at *;clear hf5 hf2 hmay hnd hba hcl hfi;generalize ai p=a at *;generalize ai q=b at *;generalize bI n=s at *;subst his;refine FnE.of_image mixed ww.1 ww.2 rfl λho=>?_;clear ho;simp;refine ae hg (by simp) λ_=>?_
 simp;refine ae hg' (by simp) λ_=>?_
 simp;refine ae hn (by simp) λ_=>?_
 simp;refine ae hlab (by simp) λ_=>?_
 simp;by_cases hl:L.length<=189
 ·have hl':¬(189:Int)<L.length:=by omega
  simp(disch:=omega);refine ae hTr (by simp) λ_=>?_
  simp[BQ];refine aa hLb rfl λ_=>?_;cases T with
  |none=>
    simp;refine aa hlv rfl λ_=>?_;simp
  |some ts=>
    obtain⟨a1,a2,a3,a4,a5⟩:=hts ts rfl;simp;refine aa a1 rfl λ_=>?_;simp;refine aa hW rfl λ_=>?_;simp;refine ae a2 (by simp) λ_=>?_
    simp;refine ae a3 (by simp) λ_=>?_
    simp;refine aa a4 rfl λ_=>?_;simp;refine aa a5 rfl λ_=>?_;simp;refine aa hW rfl λ_=>?_;simp;refine aa hlv rfl λ_=>?_;simp
 ·have hl':(189:Int)<L.length:=by omega
  simp(disch:=omega);refine aa hlv rfl λ_=>?_;simp
end Go.Abs.F
end
