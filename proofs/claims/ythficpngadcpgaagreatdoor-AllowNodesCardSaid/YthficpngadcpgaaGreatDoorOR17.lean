/-
  Match of package regex. No condition.
  LangAllows' function answers true. No condition.
  What the program's functions for attributes that are allowed answer. No condition.
  AllowNodes' function answers true. No condition.
-/
import Derived.Test.YthficpngadcpgaaGreatDoorOR16
import Derived.Test.YthficpngadcpgaaGreatDoorOP4
import Derived.Test.YthficpngadcpgaaGreatDoorOP5
set_option linter.unusedVariables false
set_option linter.unusedSimpArgs false
set_option linter.unusedSectionVars false
section
set_option maxHeartbeats 4000000
set_option maxRecDepth 100000
namespace Go.Abs
open Go.Proofs Go.Aut
attribute [-simp] getElem?_pos Option.not_isSome List.map_map
def wc (es:List NEdge) (n:Nat):List (List V):=(bC es n).map fun r=>r.map NEdge.v
theorem wb {es:List NEdge} {n:Nat}:(wc es n).length=n:=by simp [wc,bC]
theorem qN {es:List NEdge} {n q:Nat} (h:q < n):(wc es n)[q]?=some ((xZ es q).map NEdge.v):=by
 simp only [wc,bC,List.getElem?_map,List.getElem?_range h,Option.map_some]
theorem Ct {es:List NEdge} {n q:Nat} (h:n≤q):(wc es n)[q]?=none:=List.getElem?_eq_none (by rw [wb]; exact h)
theorem Ng {n:Nat}:wc [] n=List.replicate n []:=by
 apply List.ext_getElem?
 intro q
 rcases Nat.lt_or_ge q n with h | h
 · rw [qN h,List.getElem?_replicate,if_pos h]; rfl
 · rw [Ct h,List.getElem?_eq_none (by simpa using h)]
theorem Km {es:List NEdge} {e:NEdge} {n:Nat} (h:e.fr < n):(wc es n).set e.fr ((xZ es e.fr).map NEdge.v++[NEdge.v e])=wc (es++[e]) n:=by
 apply List.ext_getElem?
 intro q
 rw [List.getElem?_set,wb]
 rcases Nat.lt_or_ge q n with hq | hq
 · rw [qN hq,qN hq]
   by_cases hf:e.fr=q
   · subst hf; simp [xZ,h]
   · simp [xZ,hf]
 · rw [Ct hq,Ct hq]
   by_cases hf:e.fr=q
   · omega
   · simp [hf]
theorem Ez {es:List NEdge} {q:Nat}:(xZ es q).length≤es.length:=List.length_filter_le _ _
theorem RR {N:Net} (h:N.ok):∃ sn now,oq (bC N.edges N.n) 1 (N.n + 1) 0 ((List.replicate N.n 0).set N.start 1) [N.start]=some (sn,now)∧MInv N.n 1 sn now∧Low 1 sn:=by
 have h0:MInv N.n 1 (List.replicate N.n 0) []:=MInv.fresh (mark:=0) (by simp) fun q v hv=>by
  rw [List.getElem?_replicate] at hv
  split at hv
  · cases hv; exact Nat.le_refl _
  · cases hv
 have hm:¬(List.replicate N.n 0)[N.start]?=some 1:=fun e=>by
  rw [List.getElem?_replicate] at e
  split at e<;>simp at e
 have h1:=h0.add h.start hm
 have hlow:Low 1 ((List.replicate N.n 0).set N.start 1):=Low.set fun q v hv=>by
  rw [List.getElem?_replicate] at hv
  split at hv
  · cases hv; exact Nat.zero_le _
  · cases hv
 obtain ⟨sn,now,k1,k2,_⟩:=j4 (mf h) (S:=fun _=>True) (fun _ _ _ _ _ _ _=>trivial) (N.n + 1) 0 _ [N.start] h1 (fun _ _=>trivial) (by simp) (fun j hj=>by omega) (by omega)
 exact ⟨sn,now,k1,k2,Low.cl _ _ _ _ _ _ hlow k1⟩
theorem stepM {N:Net} (h:N.ok) {i b:Nat} {sn now:List Nat} (hI:MInv N.n (i + 1) sn now) (hL:Low (i + 1) sn):
 ∃ sn' now',oq (bC N.edges N.n) (i + 2) (N.n + 1) 0 (jP (bC N.edges N.n) (i + 2) b now sn []).1 (jP (bC N.edges N.n) (i + 2) b now sn []).2=some (sn',now')∧MInv N.n (i + 2) sn' now'∧Low (i + 2) sn':=by
 have hto:=mf h
 have hf:MInv N.n (i + 2) sn []:=MInv.fresh (mark:=i + 1) hI.len hL
 obtain ⟨h1,_⟩:=qw (b:=b) hto now sn [] hf
 have hlow:Low (i + 2) (jP (bC N.edges N.n) (i + 2) b now sn []).1:=Low.go _ _ _ fun q v hv=>by have:=hL q v hv; omega
 obtain ⟨sn',now',k1,k2,_⟩:=j4 hto (S:=fun _=>True) (fun _ _ _ _ _ _ _=>trivial) (N.n + 1) 0 _ _ h1 (fun _ _=>trivial) (by omega) (fun j hj=>by omega) (by omega)
 exact ⟨sn',now',k1,k2,Low.cl _ _ _ _ _ _ hlow k1⟩
theorem MF {N:Net} (h:N.ok) (hl:N.edges.length≤1000000):RowsOK N.n (bC N.edges N.n):=by
 refine ⟨by simp [bC],fun r hr e he=>?_,fun r hr=>?_⟩
 · simp only [bC,List.mem_map] at hr
   obtain ⟨q,_,rfl⟩:=hr
   obtain ⟨_,h2,h3,h4⟩:=h.ends e (jV.1 he).1
   exact ⟨h2,h3,h4⟩
 · simp only [bC,List.mem_map] at hr
   obtain ⟨q,_,rfl⟩:=hr
   exact Nat.le_trans Ez hl
theorem Ih {x:Rx} {N:Net} (hN:N.ok) (hl:N.edges.length≤1000000) (hnet:Fn Tryz.prog cI [rxP x] (.strct (Net.c N))) (hne:0 < N.edges.length) (s:Str) (hs:s.length≤1000) (R:Bool) (hR:mtP N s=R):Fn Tryz.prog dn [rxP x,.str s] (.bool R):=by
 refine Fn.of_imageE mixed mL mH rfl fun ho=>?_
 unfold f5
 simp only [oks,ok,and_true] at ho
 clear ho
 have hnl:=hN.le
 simp at hnet
 simp (disch:=omega) [-List.reduceReplicate]
 refine an hnet (by simp) fun _=>?_
 simp (disch:=omega) [-List.reduceReplicate]
 rw [←Ng]
 refine ak (fun k:Nat=>if k < N.edges.length then ⟨[(1,.str s),(5,.ptr 0 0),(6,.ref 1 N.n),(24,.seq 4 (N.edges.map NEdge.v)),(25,nV N.edges.length),(26,nV k)],[some (.box [nV N.n,nV N.start,nV N.stop,.seq 4 (N.edges.map NEdge.v)]),some (.mat kj bH 4 (sm (wc (N.edges.take k) N.n)))]⟩
  else ⟨[(1,.str s),(5,.ptr 0 0),(6,aX (bC N.edges N.n)),(24,.seq 4 (N.edges.map NEdge.v)),(25,nV N.edges.length),(26,nV k)],[some (.box [nV N.n,nV N.start,nV N.stop,.seq 4 (N.edges.map NEdge.v)])]⟩) (fun k=>k≤N.edges.length) (fun k=>N.edges.length - k) [] _ 0 rfl (by simp [hne]) (by simp) ?_
 intro k hk M hM
 rcases Nat.lt_or_ge k N.edges.length with hlt | hge
 · obtain ⟨e,he⟩:=aO hlt
   obtain ⟨e1,e2,e3,e4⟩:=hN.ends e (List.mem_of_getElem? he)
   have htk:=cn he
   have hrg:=qN (es:=N.edges.take k) e1
   have hrl:(xZ (N.edges.take k) e.fr).length≤1000000:=Nat.le_trans Ez (by simp; omega)
   have hml:=wb (es:=N.edges.take k) (n:=N.n)
   have hms:=Km (es:=N.edges.take k) e1
   rw [←htk] at hms
   simp only [NEdge.v,nV,u8V] at hms
   rw [if_pos hlt]
   simp (disch:=omega) [-List.reduceReplicate,he,hrg,e1,hml]
   refine r7 ⟨[(1,.str s),(5,.ptr 0 0),(6,.ref 1 N.n),(24,.seq 4 (N.edges.map NEdge.v)),(25,nV N.edges.length),(26,nV k)],[some (.box [nV N.n,nV N.start,nV N.stop,.seq 4 (N.edges.map NEdge.v)]),some (.mat kj bH 4 (sm (wc (N.edges.take (k + 1)) N.n)))]⟩ (fun F hF=>?_) ?_
   · simp at hF
     repeat' first | exact hF | refine r8.mk ?_ ?_ | simp (disch:=omega) [-List.reduceReplicate,hrg,e1,hml,hms]
   simp (disch:=omega) [-List.reduceReplicate]
   by_cases hk1:k + 1 < N.edges.length
   · exact hM.out _<|Nx.mk (k + 1) (by simp only [if_pos hk1]; simp) (by first | omega | (simp only; omega)) (by first | omega | (simp only; omega))
   · have hk2:k + 1=N.edges.length:=by omega
     have hrl2:(bC N.edges N.n).length=N.n:=by simp [bC]
     have hk3:((k:Int) + 1)=(N.edges.length:Nat):=by omega
     refine hM.out _ ⟨[.z 6],⟨[(6,aX (bC N.edges N.n)),(1,.str s),(5,.ptr 0 0),(6,.ref 1 N.n),(24,.seq 4 (N.edges.map NEdge.v)),(25,nV N.edges.length),(26,nV (k + 1))],[some (.box [nV N.n,nV N.start,nV N.stop,.seq 4 (N.edges.map NEdge.v)]),none]⟩,k + 1,?_,?_,by simp only; omega,by simp only; omega⟩
     · simp [hk2,hk3,hrl2,aX,wc,List.map_map,Function.comp_def]
     · simp only [if_neg (show ¬k + 1 < N.edges.length by omega)]
       simp [aX]
 · have:k=N.edges.length:=by omega
   subst this
   clear hM
   rw [if_neg (by omega)]
   have hst:=hN.start
   have hRO:=MF hN hl
   obtain ⟨sn0,now0,hc0,hM0,hL0⟩:=RR hN
   simp only [mtP,hc0] at hR
   generalize hrw:bC N.edges N.n=rows at *
   simp (disch:=omega) [-List.reduceReplicate,hst]
   refine ar [1] 1 [1,2] (by simp) (by simp [aX]) (by simp [aX]) (by simp [List.map_set]) (mR hRO (by omega) 1 (N.n + 1) (by omega) (by omega) ((List.replicate N.n 0).set N.start 1) [N.start] sn0 now0 (by simp) (by simpa using hst) (by simp) hc0) (by simp) fun _ _=>?_
   simp (disch:=omega) [-List.reduceReplicate]
   refine ak (fun (x:Nat × List Nat × List Nat × List Nat)=>⟨[(1,.str s),(5,.ptr 0 0),(6,aX rows),(9,.ref 1 N.n),(10,.ref 2 x.2.2.1.length),(11,.ref 3 x.2.2.2.length),(12,nV x.1)],
    [some (.box [nV N.n,nV N.start,nV N.stop,.seq 4 (N.edges.map NEdge.v)]),some (.arr bb 1 (x.2.1.map nV)),some (.arr bb 1 (x.2.2.1.map nV)),some (.arr bb 1 (x.2.2.2.map nV))]⟩)
    (fun x=>x.1≤s.length∧MInv N.n (x.1 + 1) x.2.1 x.2.2.1∧Low (x.1 + 1) x.2.1∧E9 N x.1 (s.drop x.1) x.2.1 x.2.2.1=R) (fun x=>s.length - x.1) [.r 11 bb 1] _ (0,sn0,now0,[]) rfl (by simp [aX]) ⟨by simp,hM0,hL0,by simpa using hR⟩ ?_
   clear hR
   rintro ⟨i,sn,now,nx⟩ ⟨hi,hMi,hLi,hgo⟩ M hM
   simp only at hi hMi hLi hgo
   have hsl:=hMi.len
   have hnl2:=mw N.n now hMi.nodup hMi.lt
   rcases place s i hi with ⟨he,hd⟩ | ⟨hlt,b,hb,hd⟩<;>rw [hd] at hgo
   · obtain ⟨v,hv⟩:=aO (l:=sn) (k:=N.stop) (by rw [hsl]; exact hN.stop)
     have hst2:=hN.stop
     simp only [E9,hv,Option.some.injEq] at hgo
     clear hM
     replace hgo:=hid hgo
     simp (disch:=omega) [-List.reduceReplicate,aX,he,hst2,hv]
     have hgo:=hgo.out
     rw [←hgo]
     congr 1
     exact propext (by omega)
   · obtain ⟨sn',now',hcl,hM1,hL1⟩:=stepM (b:=b.toNat) hN hMi hLi
     have hfr:MInv N.n (i + 2) sn []:=MInv.fresh (mark:=i + 1) hsl hLi
     simp only [E9,hcl] at hgo
     rw [hrw] at hcl
     by_cases hnow:now=[]
     · subst hnow
       simp only [if_true] at hgo
       subst hgo
       clear hM
       simp (disch:=omega) [-List.reduceReplicate,aX]
     · rw [if_neg hnow] at hgo
       have hnow2:¬now.length=0:=fun h=>hnow (List.length_eq_zero_iff.1 h)
       have hnow3:¬(now.length:Int)=0:=by omega
       replace hgo:=hid hgo
       obtain ⟨T,hT⟩:∃ T,T=jP rows (i + 2) b.toNat now sn []:=⟨_,rfl⟩
       rw [←hT] at hcl
       have hTM:MInv N.n (i + 2) T.1 T.2:=by rw [hT,←hrw]; exact (qw (b:=b.toNat) (mf hN) now sn [] hfr).1
       have hTl:=mw N.n T.2 hTM.nodup hTM.lt
       replace hcl:=hid hcl
       simp (disch:=omega) [-List.reduceReplicate,aX,hnow2,hnow3,hnow,af]
       refine ak (fun (x:Nat × List Nat × List Nat)=>⟨[(1,.str s),(5,.ptr 0 0),(6,aX rows),(9,.ref 1 N.n),(10,.ref 2 now.length),(11,.ref 3 x.2.2.length),(12,nV i),(13,nV (i + 2)),(69,.ref 2 now.length),(70,nV now.length),(71,nV x.1)],
        [some (.box [nV N.n,nV N.start,nV N.stop,.seq 4 (N.edges.map NEdge.v)]),some (.arr bb 1 (x.2.1.map nV)),some (.arr bb 1 (now.map nV)),some (.arr bb 1 (x.2.2.map nV))]⟩)
        (fun x=>x.1≤now.length∧MInv N.n (i + 2) x.2.1 x.2.2∧jP rows (i + 2) b.toNat (now.drop x.1) x.2.1 x.2.2=T) (fun x=>now.length - x.1) [] _ (0,sn,[]) rfl (by simp [aX]) ⟨by simp,hfr,by simp [hT]⟩ ?_
       clear hT
       rintro ⟨j,sn2,nx2⟩ ⟨hj,hM2,hrow⟩ M2 hN2
       simp only at hj hM2 hrow
       have hsl2:=hM2.len
       rcases place now j hj with ⟨he2,hd2⟩ | ⟨hlt2,q,hq,hd2⟩<;>rw [hd2] at hrow
       · simp only [jP] at hrow
         subst hrow
         clear hN2
         have hnx2:nx2.length≤N.n:=by simpa using hTl
         simp (disch:=omega) [-List.reduceReplicate,aX,he2]
         refine ar [1] 1 [1,3] (by simp [hsl2]) (by simp [aX]) (by simp [aX]) (by simp) (mR hRO (by omega) (i + 2) (N.n + 1) (by omega) (by omega) sn2 nx2 sn' now' hsl2 hM2.lt (by omega) hcl.out) (by simp) fun _ _=>?_
         simp (disch:=omega) [-List.reduceReplicate]
         exact hM.out _<|Nx.mk (i + 1,sn',now',now) (by simp [aX]) ⟨by simp only; omega,hM1,hL1,by simpa using hgo.out⟩ (by simp only; omega)
       · have hqn:=hM2.lt
         have hqn:q < N.n:=hMi.lt q (List.mem_of_getElem? hq)
         obtain ⟨r,hrr⟩:=aO (l:=rows) (k:=q) (by rw [hRO.len]; exact hqn)
         have hrm:=List.mem_of_getElem? hrr
         have hrl:=hRO.few r hrm
         simp only [jP,hrr,Option.getD_some] at hrow
         obtain ⟨T2,hT2⟩:∃ T2,T2=ic (i + 2) b.toNat r sn2 nx2:=⟨_,rfl⟩
         have hT2M:MInv N.n (i + 2) T2.1 T2.2:=by rw [hT2]; exact (nu (b:=b.toNat) r sn2 nx2 hM2 fun e he=>(hRO.to r hrm e he).1).1
         rw [←hT2] at hrow
         replace hrow:=hid hrow
         simp (disch:=omega) [-List.reduceReplicate,aX,hq,hrr]
         refine ak (fun (x:Nat × List Nat × List Nat)=>⟨[(1,.str s),(5,.ptr 0 0),(6,aX rows),(9,.ref 1 N.n),(10,.ref 2 now.length),(11,.ref 3 x.2.2.length),(12,nV i),(13,nV (i + 2)),(69,.ref 2 now.length),(70,nV now.length),(71,nV j),(78,.seq 4 (r.map NEdge.v)),(79,nV r.length),(80,nV x.1)],
          [some (.box [nV N.n,nV N.start,nV N.stop,.seq 4 (N.edges.map NEdge.v)]),some (.arr bb 1 (x.2.1.map nV)),some (.arr bb 1 (now.map nV)),some (.arr bb 1 (x.2.2.map nV))]⟩)
          (fun x=>x.1≤r.length∧MInv N.n (i + 2) x.2.1 x.2.2∧ic (i + 2) b.toNat (r.drop x.1) x.2.1 x.2.2=T2) (fun x=>r.length - x.1) [] _ (0,sn2,nx2) rfl (by simp [aX]) ⟨by simp,hM2,by simp [hT2]⟩ ?_
         clear hT2
         rintro ⟨k,sn3,nx3⟩ ⟨hk3,hM3,hrow3⟩ M3 hN3
         simp only at hk3 hM3 hrow3
         have hsl3:=hM3.len
         have hnl3:=mw N.n nx3 hM3.nodup hM3.lt
         rcases place r k hk3 with ⟨he3,hd3⟩ | ⟨hlt3,e,hre,hd3⟩<;>rw [hd3] at hrow3
         · simp only [ic] at hrow3
           subst hrow3
           clear hN3
           simp (disch:=omega) [-List.reduceReplicate,aX,he3]
           exact hN2.out _<|Nx.mk (j + 1,sn3,nx3) (by simp [aX]) ⟨by simp only; omega,hM3,by simpa using hrow.out⟩ (by simp only; omega)
         · obtain ⟨g1,g2,g3⟩:=hRO.to r hrm e (List.mem_of_getElem? hre)
           obtain ⟨v,hv⟩:=aO (l:=sn3) (k:=e.to) (by omega)
           simp only [ic,hv,Option.some.injEq] at hrow3
           have hb8:=b.toNat_lt
           clear hM hN2
           by_cases c1:e.low≤b.toNat
           · by_cases c2:b.toNat≤e.high
             · by_cases c3:v=i + 2
               · rw [if_neg (fun h=>h.2 c3)] at hrow3
                 have c3':(v:Int)=(i:Int) + 2:=by omega
                 replace hrow3:=hid hrow3
                 simp (disch:=omega) [-List.reduceReplicate,aX,hre,hb,c1,c2,hsl3,hv,c3,c3',g1]
                 exact hN3.out _<|Nx.mk (k + 1,sn3,nx3) (by simp [aX]) ⟨by simp only; omega,hM3,hrow3.out⟩ (by simp only; omega)
               · rw [if_pos ⟨⟨c1,c2⟩,c3⟩] at hrow3
                 have c3':¬(v:Int)=(i:Int) + 2:=by omega
                 have hadd:=hM3.add g1 (by rw [hv]; simpa using c3)
                 replace hrow3:=hid hrow3
                 simp (disch:=omega) [-List.reduceReplicate,aX,hre,hb,c1,c2,hsl3,hv,c3,c3',g1]
                 exact hN3.out _<|Nx.mk (k + 1,sn3.set e.to (i + 2),nx3++[e.to]) (by simp [aX,List.map_set]) ⟨by simp only; omega,hadd,hrow3.out⟩ (by simp only; omega)
             · rw [if_neg (fun h=>c2 h.1.2)] at hrow3
               replace hrow3:=hid hrow3
               simp (disch:=omega) [-List.reduceReplicate,aX,hre,hb,c1,c2]
               exact hN3.out _<|Nx.mk (k + 1,sn3,nx3) (by simp [aX]) ⟨by simp only; omega,hM3,hrow3.out⟩ (by simp only; omega)
           · rw [if_neg (fun h=>c1 h.1.1)] at hrow3
             replace hrow3:=hid hrow3
             simp (disch:=omega) [-List.reduceReplicate,aX,hre,hb,c1]
             exact hN3.out _<|Nx.mk (k + 1,sn3,nx3) (by simp [aX]) ⟨by simp only; omega,hM3,hrow3.out⟩ (by simp only; omega)
end Go.Abs
end
section
set_option maxRecDepth 100000
set_option maxHeartbeats 1000000
namespace Go.Abs
open Go.Proofs Go.Aut
theorem Sz:Oo:=fun x N v hN hl hne hnet hv=>Ih hN hl hnet hne v hv (mtP N v) rfl
end Go.Abs
end
section
set_option maxHeartbeats 4000000
set_option maxRecDepth 100000
namespace Go.Abs.F
open Go.Proofs
attribute [-simp] getElem?_pos Option.not_isSome List.map_map
theorem qc (c:Constraint) (v:Str) (hv:v.length≤1000):Fn Tryz.prog bK [(good12 c).v,.str v] (.bool (allows12 (good12 c) v)):=by
 obtain ⟨x,hx⟩:=FZ c
 exact sQ (IB Sz) hx v hv
def Js (A:Constraint→Str→Bool) (p:Policy):Prop:=∀ e∈p.elements,∀ r∈e.rules,∀ v:Str,v.length≤1000→Fn Tryz.prog bK [r.value.v,.str v] (.bool (A r.value v))
theorem mN (p:Policy):Js allows12 (aT p):=by
 intro e he r hr v hv
 obtain ⟨_,l,hl⟩:=p3 p e he
 rw [hl] at hr
 obtain ⟨c,hc⟩:=gH (l.take 3) [] 0 (by simp) r hr
 rw [hc]
 exact qc c v hv
theorem uS (A:Constraint→Str→Bool) (e:Allowed) (a:Attr) (hA:∀ r∈e.rules,Fn Tryz.prog bK [r.value.v,.str a.value] (.bool (A r.value a.value))):
 FnH Tryz.prog ga [1] [a.v,.ptr 0 0] [some (.box [.str e.name,.seq 1 (e.kids.map .str),.seq 5 (e.rules.map Rule.v)])] (.bool (nn A e a)) [some (.box [.str e.name,.seq 1 (e.kids.map .str),.seq 5 (e.rules.map Rule.v)])]:=by
 refine FnH.of_image mixed uM uE rfl fun ho hh=>?_
 unfold lN
 clear ho hh
 simp (disch:=omega) [-List.reduceReplicate,nn]
 refine an (An e a.name) (by simp) fun _=>?_
 cases hf:dY e.rules a.name with
 | none=>
   simp (disch:=omega) [-List.reduceReplicate,hf]
 | some r=>
   simp (disch:=omega) [-List.reduceReplicate,hf]
   refine ac (by simpa using hA r (sN hf).1) rfl fun _=>?_
   simp (disch:=omega) [-List.reduceReplicate]
theorem Au (e:Allowed):FnH Tryz.prog yH [] [e.v] [] (.fn (.func ga) [] [.ptr 0 0]) [some (.box [.str e.name,.seq 1 (e.kids.map .str),.seq 5 (e.rules.map Rule.v)])]:=by
 refine FnH.of_image mixed z6 zn rfl fun ho hh=>?_
 unfold pu
 clear ho hh
 simp (disch:=omega) [-List.reduceReplicate]
def x0 (e:Allowed):List Str:=(e.rules.filter (·.req)).map (·.name)
theorem rk (e:Allowed) (hl:e.rules.length≤1000000):Fn Tryz.prog qL [e.v] (.seq 1 ((x0 e).map .str)):=by
 refine Fn.of_image mixed qZ qW rfl fun ho=>?_
 unfold jg
 simp only [oks,ok,and_true] at ho
 clear ho
 simp (disch:=omega) [-List.reduceReplicate]
 generalize hw:x0 e=w
 refine ak (fun (q:Nat × List Str)=>⟨[(3,.ref 0 q.2.length),(7,.seq 5 (e.rules.map Rule.v)),(8,.int .i64 e.rules.length),(9,.int .i64 q.1)],[some (.arr aL 1 (q.2.map .str))]⟩)
  (fun q=>q.1≤e.rules.length∧q.2.length≤q.1∧q.2++((e.rules.drop q.1).filter (·.req)).map (·.name)=w) (fun q=>e.rules.length - q.1) [.r 3 aL 1] _ (0,[]) rfl (by simp) (by simp [←hw,x0]) ?_
 rintro ⟨k,out⟩ ⟨hk,hol,hi⟩ N hN
 simp only at hk hol hi
 rcases place e.rules k hk with ⟨he,hd⟩ | ⟨hlt,x,hx,hd⟩<;>rw [hd] at hi
 · simp at hi
   subst hi
   simp (disch:=omega) [-List.reduceReplicate,he]
 · simp only [List.filter_cons] at hi
   replace hi:=hid hi
   simp (disch:=omega) [-List.reduceReplicate,hx]
   refine BrK.mk (fun h=>?_) (fun h=>?_)
   · simp (disch:=omega) [-List.reduceReplicate,hx]
     have hi:=hi.out
     refine hN.out _<|Nx.mk (k + 1,out++[x.name]) (by simp) ⟨by simp only; omega,by simp; omega,?_⟩ (by simp only; omega)
     simpa [h] using hi
   · simp (disch:=omega) [-List.reduceReplicate,hx]
     have hi:=hi.out
     refine hN.out _<|Nx.mk (k + 1,out) (by simp) ⟨by simp only; omega,by simp only; omega,?_⟩ (by simp only; omega)
     simpa [h] using hi
def pW (A:Constraint→Str→Bool) (e:Allowed) (l:List Attr):Bool:=l.all (nn A e) && (x0 e).all (ge l)
theorem Av (A:Constraint→Str→Bool) (e:Allowed) (l:List Attr) (hl:l.length≤1000000) (hr:e.rules.length≤1000000) (hA:∀ r∈e.rules,∀ a∈l,Fn Tryz.prog bK [r.value.v,.str a.value] (.bool (A r.value a.value))):
 Fn Tryz.prog oC [e.v,.seq 2 (l.map Attr.v)] (.bool (pW A e l)):=by
 refine Fn.of_imageE mixed z8 zp rfl fun ho=>?_
 unfold py
 simp only [oks,ok,and_true] at ho
 clear ho
 simp (disch:=omega) [-List.reduceReplicate]
 refine ar [] 0 [] (by simp) (by simp) (by simp) (by simp) (Au e) (by simp) fun _ _=>?_
 simp (disch:=omega) [-List.reduceReplicate]
 generalize hw:pW A e l=w
 refine ak (fun (k:Nat)=>⟨[(1,.seq 2 (l.map Attr.v)),(2,.ptr 0 0),(5,.fn (.func ga) [] [.ptr 1 0]),(12,.seq 2 (l.map Attr.v)),(13,.int .i64 l.length),(14,.int .i64 k)],
  [some (.box [.str e.name,.seq 1 (e.kids.map .str),.seq 5 (e.rules.map Rule.v)]),some (.box [.str e.name,.seq 1 (e.kids.map .str),.seq 5 (e.rules.map Rule.v)])]⟩)
  (fun k=>k≤l.length∧((l.drop k).all (nn A e) && (x0 e).all (ge l))=w) (fun k=>l.length - k) [] _ 0 rfl (by simp) (by simp [←hw,pW]) ?_
 rintro k ⟨hk,hi⟩ N hN
 rcases place l k hk with ⟨he,hd⟩ | ⟨hlt,x,hx,hd⟩<;>rw [hd] at hi
 · simp only [List.all_nil,Bool.true_and] at hi
   clear hw
   have hrl:(x0 e).length≤1000000:=by
    have:=List.length_filter_le (·.req) e.rules
    simp only [x0,List.length_map]; omega
   simp (disch:=omega) [-List.reduceReplicate,he]
   refine an (rk e hr) (by simp) fun _=>?_
   generalize x0 e=rs at *
   simp (disch:=omega) [-List.reduceReplicate]
   refine ak (fun (j:Nat)=>⟨[(1,.seq 2 (l.map Attr.v)),(24,.seq 1 (rs.map .str)),(25,.int .i64 rs.length),(26,.int .i64 j)],[]⟩)
    (fun j=>j≤rs.length∧(rs.drop j).all (ge l)=w) (fun j=>rs.length - j) [] _ 0 rfl (by simp) (by simpa using hi) ?_
   rintro j ⟨hj,hi2⟩ N2 hN2
   rcases place rs j hj with ⟨he2,hd2⟩ | ⟨hlt2,y,hy,hd2⟩<;>rw [hd2] at hi2
   · simp at hi2
     subst hi2
     simp (disch:=omega) [-List.reduceReplicate,he2]
   · simp only [List.all_cons] at hi2
     replace hi2:=hid hi2
     simp (disch:=omega) [-List.reduceReplicate,hy]
     refine ac (At l y) rfl fun _=>?_
     simp (disch:=omega) [-List.reduceReplicate]
     refine BrK.mk (fun h=>?_) (fun h=>?_)
     · simp (disch:=omega) [-List.reduceReplicate,h]
       refine hN2.out _<|Nx.mk (j + 1) (by simp) ⟨by omega,?_⟩ (by omega)
       have hi2:=hi2.out
       simpa [h] using hi2
     · simp (disch:=omega) [-List.reduceReplicate,h]
       have hi2:=hi2.out
       simpa [h] using hi2
 · simp only [List.all_cons] at hi
   replace hi:=hid hi
   have hax:=uS A e x (fun r hr=>hA r hr x (List.mem_of_getElem? hx))
   simp (disch:=omega) [-List.reduceReplicate,hx]
   refine ar [1] 1 [1] (by simp) (by simp) (by simp) (by simp) hax (by simp) fun _ _=>?_
   simp (disch:=omega) [-List.reduceReplicate]
   refine BrK.mk (fun h=>?_) (fun h=>?_)
   · simp (disch:=omega) [-List.reduceReplicate,h]
     refine hN.out _<|Nx.mk (k + 1) (by simp) ⟨by omega,?_⟩ (by omega)
     have hi:=hi.out
     simpa [h] using hi
   · simp (disch:=omega) [-List.reduceReplicate,h]
     have hi:=hi.out
     simpa [h] using hi
theorem HK (l:List Attr) (s:Str):ge l s=(eU l s).isSome:=by
 induction l with
 | nil=>rfl
 | cons a l ih=>by_cases h:a.name=s<;>simp [ge,eU,h,ih]
theorem Bg (A:Constraint→Str→Bool) (e:Allowed) (l:List Attr):pW A e l=mI A e l:=by
 have h1:l.all (nn A e)=decide ((ln A e l).length=l.length):=by
  rw [Bool.eq_iff_iff,decide_eq_true_iff,ln,List.length_filter_eq_length_iff,List.all_eq_true]
 have h2:(x0 e).all (ge l)=whole e l:=by
  simp only [x0,whole]
  induction e.rules with
  | nil=>rfl
  | cons r rs ih=>
    simp only [List.filter_cons]
    cases hr:r.req
    · simpa [hr] using ih
    · simp only [if_true,List.map_cons,List.all_cons,ih,hr,HK,Bool.true_and,Bool.not_not]
 rw [pW,mI,h1,h2]
theorem FB (p:Policy) (hp:Js allows12 p) (hr:∀ e∈p.elements,e.rules.length≤1000000) (l:List Node) (hf:aj lC l):rZ (pW allows12) p l:=by
 intro i x h1 _ _ _
 have hx:lC x.2:=PP l 0 [] hf x (List.mem_of_getElem? h1)
 refine Av allows12 _ _ hx.1 ?_ ?_
 · cases hf:aZ p.elements x.2.name with
   | none=>simp [Allowed.zero]
   | some e=>exact hr e (jZ hf).1
 · intro r hr a ha
   cases hf:aZ p.elements x.2.name with
   | none=>rw [hf] at hr; simp [Allowed.zero] at hr
   | some e=>rw [hf] at hr; exact hp e (jZ hf).1 r hr a.value (hx.2 a ha)
end Go.Abs.F
end
section
set_option maxHeartbeats 16000000
set_option maxRecDepth 100000
namespace Go.Abs.F
open Go.Proofs
attribute [-simp] getElem?_pos Option.not_isSome List.map_map
abbrev HQ:Allowed→List Attr→Bool:=pW allows12
theorem q8 (p:Policy):∀ e∈(aT p).elements,e.rules.length≤1000000:=fun e he=>(HT p).2.2 e he |>.2
theorem DY (p:Policy) (l:List Node) (h1:aj cU l) (h2:aj lC l) (hc:am l < 1000):Fn Tryz.prog oB [(aT p).v,.seq 5 (l.map Node.v)] (.bool (iY allows12 (aT p) l)):=by
 rw [←Kb (H:=HQ) (Bg _) (q9 p)]
 exact fw HQ (aT p) l h1 hc (fun _=>FB _ (mN p) (q8 p) l h2)
theorem Q2 (p:Policy) (l:List Node) (hs:aj shp l) (h2:aj lC l) (hc:am l < 1000):Fn Tryz.prog tA [(aT p).v,.seq 5 (l.map Node.v)] (.int .i64 (tu allows12 (aT p) l)):=by
 rw [←I0 (H:=HQ) (Bg _) (q9 p) hs]
 exact mW HQ (aT p) l hc (FB _ (mN p) (q8 p) l h2)
theorem F9 {l:List Node} (h:aj DB l):aj cU l:=nR (fun n h _=>⟨by have:=h.1; omega,by have:=h.2.1; omega,by have:=h.2.2.1; omega,fun a ha=>by have:=h.2.2.2 a ha; omega⟩) l h
theorem F8 {l:List Node} (h:aj DB l):aj lC l:=nR (fun n h _=>⟨by have:=h.2.2.1; omega,fun a ha=>by have:=h.2.2.2 a ha; omega⟩) l h
theorem p9 (p:Policy) (l:List Node) (hR:∀ e∈p.elements,∀ r∈e.rules,r.value.regex.length≤1125899906842624):FnE Tryz.prog bz [p.v,.seq 5 (l.map Node.v)] (.bool true):=by
 refine FnE.of_image mixed d9 pV rfl fun ho=>?_
 unfold iN
 clear ho
 have hw:=tP l 40
 have hwc:=rt l 40
 have hfew:=tK l
 generalize (cL l 40).1=w at *
 obtain ⟨a1,a2,a3⟩:=mO w
 obtain ⟨b1,b2,b3⟩:=F0 w
 have hA:=sL p
 have c1:=DY p w (F9 hw) (F8 hw) (by omega)
 have d1:=jt allows12 (aT p) hA w (F8 hw) (F9 hw) (by omega)
 have c2:=DY p (bO w) (va _ a1 (by omega)) (i8 _ a1) (by omega)
 have d2:=jt allows12 (aT p) hA (bO w) (i8 _ a1) (va _ a1 (by omega)) (by omega)
 have c3:=DY p (eb w) (va _ b1 (by omega)) (i8 _ b1) (by omega)
 have d3:=jt allows12 (aT p) hA (eb w) (i8 _ b1) (va _ b1 (by omega)) (by omega)
 have c4:=Q2 p (bO w) (xc w) (i8 _ a1) (by omega)
 have d4:=mS allows12 (aT p) hA (bO w) (i8 _ a1) (by omega)
 have c5:=Q2 p (eb w) (HU w) (i8 _ b1) (by omega)
 have d5:=mS allows12 (aT p) hA (eb w) (i8 _ b1) (by omega)
 generalize iY allows12 (aT p) w=n1 at *
 generalize iY allows12 (aT p) (bO w)=n2 at *
 generalize iY allows12 (aT p) (eb w)=n3 at *
 generalize tu allows12 (aT p) (bO w)=o1 at *
 generalize tu allows12 (aT p) (eb w)=o2 at *
 have hg:=DK p hR
 have hg3:=rj w
 have hg6:=DP w
 clear hA a1 a3 b1 b3 hw
 generalize aT p=g at *
 generalize bO w=na at *
 generalize eb w=nb at *
 have l1:=fx w
 have l2:=fx na
 have l3:=fx nb
 simp (disch:=omega) [-List.reduceReplicate]
 refine an (by simpa using hg) (by simp) fun _=>?_
 simp (disch:=omega) [-List.reduceReplicate]
 refine an hfew (by simp) fun _=>?_
 simp (disch:=omega) [-List.reduceReplicate]
 refine an hg3 (by simp) fun _=>?_
 simp (disch:=omega) [-List.reduceReplicate]
 refine an hg6 (by simp) fun _=>?_
 simp (disch:=omega) [-List.reduceReplicate]
 refine al (by simpa using c1) rfl ?_
 simp (disch:=omega) [-List.reduceReplicate]
 refine al (by simpa using d1) rfl ?_
 simp (disch:=omega) [-List.reduceReplicate]
 refine al (by simpa using c2) rfl ?_
 simp (disch:=omega) [-List.reduceReplicate]
 refine al (by simpa using d2) rfl ?_
 simp (disch:=omega) [-List.reduceReplicate]
 refine al (by simpa using c3) rfl ?_
 simp (disch:=omega) [-List.reduceReplicate]
 refine al (by simpa using d3) rfl ?_
 simp (disch:=omega) [-List.reduceReplicate]
 refine al (by simpa using c4) rfl ?_
 simp (disch:=omega) [-List.reduceReplicate]
 refine al (by simpa using d4) rfl ?_
 simp (disch:=omega) [-List.reduceReplicate]
 refine al (by simpa using c5) rfl ?_
 simp (disch:=omega) [-List.reduceReplicate]
 refine al (by simpa using d5) rfl ?_
 simp (disch:=omega) [-List.reduceReplicate]
 refine al Ar rfl ?_
 simp (disch:=omega) [-List.reduceReplicate]
end Go.Abs.F
end
