/-
  Match of package regex. No condition.
  LangAllows' function answers true. No condition.
  What the program's functions for attributes that are allowed answer. No condition.
  AllowNodes' function answers true. No condition.
  AllowLess' function answers true. No condition.
-/
import Derived.Test.YthficpngadcpgaaGreatDoorPR16
import Derived.Test.YthficpngadcpgaaGreatDoorPP4
import Derived.Test.YthficpngadcpgaaGreatDoorPP5
set_option linter.unusedVariables false
set_option linter.unusedSimpArgs false
set_option linter.unusedSectionVars false
section
set_option maxHeartbeats 4000000
set_option maxRecDepth 100000
namespace Go.Abs
open Go.Proofs Go.Aut
attribute [-simp] getElem?_pos Option.not_isSome List.map_map
def t8 (es:List NEdge) (n:Nat):List (List V):=(br es n).map fun r=>r.map NEdge.v
theorem t7 {es:List NEdge} {n:Nat}:(t8 es n).length=n:=by simp [t8,br]
theorem pq {es:List NEdge} {n q:Nat} (h:q < n):(t8 es n)[q]?=some ((vK es q).map NEdge.v):=by
 simp only [t8,br,List.getElem?_map,List.getElem?_range h,Option.map_some]
theorem zF {es:List NEdge} {n q:Nat} (h:n≤q):(t8 es n)[q]?=none:=List.getElem?_eq_none (by rw [t7]; exact h)
theorem Jz {n:Nat}:t8 [] n=List.replicate n []:=by
 apply List.ext_getElem?
 intro q
 rcases Nat.lt_or_ge q n with h | h
 · rw [pq h,List.getElem?_replicate,if_pos h]; rfl
 · rw [zF h,List.getElem?_eq_none (by simpa using h)]
theorem GP {es:List NEdge} {e:NEdge} {n:Nat} (h:e.fr < n):(t8 es n).set e.fr ((vK es e.fr).map NEdge.v++[NEdge.v e])=t8 (es++[e]) n:=by
 apply List.ext_getElem?
 intro q
 rw [List.getElem?_set,t7]
 rcases Nat.lt_or_ge q n with hq | hq
 · rw [pq hq,pq hq]
   by_cases hf:e.fr=q
   · subst hf; simp [vK,h]
   · simp [vK,hf]
 · rw [zF hq,zF hq]
   by_cases hf:e.fr=q
   · omega
   · simp [hf]
theorem By {es:List NEdge} {q:Nat}:(vK es q).length≤es.length:=List.length_filter_le _ _
theorem Ot {N:Net} (h:N.ok):∃ sn now,m5 (br N.edges N.n) 1 (N.n + 1) 0 ((List.replicate N.n 0).set N.start 1) [N.start]=some (sn,now)∧MInv N.n 1 sn now∧Low 1 sn:=by
 have h0:MInv N.n 1 (List.replicate N.n 0) []:=MInv.fresh (mark:=0) (by simp) fun q v hv=>by
  rw [List.getElem?_replicate] at hv
  split at hv
  · cases hv; exact Nat.le_refl _
  · cases hv
 have hm:¬(List.replicate N.n 0)[N.start]?=some 1:=fun e=>by
  rw [List.getElem?_replicate] at e
  split at e<;>simp at e
 have h1:=h0.add h.start hm
 have hlow:Low 1 ((List.replicate N.n 0).set N.start 1):=Low.set fun q v hv=>by
  rw [List.getElem?_replicate] at hv
  split at hv
  · cases hv; exact Nat.zero_le _
  · cases hv
 obtain ⟨sn,now,k1,k2,_⟩:=jl (lg h) (S:=fun _=>True) (fun _ _ _ _ _ _ _=>trivial) (N.n + 1) 0 _ [N.start] h1 (fun _ _=>trivial) (by simp) (fun j hj=>by omega) (by omega)
 exact ⟨sn,now,k1,k2,Low.cl _ _ _ _ _ _ hlow k1⟩
theorem stepM {N:Net} (h:N.ok) {i b:Nat} {sn now:List Nat} (hI:MInv N.n (i + 1) sn now) (hL:Low (i + 1) sn):
 ∃ sn' now',m5 (br N.edges N.n) (i + 2) (N.n + 1) 0 (i4 (br N.edges N.n) (i + 2) b now sn []).1 (i4 (br N.edges N.n) (i + 2) b now sn []).2=some (sn',now')∧MInv N.n (i + 2) sn' now'∧Low (i + 2) sn':=by
 have hto:=lg h
 have hf:MInv N.n (i + 2) sn []:=MInv.fresh (mark:=i + 1) hI.len hL
 obtain ⟨h1,_⟩:=oU (b:=b) hto now sn [] hf
 have hlow:Low (i + 2) (i4 (br N.edges N.n) (i + 2) b now sn []).1:=Low.go _ _ _ fun q v hv=>by have:=hL q v hv; omega
 obtain ⟨sn',now',k1,k2,_⟩:=jl hto (S:=fun _=>True) (fun _ _ _ _ _ _ _=>trivial) (N.n + 1) 0 _ _ h1 (fun _ _=>trivial) (by omega) (fun j hj=>by omega) (by omega)
 exact ⟨sn',now',k1,k2,Low.cl _ _ _ _ _ _ hlow k1⟩
theorem I4 {N:Net} (h:N.ok) (hl:N.edges.length≤1000000):RowsOK N.n (br N.edges N.n):=by
 refine ⟨by simp [br],fun r hr e he=>?_,fun r hr=>?_⟩
 · simp only [br,List.mem_map] at hr
   obtain ⟨q,_,rfl⟩:=hr
   obtain ⟨_,h2,h3,h4⟩:=h.ends e (ja.1 he).1
   exact ⟨h2,h3,h4⟩
 · simp only [br,List.mem_map] at hr
   obtain ⟨q,_,rfl⟩:=hr
   exact Nat.le_trans By hl
theorem EG {x:Rx} {N:Net} (hN:N.ok) (hl:N.edges.length≤1000000) (hnet:Fn Tryz.prog cn [rxP x] (.strct (Net.c N))) (hne:0 < N.edges.length) (s:Str) (hs:s.length≤1000) (R:Bool) (hR:mtP N s=R):Fn Tryz.prog cU [rxP x,.str s] (.bool R):=by
 refine Fn.of_imageE mixed lL lI rfl fun ho=>?_
 unfold fw
 simp only [oks,ok,and_true] at ho
 clear ho
 have hnl:=hN.le
 simp at hnet
 simp (disch:=omega) [-List.reduceReplicate]
 refine aK hnet (by simp) fun _=>?_
 simp (disch:=omega) [-List.reduceReplicate]
 rw [←Jz]
 refine am (fun k:Nat=>if k < N.edges.length then ⟨[(1,.str s),(5,.ptr 0 0),(6,.ref 1 N.n),(24,.seq 4 (N.edges.map NEdge.v)),(25,nV N.edges.length),(26,nV k)],[some (.box [nV N.n,nV N.start,nV N.stop,.seq 4 (N.edges.map NEdge.v)]),some (.mat jy bz 4 (sm (t8 (N.edges.take k) N.n)))]⟩
  else ⟨[(1,.str s),(5,.ptr 0 0),(6,aQ (br N.edges N.n)),(24,.seq 4 (N.edges.map NEdge.v)),(25,nV N.edges.length),(26,nV k)],[some (.box [nV N.n,nV N.start,nV N.stop,.seq 4 (N.edges.map NEdge.v)])]⟩) (fun k=>k≤N.edges.length) (fun k=>N.edges.length - k) [] _ 0 rfl (by simp [hne]) (by simp) ?_
 intro k hk M hM
 rcases Nat.lt_or_ge k N.edges.length with hlt | hge
 · obtain ⟨e,he⟩:=aV hlt
   obtain ⟨e1,e2,e3,e4⟩:=hN.ends e (List.mem_of_getElem? he)
   have htk:=cC he
   have hrg:=pq (es:=N.edges.take k) e1
   have hrl:(vK (N.edges.take k) e.fr).length≤1000000:=Nat.le_trans By (by simp; omega)
   have hml:=t7 (es:=N.edges.take k) (n:=N.n)
   have hms:=GP (es:=N.edges.take k) e1
   rw [←htk] at hms
   simp only [NEdge.v,nV,u8V] at hms
   rw [if_pos hlt]
   simp (disch:=omega) [-List.reduceReplicate,he,hrg,e1,hml]
   refine ql ⟨[(1,.str s),(5,.ptr 0 0),(6,.ref 1 N.n),(24,.seq 4 (N.edges.map NEdge.v)),(25,nV N.edges.length),(26,nV k)],[some (.box [nV N.n,nV N.start,nV N.stop,.seq 4 (N.edges.map NEdge.v)]),some (.mat jy bz 4 (sm (t8 (N.edges.take (k + 1)) N.n)))]⟩ (fun F hF=>?_) ?_
   · simp at hF
     repeat' first | exact hF | refine qm.mk ?_ ?_ | simp (disch:=omega) [-List.reduceReplicate,hrg,e1,hml,hms]
   simp (disch:=omega) [-List.reduceReplicate]
   by_cases hk1:k + 1 < N.edges.length
   · exact hM.out _<|Nx.mk (k + 1) (by simp only [if_pos hk1]; simp) (by first | omega | (simp only; omega)) (by first | omega | (simp only; omega))
   · have hk2:k + 1=N.edges.length:=by omega
     have hrl2:(br N.edges N.n).length=N.n:=by simp [br]
     have hk3:((k:Int) + 1)=(N.edges.length:Nat):=by omega
     refine hM.out _ ⟨[.z 6],⟨[(6,aQ (br N.edges N.n)),(1,.str s),(5,.ptr 0 0),(6,.ref 1 N.n),(24,.seq 4 (N.edges.map NEdge.v)),(25,nV N.edges.length),(26,nV (k + 1))],[some (.box [nV N.n,nV N.start,nV N.stop,.seq 4 (N.edges.map NEdge.v)]),none]⟩,k + 1,?_,?_,by simp only; omega,by simp only; omega⟩
     · simp [hk2,hk3,hrl2,aQ,t8,List.map_map,Function.comp_def]
     · simp only [if_neg (show ¬k + 1 < N.edges.length by omega)]
       simp [aQ]
 · have:k=N.edges.length:=by omega
   subst this
   clear hM
   rw [if_neg (by omega)]
   have hst:=hN.start
   have hRO:=I4 hN hl
   obtain ⟨sn0,now0,hc0,hM0,hL0⟩:=Ot hN
   simp only [mtP,hc0] at hR
   generalize hrw:br N.edges N.n=rows at *
   simp (disch:=omega) [-List.reduceReplicate,hst]
   refine ap [1] 1 [1,2] (by simp) (by simp [aQ]) (by simp [aQ]) (by simp [List.map_set]) (lP hRO (by omega) 1 (N.n + 1) (by omega) (by omega) ((List.replicate N.n 0).set N.start 1) [N.start] sn0 now0 (by simp) (by simpa using hst) (by simp) hc0) (by simp) fun _ _=>?_
   simp (disch:=omega) [-List.reduceReplicate]
   refine am (fun (x:Nat × List Nat × List Nat × List Nat)=>⟨[(1,.str s),(5,.ptr 0 0),(6,aQ rows),(9,.ref 1 N.n),(10,.ref 2 x.2.2.1.length),(11,.ref 3 x.2.2.2.length),(12,nV x.1)],
    [some (.box [nV N.n,nV N.start,nV N.stop,.seq 4 (N.edges.map NEdge.v)]),some (.arr bb 1 (x.2.1.map nV)),some (.arr bb 1 (x.2.2.1.map nV)),some (.arr bb 1 (x.2.2.2.map nV))]⟩)
    (fun x=>x.1≤s.length∧MInv N.n (x.1 + 1) x.2.1 x.2.2.1∧Low (x.1 + 1) x.2.1∧B6 N x.1 (s.drop x.1) x.2.1 x.2.2.1=R) (fun x=>s.length - x.1) [.r 11 bb 1] _ (0,sn0,now0,[]) rfl (by simp [aQ]) ⟨by simp,hM0,hL0,by simpa using hR⟩ ?_
   clear hR
   rintro ⟨i,sn,now,nx⟩ ⟨hi,hMi,hLi,hgo⟩ M hM
   simp only at hi hMi hLi hgo
   have hsl:=hMi.len
   have hnl2:=ly N.n now hMi.nodup hMi.lt
   rcases place s i hi with ⟨he,hd⟩ | ⟨hlt,b,hb,hd⟩<;>rw [hd] at hgo
   · obtain ⟨v,hv⟩:=aV (l:=sn) (k:=N.stop) (by rw [hsl]; exact hN.stop)
     have hst2:=hN.stop
     simp only [B6,hv,Option.some.injEq] at hgo
     clear hM
     replace hgo:=hid hgo
     simp (disch:=omega) [-List.reduceReplicate,aQ,he,hst2,hv]
     have hgo:=hgo.out
     rw [←hgo]
     congr 1
     exact propext (by omega)
   · obtain ⟨sn',now',hcl,hM1,hL1⟩:=stepM (b:=b.toNat) hN hMi hLi
     have hfr:MInv N.n (i + 2) sn []:=MInv.fresh (mark:=i + 1) hsl hLi
     simp only [B6,hcl] at hgo
     rw [hrw] at hcl
     by_cases hnow:now=[]
     · subst hnow
       simp only [if_true] at hgo
       subst hgo
       clear hM
       simp (disch:=omega) [-List.reduceReplicate,aQ]
     · rw [if_neg hnow] at hgo
       have hnow2:¬now.length=0:=fun h=>hnow (List.length_eq_zero_iff.1 h)
       have hnow3:¬(now.length:Int)=0:=by omega
       replace hgo:=hid hgo
       obtain ⟨T,hT⟩:∃ T,T=i4 rows (i + 2) b.toNat now sn []:=⟨_,rfl⟩
       rw [←hT] at hcl
       have hTM:MInv N.n (i + 2) T.1 T.2:=by rw [hT,←hrw]; exact (oU (b:=b.toNat) (lg hN) now sn [] hfr).1
       have hTl:=ly N.n T.2 hTM.nodup hTM.lt
       replace hcl:=hid hcl
       simp (disch:=omega) [-List.reduceReplicate,aQ,hnow2,hnow3,hnow,af]
       refine am (fun (x:Nat × List Nat × List Nat)=>⟨[(1,.str s),(5,.ptr 0 0),(6,aQ rows),(9,.ref 1 N.n),(10,.ref 2 now.length),(11,.ref 3 x.2.2.length),(12,nV i),(13,nV (i + 2)),(69,.ref 2 now.length),(70,nV now.length),(71,nV x.1)],
        [some (.box [nV N.n,nV N.start,nV N.stop,.seq 4 (N.edges.map NEdge.v)]),some (.arr bb 1 (x.2.1.map nV)),some (.arr bb 1 (now.map nV)),some (.arr bb 1 (x.2.2.map nV))]⟩)
        (fun x=>x.1≤now.length∧MInv N.n (i + 2) x.2.1 x.2.2∧i4 rows (i + 2) b.toNat (now.drop x.1) x.2.1 x.2.2=T) (fun x=>now.length - x.1) [] _ (0,sn,[]) rfl (by simp [aQ]) ⟨by simp,hfr,by simp [hT]⟩ ?_
       clear hT
       rintro ⟨j,sn2,nx2⟩ ⟨hj,hM2,hrow⟩ M2 hN2
       simp only at hj hM2 hrow
       have hsl2:=hM2.len
       rcases place now j hj with ⟨he2,hd2⟩ | ⟨hlt2,q,hq,hd2⟩<;>rw [hd2] at hrow
       · simp only [i4] at hrow
         subst hrow
         clear hN2
         have hnx2:nx2.length≤N.n:=by simpa using hTl
         simp (disch:=omega) [-List.reduceReplicate,aQ,he2]
         refine ap [1] 1 [1,3] (by simp [hsl2]) (by simp [aQ]) (by simp [aQ]) (by simp) (lP hRO (by omega) (i + 2) (N.n + 1) (by omega) (by omega) sn2 nx2 sn' now' hsl2 hM2.lt (by omega) hcl.out) (by simp) fun _ _=>?_
         simp (disch:=omega) [-List.reduceReplicate]
         exact hM.out _<|Nx.mk (i + 1,sn',now',now) (by simp [aQ]) ⟨by simp only; omega,hM1,hL1,by simpa using hgo.out⟩ (by simp only; omega)
       · have hqn:=hM2.lt
         have hqn:q < N.n:=hMi.lt q (List.mem_of_getElem? hq)
         obtain ⟨r,hrr⟩:=aV (l:=rows) (k:=q) (by rw [hRO.len]; exact hqn)
         have hrm:=List.mem_of_getElem? hrr
         have hrl:=hRO.few r hrm
         simp only [i4,hrr,Option.getD_some] at hrow
         obtain ⟨T2,hT2⟩:∃ T2,T2=gr (i + 2) b.toNat r sn2 nx2:=⟨_,rfl⟩
         have hT2M:MInv N.n (i + 2) T2.1 T2.2:=by rw [hT2]; exact (mo (b:=b.toNat) r sn2 nx2 hM2 fun e he=>(hRO.to r hrm e he).1).1
         rw [←hT2] at hrow
         replace hrow:=hid hrow
         simp (disch:=omega) [-List.reduceReplicate,aQ,hq,hrr]
         refine am (fun (x:Nat × List Nat × List Nat)=>⟨[(1,.str s),(5,.ptr 0 0),(6,aQ rows),(9,.ref 1 N.n),(10,.ref 2 now.length),(11,.ref 3 x.2.2.length),(12,nV i),(13,nV (i + 2)),(69,.ref 2 now.length),(70,nV now.length),(71,nV j),(78,.seq 4 (r.map NEdge.v)),(79,nV r.length),(80,nV x.1)],
          [some (.box [nV N.n,nV N.start,nV N.stop,.seq 4 (N.edges.map NEdge.v)]),some (.arr bb 1 (x.2.1.map nV)),some (.arr bb 1 (now.map nV)),some (.arr bb 1 (x.2.2.map nV))]⟩)
          (fun x=>x.1≤r.length∧MInv N.n (i + 2) x.2.1 x.2.2∧gr (i + 2) b.toNat (r.drop x.1) x.2.1 x.2.2=T2) (fun x=>r.length - x.1) [] _ (0,sn2,nx2) rfl (by simp [aQ]) ⟨by simp,hM2,by simp [hT2]⟩ ?_
         clear hT2
         rintro ⟨k,sn3,nx3⟩ ⟨hk3,hM3,hrow3⟩ M3 hN3
         simp only at hk3 hM3 hrow3
         have hsl3:=hM3.len
         have hnl3:=ly N.n nx3 hM3.nodup hM3.lt
         rcases place r k hk3 with ⟨he3,hd3⟩ | ⟨hlt3,e,hre,hd3⟩<;>rw [hd3] at hrow3
         · simp only [gr] at hrow3
           subst hrow3
           clear hN3
           simp (disch:=omega) [-List.reduceReplicate,aQ,he3]
           exact hN2.out _<|Nx.mk (j + 1,sn3,nx3) (by simp [aQ]) ⟨by simp only; omega,hM3,by simpa using hrow.out⟩ (by simp only; omega)
         · obtain ⟨g1,g2,g3⟩:=hRO.to r hrm e (List.mem_of_getElem? hre)
           obtain ⟨v,hv⟩:=aV (l:=sn3) (k:=e.to) (by omega)
           simp only [gr,hv,Option.some.injEq] at hrow3
           have hb8:=b.toNat_lt
           clear hM hN2
           by_cases c1:e.low≤b.toNat
           · by_cases c2:b.toNat≤e.high
             · by_cases c3:v=i + 2
               · rw [if_neg (fun h=>h.2 c3)] at hrow3
                 have c3':(v:Int)=(i:Int) + 2:=by omega
                 replace hrow3:=hid hrow3
                 simp (disch:=omega) [-List.reduceReplicate,aQ,hre,hb,c1,c2,hsl3,hv,c3,c3',g1]
                 exact hN3.out _<|Nx.mk (k + 1,sn3,nx3) (by simp [aQ]) ⟨by simp only; omega,hM3,hrow3.out⟩ (by simp only; omega)
               · rw [if_pos ⟨⟨c1,c2⟩,c3⟩] at hrow3
                 have c3':¬(v:Int)=(i:Int) + 2:=by omega
                 have hadd:=hM3.add g1 (by rw [hv]; simpa using c3)
                 replace hrow3:=hid hrow3
                 simp (disch:=omega) [-List.reduceReplicate,aQ,hre,hb,c1,c2,hsl3,hv,c3,c3',g1]
                 exact hN3.out _<|Nx.mk (k + 1,sn3.set e.to (i + 2),nx3++[e.to]) (by simp [aQ,List.map_set]) ⟨by simp only; omega,hadd,hrow3.out⟩ (by simp only; omega)
             · rw [if_neg (fun h=>c2 h.1.2)] at hrow3
               replace hrow3:=hid hrow3
               simp (disch:=omega) [-List.reduceReplicate,aQ,hre,hb,c1,c2]
               exact hN3.out _<|Nx.mk (k + 1,sn3,nx3) (by simp [aQ]) ⟨by simp only; omega,hM3,hrow3.out⟩ (by simp only; omega)
           · rw [if_neg (fun h=>c1 h.1.1)] at hrow3
             replace hrow3:=hid hrow3
             simp (disch:=omega) [-List.reduceReplicate,aQ,hre,hb,c1]
             exact hN3.out _<|Nx.mk (k + 1,sn3,nx3) (by simp [aQ]) ⟨by simp only; omega,hM3,hrow3.out⟩ (by simp only; omega)
end Go.Abs
end
section
set_option maxRecDepth 100000
set_option maxHeartbeats 1000000
namespace Go.Abs
open Go.Proofs Go.Aut
theorem Pb:KH:=fun x N v hN hl hne hnet hv=>EG hN hl hnet hne v hv (mtP N v) rfl
end Go.Abs
end
section
set_option maxHeartbeats 4000000
set_option maxRecDepth 100000
namespace Go.Abs.F
open Go.Proofs
attribute [-simp] getElem?_pos Option.not_isSome List.map_map
theorem oA (c:Constraint) (v:Str) (hv:v.length≤1000):Fn Tryz.prog bB [(good12 c).v,.str v] (.bool (allows12 (good12 c) v)):=by
 obtain ⟨x,hx⟩:=CH c
 exact qM (EZ Pb) hx v hv
def FQ (A:Constraint→Str→Bool) (p:Policy):Prop:=∀ e∈p.elements,∀ r∈e.rules,∀ v:Str,v.length≤1000→Fn Tryz.prog bB [r.value.v,.str v] (.bool (A r.value v))
theorem uT (p:Policy):FQ allows12 (bF p):=by
 intro e he r hr v hv
 obtain ⟨_,l,hl⟩:=uS p e he
 rw [hl] at hr
 obtain ⟨c,hc⟩:=jF (l.take 3) [] 0 (by simp) r hr
 rw [hc]
 exact oA c v hv
theorem sE (A:Constraint→Str→Bool) (e:Allowed) (a:Attr) (hA:∀ r∈e.rules,Fn Tryz.prog bB [r.value.v,.str a.value] (.bool (A r.value a.value))):
 FnH Tryz.prog fD [1] [a.v,.ptr 0 0] [some (.box [.str e.name,.seq 1 (e.kids.map .str),.seq 5 (e.rules.map Rule.v)])] (.bool (qY A e a)) [some (.box [.str e.name,.seq 1 (e.kids.map .str),.seq 5 (e.rules.map Rule.v)])]:=by
 refine FnH.of_image mixed sy sl rfl fun ho hh=>?_
 unfold kJ
 clear ho hh
 simp (disch:=omega) [-List.reduceReplicate,qY]
 refine aK (xw e a.name) (by simp) fun _=>?_
 cases hf:jg e.rules a.name with
 | none=>
   simp (disch:=omega) [-List.reduceReplicate,hf]
 | some r=>
   simp (disch:=omega) [-List.reduceReplicate,hf]
   refine ac (by simpa using hA r (yB hf).1) rfl fun _=>?_
   simp (disch:=omega) [-List.reduceReplicate]
theorem xC (e:Allowed):FnH Tryz.prog wj [] [e.v] [] (.fn (.func fD) [] [.ptr 0 0]) [some (.box [.str e.name,.seq 1 (e.kids.map .str),.seq 5 (e.rules.map Rule.v)])]:=by
 refine FnH.of_image mixed xj wM rfl fun ho hh=>?_
 unfold nL
 clear ho hh
 simp (disch:=omega) [-List.reduceReplicate]
def vL (e:Allowed):List Str:=(e.rules.filter (·.req)).map (·.name)
theorem pO (e:Allowed) (hl:e.rules.length≤1000000):Fn Tryz.prog pm [e.v] (.seq 1 ((vL e).map .str)):=by
 refine Fn.of_image mixed pG pB rfl fun ho=>?_
 unfold iv
 simp only [oks,ok,and_true] at ho
 clear ho
 simp (disch:=omega) [-List.reduceReplicate]
 generalize hw:vL e=w
 refine am (fun (q:Nat × List Str)=>⟨[(3,.ref 0 q.2.length),(7,.seq 5 (e.rules.map Rule.v)),(8,.int .i64 e.rules.length),(9,.int .i64 q.1)],[some (.arr aG 1 (q.2.map .str))]⟩)
  (fun q=>q.1≤e.rules.length∧q.2.length≤q.1∧q.2++((e.rules.drop q.1).filter (·.req)).map (·.name)=w) (fun q=>e.rules.length - q.1) [.r 3 aG 1] _ (0,[]) rfl (by simp) (by simp [←hw,vL]) ?_
 rintro ⟨k,out⟩ ⟨hk,hol,hi⟩ N hN
 simp only at hk hol hi
 rcases place e.rules k hk with ⟨he,hd⟩ | ⟨hlt,x,hx,hd⟩<;>rw [hd] at hi
 · simp at hi
   subst hi
   simp (disch:=omega) [-List.reduceReplicate,he]
 · simp only [List.filter_cons] at hi
   replace hi:=hid hi
   simp (disch:=omega) [-List.reduceReplicate,hx]
   refine BrK.mk (fun h=>?_) (fun h=>?_)
   · simp (disch:=omega) [-List.reduceReplicate,hx]
     have hi:=hi.out
     refine hN.out _<|Nx.mk (k + 1,out++[x.name]) (by simp) ⟨by simp only; omega,by simp; omega,?_⟩ (by simp only; omega)
     simpa [h] using hi
   · simp (disch:=omega) [-List.reduceReplicate,hx]
     have hi:=hi.out
     refine hN.out _<|Nx.mk (k + 1,out) (by simp) ⟨by simp only; omega,by simp only; omega,?_⟩ (by simp only; omega)
     simpa [h] using hi
def om (A:Constraint→Str→Bool) (e:Allowed) (l:List Attr):Bool:=l.all (qY A e) && (vL e).all (iD l)
theorem xD (A:Constraint→Str→Bool) (e:Allowed) (l:List Attr) (hl:l.length≤1000000) (hr:e.rules.length≤1000000) (hA:∀ r∈e.rules,∀ a∈l,Fn Tryz.prog bB [r.value.v,.str a.value] (.bool (A r.value a.value))):
 Fn Tryz.prog nd [e.v,.seq 2 (l.map Attr.v)] (.bool (om A e l)):=by
 refine Fn.of_imageE mixed xl wO rfl fun ho=>?_
 unfold nN
 simp only [oks,ok,and_true] at ho
 clear ho
 simp (disch:=omega) [-List.reduceReplicate]
 refine ap [] 0 [] (by simp) (by simp) (by simp) (by simp) (xC e) (by simp) fun _ _=>?_
 simp (disch:=omega) [-List.reduceReplicate]
 generalize hw:om A e l=w
 refine am (fun (k:Nat)=>⟨[(1,.seq 2 (l.map Attr.v)),(2,.ptr 0 0),(5,.fn (.func fD) [] [.ptr 1 0]),(12,.seq 2 (l.map Attr.v)),(13,.int .i64 l.length),(14,.int .i64 k)],
  [some (.box [.str e.name,.seq 1 (e.kids.map .str),.seq 5 (e.rules.map Rule.v)]),some (.box [.str e.name,.seq 1 (e.kids.map .str),.seq 5 (e.rules.map Rule.v)])]⟩)
  (fun k=>k≤l.length∧((l.drop k).all (qY A e) && (vL e).all (iD l))=w) (fun k=>l.length - k) [] _ 0 rfl (by simp) (by simp [←hw,om]) ?_
 rintro k ⟨hk,hi⟩ N hN
 rcases place l k hk with ⟨he,hd⟩ | ⟨hlt,x,hx,hd⟩<;>rw [hd] at hi
 · simp only [List.all_nil,Bool.true_and] at hi
   clear hw
   have hrl:(vL e).length≤1000000:=by
    have:=List.length_filter_le (·.req) e.rules
    simp only [vL,List.length_map]; omega
   simp (disch:=omega) [-List.reduceReplicate,he]
   refine aK (pO e hr) (by simp) fun _=>?_
   generalize vL e=rs at *
   simp (disch:=omega) [-List.reduceReplicate]
   refine am (fun (j:Nat)=>⟨[(1,.seq 2 (l.map Attr.v)),(24,.seq 1 (rs.map .str)),(25,.int .i64 rs.length),(26,.int .i64 j)],[]⟩)
    (fun j=>j≤rs.length∧(rs.drop j).all (iD l)=w) (fun j=>rs.length - j) [] _ 0 rfl (by simp) (by simpa using hi) ?_
   rintro j ⟨hj,hi2⟩ N2 hN2
   rcases place rs j hj with ⟨he2,hd2⟩ | ⟨hlt2,y,hy,hd2⟩<;>rw [hd2] at hi2
   · simp at hi2
     subst hi2
     simp (disch:=omega) [-List.reduceReplicate,he2]
   · simp only [List.all_cons] at hi2
     replace hi2:=hid hi2
     simp (disch:=omega) [-List.reduceReplicate,hy]
     refine ac (xB l y) rfl fun _=>?_
     simp (disch:=omega) [-List.reduceReplicate]
     refine BrK.mk (fun h=>?_) (fun h=>?_)
     · simp (disch:=omega) [-List.reduceReplicate,h]
       refine hN2.out _<|Nx.mk (j + 1) (by simp) ⟨by omega,?_⟩ (by omega)
       have hi2:=hi2.out
       simpa [h] using hi2
     · simp (disch:=omega) [-List.reduceReplicate,h]
       have hi2:=hi2.out
       simpa [h] using hi2
 · simp only [List.all_cons] at hi
   replace hi:=hid hi
   have hax:=sE A e x (fun r hr=>hA r hr x (List.mem_of_getElem? hx))
   simp (disch:=omega) [-List.reduceReplicate,hx]
   refine ap [1] 1 [1] (by simp) (by simp) (by simp) (by simp) hax (by simp) fun _ _=>?_
   simp (disch:=omega) [-List.reduceReplicate]
   refine BrK.mk (fun h=>?_) (fun h=>?_)
   · simp (disch:=omega) [-List.reduceReplicate,h]
     refine hN.out _<|Nx.mk (k + 1) (by simp) ⟨by omega,?_⟩ (by omega)
     have hi:=hi.out
     simpa [h] using hi
   · simp (disch:=omega) [-List.reduceReplicate,h]
     have hi:=hi.out
     simpa [h] using hi
theorem Ee (l:List Attr) (s:Str):iD l s=(fy l s).isSome:=by
 induction l with
 | nil=>rfl
 | cons a l ih=>by_cases h:a.name=s<;>simp [iD,fy,h,ih]
theorem G6 (A:Constraint→Str→Bool) (e:Allowed) (l:List Attr):om A e l=pD A e l:=by
 have h1:l.all (qY A e)=decide ((JI A e l).length=l.length):=by
  rw [Bool.eq_iff_iff,decide_eq_true_iff,JI,List.length_filter_eq_length_iff,List.all_eq_true]
 have h2:(vL e).all (iD l)=whole e l:=by
  simp only [vL,whole]
  induction e.rules with
  | nil=>rfl
  | cons r rs ih=>
    simp only [List.filter_cons]
    cases hr:r.req
    · simpa [hr] using ih
    · simp only [if_true,List.map_cons,List.all_cons,ih,hr,Ee,Bool.true_and,Bool.not_not]
 rw [om,pD,h1,h2]
theorem JO (p:Policy) (hp:FQ allows12 p) (hr:∀ e∈p.elements,e.rules.length≤1000000) (l:List Node) (hf:al Fy l):qi (om allows12) p l:=by
 intro i x h1 _ _ _
 have hx:Fy x.2:=Mc l 0 [] hf x (List.mem_of_getElem? h1)
 refine xD allows12 _ _ hx.1 ?_ ?_
 · cases hf:a8 p.elements x.2.name with
   | none=>simp [Allowed.zero]
   | some e=>exact hr e (mI hf).1
 · intro r hr a ha
   cases hf:a8 p.elements x.2.name with
   | none=>rw [hf] at hr; simp [Allowed.zero] at hr
   | some e=>rw [hf] at hr; exact hp e (mI hf).1 r hr a.value (hx.2 a ha)
end Go.Abs.F
end
section
set_option maxHeartbeats 16000000
set_option maxRecDepth 100000
namespace Go.Abs.F
open Go.Proofs
attribute [-simp] getElem?_pos Option.not_isSome List.map_map
abbrev HQ:Allowed→List Attr→Bool:=om allows12
theorem AB (p:Policy):∀ e∈(bF p).elements,e.rules.length≤1000000:=fun e he=>(El p).2.2 e he |>.2
theorem FH (p:Policy) (l:List Node) (h1:al ky l) (h2:al Fy l) (hc:ai l < 1000):Fn Tryz.prog iB [(bF p).v,.seq 5 (l.map Node.v)] (.bool (f5 allows12 (bF p) l)):=by
 rw [←GD (H:=HQ) (G6 _) (AD p)]
 exact eM HQ (bF p) l h1 hc (fun _=>JO _ (uT p) (AB p) l h2)
theorem IT {l:List Node} {k:Nat} {n:Node} (h:l[k]?=some n):l=l.take k++n::l.drop (k + 1):=by
 obtain ⟨hlt,rfl⟩:=List.getElem?_eq_some_iff.1 h
 rw [List.getElem_cons_drop hlt,List.take_append_drop]
theorem pP (p:Policy) (l:List Node) (z:Int) (hz:-9223372036854775808≤z∧z≤9223372036854775807) (hR:∀ e∈p.elements,∀ r∈e.rules,r.value.regex.length≤1125899906842624):FnE Tryz.prog bo [p.v,.seq 5 (l.map Node.v),.int .i64 z] (.bool true):=by
 refine FnE.of_image mixed eh pC rfl fun ho=>?_
 unfold iw
 clear ho
 obtain ⟨b1,b2,b3⟩:=CI l
 have hb1:=MQ _ b1 (by omega)
 have hbN:=MP _ b1
 have c1:=FH p (bq l) hb1 hbN (by omega)
 have hg:=AM p hR
 have hg6:=AP l
 have less:∀ (k:Nat) (n:Node),(bq l)[k]?=some n→f5 allows12 (bF p) (bq l)=true→(∀ x y,0 < k→k + 1 < (bq l).length→(bq l)[k - 1]?=some x→(bq l)[k + 1]?=some y→¬(x.kind=2∧y.kind=2))→
  Fn Tryz.prog iB [(bF p).v,.seq 5 (((bq l).take k++(bq l).drop (k + 1)).map Node.v)] (.bool true):=by
  intro k n hn hok hne
  have hlt:=(List.getElem?_eq_some_iff.1 hn).1
  have hs:=IT hn
  have hal:∀ P:Node→Prop,al P (bq l)→al P ((bq l).take k++(bq l).drop (k + 1)):=fun P h=>bp.2 fun x hx=>bp.1 h x (by
   rw [hs]
   rcases List.mem_append.1 hx with h | h
   · exact List.mem_append_left _ h
   · exact List.mem_append_right _ (List.mem_cons_of_mem _ h))
  have hcn:ai ((bq l).take k++(bq l).drop (k + 1))≤ai (bq l):=by
   conv=>rhs; rw [hs]
   simp only [eo,ai]; omega
  have:=FH p ((bq l).take k++(bq l).drop (k + 1)) (hal _ hb1) (hal _ hbN) (by omega)
  rw [hs] at hok
  rwa [JE allows12 (bF p) hok (fun x y hx hy=>?_)] at this
  rw [List.length_take,Nat.min_eq_left (by omega),List.getElem?_take] at hx
  split at hx
  · rw [List.getElem?_drop] at hy
    have hk0:0 < k:=by
     by_cases h0:k=0
     · subst h0; rename_i h; omega
     · omega
    exact hne x y hk0 (by have:=(List.getElem?_eq_some_iff.1 hy).1; omega) hx (by simpa using hy)
  · cases hx
 generalize hNv:f5 allows12 (bF p) (bq l)=nv at *
 generalize bF p=g at *
 generalize bq l=b at *
 have hlen:=iq b
 clear b1 hb1 hbN b3
 simp (disch:=omega) [-List.reduceReplicate]
 refine aK (by simpa using hg) (by simp) fun _=>?_
 simp (disch:=omega) [-List.reduceReplicate]
 refine aK hg6 (by simp) fun _=>?_
 simp (disch:=omega) [-List.reduceReplicate]
 refine BrKd.mk (fun h0=>?_) (fun h0=>?_)
 · simp (disch:=omega) [-List.reduceReplicate,h0]
   refine ac bU rfl fun _=>?_
   simp (disch:=omega) [-List.reduceReplicate]
 · simp (disch:=omega) [-List.reduceReplicate,h0]
   refine ac (by simpa using c1) rfl fun _=>?_
   cases nv
   · simp (disch:=omega) [-List.reduceReplicate]
     refine ac bU rfl fun _=>?_
     simp (disch:=omega) [-List.reduceReplicate]
   · have hl0:0 < b.length:=List.length_pos_iff.2 h0
     obtain ⟨a,ha⟩:∃ a:Nat,(a:Int)=if z < 0 then -(z + 1) else z:=⟨(if z < 0 then -(z + 1) else z).toNat,by
      by_cases h:z < 0
      · simp only [h,if_true]; omega
      · simp only [h,if_false]; omega⟩
     obtain ⟨k,hk⟩:∃ k:Nat,k=a % b.length:=⟨_,rfl⟩
     have hkl:k < b.length:=by rw [hk]; exact Nat.mod_lt _ hl0
     obtain ⟨n,hn⟩:=aV hkl
     have less:=less k n hn rfl
     have hl0':¬(b.length:Int)=0:=by omega
     have hk1:(k:Int) < b.length:=by omega
     have hrem:(a:Int) % (b.length:Int)=(k:Int):=by rw [hk]; rfl
     clear hg hg6 c1
     have hkm:((k:Int) - 1).toNat=k - 1:=by omega
     have hkp:((k:Int) + 1).toNat=k + 1:=by omega
     have tl:(b.map Node.v).take k++(b.map Node.v).drop (k + 1)=(b.take k++b.drop (k + 1)).map Node.v:=by simp [List.map_append]
     rw [←tl] at less
     have tk:((b.map Node.v).drop (k + 1)).take (b.length - (k + 1))=(b.map Node.v).drop (k + 1):=List.take_of_length_le (by simp)
     have ll:k + (b.length - (k + 1))=(b.take k++b.drop (k + 1)).length:=by simp; omega
     by_cases hz0:z < 0
     all_goals
      simp only [hz0,if_true,if_false] at ha
      rw [ha] at hrem
      simp (disch:=omega) [-List.reduceReplicate,hz0,hl0',hrem]
      refine BrKd.mk (fun h1=>?_) (fun h1=>?_)
      · simp (disch:=omega) [-List.reduceReplicate,h1]
        refine BrKd.mk (fun h2=>?_) (fun h2=>?_)
        · obtain ⟨x,hx⟩:=aV (l:=b) (k:=k - 1) (by omega)
          obtain ⟨y,hy⟩:=aV (l:=b) (k:=k + 1) (by omega)
          simp (disch:=omega) [-List.reduceReplicate,h2,hx,hkm,hkp]
          refine BrKd.mk (fun h3=>?_) (fun h3=>?_)
          · simp (disch:=omega) [-List.reduceReplicate,h3,hy,hkp]
            refine BrKd.mk (fun h4=>?_) (fun h4=>?_)
            · simp (disch:=omega) [-List.reduceReplicate,h4]
              refine ac bU rfl fun _=>?_
              simp (disch:=omega) [-List.reduceReplicate]
            · have L:=less (fun x' y' _ _ h5 h6 h7=>by rw [hx] at h5; rw [hy] at h6; cases h5; cases h6; exact h4 h7.2)
              simp (disch:=omega) [-List.reduceReplicate,h4,hkp]
              refine ac (r:=.bool true) (by simpa [tk] using L) rfl fun _=>?_
              simp (disch:=omega) [-List.reduceReplicate]
              refine ac bU rfl fun _=>?_
              simp (disch:=omega) [-List.reduceReplicate]
          · have L:=less (fun x' y' _ _ h5 h6 h7=>by rw [hx] at h5; cases h5; exact h3 h7.1)
            simp (disch:=omega) [-List.reduceReplicate,h3,hkp]
            refine ac (r:=.bool true) (by simpa [tk] using L) rfl fun _=>?_
            simp (disch:=omega) [-List.reduceReplicate]
            refine ac bU rfl fun _=>?_
            simp (disch:=omega) [-List.reduceReplicate]
        · have L:=less (fun x' y' _ h5 _ _ _=>by omega)
          have dz:(b.map Node.v).drop (k + 1)=[]:=List.drop_eq_nil_of_le (by simp; omega)
          simp (disch:=omega) [-List.reduceReplicate,h2,hkp]
          refine ac (r:=.bool true) (by simpa [tk,dz] using L) rfl fun _=>?_
          simp (disch:=omega) [-List.reduceReplicate]
          refine ac bU rfl fun _=>?_
          simp (disch:=omega) [-List.reduceReplicate]
      · have L:=less (fun x' y' h5 _ _ _ _=>by omega)
        have kz:(b.map Node.v).take k=[]:=by rw [show k=0 by omega]; rfl
        simp (disch:=omega) [-List.reduceReplicate,h1,hkp]
        refine ac (r:=.bool true) (by simpa [tk,kz] using L) rfl fun _=>?_
        simp (disch:=omega) [-List.reduceReplicate]
        refine ac bU rfl fun _=>?_
        simp (disch:=omega) [-List.reduceReplicate]
end Go.Abs.F
end
