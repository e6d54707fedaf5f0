/- What strainerref09's matching tells: tables of truth values. No condition. -/
import Derived.Test.YtnnbodoijkbceaaGreatDoorIF1
import Derived.KernelRfl
set_option linter.all false
set_option maxHeartbeats 0
set_option maxRecDepth 100000
open List renaming reduceReplicate→zAa,getElem?_eq_none→zAe,getElem?_eq_some_iff→zAg,getElem?_map→zAi,getElem?_eq_none_iff→zAj,replicate→zBa,mem_of_getElem?→zBb,mem_map→zBd,range→zBh
open Option.some renaming injEq→zAb
open Nat renaming lt_or_ge→zAc,le_refl→zBj
open Prod.mk renaming injEq→zAd
open Bool renaming false_eq_true→zAf,and_eq_true→zAh,false_or→zBc,not_eq_true'→zBg,true_and→zBi
open Option renaming not_isSome→zBe
open Int renaming toNat_natCast→zBf
section
namespace Go.Abs.F
open Go.Proofs
attribute [-simp] getElem?_pos zBe
def tab{α:Type}(n:Nat)(F:Nat->α):List α:=(zBh n).map F
section
variable{α β:Type}{n i:Nat}{F G:Nat->α}
theorem IB:(tab n F).length=n:=by simp[tab]
theorem IC(h:i<n):(tab n F)[i]?=some (F i):=by simp only[tab,zAi,List.getElem?_range h,Option.map_some]
theorem Vx(h:n<=i):(tab n F)[i]?=none:=by rw[zAe];rw[IB];exact h
theorem IA{x:α}:(tab n F).set i x=tab n (fun j=>if j=i then x else F j):=by
 apply List.ext_getElem?;intro j;rw[List.getElem?_set,IB];by_cases h:j<n
 ·rw[IC h,IC h]
  by_cases hj:i=j
  ·subst hj;simp[h]
  ·rw[if_neg hj,if_neg (fun e=>hj e.symm)]
 ·rw[Vx (by omega),Vx (by omega)]
  split<;>simp_all
theorem ij(h:∀i,i<n->F i=G i):tab n F=tab n G:=by
 unfold tab;exact List.map_congr_left fun i hi=>h i (by simpa using hi)
theorem RG{x:α}:zBa n x=tab n (fun _=>x):=by rw[tab,List.map_const',List.length_range]
theorem Zn{g:α->β}:(tab n F).map g=tab n (fun i=>g (F i)):=by simp[tab]
end
attribute [simp] IB IC IA Zn
def aQ(n:Nat)(f:Nat->Bool):List V:=tab n fun k=>.bool (f k)
def dI(n:Nat)(f:Nat->Nat->Bool):V:=.seq 1 (tab n fun i=>.seq 1 (aQ n (f i)))
theorem V8{n k:Nat}{f:Nat->Bool}(h:k<n):(aQ n f)[k]?=some (.bool (f k)):=by simp[aQ,h]
theorem V7{n:Nat}{f:Nat->Bool}:(aQ n f).length=n:=by simp[aQ]
def sub(k:Nat)(b:Bool)(f:Nat->Bool)(j:Nat):Bool:=if j=k then b else f j
theorem V5{n k:Nat}{f:Nat->Bool}{b:Bool}:(aQ n f).set k (.bool b)=aQ n (sub k b f):=by
 simp only[aQ,IA];exact ij fun j _=>by unfold sub;split<;>rfl
theorem V6{n:Nat}:zBa n (V.bool false)=aQ n (fun _=>false):=by simp[aQ,RG]
theorem eI{n:Nat}{f g:Nat->Bool}(h:∀k,k<n->f k=g k):aQ n f=aQ n g:=ij fun k hk=>by rw[h k hk]
theorem rQ{n:Nat}{f:Nat->Bool}:dk (aQ n f)=true:=by
 unfold aQ tab
 induction zBh n with
 |nil=>rfl
 |cons x l ih=>simp[dk,cJ,ih]
attribute [simp] V8 V7 V5 V6 rQ
def x8(n i:Nat)(R:Nat->List V):List (List V):=tab n fun j=>if j<i then R j else[]
def kE(n i:Nat)(R:Nat->List V)(r:List V):List (List V):=tab n fun j=>if j=i then r else if j<i then R j else[]
theorem W3{n i:Nat}{R:Nat->List V}:(x8 n i R).length=n:=by simp[x8]
theorem SV{n i:Nat}{R:Nat->List V}{r:List V}:(kE n i R r).length=n:=by simp[kE]
theorem W4{n i:Nat}{R:Nat->List V}(h:i<n):(x8 n i R)[i]?=some []:=by simp[x8,h]
theorem SW{n i:Nat}{R:Nat->List V}{r:List V}(h:i<n):(kE n i R r)[i]?=some r:=by simp[kE,h]
theorem WZ{n i:Nat}{R:Nat->List V}{r:List V}:(x8 n i R).set i r=kE n i R r:=by simp[x8,kE]
theorem SU{n i:Nat}{R:Nat->List V}{r s:List V}:(kE n i R r).set i s=kE n i R s:=by
 simp only[kE,IA];exact ij fun j _=>by by_cases h:j=i<;>simp[h]
theorem ug{n i:Nat}{R:Nat->List V}:kE n i R (R i)=x8 n (i+1) R:=by
 refine ij fun j _=>?_;by_cases h:j=i
 ·subst h;simp
 ·simp only[if_neg h]
  by_cases h':j<i
  ·rw[if_pos h',if_pos (by omega)]
  ·rw[if_neg h',if_neg (by omega)]
theorem Cy{n:Nat}{R:Nat->List V}:zBa n ([]:List V)=x8 n 0 R:=by simp[x8,RG]
theorem Cz{n:Nat}{R:Nat->List V}:x8 n n R=tab n R:=ij fun j h=>by rw[if_pos h]
attribute [simp] W3 SV W4 SW WZ SU
def z7(k:Nat)(F:Nat->Bool)(c:Nat):Bool:=if c<k then F c else false
theorem Bb{n:Nat}{F:Nat->Bool}:aQ n (z7 n F)=aQ n F:=eI fun c hc=>by rw[z7,if_pos hc]
theorem xz{n:Nat}{F:Nat->Bool}:aQ n (fun _=>false)=aQ n (z7 0 F):=eI fun c hc=>by rw[z7,if_neg (by omega)]
theorem xy{n k:Nat}{F:Nat->Bool}{b:Bool}(h:b=F k):aQ n (sub k b (z7 k F))=aQ n (z7 (k+1) F):=eI fun c hc=>by
 simp only[z7,sub];by_cases h1:c=k
 ·subst h1;rw[if_pos rfl,if_pos (by omega),h]
 ·rw[if_neg h1]
  by_cases h2:c<k
  ·rw[if_pos h2,if_pos (by omega)]
  ·rw[if_neg h2,if_neg (by omega)]
theorem ol(n:Nat)(f g:Nat->Nat->Bool)(hn:n<=1000000):FnN Tryz.prog I7 [dI n f,dI n g] (dI n fun i k=>f i k||g i k):=by
 refine FnN.of_image mixed JS.1 JS.2 rfl fun ho=>?_;clear ho;simp only[dI];simp(disch:=omega) [-zAa];generalize hR:(fun i=>aQ n fun k=>f i k||g i k)=R;have hRi:∀i,R i=aQ n fun k=>f i k||g i k:=fun i=>by rw[<-hR]
 rw[Cy (R:=R)]
 refine ak (fun i:Nat=>⟨[(0,.seq 1 (tab n fun i=>.seq 1 (aQ n (f i)))),(1,.seq 1 (tab n fun i=>.seq 1 (aQ n (g i)))),(5,.ref 0 n),(6,.int .i64 i)],
  [some (.mat dZ co 1 (sm (x8 n i R)))]⟩) (fun i=>i<=n) (fun i=>n-i) [] _ 0 rfl (by simp) (by simp) ?_
 rintro i hi N hN;rcases zAc i n with hlt|hge
 ·simp(disch:=omega) [-zAa]
  rw[xz (F:=fun c=>f i c||g i c)]
  refine ak (fun k:Nat=>⟨[(0,.seq 1 (tab n fun i=>.seq 1 (aQ n (f i)))),(1,.seq 1 (tab n fun i=>.seq 1 (aQ n (g i)))),(5,.ref 0 n),(6,.int .i64 i),(7,.int .i64 k)],
   [some (.mat dZ co 1 (sm (kE n i R (aQ n (z7 k fun c=>f i c||g i c)))))]⟩) (fun k=>k<=n) (fun k=>n-k) [] _ 0 rfl (by simp) (by simp) ?_
  rintro k hk M hM;rcases zAc k n with hlt2|hge2
  ·simp(disch:=omega) [-zAa]
   refine BrK.mk (fun h=>?_) (fun h=>?_)
   all_goals
    simp(disch:=omega) [-zAa,h];rw[xy (by simp[h])]
    exact hM.out _<|Nx.mk (k+1) (by simp) (by omega) (by omega)
  ·have:k=n:=by omega
   subst this;simp(disch:=omega) [-zAa];rw[Bb,<-hRi,ug];exact hN.out _<|Nx.mk (i+1) (by simp) (by omega) (by omega)
 ·have:i=n:=by omega
  subst this;simp(disch:=omega) [-zAa,Cz];refine⟨fun x hx=>?_,?_⟩
  ·simp only[tab,zBd]at hx
   obtain⟨j,_,rfl⟩:=hx;rw[hRi];exact rQ
  ·exact ij fun j _=>by rw[hRi]
def jo(f g:Nat->Nat->Bool)(i m c:Nat):Bool:=(zBh m).any fun x=>decide (x<=c)&&(f i x&&g x c)
theorem AW{f g:Nat->Nat->Bool}{i m c:Nat}:jo f g i (m+1) c=(jo f g i m c||(decide (m<=c)&&(f i m&&g m c))):=by
 simp only[jo,List.range_succ,List.any_append];simp
def xS(k:Nat)(F G:Nat->Bool)(c:Nat):Bool:=if c<k then F c else G c
theorem Z6{k:Nat}{F G:Nat->Bool}:xS k F G k=G k:=by simp[xS]
theorem WD{n:Nat}{F G:Nat->Bool}:aQ n (xS n F G)=aQ n F:=eI fun c hc=>by rw[xS,if_pos hc]
theorem R2{n k:Nat}{F G:Nat->Bool}(h:∀c,c<k->F c=G c):aQ n (xS k F G)=aQ n G:=eI fun c hc=>by
 unfold xS;split
 ·exact h c (by assumption)
 ·rfl
theorem Ts{n k:Nat}{F G:Nat->Bool}{b:Bool}(h:b=F k):aQ n (sub k b (xS k F G))=aQ n (xS (k+1) F G):=eI fun c hc=>by
 simp only[xS,sub];by_cases h1:c=k
 ·subst h1;rw[if_pos rfl,if_pos (by omega),h]
 ·rw[if_neg h1]
  by_cases h2:c<k
  ·rw[if_pos h2,if_pos (by omega)]
  ·rw[if_neg h2,if_neg (by omega)]
theorem lf(n:Nat)(f g:Nat->Nat->Bool)(hn:n<=1000000):FnN Tryz.prog BO [dI n f,dI n g] (dI n fun i k=>jo f g i n k):=by
 refine FnN.of_image mixed Cj.1 Cj.2 rfl fun ho=>?_;clear ho;simp only[dI];simp(disch:=omega) [-zAa];generalize hR:(fun i=>aQ n fun k=>jo f g i n k)=R;have hRi:∀i,R i=aQ n fun k=>jo f g i n k:=fun i=>by rw[<-hR]
 rw[Cy (R:=R)]
 refine ak (fun i:Nat=>⟨[(0,.seq 1 (tab n fun i=>.seq 1 (aQ n (f i)))),(1,.seq 1 (tab n fun i=>.seq 1 (aQ n (g i)))),(5,.ref 0 n),(6,.int .i64 i)],
  [some (.mat dZ co 1 (sm (x8 n i R)))]⟩) (fun i=>i<=n) (fun i=>n-i) [] _ 0 rfl (by simp) (by simp) ?_
 rintro i hi N hN;rcases zAc i n with hlt|hge
 ·simp(disch:=omega) [-zAa]
  have e0:aQ n (fun _=>false)=aQ n (jo f g i 0):=eI fun c _=>rfl;rw[e0]
  refine ak (fun m:Nat=>⟨[(0,.seq 1 (tab n fun i=>.seq 1 (aQ n (f i)))),(1,.seq 1 (tab n fun i=>.seq 1 (aQ n (g i)))),(5,.ref 0 n),(6,.int .i64 i),(7,.int .i64 m)],
   [some (.mat dZ co 1 (sm (kE n i R (aQ n (jo f g i m)))))]⟩) (fun m=>m<=n) (fun m=>n-m) [] _ 0 rfl (by simp) (by simp) ?_
  rintro m hm M hM;rcases zAc m n with hlt2|hge2
  ·simp(disch:=omega) [-zAa]
   have e1:aQ n (jo f g i m)=aQ n (xS m (jo f g i (m+1)) (jo f g i m)):=(R2 fun c hc=>by rw[AW];simp;omega).symm
   rw[e1]
   refine ak (fun k:Nat=>⟨[(0,.seq 1 (tab n fun i=>.seq 1 (aQ n (f i)))),(1,.seq 1 (tab n fun i=>.seq 1 (aQ n (g i)))),(5,.ref 0 n),(6,.int .i64 i),(7,.int .i64 m),(8,.int .i64 k)],
    [some (.mat dZ co 1 (sm (kE n i R (aQ n (xS k (jo f g i (m+1)) (jo f g i m))))))]⟩) (fun k=>m<=k/\k<=n/\(f i m=false->k=m)) (fun k=>n-k) [] _ m rfl (by simp) (by simp;omega) ?_
   rintro k ⟨hk,hk2,hkf⟩ L hL
   have last:aQ n (xS k (jo f g i (m+1)) (jo f g i m))=aQ n (jo f g i (m+1))->∀τ:St,τ.nrm [0,1,5,6,7]=⟨[(0,.seq 1 (tab n fun i=>.seq 1 (aQ n (f i)))),(1,.seq 1 (tab n fun i=>.seq 1 (aQ n (g i)))),(5,.ref 0 n),(6,.int .i64 i),(7,.int .i64 ((m+1:Nat):Int))],
    [some (.mat dZ co 1 (sm (kE n i R (aQ n (xS k (jo f g i (m+1)) (jo f g i m))))))]⟩->M τ:=fun h τ hτ=>by
    rw[h]at hτ;exact hM.out _<|Nx.mk (m+1) hτ (by omega) (by omega)
   cases hf:f i m with
   |false=>
     have hkm:=hkf hf;subst hkm;replace last:=last (by rw[R2 fun c hc=>by rw[AW];simp;omega];exact eI fun c _=>by rw[AW,hf];simp)
     simp(disch:=omega) [-zAa,hf];exact last _ (by simp)
   |true=>
     rcases zAc k n with hlt3|hge3
     ·simp(disch:=omega) [-zAa,hf,Z6]
      refine BrK.mk (fun h=>?_) (fun h=>?_)
      all_goals
       simp(disch:=omega) [-zAa,h];rw[Ts (by rw[AW,h,hf];simp[hk])]
       exact hL.out _<|Nx.mk (k+1) (by simp) ⟨by omega,by omega,fun h=>by rw[hf]at h;cases h⟩ (by omega)
     ·have:k=n:=by omega
      subst this;replace last:=last WD;simp(disch:=omega) [-zAa,hf];exact last _ (by simp)
  ·have:m=n:=by omega
   subst this;simp(disch:=omega) [-zAa];rw[<-hRi,ug];exact hN.out _<|Nx.mk (i+1) (by simp) (by omega) (by omega)
 ·have:i=n:=by omega
  subst this;simp(disch:=omega) [-zAa,Cz];refine⟨fun x hx=>?_,?_⟩
  ·simp only[tab,zBd]at hx
   obtain⟨j,_,rfl⟩:=hx;rw[hRi];exact rQ
  ·exact ij fun j _=>by rw[hRi]
structure Part where
 op:Nat
 set:List Bool
 l:List Nat
def Part.v(p:Part):V:=.strct [.int .u8 p.op,.seq 1 (p.set.map .bool),.seq 1 (p.l.map fun(j:Nat)=>V.int .i64 (j:Int))]
def sgn(c:UInt8):Bool:=decide (32<=c.toNat)&&decide (c.toNat<=126)
theorem oh(c:UInt8):Fn Tryz.prog I6 [.int .u8 c.toNat] (.bool (sgn c)):=by
 refine yoB JR fun ho=>?_;simp only[oks,ok,and_true]at ho;simp(disch:=omega) [-zAa];refine BrKd.mk (fun h=>?_) (fun h=>?_)
 all_goals
  simp[sgn,h]
def base(p:Part)(s:Str)(i:Nat):Nat->Bool:=
 match s[i]? with
 |some c=>if p.op=115/\sgn c=true then sub (i+1) ((p.set[c.toNat-32]?).getD false) (sub i (decide (p.op=116)||decide (p.op=109)) fun _=>false)else sub i (decide (p.op=116)||decide (p.op=109)) fun _=>false
 |none=>sub i (decide (p.op=116)||decide (p.op=109)) fun _=>false
abbrev Tab:=Nat->Nat->Bool
def both1(f g:Tab):Tab:=fun i k=>f i k||g i k
def jon(n:Nat)(f g:Tab):Tab:=fun i k=>jo f g i n k
def star(n:Nat)(g:Tab):Nat->Tab->Tab
 |0,f=>f
 |t+1,f=>star n g t (both1 f (jon n f g))
def kid(n op:Nat)(f g:Tab):Tab:=if op=111 then both1 f g else if op=116 then jon n f g else if op=109 then star n g n f else f
def kidT(n op:Nat)(tabs:List Tab):Tab->List Nat->Tab
 |f,[]=>f
 |f,x::l=>kidT n op tabs (kid n op f ((tabs[x]?).getD fun _ _=>false)) l
def stepT(p:Part)(s:Str)(tabs:List Tab):Tab  :=kidT (s.length+1) p.op tabs (base p s) p.l
@[simp high] theorem cl_matV {n:Nat} {f:Tab}:cl (dI n f)=[dI n f]:=rfl
def ZR(n:Nat)(f:Tab)(o:V)(h:List (Option Ob)):Prop:=(o=.ref 0 n/\h=[some (.mat dZ co 1 (sm (tab n fun i=>aQ n (f i))))])\/(o=.fseq 1 (tab n fun i=>.seq 1 (aQ n (f i)))/\h=[])
theorem K6 (parts:List Part) (k:Nat) (p:Part) (s:Str) (tabs:List Tab) (hp:parts[k]?=some p) (hs:s.length≤999999) (hl:∀ x∈p.l,x < tabs.length) (hset:p.op=115→p.set.length=95) (hll:p.l.length≤1000):
 FnN Tryz.prog I5 [.seq 3 (parts.map Part.v),.int .i64 k,.str s,.seq 1 (tabs.map (dI (s.length + 1)))] (dI (s.length + 1) (stepT p s tabs)):=by
 refine FnN.of_image mixed JQ.1 JQ.2 rfl fun ho=>?_
 clear ho
 obtain ⟨n,hn⟩:∃ n,n=s.length + 1:=⟨_,rfl⟩
 simp only [←hn]
 simp (disch:=omega) [-zAa]
 rw [Cy (R:=fun i=>aQ n (base p s i))]
 have hpv:(parts.map Part.v)[k]?=some p.v:=by rw [zAi,hp]; rfl
 have hn':(s.length:Int) + 1=(n:Int):=by omega
 simp only [hn',zBf]
 refine ak (fun i:Nat=>⟨[(0,.seq 3 (parts.map Part.v)),(1,.int .i64 k),(2,.str s),(3,.seq 1 (tabs.map (dI n))),(9,.int .i64 n),(10,.ref 0 n),(11,.int .i64 i)],
  [some (.mat dZ co 1 (sm (x8 n i fun i=>aQ n (base p s i))))]⟩) (fun i=>i≤n) (fun i=>n - i) [] _ 0 rfl (by simp [←hn]) (by simp) ?_
 rintro i hi N hN
 rcases zAc i n with hlt | hge
 · replace hN:=fun (r:List V) (hr:r=aQ n (base p s i)) τ (hτ:τ.nrm [0,1,2,3,9,10,11]=⟨[(0,.seq 3 (parts.map Part.v)),(1,.int .i64 k),(2,.str s),(3,.seq 1 (tabs.map (dI n))),(9,.int .i64 n),(10,.ref 0 n),(11,.int .i64 ((i + 1:Nat):Int))],
    [some (.mat dZ co 1 (sm (kE n i (fun i=>aQ n (base p s i)) r)))]⟩)=>hN.out τ<|Nx.mk (i + 1) (by rw [hτ,hr,ug]) (by omega) (by omega)
   replace hN:=hid hN
   by_cases h115:p.op=115
   · have h116:¬p.op=116:=by omega
     have h109:¬p.op=109:=by omega
     rcases zAc i s.length with hil | hil
     · obtain ⟨c,hc⟩:=aP hil
       simp (disch:=omega) [-zAa,hpv,Part.v,h115,h116,h109,hc]
       refine ac (oh c) rfl fun _=>?_
       cases hg:sgn c with
       | true=>
         have hg2:32≤c.toNat∧c.toNat≤126:=by simpa [sgn] using hg
         obtain ⟨b,hb⟩:=aP (l:=p.set) (k:=c.toNat - 32) (by rw [hset h115]; omega)
         have e2:((c.toNat:Int) - 32).toNat=c.toNat - 32:=by omega
         simp (disch:=omega) [-zAa,hpv,Part.v,h115,h116,h109,hc,hb,e2]
         exact hN.out (aQ n (sub (i + 1) b (sub i false fun _=>false))) (by simp [base,hc,hg,h115,hb]) _ (by simp)
       | false=>
         simp (disch:=omega) [-zAa,hpv,Part.v,h115,h116,h109,hc]
         exact hN.out (aQ n (sub i false fun _=>false)) (by simp [base,hc,hg,h115]) _ (by simp)
     · have hc:s[i]?=none:=zAe (by omega)
       simp (disch:=omega) [-zAa,hpv,Part.v,h115,h116,h109,hc]
       exact hN.out (aQ n (sub i false fun _=>false)) (by simp [base,hc,h115]) _ (by simp)
   · have hb:base p s i=sub i (decide (p.op=116) || decide (p.op=109)) fun _=>false:=by
      unfold base
      split
      · rw [if_neg (by simp [h115])]
      · rfl
     by_cases h116:p.op=116
     · simp (disch:=omega) [-zAa,hpv,Part.v,h115,h116]
       exact hN.out (aQ n (sub i true fun _=>false)) (by simp [hb,h116]) _ (by simp)
     · by_cases h109:p.op=109
       · simp (disch:=omega) [-zAa,hpv,Part.v,h115,h116,h109]
         exact hN.out (aQ n (sub i true fun _=>false)) (by simp [hb,h109]) _ (by simp)
       · simp (disch:=omega) [-zAa,hpv,Part.v,h115,h116,h109]
         exact hN.out (aQ n (sub i false fun _=>false)) (by simp [hb,h116,h109]) _ (by simp)
 · have hin:i=n:=by omega
   rw [hin,Cz]
   clear hN hin hi hge
   simp (disch:=omega) [-zAa]
   obtain ⟨T,hT⟩:∃ T,T=stepT p s tabs:=⟨_,rfl⟩
   rw [←hT]
   simp only [stepT,←hn] at hT
   refine ak (fun (q:Nat × Tab × V × List (Option Ob))=>⟨[(0,.seq 3 (parts.map Part.v)),(1,.int .i64 k),(3,.seq 1 (tabs.map (dI n))),(9,.int .i64 n),(10,q.2.2.1),(12,.int .i64 q.1)],q.2.2.2⟩)
    (fun q=>q.1≤p.l.length∧ZR n q.2.1 q.2.2.1 q.2.2.2∧kidT n p.op tabs q.2.1 (p.l.drop q.1)=T) (fun q=>p.l.length - q.1) [] _ (0,base p s,.ref 0 n,[some (.mat dZ co 1 (sm (tab n fun i=>aQ n (base p s i))))]) rfl (by simp) ⟨by simp,.inl ⟨rfl,rfl⟩,by simp [hT]⟩ ?_
   rintro ⟨j,f,o,h⟩ ⟨hj,ho,hk⟩ N hN
   simp only at hj ho hk
   rcases place p.l j hj with ⟨he,hd⟩ | ⟨hlt,x,hx,hd⟩<;>rw [hd,kidT] at hk
   · subst hk
     clear hN
     have hfl:∀ x∈tab n (fun i=>aQ n (f i)),dk x=true:=by
      intro x hx
      simp only [tab,zBd] at hx
      obtain ⟨j,_,rfl⟩:=hx
      exact rQ
     rcases ho with ⟨rfl,rfl⟩ | ⟨rfl,rfl⟩
     all_goals
      simp (disch:=omega) [-zAa,hpv,Part.v,he]
     · exact ⟨hfl,by simp [dI]⟩
     · simp [dI]
   · have hxt:=hl x (zBb hx)
     obtain ⟨g,hg⟩:=aP hxt
     have hlx:(p.l.map fun (j:Nat)=>V.int .i64 (j:Int))[j]?=some (.int .i64 (x:Int)):=by rw [zAi,hx]; rfl
     rw [hg] at hk
     simp only [Option.getD_some] at hk
     replace hk:=hid hk
     replace hN:=fun (f':Tab) (hf:kid n p.op f g=f') τ (o':V) (h':List (Option Ob)) (hτ:τ.nrm [0,1,3,9,10,12]=⟨[(0,.seq 3 (parts.map Part.v)),(1,.int .i64 k),(3,.seq 1 (tabs.map (dI n))),(9,.int .i64 n),(10,o'),(12,.int .i64 ((j + 1:Nat):Int))],h'⟩) (ho:ZR n f' o' h')=>
      hN.out τ<|Nx.mk (j + 1,f',o',h') hτ ⟨by simp only; omega,ho,by simp only; rw [←hf]; exact hk.out⟩ (by simp only; omega)
     replace hN:=hid hN
     by_cases h111:p.op=111
     · rcases ho with ⟨rfl,rfl⟩ | ⟨rfl,rfl⟩
       all_goals
        simp (disch:=omega) [-zAa,hpv,Part.v,hlx,hg,h111,dI]
        refine f5 (ol n f g (by omega)) fun _=>?_
        simp (disch:=omega) [-zAa,dI]
        exact hN.out (both1 f g) (by simp [kid,h111]) _ (.fseq 1 (tab n fun i=>.seq 1 (aQ n (both1 f g i)))) [] (by simp; rfl) (.inr ⟨rfl,rfl⟩)
     · by_cases h116:p.op=116
       · rcases ho with ⟨rfl,rfl⟩ | ⟨rfl,rfl⟩
         all_goals
          simp (disch:=omega) [-zAa,hpv,Part.v,hlx,hg,h111,h116,dI]
          refine f5 (lf n f g (by omega)) fun _=>?_
          simp (disch:=omega) [-zAa,dI]
          exact hN.out (jon n f g) (by simp [kid,h116]) _ (.fseq 1 (tab n fun i=>.seq 1 (aQ n (jon n f g i)))) [] (by simp; rfl) (.inr ⟨rfl,rfl⟩)
       · by_cases h109:p.op=109
         · rcases ho with ⟨rfl,rfl⟩ | ⟨rfl,rfl⟩
           · simp (disch:=omega) [-zAa,hpv,Part.v,hlx,hg,h111,h116,h109,dI]
             refine ak (fun (q:Nat × Tab × V × List (Option Ob))=>⟨[(0,.seq 3 (parts.map Part.v)),(1,.int .i64 k),(3,.seq 1 (tabs.map (dI n))),(9,.int .i64 n),(10,q.2.2.1),(12,.int .i64 j),(13,.seq 1 (tab n fun i=>.seq 1 (aQ n (g i)))),(14,.int .i64 q.1)],q.2.2.2⟩)
              (fun q=>q.1≤n∧ZR n q.2.1 q.2.2.1 q.2.2.2∧star n g (n - q.1) q.2.1=kid n p.op f g) (fun q=>n - q.1) [] _ (0,f,.ref 0 n,[some (.mat dZ co 1 (sm (tab n fun i=>aQ n (f i))))]) rfl (by simp [dI]) ⟨by simp,.inl ⟨rfl,rfl⟩,by simp [kid,h109]⟩ ?_
             rintro ⟨t,f2,o2,h2⟩ ⟨ht,ho2,hk2⟩ L hL
             simp only at ht ho2 hk2
             rcases zAc t n with htn | htn
             · have e:n - t=(n - (t + 1)) + 1:=by omega
               rw [e,star] at hk2
               replace hk2:=hid hk2
               have nx:∀ τ:St,τ.nrm [0,1,3,9,10,12,13,14]=⟨[(0,.seq 3 (parts.map Part.v)),(1,.int .i64 k),(3,.seq 1 (tabs.map (dI n))),(9,.int .i64 n),(10,.fseq 1 (tab n fun i=>.seq 1 (aQ n (both1 f2 (jon n f2 g) i)))),(12,.int .i64 j),(13,.seq 1 (tab n fun i=>.seq 1 (aQ n (g i)))),(14,.int .i64 ((t + 1:Nat):Int))],[]⟩→L τ:=fun τ hτ=>
                hL.out τ<|Nx.mk (t + 1,both1 f2 (jon n f2 g),_,[]) hτ ⟨by simp only; omega,.inr ⟨rfl,rfl⟩,hk2.out⟩ (by simp only; omega)
               replace nx:=hid nx
               rcases ho2 with ⟨rfl,rfl⟩ | ⟨rfl,rfl⟩
               all_goals
                simp (disch:=omega) [-zAa]
                refine f5 (lf n f2 g (by omega)) fun _=>?_
                simp (disch:=omega) [-zAa,dI]
                refine f5 (ol n f2 (jon n f2 g) (by omega)) fun _=>?_
                simp (disch:=omega) [-zAa,dI]
                exact nx.out _ (by simp; rfl)
             · have e:n - t=0:=by omega
               rw [e,star] at hk2
               replace hN:=hN.out f2 hk2.symm
               clear hL
               rcases ho2 with ⟨rfl,rfl⟩ | ⟨rfl,rfl⟩
               · simp (disch:=omega) [-zAa,htn]
                 exact hN _ _ _ (by simp) (.inl ⟨rfl,rfl⟩)
               · simp (disch:=omega) [-zAa,htn]
                 exact hN _ _ _ (by simp) (.inr ⟨rfl,rfl⟩)
           · simp (disch:=omega) [-zAa,hpv,Part.v,hlx,hg,h111,h116,h109,dI]
             refine ak (fun (q:Nat × Tab × V × List (Option Ob))=>⟨[(0,.seq 3 (parts.map Part.v)),(1,.int .i64 k),(3,.seq 1 (tabs.map (dI n))),(9,.int .i64 n),(10,q.2.2.1),(12,.int .i64 j),(13,.seq 1 (tab n fun i=>.seq 1 (aQ n (g i)))),(14,.int .i64 q.1)],q.2.2.2⟩)
              (fun q=>q.1≤n∧ZR n q.2.1 q.2.2.1 q.2.2.2∧star n g (n - q.1) q.2.1=kid n p.op f g) (fun q=>n - q.1) [] _ (0,f,.fseq 1 (tab n fun i=>.seq 1 (aQ n (f i))),[]) rfl (by simp [dI]) ⟨by simp,.inr ⟨rfl,rfl⟩,by simp [kid,h109]⟩ ?_
             rintro ⟨t,f2,o2,h2⟩ ⟨ht,ho2,hk2⟩ L hL
             simp only at ht ho2 hk2
             rcases zAc t n with htn | htn
             · have e:n - t=(n - (t + 1)) + 1:=by omega
               rw [e,star] at hk2
               replace hk2:=hid hk2
               have nx:∀ τ:St,τ.nrm [0,1,3,9,10,12,13,14]=⟨[(0,.seq 3 (parts.map Part.v)),(1,.int .i64 k),(3,.seq 1 (tabs.map (dI n))),(9,.int .i64 n),(10,.fseq 1 (tab n fun i=>.seq 1 (aQ n (both1 f2 (jon n f2 g) i)))),(12,.int .i64 j),(13,.seq 1 (tab n fun i=>.seq 1 (aQ n (g i)))),(14,.int .i64 ((t + 1:Nat):Int))],[]⟩→L τ:=fun τ hτ=>
                hL.out τ<|Nx.mk (t + 1,both1 f2 (jon n f2 g),_,[]) hτ ⟨by simp only; omega,.inr ⟨rfl,rfl⟩,hk2.out⟩ (by simp only; omega)
               replace nx:=hid nx
               rcases ho2 with ⟨rfl,rfl⟩ | ⟨rfl,rfl⟩
               all_goals
                simp (disch:=omega) [-zAa]
                refine f5 (lf n f2 g (by omega)) fun _=>?_
                simp (disch:=omega) [-zAa,dI]
                refine f5 (ol n f2 (jon n f2 g) (by omega)) fun _=>?_
                simp (disch:=omega) [-zAa,dI]
                exact nx.out _ (by simp; rfl)
             · have e:n - t=0:=by omega
               rw [e,star] at hk2
               replace hN:=hN.out f2 hk2.symm
               clear hL
               rcases ho2 with ⟨rfl,rfl⟩ | ⟨rfl,rfl⟩
               · simp (disch:=omega) [-zAa,htn]
                 exact hN _ _ _ (by simp) (.inl ⟨rfl,rfl⟩)
               · simp (disch:=omega) [-zAa,htn]
                 exact hN _ _ _ (by simp) (.inr ⟨rfl,rfl⟩)
         · rcases ho with ⟨rfl,rfl⟩ | ⟨rfl,rfl⟩
           all_goals
            simp (disch:=omega) [-zAa,hpv,Part.v,hlx,hg,h111,h116,h109,dI]
            refine hN.out f (by simp [kid,h111,h116,h109]) _ _ _ (by simp; exact ⟨rfl,rfl⟩) ?_
            first | exact .inl ⟨rfl,rfl⟩ | exact .inr ⟨rfl,rfl⟩
def tabsGo(s:Str):List Tab->List Part->List Tab
 |acc,[]=>acc
 |acc,p::ps=>tabsGo s (acc++[stepT p s acc]) ps
theorem Bg(s:Str):∀(ps:List Part)(acc:List Tab),(tabsGo s acc ps).length=acc.length+ps.length
 |[],acc=>rfl
 |p::ps,acc=>by simp only[tabsGo,Bg s ps,List.length_append,List.length_cons,List.length_nil];omega
def matchT(parts:List Part)(k:Nat)(s:Str):Bool:=(((tabsGo s [] (parts.take (k+1)))[k]?).getD fun _ _=>false) 0 s.length
def Wf(parts:List Part):Prop:=parts.length<=1000/\∀(i:Nat)(p:Part),parts[i]?=some p->(∀x∈p.l,x<i)/\(p.op=115->p.set.length=95)/\p.l.length<=1000
theorem Gs(parts:List Part)(k:Nat)(s:Str)(hw:Wf parts)(hk:k<parts.length)(hs:s.length<=999999):Fn Tryz.prog Ej [.seq 3 (parts.map Part.v),.int .i64 k,.str s] (.bool (matchT parts k s)):=by
 refine yoA E8 ?_;have hpl:=hw.1;simp(disch:=omega) [-zAa];obtain⟨T,hT⟩:∃T,T=tabsGo s [] (parts.take (k+1)):=⟨_,rfl⟩;have hTl:T.length=k+1:=by rw[hT,Bg];simp;omega
 obtain⟨f,hf⟩:=aP (l:=T) (k:=k) (by omega)
 have hm:matchT parts k s=f 0 s.length:=by rw[matchT,<-hT,hf];rfl
 rw[hm];have hlt:(parts.take (k+1)).length=k+1:=by simp;omega
 refine ak (fun(q:Nat×List Tab)=>⟨[(0,.seq 3 (parts.map Part.v)),(1,.int .i64 k),(2,.str s),(7,.ref 0 q.2.length),(8,.int .i64 q.1)],[some (.arr xC 1 (q.2.map (dI (s.length+1))))]⟩)
  (fun q=>q.1<=(parts.take (k+1)).length/\q.2.length=q.1/\tabsGo s q.2 ((parts.take (k+1)).drop q.1)=T) (fun q=>(parts.take (k+1)).length-q.1) [.r 7 xC 1] _ (0,[]) rfl (by simp) (by simp[hT]) ?_
 rintro⟨i,acc⟩ ⟨hi,ha,hi2⟩ N hN;simp only at hi ha hi2;rcases place (parts.take (k+1)) i hi with⟨he,hd⟩|⟨hlt2,p,hp,hd⟩<;>rw[hd,tabsGo]at hi2
 ·subst hi2
  clear hN;have e:(acc.map (dI (s.length+1)))[k]?=some (dI (s.length+1) f):=by rw[zAi,hf];rfl
  simp(disch:=omega) [-zAa,he,hlt,e,dI]
 ·have hp2:parts[i]?=some p:=by rw[List.getElem?_take]at hp;simpa[show i<k+1 by omega]using hp
  obtain⟨w1,w2,w3⟩:=hw.2 i p hp2;replace hi2:=hid hi2;simp(disch:=omega) [-zAa];refine kx (K6 parts i p s acc hp2 hs (by rw[ha];exact w1) w2 w3) fun _=>?_
  simp(disch:=omega) [-zAa,dI];exact hN.out _<|Nx.mk (i+1,acc++[stepT p s acc]) (by simp;rfl) ⟨by simp only;omega,by simp;omega,hi2.out⟩ (by simp only;omega)
structure PS where
 n:List Part
 s:Str
 at':Nat
 bad:Bool
def PS.v(p:PS):V:=.strct [.seq 3 (p.n.map Part.v),.str p.s,.int .i64 p.at',.bool p.bad]
def isP(p:PS)(c:Nat):Bool:=match p.s[p.at']? with
 |some b=>decide (b.toNat=c)
 |none=>false
theorem bj(p:PS)(c:Nat):Fn Tryz.prog P9 [p.v,.int .u8 c] (.bool (isP p c)):=by
 refine yoB Qr fun ho=>?_;simp only[oks,ok,and_true]at ho;simp(disch:=omega) [-zAa,PS.v];rcases zAc p.at' p.s.length with h|h
 ·obtain⟨b,hb⟩:=aP h
  simp(disch:=omega) [-zAa,isP,hb,Int.ofNat_inj]
 ·have hb:p.s[p.at']?=none:=zAe (by omega)
  simp(disch:=omega) [-zAa,isP,hb]
def jG(c:Nat)(l:Str):Bool:=l.any fun b=>decide (b.toNat=c)
theorem my(c:Nat)(l:Str):Fn Tryz.prog Eh [.int .u8 c,.str l] (.bool (jG c l)):=by
 refine yoB E6 fun ho=>?_;simp only[oks,ok,and_true]at ho;simp(disch:=omega) [-zAa];obtain⟨r,hr⟩:∃r,jG c l=r:=⟨_,rfl⟩;rw[hr];refine ak (fun k:Nat=>⟨[(0,.int .u8 c),(1,.str l),(5,.int .i64 k)],[]⟩) (fun k=>k<=l.length/\jG c (l.drop k)=r) (fun k=>l.length-k) [] _ 0 rfl (by simp) (by simp[hr]) ?_
 rintro k ⟨hk,hi⟩ N hN;rcases place l k hk with⟨he,hd⟩|⟨hlt,x,hx,hd⟩<;>rw[hd]at hi
 ·subst hi
  simp(disch:=omega) [-zAa,he,jG]
 ·replace hi:=hid hi
  simp(disch:=omega) [-zAa,hx];refine BrKd.mk (fun h=>?_) (fun h=>?_)
  ·have:=hi.out
   simp(disch:=omega) [-zAa,h];rw[<-this];have h':x.toNat=c:=by omega
   simp[jG,h']
  ·simp(disch:=omega) [-zAa,h]
   refine hN.out _<|Nx.mk (k+1) (by simp) ⟨by omega,?_⟩ (by omega)
   have:=hi.out;have h':¬x.toNat=c:=by omega
   simpa[jG,h']using this
def aY(p:PS)(x:Part):PS:={ p with n:=p.n++[x] }
theorem bo(p:PS)(x:Part)(hn:p.n.length<=1000):Fn Tryz.prog MQ [p.v,x.v] (.tup [(aY p x).v,.int .i64 p.n.length]):=by
 refine yoA Nr ?_;unfold zH;simp(disch:=omega) [-zAa,PS.v,Part.v]
 repeat' (first|refine xw.mk ?_ ?_ |(simp(disch:=omega) [aY,Part.v,PS.v];done)|(simp(disch:=omega);refine xw.mk ?_ ?_))
def dA(p:PS)(odd:Str):PS×Nat:=
 let q:PS:=if isP p 92 then{ p with at':=p.at'+1 }else p
 match q.s[q.at']? with
 |some c=>if sgn c&&(isP p 92|| !jG c.toNat odd)then({ q with at':=q.at'+1 },c.toNat)else({ q with bad:=true },32)
 |none=>({ q with bad:=true },32)
theorem mw(p:PS)(odd:Str):Fn Tryz.prog Ef [p.v,.str odd] (.tup [(dA p odd).1.v,.int .u8 (dA p odd).2]):=by
 refine yoB E3 fun ho=>?_;simp only[oks,ok,and_true]at ho;have hs:p.s.length<=4611686018427387904:=by have:=ho.1;simp[PS.v]at this;exact this.2.1
 clear ho;simp(disch:=omega) [-zAa,PS.v];refine ac (by simpa[PS.v]using bj p 92) rfl fun _=>?_
 have isat:isP p 92=true->p.at'<p.s.length:=by
  intro h;unfold isP at h;split at h
  ·rename_i b hb;exact(zAg.1 hb).1
  ·cases h
 cases hb:isP p 92
 ·rcases zAc p.at' p.s.length with h|h
  ·obtain⟨c,hc⟩:=aP h
   simp(disch:=omega) [-zAa,hc];refine ac (oh c) rfl fun _=>?_;cases hg:sgn c
   ·simp(disch:=omega) [-zAa,hc]
    simp[dA,hb,hc,hg]
   ·simp(disch:=omega) [-zAa,hc]
    refine ac (my c.toNat odd) rfl fun _=>?_;cases ha:jG c.toNat odd
    all_goals
     simp(disch:=omega) [-zAa,hc];simp[dA,hb,hc,hg,ha]
  ·have hc:p.s[p.at']?=none:=zAe (by omega)
   simp(disch:=omega) [-zAa,hc];simp[dA,hb,hc]
 ·have hat:=isat hb
  rcases zAc (p.at'+1) p.s.length with h|h
  ·obtain⟨c,hc⟩:=aP h
   simp(disch:=omega) [-zAa,hc];refine ac (oh c) rfl fun _=>?_;cases hg:sgn c
   ·simp(disch:=omega) [-zAa,hc]
    simp[dA,hb,hc,hg]
   ·simp(disch:=omega) [-zAa,hc]
    simp[dA,hb,hc,hg]
  ·have hc:p.s[p.at'+1]?=none:=zAe (by omega)
   simp(disch:=omega) [-zAa,hc];simp[dA,hb,hc]
def fM(set:List Bool)(low high:Nat):Nat->Bool:=fun i=>((set[i]?).getD false)||(decide (low<=i+32)&&decide (i+32<=high))
theorem iH(set:List Bool)(low high:Nat):FnN Tryz.prog Ee [.seq 1 (set.map .bool),.int .u8 low,.int .u8 high] (.seq 1 (aQ 95 (fM set low high))):=by
 refine FnN.of_image mixed E2.1 E2.2 rfl fun ho=>?_;have hlo:low<=255/\high<=255:=by have:=ho.2;simp at this;omega
 clear ho;simp(disch:=omega) [-zAa];rw[xz (F:=fM set low high)];refine ak (fun k:Nat=>⟨[(0,.seq 1 (set.map .bool)),(1,.int .u8 low),(2,.int .u8 high),(7,.ref 0 95),(8,.int .i64 k)],[some (.arr co 1 (aQ 95 (z7 k (fM set low high))))]⟩) (fun k=>k<=95) (fun k=>95-k) [] _ 0 rfl (by simp) (by simp) ?_
 rintro k hk N hN;rcases zAc k 95 with hlt|hge
 ·have fin:∀b:Bool,b=fM set low high k->∀τ:St,τ.nrm [0,1,2,7,8]=⟨[(0,.seq 1 (set.map .bool)),(1,.int .u8 low),(2,.int .u8 high),(7,.ref 0 95),(8,.int .i64 ((k+1:Nat):Int))],[some (.arr co 1 (aQ 95 (sub k b (z7 k (fM set low high)))))]⟩->N τ:=fun b hb τ hτ=>by
   rw[xy hb]at hτ;exact hN.out _<|Nx.mk (k+1) hτ (by omega) (by omega)
  replace fin:=hid fin
  have low1:((set[k]?).getD false)=false->low<=k+32->decide ((k:Int)+32<=high)=fM set low high k:=fun h h1=>by
   simp only[fM,h,zBc,h1,decide_true,zBi];exact decide_eq_decide.2 (by omega)
  have low0:((set[k]?).getD false)=false->¬low<=k+32->false=fM set low high k:=fun h h1=>by
   simp[fM,h,h1]
  rcases zAc k set.length with hks|hks
  ·obtain⟨b,hb⟩:=aP hks
   cases b
   ·by_cases h1:low<=k+32
    ·simp(disch:=omega) [-zAa,hb]
     exact fin.out _ (low1 (by rw[hb];rfl) h1) _ (by simp)
    ·simp(disch:=omega) [-zAa,hb]
     exact fin.out _ (low0 (by rw[hb];rfl) h1) _ (by simp)
   ·simp(disch:=omega) [-zAa,hb]
    exact fin.out true (by simp[fM,hb]) _ (by simp)
  ·have hb:set[k]?=none:=zAe hks
   by_cases h1:low<=k+32
   ·simp(disch:=omega) [-zAa,hb]
    exact fin.out _ (low1 (by rw[hb];rfl) h1) _ (by simp)
   ·simp(disch:=omega) [-zAa,hb]
    exact fin.out _ (low0 (by rw[hb];rfl) h1) _ (by simp)
 ·have:k=95:=by omega
  subst this;simp(disch:=omega) [-zAa,Bb]
def aJ(p:PS):PS:={ p with at':=p.at'+1 }
def GH(p:PS):PS:={ p with bad:=true }
def DZ:Str:=[92,93,45,94]
def yu(p:PS):PS×Nat:=dA p DZ
def l9(p:PS):PS×Nat:=if isP (yu p).1 45 then dA (aJ (yu p).1) DZ else yu p
def Un(p:PS):PS:=if(l9 p).2<(yu p).2 then GH (l9 p).1 else(l9 p).1
def u4(p:PS)(set:List Bool):List Bool:=if(Un p).bad then set else tab 95 (fM set (yu p).2 (l9 p).2)
def lim(p:PS):Bool:=decide (p.at'<=1000)&&(decide (p.n.length<=900)&&decide (p.s.length<=1000))
def th:Nat->PS->List Bool->Nat->Option (PS×List Bool)
 |0,_,_,_=>none
 |fuel+1,p,set,n=>if lim p then(if !p.bad&&(decide (n=0)|| !isP p 93)then th fuel (Un p) (u4 p set) (n+1)else some (p,set))else none
def Dt(fuel:Nat)(p:PS):Option (PS×Nat):=
 match th fuel (if isP p 94 then aJ p else p) [] 0 with
 |some (q,set)=>some (aY (aJ (if isP q 93 then q else GH q)) ⟨115,tab 95 (fun i=>(((set[i]?).getD false) != isP p 94)),[]⟩,q.n.length)
 |none=>none
theorem Bw(p:PS)(o:Str):(dA p o).1.n=p.n/\(dA p o).1.s=p.s/\(dA p o).1.at'<=p.at'+2:=by
 unfold dA;cases isP p 92<;>simp<;>(split<;>(try split))<;>simp
theorem nh:∀{fuel:Nat}{p:PS}{set:List Bool}{n:Nat}{r:PS×List Bool},th fuel p set n=some r->lim p=true/\lim r.1=true
 |0,_,_,_,_,h=>by simp[th]at h
 |fuel+1,p,set,n,r,h=>by
   simp only[th]at h;split at h
   ·rename_i hl
    split at h
    ·exact⟨hl,(nh h).2⟩
    ·cases h;exact⟨hl,hl⟩
   ·cases h
theorem i1{p:PS}(h:lim p=true):p.at'<=1000/\p.n.length<=900/\p.s.length<=1000:=by
 simpa[lim]using h
def acG(set:List Bool)(v:V):Prop:=(v=.nil 1/\set=[])\/v=.seq 1 (set.map .bool)
theorem Gq (fuel:Nat) (p:PS) (q:PS) (k:Nat) (hr:Dt fuel p=some (q,k)) (hl:lim p=true) (hfu:fuel≤1000000):Fn Tryz.prog Eg [p.v] (.tup [q.v,.int .i64 k]):=by
 refine yoB E5 fun ho=>?_
 simp only [oks,ok,and_true] at ho
 clear ho
 have hl0:=i1 hl
 unfold Dt at hr
 obtain ⟨R,hR⟩:∃ R,R=(V.tup [q.v,.int .i64 k]):=⟨_,rfl⟩
 rw [←hR]
 simp (disch:=omega) [-zAa,PS.v]
 refine ac (by simpa [PS.v] using bj p 94) rfl fun _=>?_
 generalize hp1:(if isP p 94=true then aJ p else p)=p1 at hr
 split at hr
 · rename_i q0 set0 hgo
   simp only [zAb,zAd] at hr
   obtain ⟨hq,hk⟩:=hr
   generalize hb:isP p 94=neg at hp1 hq
   have hl1:=(nh hgo).2
   cases neg
   all_goals
    simp only [zAf,if_false,if_true] at hp1
    simp (disch:=omega) [-zAa]
    refine ak (fun (x:Nat × PS × List Bool × V × Nat)=>⟨[(1,.ptr 0 0),(2,.ptr 1 0),(4,.bool (isP p 94)),(5,x.2.2.2.1),(6,.int .i64 x.2.2.2.2)],
     [some (.box [.seq 3 (x.2.1.n.map Part.v),.str x.2.1.s,.int .i64 x.2.1.at',.bool x.2.1.bad]),some (.box [.nil 3,.str [],.int .i64 0,.bool false])]⟩)
     (fun x=>th x.1 x.2.1 x.2.2.1 x.2.2.2.2=some (q0,set0)∧acG x.2.2.1 x.2.2.2.1∧x.1 + x.2.2.2.2=fuel) (fun x=>x.1) [] _ (fuel,p1,[],.nil 1,0) rfl (by simp [←hp1,hb,aJ]) ⟨hgo,.inl ⟨rfl,rfl⟩,rfl⟩ ?_
    rintro ⟨f,r,set,sv,n⟩ ⟨hi,hsv,hfn⟩ N hN
    simp only at hi hsv hfn
    cases f with
    | zero=>simp [th] at hi
    | succ f=>
    have hl2:=i1 (nh hi).1
    have hl3:=(nh hi).1
    simp only [th,hl3,if_true] at hi
    have hex:(r.bad=true∨(r.bad=false∧n≠0∧isP r 93=true))∨((r.bad=false∧n=0)∨(r.bad=false∧n≠0∧isP r 93=false)):=by
     cases r.bad<;>cases isP r 93<;>simp
     all_goals omega
    rcases hex with hex | hex
    · have hc:(!r.bad && (decide (n=0) || !isP r 93))=false:=by
       rcases hex with h | ⟨h,h',h''⟩<;>simp [h]
       simp [h',h'']
      simp only [hc,zAf,if_false,zAb,zAd] at hi
      obtain ⟨rfl,rfl⟩:=hi
      clear hN hc
      have hn0:r.bad=true∨(n≠0∧isP r 93=true):=by
       rcases hex with h | ⟨_,h,h'⟩
       · exact .inl h
       · exact .inr ⟨h,h'⟩
      clear hex
      generalize hbd:r.bad=bd at hn0
      obtain ⟨X,hX⟩:∃ X,X=(if isP r 93=true then r else GH r):=⟨_,rfl⟩
      rw [←hX] at hq
      have hXn:X.n=r.n∧X.s=r.s∧X.at'=r.at':=by rw [hX]; split<;>simp [GH]
      have hXb:X.bad=(bd || !isP r 93):=by rw [hX,←hbd]; cases isP r 93<;>simp [GH]
      have h3:(bd=true∧isP r 93=false)∨(bd=true∧isP r 93=true)∨(bd=false∧n≠0∧isP r 93=true):=by
       rcases hn0 with h | ⟨h,h'⟩
       · cases hh:isP r 93
         · exact .inl ⟨h,rfl⟩
         · exact .inr (.inl ⟨h,rfl⟩)
       · cases bd
         · exact .inr (.inr ⟨rfl,h,h'⟩)
         · exact .inr (.inl ⟨rfl,h'⟩)
      clear hn0
      have hmid:∀ Y:V,True:=fun _=>trivial
      clear hmid
      obtain ⟨st0,hst0⟩:∃ s0,s0=set:=⟨_,rfl⟩
      obtain ⟨sv0,hsv0⟩:∃ v,v=sv:=⟨_,rfl⟩
      rw [←hst0] at hq
      rcases hsv with ⟨rfl,rfl⟩ | rfl<;>rcases h3 with ⟨rfl,h93⟩ | ⟨rfl,h93⟩ | ⟨rfl,hn0,h93⟩
      all_goals
       simp (disch:=omega) [-zAa, *,hbd]
       refine ac (by simpa [PS.v,hbd] using bj r 93) rfl fun _=>?_
       simp (disch:=omega) [-zAa,hbd,h93]
       try (refine ac (by simpa [PS.v,hbd] using bj r 93) rfl fun _=>?_; simp (disch:=omega) [-zAa,hbd,h93])
       rw [xz (F:=fun i=>(((st0[i]?).getD false) != isP p 94))]
       refine ak (fun k:Nat=>⟨[(1,.ptr 0 0),(2,.ptr 1 0),(4,.bool (isP p 94)),(5,sv0),(11,.ref 2 95),(12,.int .i64 k)],
        [some (.box [.seq 3 (X.n.map Part.v),.str X.s,.int .i64 ((X.at' + 1:Nat):Int),.bool X.bad]),some (.box [.nil 3,.str [],.int .i64 0,.bool false]),some (.arr co 1 (aQ 95 (z7 k fun i=>(((st0[i]?).getD false) != isP p 94))))]⟩)
        (fun k=>k≤95) (fun k=>95 - k) [] _ 0 rfl (by simp [hXn,hXb,h93,hsv0,hb,←hp1]) (by simp) ?_
       rintro k1 hk1 M hM
       try rw [←hst0] at hsv0
       rcases zAc k1 95 with hlt | hge
       · have fin:∀ b:Bool,b=(((st0[k1]?).getD false) != isP p 94)→∀ τ:St,τ.nrm [1,2,4,5,11,12]=⟨[(1,.ptr 0 0),(2,.ptr 1 0),(4,.bool (isP p 94)),(5,sv0),(11,.ref 2 95),(12,.int .i64 ((k1 + 1:Nat):Int))],
          [some (.box [.seq 3 (X.n.map Part.v),.str X.s,.int .i64 ((X.at' + 1:Nat):Int),.bool X.bad]),some (.box [.nil 3,.str [],.int .i64 0,.bool false]),some (.arr co 1 (aQ 95 (sub k1 b (z7 k1 fun i=>(((st0[i]?).getD false) != isP p 94)))))]⟩→M τ:=fun b hb τ hτ=>by
          rw [xy hb] at hτ
          exact hM.out _<|Nx.mk (k1 + 1) hτ (by omega) (by omega)
         replace fin:=hid fin
         cases hg:st0[k1]? with
         | none=>
           have hlen:st0.length≤k1:=by rw [zAj] at hg; exact hg
           simp (disch:=omega) [-zAa,hsv0,hg]
           exact fin.out (isP p 94) (by simp [hg]) _ (by simp [hsv0])
         | some b=>
           have hlen:=(zAg.1 hg).1
           first
            | (exfalso; rw [hst0] at hg; simp at hg; done)
            | (simp (disch:=omega) [-zAa,hsv0,hg]
               have e:(!b == isP p 94)=(b != isP p 94):=by cases b<;>cases isP p 94<;>rfl
               exact fin.out (b != isP p 94) (by simp [hg]) _ (by simp [hsv0,e]))
       · have:k1=95:=by omega
         subst this
         simp (disch:=omega) [-zAa,hsv0,Bb]
         refine dP (r:=.tup [(aY (aJ X) ⟨115,tab 95 (fun i=>(((st0[i]?).getD false) != isP p 94)),[]⟩).v,.int .i64 (aJ X).n.length]) ?_ fun _=>?_
         · have:=bo (aJ X) ⟨115,tab 95 (fun i=>(((st0[i]?).getD false) != isP p 94)),[]⟩ (by simp [aJ,hXn]; omega)
           simpa [PS.v,aJ,Part.v,aQ] using this
         · simp (disch:=omega) [-zAa,PS.v,hR]
           simp [PS.v,←hq,←hk,aJ,hXn,hb,hst0]
    · have hc:(!r.bad && (decide (n=0) || !isP r 93))=true:=by
       rcases hex with ⟨h,h'⟩ | ⟨h,h',h''⟩<;>simp [h,h']
       simp [h'']
      have hbd:r.bad=false:=by rcases hex with h | h<;>exact h.1
      simp only [hc,if_true] at hi
      clear hc
      obtain ⟨Y,hY⟩:∃ Y,Y=Un r:=⟨_,rfl⟩
      obtain ⟨st1,hst1⟩:∃ s,s=u4 r set:=⟨_,rfl⟩
      rw [←hY,←hst1] at hi
      replace hi:=hid hi
      have fin:∀ (v:V),acG st1 v→∀ τ:St,τ.nrm [1,2,4,5,6]=⟨[(1,.ptr 0 0),(2,.ptr 1 0),(4,.bool (isP p 94)),(5,v),(6,.int .i64 ((n + 1:Nat):Int))],
       [some (.box [.seq 3 (Y.n.map Part.v),.str Y.s,.int .i64 Y.at',.bool Y.bad]),some (.box [.nil 3,.str [],.int .i64 0,.bool false])]⟩→N τ:=fun v hv τ hτ=>
        hN.out _<|Nx.mk (f,Y,st1,v,n + 1) hτ ⟨hi.out,hv,by simp only; omega⟩ (by simp only; omega)
      replace fin:=hid fin
      obtain ⟨⟨q1,lo⟩,hql⟩:∃ x,dA r DZ=x:=⟨_,rfl⟩
      have hq1:=Bw r DZ
      rw [hql] at hq1
      simp only at hq1
      have hlo:(yu r)=(q1,lo):=hql
      obtain ⟨st0,hst0⟩:∃ s0,s0=set:=⟨_,rfl⟩
      obtain ⟨sv0,hsv0⟩:∃ v,v=sv:=⟨_,rfl⟩
      have hss:acG st0 sv0:=by rw [hst0,hsv0]; exact hsv
      rcases hex with ⟨_,rfl⟩ | ⟨_,hn0,h93⟩<;>rcases hsv with ⟨rfl,rfl⟩ | rfl
      all_goals
       simp (disch:=omega) [-zAa,hbd]
       try (refine ac (r:=.bool (isP r 93)) (by simpa [PS.v,hbd] using bj r 93) rfl fun _=>?_; simp (disch:=omega) [-zAa,hbd,h93,hn0])
       refine al (r:=.tup [q1.v,.int .u8 lo]) (by have:=mw r DZ; rw [hql] at this; simpa [PS.v,hbd,DZ] using this) rfl fun _=>?_
       simp (disch:=omega) [-zAa,PS.v]
       refine ac (r:=.bool (isP q1 45)) (by simpa [PS.v] using bj q1 45) rfl fun _=>?_
       cases h45:isP q1 45
       · have hhi:l9 r=(q1,lo):=by simp [l9,hlo,h45]
         have hYq:Y=q1:=by simp [hY,Un,hhi,hlo]
         subst hYq
         cases hb1:Y.bad
         · simp (disch:=omega) [-zAa,hb1]
           refine kx (r:=.seq 1 (aQ 95 (fM st0 lo lo))) (by simpa [hst0] using iH st0 lo lo) fun _=>?_
           simp (disch:=omega) [-zAa]
           exact fin.out (.seq 1 (aQ 95 (fM st0 lo lo))) (.inr (by simp [hst1,u4,←hY,hb1,hst0,hhi,hlo,aQ])) _ (by simp [hb1])
         · simp (disch:=omega) [-zAa,hb1]
           have e:st1=st0:=by simp [hst1,u4,←hY,hb1,hst0]
           exact fin.out sv0 (by rw [e]; exact hss) _ (by simp [hb1,hsv0])
       · simp (disch:=omega) [-zAa]
         obtain ⟨⟨q2,hi2⟩,hqh⟩:∃ x,dA (aJ q1) DZ=x:=⟨_,rfl⟩
         have hq2:=Bw (aJ q1) DZ
         rw [hqh] at hq2
         simp only [aJ] at hq2
         have hhi:l9 r=(q2,hi2):=by simp [l9,hlo,h45,hqh]
         refine al (r:=.tup [q2.v,.int .u8 hi2]) (by have:=mw (aJ q1) DZ; rw [hqh] at this; simpa [PS.v,aJ,DZ] using this) rfl fun _=>?_
         simp (disch:=omega) [-zAa,PS.v]
         refine BrKd.mk (fun h=>?_) (fun h=>?_)
         · have hYq:Y=GH q2:=by simp [hY,Un,hhi,hlo]; omega
           simp (disch:=omega) [-zAa,h]
           have e:st1=st0:=by simp [hst1,u4,←hY,hYq,GH,hst0]
           exact fin.out sv0 (by rw [e]; exact hss) _ (by simp [hYq,GH,hsv0])
         · have hYq:Y=q2:=by simp [hY,Un,hhi,hlo]; omega
           subst hYq
           cases hb1:Y.bad
           · simp (disch:=omega) [-zAa,h,hb1]
             refine kx (r:=.seq 1 (aQ 95 (fM st0 lo hi2))) (by simpa [hst0] using iH st0 lo hi2) fun _=>?_
             simp (disch:=omega) [-zAa]
             exact fin.out (.seq 1 (aQ 95 (fM st0 lo hi2))) (.inr (by simp [hst1,u4,←hY,hb1,hst0,hhi,hlo,aQ])) _ (by simp [hb1])
           · simp (disch:=omega) [-zAa,h,hb1]
             have e:st1=st0:=by simp [hst1,u4,←hY,hb1,hst0]
             exact fin.out sv0 (by rw [e]; exact hss) _ (by simp [hb1,hsv0])
 · cases hr
def P0:Str:=[92,40,41,91,93,124,42,43,63,46]
def TU(p:PS):Bool:=!p.bad&&(match p.s[p.at']? with
 |some b=>!jG b.toNat [124,41]
 |none=>false)
def nL:Nat->PS->Nat->Option (PS×Nat)
 |0,_,_=>none
 |f+1,q,k=>if lim q then(if q.bad||(!isP q 42&&(!isP q 43&& !isP q 63))then some (q,k)
     else if isP q 63 then nL f (aY (aY (aJ q) ⟨116,[],[]⟩) ⟨111,[],[k,q.n.length]⟩) (q.n.length+1)
     else if isP q 43 then nL f (aY (aY (aJ q) ⟨109,[],[k]⟩) ⟨116,[],[k,q.n.length]⟩) (q.n.length+1)
     else nL f (aY (aJ q) ⟨109,[],[k]⟩) q.n.length)else none
mutual
def Ii:Nat->PS->Option (PS×Nat)
 |0,_=>none
 |f+1,p=>if lim p then(if isP p 40 then(match iy f (aJ p)with
       |some (q,k)=>if lim q then some (aJ (if isP q 41 then q else GH q),k)else none
       |none=>none)
     else if isP p 46 then some (aY (aJ p) ⟨115,tab 95 (fM [] 32 126),[]⟩,p.n.length)
     else if isP p 91 then Dt f (aJ p)
     else some (aY (dA p P0).1 ⟨115,tab 95 (fM [] (dA p P0).2 (dA p P0).2),[]⟩,p.n.length))else none
def xK:Nat->PS->Option (PS×Nat)
 |0,_=>none
 |f+1,p=>match Ii f p with
   |some (q,k)=>nL f q k
   |none=>none
def MB:Nat->PS->List Nat->Option (PS×List Nat)
 |0,_,_=>none
 |f+1,p,own=>if lim p&&decide (own.length<=900)then(if TU p then(match xK f p with
     |some (q,k)=>MB f q (own++[k])
     |none=>none)else some (p,own))else none
def Ux:Nat->PS->List Nat->Option (PS×Nat)
 |0,_,_=>none
 |f+1,p,l=>if decide (l.length<=900)then(match MB f p []with
   |some (q,own)=>if q.bad|| !isP q 124 then some (aY (aY q ⟨116,[],own⟩) ⟨111,[],l++[q.n.length]⟩,q.n.length+1)
      else Ux f (aJ (aY q ⟨116,[],own⟩)) (l++[q.n.length])
   |none=>none)else none
def iy:Nat->PS->Option (PS×Nat)
 |0,_=>none
 |f+1,p=>Ux f p []
end
theorem WM{p q:PS}(h:lim q=true)(hn:p.n.length<=q.n.length)(hs:p.s=q.s)(ha:p.at'<=q.at'):lim p=true:=by
 have:=i1 h;simp[lim,hs];omega
theorem Re{f:Nat}{p:PS}{r:PS×Nat}(h:Dt f p=some r):lim p=true:=by
 unfold Dt at h;split at h
 ·rename_i q set hg
  have:=(nh hg).1;split at this
  ·exact WM this (by simp[aJ]) (by simp[aJ]) (by simp[aJ])
  ·exact this
 ·cases h
def PC(F:Nat->PS->Option (PS×Nat))(n:FuncId)(f:Nat):Prop:=∀(p q:PS)(k:Nat),F f p=some (q,k)->Fn Tryz.prog n [p.v] (.tup [q.v,.int .i64 k])
theorem K7(f:Nat)(hf:f<=1000000)(IH:PC iy iq f):PC Ii nM (f+1):=by
 intro p q k hr;simp only[Ii]at hr;split at hr
 ·rename_i hl
  have hl0:=i1 hl;refine yoA JT ?_;simp(disch:=omega) [-zAa,PS.v];refine ac (by simpa[PS.v]using bj p 40) rfl fun _=>?_
  cases h40:isP p 40
  ·simp(disch:=omega) [-zAa,h40]
   refine ac (by simpa[PS.v]using bj p 46) rfl fun _=>?_
   simp only[h40,zAf,if_false]at hr;cases h46:isP p 46
   ·simp(disch:=omega) [-zAa,h46]
    refine ac (by simpa[PS.v]using bj p 91) rfl fun _=>?_
    simp only[h46,zAf,if_false]at hr;cases h91:isP p 91
    ·simp only[h91,zAf,if_false,zAb,zAd]at hr
     obtain⟨⟨q1,lo⟩,hql⟩:∃x,dA p P0=x:=⟨_,rfl⟩;have hq1:=Bw p P0;rw[hql]at hq1 hr;simp only at hq1 hr;simp(disch:=omega) [-zAa,h91];refine al (r:=.tup [q1.v,.int .u8 lo]) (by have:=mw p P0;rw[hql]at this;simpa[PS.v,P0]using this) rfl fun _=>?_
     simp(disch:=omega) [-zAa,PS.v];refine ue (by simpa using iH [] lo lo) ?_
     simp(disch:=omega) [-zAa];refine b7 (r:=.tup [(aY q1 ⟨115,tab 95 (fM [] lo lo),[]⟩).v,.int .i64 q1.n.length]) ?_ (by simp) ?_
     ·have:=bo q1 ⟨115,tab 95 (fM [] lo lo),[]⟩ (by rw[hq1.1];omega)
      simpa[PS.v,Part.v,aQ]using this
     ·simp(disch:=omega) [-zAa,PS.v]
      simp[<-hr.1,<-hr.2,PS.v,hq1]
    ·simp only[h91,if_true]at hr
     have hl1:=Re hr;have hl2:=i1 hl1;simp(disch:=omega) [-zAa,h91];refine al (r:=.tup [q.v,.int .i64 k]) (by have:=Gq f (aJ p) q k hr hl1 hf;simpa[PS.v,aJ]using this) rfl fun _=>?_
     simp(disch:=omega) [-zAa,PS.v]
   ·simp only[h46,if_true,zAb,zAd]at hr
    simp(disch:=omega) [-zAa,h46];refine ue (by simpa using iH [] 32 126) ?_
    simp(disch:=omega) [-zAa];refine b7 (r:=.tup [(aY (aJ p) ⟨115,tab 95 (fM [] 32 126),[]⟩).v,.int .i64 p.n.length]) ?_ (by simp) ?_
    ·have:=bo (aJ p) ⟨115,tab 95 (fM [] 32 126),[]⟩ (by simp[aJ];omega)
     simpa[PS.v,Part.v,aQ,aJ]using this
    ·simp(disch:=omega) [-zAa,PS.v]
     simp[<-hr.1,<-hr.2,PS.v]
  ·simp only[h40,if_true]at hr
   split at hr
   ·rename_i q0 k0 hb
    split at hr
    ·rename_i hl1
     replace hl1:=i1 hl1;simp only[zAb,zAd]at hr;simp(disch:=omega) [-zAa,h40];refine al (r:=.tup [q0.v,.int .i64 k0]) (by have:=IH (aJ p) q0 k0 hb;simpa[PS.v,aJ]using this) rfl fun _=>?_
     simp(disch:=omega) [-zAa,PS.v];refine ac (by simpa[PS.v]using bj q0 41) rfl fun _=>?_
     cases h41:isP q0 41
     all_goals
      simp(disch:=omega) [-zAa,h41];simp[<-hr.1,<-hr.2,PS.v,h41,aJ,GH]
    ·cases hr
   ·cases hr
 ·cases hr
theorem Gp (f:Nat) (hf:f≤1000000) (IH:PC Ii nM f):PC xK mo (f + 1):=by
 intro p q k hr
 simp only [xK] at hr
 split at hr
 · rename_i q0 k0 ha
   refine yoB E4 fun ho=>?_
   simp only [oks,ok,and_true] at ho
   clear ho
   obtain ⟨R,hR⟩:∃ R,R=(V.tup [q.v,.int .i64 k]):=⟨_,rfl⟩
   rw [←hR]
   simp (disch:=omega) [-zAa,PS.v]
   refine al (r:=.tup [q0.v,.int .i64 k0]) (by have:=IH p q0 k0 ha; simpa [PS.v] using this) rfl fun _=>?_
   simp (disch:=omega) [-zAa,PS.v]
   refine ak (fun (x:Nat × PS × Nat)=>⟨[(1,.ptr 0 0),(2,.ptr 1 0),(4,.int .i64 x.2.2)],
    [some (.box [.seq 3 (x.2.1.n.map Part.v),.str x.2.1.s,.int .i64 x.2.1.at',.bool x.2.1.bad]),some (.box [.nil 3,.str [],.int .i64 0,.bool false])]⟩)
    (fun x=>nL x.1 x.2.1 x.2.2=some (q,k)) (fun x=>x.1) [] _ (f,q0,k0) rfl (by simp) hr ?_
   rintro ⟨g,r,j⟩ hi N hN
   simp only at hi
   cases g with
   | zero=>simp [nL] at hi
   | succ g=>
   simp only [nL] at hi
   split at hi
   · rename_i hl
     have hl1:=i1 hl
     cases hbd:r.bad
     · simp (disch:=omega) [-zAa,hbd]
       refine ac (r:=.bool (isP r 42)) (by simpa [PS.v,hbd] using bj r 42) rfl fun _=>?_
       simp (disch:=omega) [-zAa,hbd]
       refine ac (r:=.bool (isP r 43)) (by simpa [PS.v,hbd] using bj r 43) rfl fun _=>?_
       simp (disch:=omega) [-zAa,hbd]
       refine ac (r:=.bool (isP r 63)) (by simpa [PS.v,hbd] using bj r 63) rfl fun _=>?_
       simp only [hbd,zBc] at hi
       cases h42:isP r 42<;>cases h43:isP r 43<;>cases h63:isP r 63
       all_goals
        simp only [h42,h43,h63,Bool.not_true,Bool.not_false,Bool.and_true,Bool.and_false,Bool.false_and,zBi,Bool.and_self,if_true,zAf,if_false] at hi
        simp (disch:=omega) [-zAa,hbd]
       all_goals
        first
         | (simp only [zAb,zAd] at hi
            simp [hR,←hi.1,←hi.2,PS.v,hbd]
            done)
         | (refine al (r:=.tup [(aY (aJ r) ⟨116,[],[]⟩).v,.int .i64 r.n.length]) (by have:=bo (aJ r) ⟨116,[],[]⟩ (by simp [aJ]; omega); simpa [PS.v,Part.v,aJ,hbd] using this) rfl fun _=>?_
            simp (disch:=omega) [-zAa,PS.v,aY,aJ,hbd]
            refine al (r:=.tup [(aY (aY (aJ r) ⟨116,[],[]⟩) ⟨111,[],[j,r.n.length]⟩).v,.int .i64 ((r.n.length + 1:Nat):Int)]) (by have:=bo (aY (aJ r) ⟨116,[],[]⟩) ⟨111,[],[j,r.n.length]⟩ (by simp [aJ,aY]; omega); simpa [PS.v,Part.v,aJ,hbd,aY] using this) (by simp) fun _=>?_
            simp (disch:=omega) [-zAa,PS.v,aY,aJ,hbd]
            exact hN.out _<|Nx.mk (g,_,r.n.length + 1) (by simp [aY,aJ,hbd]) hi (by simp only; omega))
         | (refine al (r:=.tup [(aY (aJ r) ⟨109,[],[j]⟩).v,.int .i64 r.n.length]) (by have:=bo (aJ r) ⟨109,[],[j]⟩ (by simp [aJ]; omega); simpa [PS.v,Part.v,aJ,hbd] using this) (by simp) fun _=>?_
            simp (disch:=omega) [-zAa,PS.v,aY,aJ,hbd]
            refine al (r:=.tup [(aY (aY (aJ r) ⟨109,[],[j]⟩) ⟨116,[],[j,r.n.length]⟩).v,.int .i64 ((r.n.length + 1:Nat):Int)]) (by have:=bo (aY (aJ r) ⟨109,[],[j]⟩) ⟨116,[],[j,r.n.length]⟩ (by simp [aJ,aY]; omega); simpa [PS.v,Part.v,aJ,hbd,aY] using this) (by simp) fun _=>?_
            simp (disch:=omega) [-zAa,PS.v,aY,aJ,hbd]
            exact hN.out _<|Nx.mk (g,_,r.n.length + 1) (by simp [aY,aJ,hbd]) hi (by simp only; omega))
         | (refine al (r:=.tup [(aY (aJ r) ⟨109,[],[j]⟩).v,.int .i64 r.n.length]) (by have:=bo (aJ r) ⟨109,[],[j]⟩ (by simp [aJ]; omega); simpa [PS.v,Part.v,aJ,hbd] using this) (by simp) fun _=>?_
            simp (disch:=omega) [-zAa,PS.v,aY,aJ,hbd]
            exact hN.out _<|Nx.mk (g,_,r.n.length) (by simp [aY,aJ,hbd]) hi (by simp only; omega))
     · simp only [hbd,Bool.true_or,if_true,zAb,zAd] at hi
       simp (disch:=omega) [-zAa,hbd]
       simp [hR,←hi.1,←hi.2,PS.v,hbd]
   · cases hi
 · cases hr
theorem yi(f:Nat)(hf:f<=1000000)(IH:∀g,g<f->PC xK mo g):PC iy iq (f+1):=by
 intro p q k hr;simp only[iy]at hr;refine yoA x0 ?_;obtain⟨R,hR⟩:∃R,R=(V.tup [q.v,.int .i64 k]):=⟨_,rfl⟩;rw[<-hR];simp(disch:=omega) [-zAa,PS.v]
 refine ak (fun(x:Nat×PS×List Nat)=>⟨[(1,.ptr 0 0),(2,.ptr 1 0),(4,.ref 2 x.2.2.length)],
  [some (.box [.seq 3 (x.2.1.n.map Part.v),.str x.2.1.s,.int .i64 x.2.1.at',.bool x.2.1.bad]),some (.box [.nil 3,.str [],.int .i64 0,.bool false]),some (.arr bz 1 (x.2.2.map fun(j:Nat)=>V.int .i64 (j:Int)))]⟩)
  (fun x=>Ux x.1 x.2.1 x.2.2=some (q,k)/\x.1<=f) (fun x=>x.1) [.r 4 bz 1] _ (f,p,[]) rfl (by simp) ⟨hr,zBj _⟩ ?_
 rintro⟨g,r,l⟩ ⟨hi,hg⟩ N hN;simp only at hi hg;cases g with
 |zero=>simp[Ux]at hi
 |succ g=>
 simp only[Ux]at hi;split at hi
 ·rename_i hl
  simp only[decide_eq_true_eq]at hl;split at hi
  ·rename_i q0 own0 hown
   simp(disch:=omega) [-zAa]
   refine ak (fun(x:Nat×PS×List Nat)=>⟨[(1,.ptr 0 0),(2,.ptr 1 0),(4,.ref 2 l.length),(5,.ref 3 x.2.2.length)],
    [some (.box [.seq 3 (x.2.1.n.map Part.v),.str x.2.1.s,.int .i64 x.2.1.at',.bool x.2.1.bad]),some (.box [.nil 3,.str [],.int .i64 0,.bool false]),some (.arr bz 1 (l.map fun(j:Nat)=>V.int .i64 (j:Int))),some (.arr bz 1 (x.2.2.map fun(j:Nat)=>V.int .i64 (j:Int)))]⟩)
    (fun x=>MB x.1 x.2.1 x.2.2=some (q0,own0)/\x.1<=g) (fun x=>x.1) [.r 5 bz 1] _ (g,r,[]) rfl (by simp) ⟨hown,zBj _⟩ ?_
   rintro⟨g1,t,own⟩ ⟨hi1,hg1⟩ M hM;simp only at hi1 hg1;cases g1 with
   |zero=>simp[MB]at hi1
   |succ g1=>
   simp only[MB]at hi1;split at hi1
   ·rename_i hl0
    simp only[zAh,decide_eq_true_eq]at hl0;obtain⟨hl1,hol⟩:=hl0;replace hl1:=i1 hl1
    have hgo:(TU t=true/\t.bad=false/\∃b,t.s[t.at']?=some b/\jG b.toNat [124,41]=false)\/(TU t=false/\(t.bad=true\/(t.bad=false/\t.s[t.at']?=none)\/(t.bad=false/\∃b,t.s[t.at']?=some b/\jG b.toNat [124,41]=true))):=by
     unfold TU;cases t.bad<;>cases h:t.s[t.at']?<;>simp
     all_goals (rename_i b;cases jG b.toNat [124,41]<;>simp)
    rcases hgo with⟨hgo,hbd,b,hb,hab⟩|⟨hgo,hrest⟩
    ·simp only[hgo,if_true]at hi1
     split at hi1
     ·rename_i q1 k1 hp
      have hlt:=(zAg.1 hb).1;simp(disch:=omega) [-zAa,hbd,hb];refine ac (r:=.bool false) (by have:=my b.toNat [124,41];rwa[hab]at this) rfl fun _=>?_
      simp(disch:=omega) [-zAa,hbd];refine al (r:=.tup [q1.v,.int .i64 k1]) (by have:=IH g1 (by omega) t q1 k1 hp;simpa[PS.v,hbd]using this) rfl fun _=>?_
      simp(disch:=omega) [-zAa,PS.v];exact hM.out _<|Nx.mk (g1,q1,own++[k1]) (by simp;try rfl) ⟨hi1,by simp only;omega⟩ (by simp only;omega)
     ·cases hi1
    ·simp only[hgo,zAf,if_false,zAb,zAd]at hi1
     obtain⟨rfl,rfl⟩:=hi1;clear hM
     have hfin:(t.bad=true\/(t.bad=false/\isP t 124=false))->some (aY (aY t ⟨116,[],own⟩) ⟨111,[],l++[t.n.length]⟩,t.n.length+1)=some (q,k):=fun h=>by
      rw[if_pos]at hi
      ·exact hi
      ·rcases h with h|h<;>simp[h]
     have hmore:t.bad=false->isP t 124=true->Ux g (aJ (aY t ⟨116,[],own⟩)) (l++[t.n.length])=some (q,k):=fun h h'=>by
      rw[if_neg]at hi
      ·exact hi
      ·simp[h,h']
     clear hi;replace hfin:=hid hfin;replace hmore:=hid hmore;rcases hrest with hbd|⟨hbd,hb⟩|⟨hbd,b,hb,hab⟩
     ·simp(disch:=omega) [-zAa,hbd]
      refine dP (r:=.tup [(aY t ⟨116,[],own⟩).v,.int .i64 t.n.length]) (by have:=bo t ⟨116,[],own⟩ (by omega);simpa[PS.v,Part.v,hbd]using this) fun _=>?_
      simp(disch:=omega) [-zAa,PS.v,aY,hbd];refine dP (r:=.tup [(aY (aY t ⟨116,[],own⟩) ⟨111,[],l++[t.n.length]⟩).v,.int .i64 ((t.n.length+1:Nat):Int)]) (by have:=bo (aY t ⟨116,[],own⟩) ⟨111,[],l++[t.n.length]⟩ (by simp[aY];omega);simpa[PS.v,Part.v,hbd,aY]using this) fun _=>?_
      simp(disch:=omega) [-zAa,PS.v,aY,hbd];have:=hfin.out (.inl hbd);simp only[zAb,zAd]at this;simp[hR,<-this.1,<-this.2,PS.v,aY,hbd]
     ·have hge:t.s.length<=t.at':=by rwa[zAj]at hb
      have h124:isP t 124=false:=by simp[isP,hb]
      simp(disch:=omega) [-zAa,hbd];refine dP (r:=.tup [(aY t ⟨116,[],own⟩).v,.int .i64 t.n.length]) (by have:=bo t ⟨116,[],own⟩ (by omega);simpa[PS.v,Part.v,hbd]using this) fun _=>?_
      simp(disch:=omega) [-zAa,PS.v,aY,hbd];refine ac (r:=.bool false) (by have:=bj (aY t ⟨116,[],own⟩) 124;rw[show isP (aY t ⟨116,[],own⟩) 124=false from h124]at this;simpa[PS.v,hbd,aY]using this) rfl fun _=>?_
      simp(disch:=omega) [-zAa,hbd];refine dP (r:=.tup [(aY (aY t ⟨116,[],own⟩) ⟨111,[],l++[t.n.length]⟩).v,.int .i64 ((t.n.length+1:Nat):Int)]) (by have:=bo (aY t ⟨116,[],own⟩) ⟨111,[],l++[t.n.length]⟩ (by simp[aY];omega);simpa[PS.v,Part.v,hbd,aY]using this) fun _=>?_
      simp(disch:=omega) [-zAa,PS.v,aY,hbd];have:=hfin.out (.inr ⟨hbd,h124⟩);simp only[zAb,zAd]at this;simp[hR,<-this.1,<-this.2,PS.v,aY,hbd]
     ·have hlt:=(zAg.1 hb).1
      simp(disch:=omega) [-zAa,hbd,hb];refine ac (r:=.bool true) (by have:=my b.toNat [124,41];rwa[hab]at this) rfl fun _=>?_
      simp(disch:=omega) [-zAa,hbd];refine dP (r:=.tup [(aY t ⟨116,[],own⟩).v,.int .i64 t.n.length]) (by have:=bo t ⟨116,[],own⟩ (by omega);simpa[PS.v,Part.v,hbd]using this) fun _=>?_
      simp(disch:=omega) [-zAa,PS.v,aY,hbd];cases h124:isP t 124
      ·refine ac (r:=.bool false) (by have:=bj (aY t ⟨116,[],own⟩) 124;rw[show isP (aY t ⟨116,[],own⟩) 124=false from h124]at this;simpa[PS.v,hbd,aY]using this) rfl fun _=>?_
       simp(disch:=omega) [-zAa,hbd];refine dP (r:=.tup [(aY (aY t ⟨116,[],own⟩) ⟨111,[],l++[t.n.length]⟩).v,.int .i64 ((t.n.length+1:Nat):Int)]) (by have:=bo (aY t ⟨116,[],own⟩) ⟨111,[],l++[t.n.length]⟩ (by simp[aY];omega);simpa[PS.v,Part.v,hbd,aY]using this) fun _=>?_
       simp(disch:=omega) [-zAa,PS.v,aY,hbd];have:=hfin.out (.inr ⟨hbd,h124⟩);simp only[zAb,zAd]at this;simp[hR,<-this.1,<-this.2,PS.v,aY,hbd]
      ·refine ac (r:=.bool true) (by have:=bj (aY t ⟨116,[],own⟩) 124;rw[show isP (aY t ⟨116,[],own⟩) 124=true from h124]at this;simpa[PS.v,hbd,aY]using this) rfl fun _=>?_
       simp(disch:=omega) [-zAa,hbd];exact hN.out _<|Nx.mk (g,aJ (aY t ⟨116,[],own⟩),l++[t.n.length]) (by simp[aJ,aY,hbd];try rfl) ⟨hmore.out hbd h124,by simp only;omega⟩ (by simp only;omega)
   ·cases hi1
  ·cases hi
 ·cases hi
theorem PC0{F:Nat->PS->Option (PS×Nat)}{n:FuncId}(h:∀p,F 0 p=none):PC F n 0:=fun p q k hr=>by rw[h]at hr;cases hr
theorem ade:∀f,f<=1000000->PC Ii nM f/\PC xK mo f/\PC iy iq f:=by
 intro f
 induction f using Nat.strongRecOn with
 |_ f IH=>
   intro hf;cases f with
   |zero=>exact⟨PC0 fun p=>by simp[Ii],PC0 fun p=>by simp[xK],PC0 fun p=>by simp[iy]⟩
   |succ f=>
     have h1:=IH f (by omega) (by omega)
     exact⟨K7 f (by omega) h1.2.2,Gp f (by omega) h1.1,yi f (by omega) fun g hg=>(IH g (by omega) (by omega)).2.1⟩
def parseF(s:Str):Option (List Part×Nat):=match iy 200 ⟨[],s,0,false⟩with
 |some (q,k)=>if !q.bad&&(decide (q.at'=s.length)&&decide (q.at'<=1000))then some (q.n,k)else none
 |none=>none
theorem Gr(s:Str)(ps:List Part)(k:Nat)(h:parseF s=some (ps,k))(hs:s.length<=60):Fn Tryz.prog Ei [.str s] (.tup [.seq 3 (ps.map Part.v),.int .i64 k,.int .i64 0]):=by
 unfold parseF at h;split at h
 ·rename_i q k0 hb
  split at h
  ·rename_i hc
   simp only[zAh,zBg,decide_eq_true_eq]at hc;obtain⟨hc1,hc2,hc3⟩:=hc;simp only[zAb,zAd]at h;obtain⟨rfl,rfl⟩:=h;refine yoA E7 ?_;simp(disch:=omega) [-zAa];refine al (r:=.tup [q.v,.int .i64 k0]) (by have:=(ade 200 (by omega)).2.2 ⟨[],s,0,false⟩ q k0 hb;simpa[PS.v]using this) (by simp) fun _=>?_
   simp(disch:=omega) [-zAa,PS.v,hc1,hc2]
  ·cases h
 ·cases h
def wfB:Nat->List Part->Bool
 |_,[]=>true
 |i,p::l=>p.l.all (fun x=>decide (x<i))&&((!decide (p.op=115)||decide (p.set.length=95))&&(decide (p.l.length<=1000)&&wfB (i+1) l))
theorem RB:∀{l:List Part}{i j:Nat}{p:Part},wfB i l=true->l[j]?=some p->(∀x∈p.l,x<i+j)/\(p.op=115->p.set.length=95)/\p.l.length<=1000
 |[],i,j,p,_,h=>by simp at h
 |y::l,i,0,p,hw,h=>by
   simp only[List.getElem?_cons_zero,zAb]at h;subst h;simp only[wfB,zAh,List.all_eq_true,decide_eq_true_eq,Bool.or_eq_true,zBg,decide_eq_false_iff_not]at hw;refine⟨fun x hx=>by have:=hw.1 x hx;omega,fun hp=>?_,hw.2.2.1⟩
   rcases hw.2.1 with h|h
   ·exact absurd hp h
   ·exact h
 |y::l,i,j+1,p,hw,h=>by
   simp only[List.getElem?_cons_succ]at h;simp only[wfB,zAh]at hw;have:=RB hw.2.2.2 h;rw[show i+(j+1)=i+1+j by omega]
   exact this
def rxB(s:Str):Bool:=decide (s.length<=60)&&match parseF s with
 |some (ps,k)=>wfB 0 ps&&(decide (ps.length<=1000)&&decide (k<ps.length))
 |none=>false
def rxM(s v:Str):Bool:=match parseF s with
 |some (ps,k)=>matchT ps k v
 |none=>false
def kg:Nat->Str->Int
 |_,[]=>-1
 |k,b::l=>if b.toNat=58 then k else kg (k+1) l
theorem B6:∀(s:Str)(k:Nat),kg k s=if 0<=Lib.indexByte s 58 then k+Lib.indexByte s 58 else -1
 |[],k=>by simp[kg,Lib.indexByte]
 |b::l,k=>by
   have ih:=B6 l (k+1);have hg:=Lib.indexByte_ge l 58;have hb:(b.toNat=58)↔b=58:=by rw[<-UInt8.toNat_inj];rfl
   by_cases h:b=58
   ·have e:Lib.indexByte (b::l) 58=0:=by simp[Lib.indexByte,h]
    rw[kg,if_pos (hb.2 h),e];simp
   ·have e:Lib.indexByte (b::l) 58=if Lib.indexByte l 58=-1 then -1 else Lib.indexByte l 58+1:=by simp[Lib.indexByte,h]
    rw[kg,if_neg (fun x=>h (hb.1 x)),ih,e];by_cases h2:Lib.indexByte l 58=-1
    ·simp[h2]
    ·rw[if_neg h2,if_pos (by omega),if_pos (by omega)];omega
def allows12(c:Constraint)(v:Str):Bool:=
 v.all sign&&(decide (c.kind=1)||((decide (c.kind=2)&&hasS c.words v)||((decide (c.kind=3)&&(!(cutB v 58).2.2||hasS c.words (cutB v 58).1))||(decide (c.kind=4)&&rxM c.regex v))))
theorem C9(c:Constraint)(v:Str)(hk:1<=c.kind/\c.kind<=4)(hr:c.kind=4->rxB c.regex=true)(hv:v.length<=999999):Fn Tryz.prog dC [c.v,.str v] (.bool (allows12 c v)):=by
 refine yoB Ci fun ho=>?_;simp only[oks,ok,and_true]at ho;obtain⟨kd,ws,rx⟩:=c;simp only at hk hr;have hlen:ws.length<=140737488355328:=by have:=ho.1;simp at this;exact this.2.1.1
 clear ho;simp(disch:=omega) [-zAa];refine ac (mu _) rfl fun _=>?_;cases hs:v.all sign
 ·simp(disch:=omega) [-zAa,allows12,hs]
 ·simp(disch:=omega) [-zAa]
  have hkk:kd=1\/kd=2\/kd=3\/kd=4:=by omega
  rcases hkk with rfl|rfl|rfl|rfl
  ·simp(disch:=omega) [-zAa,allows12,hs]
  ·simp(disch:=omega) [-zAa]
   have e:allows12 ⟨2,ws,rx⟩ v=hasS ws v:=by simp[allows12,hs]
   rw[e];generalize hR:hasS ws v=R;refine ak (fun k:Nat=>⟨[(1,.str v),(2,.ptr 0 0),(6,.int .i64 k)],[some (.box [.int .i64 2,.seq 1 (ws.map .str),.str rx])]⟩) (fun k=>k<=ws.length/\hasS (ws.drop k) v=R) (fun k=>ws.length-k) [] _ 0 rfl (by simp[*]) (by simp[*]) ?_
   rintro k ⟨hk,hi⟩ N hN;rcases place ws k hk with⟨he,hd⟩|⟨hlt,x,hx,hd⟩<;>rw[hd]at hi<;>replace hi:=hid hi
   ·simp(disch:=omega) [-zAa,he]
    simpa[hasS]using hi.out
   ·simp(disch:=omega) [-zAa,hx]
    repeat' (first|(refine BrKd.mk (fun h=>?_) (fun h=>?_)<;>simp(disch:=omega) [*])|(refine BrK.mk (fun h=>?_) (fun h=>?_)<;>simp(disch:=omega) [*]))
    all_goals first
     |(refine hN.out _<|Nx.mk (k+1) (by simp[*]) ⟨by omega,?_⟩ (by omega);simpa(disch:=omega) [*,decide_eq_true,decide_eq_false,hasS]using hi.out)
     |(first|simpa(disch:=omega) [*,decide_eq_true,decide_eq_false,hasS]using hi.out.symm|simpa(disch:=omega) [*,decide_eq_true,decide_eq_false,hasS]using hi.out)
  ·simp(disch:=omega) [-zAa]
   have hix:=B6 v 0;have hb:=dV 58 v;have hg:=Lib.indexByte_ge v 58;obtain⟨T,hT⟩:∃T,T=kg 0 v:=⟨_,rfl⟩;rw[<-hT]at hix;have hTb:T=-1\/(0<=T/\T<v.length):=by rw[hix];split<;>omega
   have e:allows12 ⟨3,ws,rx⟩ v=(decide (T<0)||hasS ws (v.take T.toNat)):=by
    simp only[allows12,hs,cutB,hix];by_cases h:0<=Lib.indexByte v 58
    ·simp[h,show ¬Lib.indexByte v 58<0 by omega]
    ·simp[h]
   rw[e];generalize hR:(decide (T<0)||hasS ws (v.take T.toNat))=R
   refine ak (fun(q:Nat×Int)=>⟨[(1,.str v),(2,.ptr 0 0),(7,.int .i64 q.2),(8,.int .i64 q.1)],[some (.box [.int .i64 3,.seq 1 (ws.map .str),.str rx])]⟩)
    (fun q=>q.1<=v.length/\((q.2=-1/\kg q.1 (v.drop q.1)=T)\/(q.2=T/\0<=T))) (fun q=>v.length-q.1) [] _ (0,-1) rfl (by simp) (by simp[hT]) ?_
   rintro⟨k,at'⟩ ⟨hk,hi⟩ N hN;simp only at hk hi;rcases hi with⟨rfl,hi⟩|⟨rfl,hT0⟩
   ·rcases place v k hk with⟨he,hd⟩|⟨hlt,x,hx,hd⟩<;>rw[hd]at hi
    ·simp only[kg]at hi
     subst hi;simp(disch:=omega) [-zAa,he];simpa using hR
    ·simp only[kg]at hi
     replace hi:=hid hi;simp(disch:=omega) [-zAa,hx];refine BrKd.mk (fun h=>?_) (fun h=>?_)
     ·have hi:=hi.out
      rw[if_pos (by omega)]at hi
      simp(disch:=omega) [-zAa,h];exact hN.out _<|Nx.mk (k+1,(k:Int)) (by simp) ⟨by simp only;omega,.inr ⟨hi,by omega⟩⟩ (by simp only;omega)
     ·have hi:=hi.out
      rw[if_neg (by omega)]at hi
      simp(disch:=omega) [-zAa,h];exact hN.out _<|Nx.mk (k+1,(-1:Int)) (by simp) ⟨by simp only;omega,.inl ⟨rfl,hi⟩⟩ (by simp only;omega)
   ·obtain⟨t,rfl⟩:=Int.eq_ofNat_of_zero_le hT0
    have htl:t<v.length:=by omega
    simp only[show decide ((t:Int)<0)=false by simp,zBc,zBf]at hR
    clear hN;rcases zAc k v.length with hkl|hkl
    all_goals
     simp(disch:=omega) [-zAa]
     refine ak (fun(j:Nat)=>⟨[(1,.str v),(2,.ptr 0 0),(7,.int .i64 t),(9,.int .i64 j)],[some (.box [.int .i64 3,.seq 1 (ws.map .str),.str rx])]⟩)
      (fun j=>j<=ws.length/\hasS (ws.drop j) (v.take t)=R) (fun j=>ws.length-j) [] _ 0 rfl (by simp) (by simp[hR]) ?_
     rintro j ⟨hj,hi⟩ M hM;rcases place ws j hj with⟨he,hd⟩|⟨hlt,x,hx,hd⟩<;>rw[hd]at hi
     ·simp(disch:=omega) [-zAa,he]
      simpa[hasS]using hi
     ·simp only[hasS]at hi
      replace hi:=hid hi;simp(disch:=omega) [-zAa,hx];refine BrKd.mk (fun h=>?_) (fun h=>?_)
      ·have hi:=hi.out
       rw[if_pos (by simpa using h)]at hi
       simp(disch:=omega) [-zAa,h];simpa using hi
      ·have hi:=hi.out
       rw[if_neg (by simpa using h)]at hi
       simp(disch:=omega) [-zAa,h];exact hM.out _<|Nx.mk (j+1) (by simp) ⟨by omega,hi⟩ (by omega)
  ·simp(disch:=omega) [-zAa]
   have hb:=hr rfl;simp only[rxB,zAh,decide_eq_true_eq]at hb;obtain⟨hb1,hb2⟩:=hb;have e:allows12 ⟨4,ws,rx⟩ v=rxM rx v:=by simp[allows12,hs]
   rw[e];unfold rxM;split at hb2
   ·rename_i ps k hp
    simp only[zAh,decide_eq_true_eq]at hb2;obtain⟨hw,hpl,hkl⟩:=hb2
    try simp only[hp]
    refine al (Gr rx ps k hp hb1) (by simp) fun _=>?_
    simp(disch:=omega) [-zAa];refine ac (by simpa using Gs ps k v ⟨hpl,fun i p h=>by have:=RB hw h;rwa[Nat.zero_add]at this⟩ hkl (by omega)) rfl fun _=>?_
    simp
   ·cases hb2
theorem ZI:pool12.all rxB=true:=by decide+kernel
end Go.Abs.F
end
section
namespace Go.Abs.F
open Go.Proofs
attribute [-simp] getElem?_pos zBe List.map_map
theorem NI:∀{l:List Str}{s:Str},hasS l s=true↔s∈l
 |[],s=>by simp[hasS]
 |x::l,s=>by
   simp only[hasS,List.mem_cons];split
   ·rename_i h;simp[h]
   ·rename_i h
    rw[NI];exact⟨.inr,fun h'=>h'.resolve_left (fun e=>h e.symm)⟩
def Q7(e:Allowed):Prop:=e.kids.length<=8/\∃l,e.rules=j6 l
theorem Dj:∀(l out:List Allowed)(i:Nat),(∀e∈out,Q7 e)->∀e∈l8 i out l,Q7 e
 |[],out,i,h=>by simpa[l8]using h
 |x::l,out,i,h=>by
   simp only[l8];split
   ·exact Dj l out _ h
   ·refine Dj l _ _ fun e he=>?_
    rcases List.mem_append.1 he with he|he
    ·exact h e he
    ·simp at he;subst he;exact⟨by simp,x.rules,rfl⟩
theorem PA{els:List Allowed}(k:Nat)(own:List Str)(h:∀e∈els,Q7 e):∀e∈fQ els k own,Q7 e:=by
 intro e he;unfold fQ at he;split at he
 ·rename_i x hx
  rcases List.mem_or_eq_of_mem_set he with he|he
  ·exact h e he
  ·subst he
   exact⟨zo _ _ _,(h x (zBb hx)).2⟩
 ·exact h e he
theorem HL:∀(l els:List Allowed)(k:Nat),(∀e∈els,Q7 e)->∀e∈fW k els l,Q7 e
 |[],els,k,h=>by simpa[fW]using h
 |x::l,els,k,h=>by
   simp only[fW];exact HL l _ _ (PA k x.kids h)
theorem B3:∀(l els:List Allowed)(k:Nat),(fW k els l).length=els.length
 |[],els,k=>by simp[fW]
 |x::l,els,k=>by simp only[fW];rw[B3 l,L5]
theorem uO(p:Policy):∀e∈(bE p).elements,Q7 e:=by
 unfold bE;exact HL _ _ _ (Dj _ _ _ (by simp))
theorem QE(p:Policy):(bE p).few:=by
 have h1:(bE p).elements.length<=5:=by
  have:=r6 (p.elements.take 5) [] 0;simp only[bE,B3];simp at this;omega
 refine⟨?_,by omega,fun e he=>?_⟩
 ·have:=zo ⟨[],(bE p).elements,[]⟩ [] p.top
  simp only[bE]at this⊢;omega
 ·obtain⟨h2,l,h3⟩:=uO p e he
  have:=Mf l;rw[h3];omega
end Go.Abs.F
end
