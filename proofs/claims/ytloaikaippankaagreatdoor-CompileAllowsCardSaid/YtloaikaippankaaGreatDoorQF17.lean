/- What strainerref09's matching tells: tables of truth values. No condition. -/
import Derived.Test.YtloaikaippankaaGreatDoorQF1
import Derived.KernelRfl
set_option linter.all false open List renaming reduceReplicate→zAa,getElem?_eq_none→zAe,getElem?_eq_some_iff→zAg,getElem?_map→zAi,getElem?_eq_none_iff→zAj,replicate→zBa,mem_of_getElem?→zBb,mem_map→zBd,range→zBh
open Option.some renaming injEq→zAb
open Nat renaming lt_or_ge→zAc,le_refl→zBj
open Prod.mk renaming injEq→zAd
open Bool renaming false_eq_true→zAf,and_eq_true→zAh,false_or→zBc,not_eq_true'→zBg,true_and→zBi
open Option renaming not_isSome→zBe
open Int renaming toNat_natCast→zBf open Option renaming some→ś,none→ń open Bool renaming true→ť,false→ğ open Go.Proofs.Tryz renaming prog→ŷ
section
set_option maxHeartbeats 4000000
set_option maxRecDepth 100000
namespace Go.Abs.F
open Go.Proofs
attribute [-simp] getElem?_pos zBe
def tab{α:Type}(n:Nat)(F:Nat->α):List α:=(zBh n).map F
section
variable {α β:Type}{n i:Nat}{F G:Nat->α}
theorem QY:(tab n F).length=n:=by simp[tab]
theorem QZ(h:i<n):(tab n F)[i]?=ś (F i):=by simp only[tab,zAi,List.getElem?_range h,Option.map_some]
theorem aen(h:n<=i):(tab n F)[i]?=none:=by rw[zAe];rw[QY];exact h
theorem QX{x}:(tab n F).set i x=tab n (λj=>if j=i then x else F j):=by
 apply List.ext_getElem?;intro j;rw[List.getElem?_set,QY];by_cases h:j<n
 ·rw[QZ h,QZ h]
  by_cases hj:i=j
  ·subst hj;simp[h]
  ·rw[if_neg hj,if_neg (λe=>hj e.symm)]
 ·rw[aen (by omega),aen (by omega)]
  split<;>simp_all
theorem kK(h:∀i,i<n->F i=G i):tab n F=tab n G:=by
 unfold tab;exact List.map_congr_left λi hi=>h i (by simpa using hi)
theorem aar{x:α}:zBa n x=tab n (λ_=>x):=by rw[tab,List.map_const',List.length_range]
theorem ahU{g:α->β}:(tab n F).map g=tab n (λi=>g (F i)):=by simp[tab]
end
attribute [simp] QY QZ QX ahU
def be(n:Nat)(f:Nat->Bool):List V:=tab n λk=>.bool (f k)
def eJ(n:Nat)(f:Nat->Nat->Bool):V:=.seq 1 (tab n λi=>.seq 1 (be n (f i)))
theorem aeP{n k f}(h:k<n):(be n f)[k]?=ś (.bool (f k)):=by simp[be,h]
theorem aeO{n f}:(be n f).length=n:=by simp[be]
def sub(k:Nat)(b:Bool)(f:Nat->Bool)(j:Nat):Bool:=if j=k then b else f j
theorem aeM{n k f b}:(be n f).set k (.bool b)=be n (sub k b f):=by
 simp only[be,QX];exact kK λj _=>by unfold sub;split<;>rfl
theorem aeN{n}:zBa n (V.bool ğ)=be n (λ_=>ğ):=by simp[be,aar]
theorem fY{n f g}(h:∀k,k<n->f k=g k):be n f=be n g:=kK λk hk=>by rw[h k hk]
theorem yb{n f}:dJ (be n f)=true:=by
 unfold be tab
 induction zBh n with
 |nil=>rfl
 |cons x l ih=>simp[ih]
attribute [simp] aeP aeO aeM aeN yb
def ER(n i:Nat)(R:Nat->List V):List (List V):=tab n λj=>if j<i then R j else[]
def ow(n i:Nat)(R:Nat->List V)(r:List V):List (List V):=tab n λj=>if j=i then r else if j<i then R j else[]
theorem afN{n i R}:(ER n i R).length=n:=by simp[ER]
theorem abN{n i R r}:(ow n i R r).length=n:=by simp[ow]
theorem afO{n i R}(h:i<n):(ER n i R)[i]?=ś []:=by simp[ER,h]
theorem abO{n i R r}(h:i<n):(ow n i R r)[i]?=ś r:=by simp[ow,h]
theorem afM{n i R r}:(ER n i R).set i r=ow n i R r:=by simp[ER,ow]
theorem abM{n i R r s}:(ow n i R r).set i s=ow n i R s:=by
 simp only[ow,QX];exact kK λj _=>by by_cases h:j=i<;>simp[h]
theorem AA{n i R}:ow n i R (R i)=ER n (i+1) R:=by
 refine kK λj _=>?_;by_cases h:j=i
 ·subst h;simp
 ·simp only[if_neg h]
  by_cases h':j<i
  ·rw[if_pos h',if_pos (by omega)]
  ·rw[if_neg h',if_neg (by omega)]
theorem Kn{n R}:zBa n ([]:List V)=ER n 0 R:=by simp[ER,aar]
theorem Ko{n R}:ER n n R=tab n R:=kK λj h=>by rw[if_pos h]
attribute [simp] afN abN afO abO afM abM
def G7(k:Nat)(F:Nat->Bool)(c:Nat):Bool:=if c<k then F c else ğ
theorem II{n F}:be n (G7 n F)=be n F:=fY λc hc=>by rw[G7,if_pos hc]
theorem Eb{n}{F:Nat->Bool}:be n (λ_=>ğ)=be n (G7 0 F):=fY λc hc=>by rw[G7,if_neg (by omega)]
theorem Ea{n k F b}(h:b=F k):be n (sub k b (G7 k F))=be n (G7 (k+1) F):=fY λc hc=>by
 simp only[G7,sub];by_cases h1:c=k
 ·subst h1;rw[if_pos rfl,if_pos (by omega),h]
 ·rw[if_neg h1]
  by_cases h2:c<k
  ·rw[if_pos h2,if_pos (by omega)]
  ·rw[if_neg h2,if_neg (by omega)]
theorem tC(n)(f g)(hn:n<=1000000):FnN ŷ RC [eJ n f,eJ n g] (eJ n λi k=>f i k||g i k):=by
 refine FnN.of_image mixed Sv.1 Sv.2 rfl λho=>?_;clear ho;simp only[eJ];simp(disch:=omega);generalize hR:(λi=>be n λk=>f i k||g i k)=R;have hRi:∀i,R i=be n λk=>f i k||g i k:=λi=>by rw[<-hR]
 rw[Kn (R:=R)]
 refine ah (λi:Nat=>⟨[(0,.seq 1 (tab n λi=>.seq 1 (be n (f i)))),(1,.seq 1 (tab n λi=>.seq 1 (be n (g i)))),(5,.ref 0 n),(6,.int .i64 i)],
  [ś (.mat fp aH 1 (sm (ER n i R)))]⟩) (λi=>i<=n) (λi=>n-i) [] _ 0 rfl (by simp) (by simp) ?_
 rintro i hi N hN;rcases zAc i n with hlt|hge
 ·simp(disch:=omega)
  rw[Eb (F:=λc=>f i c||g i c)]
  refine ah (λk:Nat=>⟨[(0,.seq 1 (tab n λi=>.seq 1 (be n (f i)))),(1,.seq 1 (tab n λi=>.seq 1 (be n (g i)))),(5,.ref 0 n),(6,.int .i64 i),(7,.int .i64 k)],
   [ś (.mat fp aH 1 (sm (ow n i R (be n (G7 k λc=>f i c||g i c)))))]⟩) (λk=>k<=n) (λk=>n-k) [] _ 0 rfl (by simp) (by simp) ?_
  rintro k hk M hM;rcases zAc k n with hlt2|hge2
  ·simp(disch:=omega)
   refine BrK.mk (λh=>?_) (λh=>?_)
   all_goals
    simp(disch:=omega) [h];rw[Ea (by simp[h])]
    exact hM.out _<|Nx.mk (k+1) (by simp) (by omega) (by omega)
  ·have:k=n:=by omega
   subst this;simp(disch:=omega);rw[II,<-hRi,AA];exact hN.out _<|Nx.mk (i+1) (by simp) (by omega) (by omega)
 ·have:i=n:=by omega
  subst this;simp[Ko];refine⟨λx hx=>?_,?_⟩
  ·simp only[tab,zBd]at hx
   obtain⟨j,_,rfl⟩:=hx;rw[hRi];exact yb
  ·exact kK λj _=>by rw[hRi]
def jo(f g:Nat->Nat->Bool)(i m c:Nat):Bool:=(zBh m).any λx=>decide (x<=c)&&(f i x&&g x c)
theorem Io{f g i m c}:jo f g i (m+1) c=(jo f g i m c||(decide (m<=c)&&(f i m&&g m c))):=by
 simp only[jo,List.range_succ,List.any_append];simp
def EC(k:Nat)(F G:Nat->Bool)(c:Nat):Bool:=if c<k then F c else G c
theorem aiu{k F G}:EC k F G k=G k:=by simp[EC]
theorem afm{n F G}:be n (EC n F G)=be n F:=fY λc hc=>by rw[EC,if_pos hc]
theorem aaL{n k F G}(h:∀c,c<k->F c=G c):be n (EC k F G)=be n G:=fY λc hc=>by
 unfold EC;split
 ·exact h c (by assumption)
 ·rfl
theorem aci{n k F G b}(h:b=F k):be n (sub k b (EC k F G))=be n (EC (k+1) F G):=fY λc hc=>by
 simp only[EC,sub];by_cases h1:c=k
 ·subst h1;rw[if_pos rfl,if_pos (by omega),h]
 ·rw[if_neg h1]
  by_cases h2:c<k
  ·rw[if_pos h2,if_pos (by omega)]
  ·rw[if_neg h2,if_neg (by omega)]
theorem ph(n)(f g)(hn:n<=1000000):FnN ŷ Jv [eJ n f,eJ n g] (eJ n λi k=>jo f g i n k):=by
 refine FnN.of_image mixed J1.1 J1.2 rfl λho=>?_;clear ho;simp only[eJ];simp(disch:=omega);generalize hR:(λi=>be n λk=>jo f g i n k)=R;have hRi:∀i,R i=be n λk=>jo f g i n k:=λi=>by rw[<-hR]
 rw[Kn (R:=R)]
 refine ah (λi:Nat=>⟨[(0,.seq 1 (tab n λi=>.seq 1 (be n (f i)))),(1,.seq 1 (tab n λi=>.seq 1 (be n (g i)))),(5,.ref 0 n),(6,.int .i64 i)],
  [ś (.mat fp aH 1 (sm (ER n i R)))]⟩) (λi=>i<=n) (λi=>n-i) [] _ 0 rfl (by simp) (by simp) ?_
 rintro i hi N hN;rcases zAc i n with hlt|hge
 ·simp(disch:=omega)
  have e0:be n (λ_=>ğ)=be n (jo f g i 0):=fY λc _=>rfl;rw[e0]
  refine ah (λm:Nat=>⟨[(0,.seq 1 (tab n λi=>.seq 1 (be n (f i)))),(1,.seq 1 (tab n λi=>.seq 1 (be n (g i)))),(5,.ref 0 n),(6,.int .i64 i),(7,.int .i64 m)],
   [ś (.mat fp aH 1 (sm (ow n i R (be n (jo f g i m)))))]⟩) (λm=>m<=n) (λm=>n-m) [] _ 0 rfl (by simp) (by simp) ?_
  rintro m hm M hM;rcases zAc m n with hlt2|hge2
  ·simp(disch:=omega)
   have e1:be n (jo f g i m)=be n (EC m (jo f g i (m+1)) (jo f g i m)):=(aaL λc hc=>by rw[Io];simp;omega).symm
   rw[e1]
   refine ah (λk:Nat=>⟨[(0,.seq 1 (tab n λi=>.seq 1 (be n (f i)))),(1,.seq 1 (tab n λi=>.seq 1 (be n (g i)))),(5,.ref 0 n),(6,.int .i64 i),(7,.int .i64 m),(8,.int .i64 k)],
    [ś (.mat fp aH 1 (sm (ow n i R (be n (EC k (jo f g i (m+1)) (jo f g i m))))))]⟩) (λk=>m<=k/\k<=n/\(f i m=ğ->k=m)) (λk=>n-k) [] _ m rfl (by simp) (by simp;omega) ?_
   rintro k ⟨hk,hk2,hkf⟩ L hL
   have last:be n (EC k (jo f g i (m+1)) (jo f g i m))=be n (jo f g i (m+1))->∀τ:St,τ.nrm [0,1,5,6,7]=⟨[(0,.seq 1 (tab n λi=>.seq 1 (be n (f i)))),(1,.seq 1 (tab n λi=>.seq 1 (be n (g i)))),(5,.ref 0 n),(6,.int .i64 i),(7,.int .i64 ((m+1:Nat):Int))],
    [ś (.mat fp aH 1 (sm (ow n i R (be n (EC k (jo f g i (m+1)) (jo f g i m))))))]⟩->M τ:=λh τ hτ=>by
    rw[h]at hτ;exact hM.out _<|Nx.mk (m+1) hτ (by omega) (by omega)
   cases hf:f i m with
   |false=>
     have hkm:=hkf hf;subst hkm;replace last:=last (by rw[aaL λc hc=>by rw[Io];simp;omega];exact fY λc _=>by rw[Io,hf];simp)
     simp(disch:=omega) [hf];exact last _ (by simp)
   |true=>
     rcases zAc k n with hlt3|hge3
     ·simp(disch:=omega) [hf,aiu]
      refine BrK.mk (λh=>?_) (λh=>?_)
      all_goals
       simp(disch:=omega) [h];rw[aci (by rw[Io,h,hf];simp[hk])]
       exact hL.out _<|Nx.mk (k+1) (by simp) ⟨by omega,by omega,λh=>by rw[hf]at h;cases h⟩ (by omega)
     ·have:k=n:=by omega
      subst this;replace last:=last afm;simp(disch:=omega);exact last _ (by simp)
  ·have:m=n:=by omega
   subst this;simp(disch:=omega);rw[<-hRi,AA];exact hN.out _<|Nx.mk (i+1) (by simp) (by omega) (by omega)
 ·have:i=n:=by omega
  subst this;simp[Ko];refine⟨λx hx=>?_,?_⟩
  ·simp only[tab,zBd]at hx
   obtain⟨j,_,rfl⟩:=hx;rw[hRi];exact yb
  ·exact kK λj _=>by rw[hRi]
structure Part where
 op:Nat
 set:List Bool
 l:List Nat
def Part.v(p:Part):V:=.strct [.int .u8 p.op,.seq 1 (p.set.map .bool),.seq 1 (p.l.map λ(j:Nat)=>V.int .i64 (j:Int))]
def sgn(c:UInt8):Bool:=decide (32<=c.toNat)&&decide (c.toNat<=126)
theorem tB(c):Fn ŷ RB [.int .u8 c.toNat] (.bool (sgn c)):=by
 refine yoB Su λho=>?_;simp only[oks,ok,and_true]at ho;simp;refine BrKd.mk (λh=>?_) (λh=>?_)
 all_goals
  simp[sgn,h]
def base(p:Part)(s:Str)(i:Nat):Nat->Bool:=
 match s[i]? with
 |some c=>if p.op=115/\sgn c=ť then sub (i+1) ((p.set[c.toNat-32]?).getD ğ) (sub i (decide (p.op=116)||decide (p.op=109)) λ_=>ğ)else sub i (decide (p.op=116)||decide (p.op=109)) λ_=>ğ
 |none=>sub i (decide (p.op=116)||decide (p.op=109)) λ_=>ğ
abbrev Tab:=Nat->Nat->Bool
def both1(f g:Tab):Tab:=λi k=>f i k||g i k
def jon(n:Nat)(f g:Tab):Tab:=λi k=>jo f g i n k
def star(n:Nat)(g:Tab):Nat->Tab->Tab
 |0,f=>f
 |t+1,f=>star n g t (both1 f (jon n f g))
def kid(n op:Nat)(f g:Tab):Tab:=if op=111 then both1 f g else if op=116 then jon n f g else if op=109 then star n g n f else f
def kidT(n op:Nat)(tabs:List Tab):Tab->List Nat->Tab
 |f,[]=>f
 |f,x::l=>kidT n op tabs (kid n op f ((tabs[x]?).getD λ_ _=>ğ)) l
def stepT(p:Part)(s:Str)(tabs:List Tab):Tab  :=kidT (s.length+1) p.op tabs (base p s) p.l
@[simp high] theorem cl_matV {n} {f:Tab}:cl (eJ n f)=[eJ n f]:=rfl
def aif(n:Nat)(f:Tab)(o:V)(h:List (Option Ob)):Prop:=(o=.ref 0 n/\h=[ś (.mat fp aH 1 (sm (tab n λi=>be n (f i))))])\/(o=.fseq 1 (tab n λi=>.seq 1 (be n (f i)))/\h=[])
theorem TS (parts:List Part) (k:Nat) (p) (s:Str) (tabs) (hp:parts[k]?=ś p) (hs:s.length≤999999) (hl:∀ x∈p.l,x < tabs.length) (hset:p.op=115→p.set.length=95) (hll:p.l.length≤1000):
 FnN ŷ RA [.seq 3 (parts.map Part.v),.int .i64 k,.str s,.seq 1 (tabs.map (eJ (s.length + 1)))] (eJ (s.length + 1) (stepT p s tabs)):=by
 refine FnN.of_image mixed Ss.1 Ss.2 rfl λho=>?_
 clear ho
 obtain ⟨n,hn⟩:∃ n,n=s.length + 1:=⟨_,rfl⟩
 simp only [←hn]
 simp (disch:=omega) [-zAa]
 rw [Kn (R:=λi=>be n (base p s i))]
 have hpv:(parts.map Part.v)[k]?=ś p.v:=by rw [zAi,hp]; rfl
 have hn':(s.length:Int) + 1=(n:Int):=by omega
 simp only [hn',zBf]
 refine ah (λi:Nat=>⟨[(0,.seq 3 (parts.map Part.v)),(1,.int .i64 k),(2,.str s),(3,.seq 1 (tabs.map (eJ n))),(9,.int .i64 n),(10,.ref 0 n),(11,.int .i64 i)],
  [ś (.mat fp aH 1 (sm (ER n i λi=>be n (base p s i))))]⟩) (λi=>i≤n) (λi=>n - i) [] _ 0 rfl (by simp [←hn]) (by simp) ?_
 rintro i hi N hN
 rcases zAc i n with hlt | hge
 · replace hN:=λ(r:List V) (hr:r=be n (base p s i)) τ (hτ:τ.nrm [0,1,2,3,9,10,11]=⟨[(0,.seq 3 (parts.map Part.v)),(1,.int .i64 k),(2,.str s),(3,.seq 1 (tabs.map (eJ n))),(9,.int .i64 n),(10,.ref 0 n),(11,.int .i64 ((i + 1:Nat):Int))],
    [ś (.mat fp aH 1 (sm (ow n i (λi=>be n (base p s i)) r)))]⟩)=>hN.out τ<|Nx.mk (i + 1) (by rw [hτ,hr,AA]) (by omega) (by omega)
   replace hN:=hid hN
   by_cases h115:p.op=115
   · have h116:¬p.op=116:=by omega
     have h109:¬p.op=109:=by omega
     rcases zAc i s.length with hil | hil
     · obtain ⟨c,hc⟩:=av hil
       simp (disch:=omega) [-zAa,hpv,Part.v,h115,h116,h109,hc]
       refine aa (tB c) rfl λ_=>?_
       cases hg:sgn c with
       | true=>
         have hg2:32≤c.toNat∧c.toNat≤126:=by simpa [sgn] using hg
         obtain ⟨b,hb⟩:=av (l:=p.set) (k:=c.toNat - 32) (by rw [hset h115]; omega)
         have e2:((c.toNat:Int) - 32).toNat=c.toNat - 32:=by omega
         simp (disch:=omega) [-zAa,hpv,Part.v,h115,h116,h109,hc,hb,e2]
         exact hN.out (be n (sub (i + 1) b (sub i ğ λ_=>ğ))) (by simp [base,hc,hg,h115,hb]) _ (by simp)
       | false=>
         simp (disch:=omega) [-zAa,hpv,Part.v,h115,h116,h109,hc]
         exact hN.out (be n (sub i ğ λ_=>ğ)) (by simp [base,hc,hg,h115]) _ (by simp)
     · have hc:s[i]?=none:=zAe (by omega)
       simp (disch:=omega) [-zAa,hpv,Part.v,h115,h116,h109,hc]
       exact hN.out (be n (sub i ğ λ_=>ğ)) (by simp [base,hc,h115]) _ (by simp)
   · have hb:base p s i=sub i (decide (p.op=116) || decide (p.op=109)) λ_=>false:=by
      unfold base
      split
      · rw [if_neg (by simp [h115])]
      · rfl
     by_cases h116:p.op=116
     · simp (disch:=omega) [-zAa,hpv,Part.v,h115,h116]
       exact hN.out (be n (sub i ť λ_=>ğ)) (by simp [hb,h116]) _ (by simp)
     · by_cases h109:p.op=109
       · simp (disch:=omega) [-zAa,hpv,Part.v,h115,h116,h109]
         exact hN.out (be n (sub i ť λ_=>ğ)) (by simp [hb,h109]) _ (by simp)
       · simp (disch:=omega) [-zAa,hpv,Part.v,h115,h116,h109]
         exact hN.out (be n (sub i ğ λ_=>ğ)) (by simp [hb,h116,h109]) _ (by simp)
 · have hin:i=n:=by omega
   rw [hin,Ko]
   clear hN hin hi hge
   simp (disch:=omega) [-zAa]
   obtain ⟨T,hT⟩:∃ T,T=stepT p s tabs:=⟨_,rfl⟩
   rw [←hT]
   simp only [stepT,←hn] at hT
   refine ah (λ(q:Nat × Tab × V × List (Option Ob))=>⟨[(0,.seq 3 (parts.map Part.v)),(1,.int .i64 k),(3,.seq 1 (tabs.map (eJ n))),(9,.int .i64 n),(10,q.2.2.1),(12,.int .i64 q.1)],q.2.2.2⟩)
    (λq=>q.1≤p.l.length∧aif n q.2.1 q.2.2.1 q.2.2.2∧kidT n p.op tabs q.2.1 (p.l.drop q.1)=T) (λq=>p.l.length - q.1) [] _ (0,base p s,.ref 0 n,[ś (.mat fp aH 1 (sm (tab n λi=>be n (base p s i))))]) rfl (by simp) ⟨by simp,.inl ⟨rfl,rfl⟩,by simp [hT]⟩ ?_
   rintro ⟨j,f,o,h⟩ ⟨hj,ho,hk⟩ N hN
   simp only at hj ho hk
   rcases place p.l j hj with ⟨he,hd⟩ | ⟨hlt,x,hx,hd⟩<;>rw [hd,kidT] at hk
   · subst hk
     clear hN
     have hfl:∀ x∈tab n (λi=>be n (f i)),dJ x=true:=by
      intro x hx
      simp only [tab,zBd] at hx
      obtain ⟨j,_,rfl⟩:=hx
      exact yb
     rcases ho with ⟨rfl,rfl⟩ | ⟨rfl,rfl⟩
     all_goals
      simp (disch:=omega) [-zAa,hpv,Part.v,he]
     · exact ⟨hfl,by simp [eJ]⟩
     · simp [eJ]
   · have hxt:=hl x (zBb hx)
     obtain ⟨g,hg⟩:=av hxt
     have hlx:(p.l.map λ(j:Nat)=>V.int .i64 (j:Int))[j]?=ś (.int .i64 (x:Int)):=by rw [zAi,hx]; rfl
     rw [hg] at hk
     simp only [Option.getD_some] at hk
     replace hk:=hid hk
     replace hN:=λ(f':Tab) (hf:kid n p.op f g=f') τ (o':V) (h':List (Option Ob)) (hτ:τ.nrm [0,1,3,9,10,12]=⟨[(0,.seq 3 (parts.map Part.v)),(1,.int .i64 k),(3,.seq 1 (tabs.map (eJ n))),(9,.int .i64 n),(10,o'),(12,.int .i64 ((j + 1:Nat):Int))],h'⟩) (ho:aif n f' o' h')=>
      hN.out τ<|Nx.mk (j + 1,f',o',h') hτ ⟨by simp only; omega,ho,by simp only; rw [←hf]; exact hk.out⟩ (by simp only; omega)
     replace hN:=hid hN
     by_cases h111:p.op=111
     · rcases ho with ⟨rfl,rfl⟩ | ⟨rfl,rfl⟩
       all_goals
        simp (disch:=omega) [-zAa,hpv,Part.v,hlx,hg,h111,eJ]
        refine iT (tC n f g (by omega)) λ_=>?_
        simp (disch:=omega) [-zAa,eJ]
        exact hN.out (both1 f g) (by simp [kid,h111]) _ (.fseq 1 (tab n λi=>.seq 1 (be n (both1 f g i)))) [] (by simp; rfl) (.inr ⟨rfl,rfl⟩)
     · by_cases h116:p.op=116
       · rcases ho with ⟨rfl,rfl⟩ | ⟨rfl,rfl⟩
         all_goals
          simp (disch:=omega) [-zAa,hpv,Part.v,hlx,hg,h111,h116,eJ]
          refine iT (ph n f g (by omega)) λ_=>?_
          simp (disch:=omega) [-zAa,eJ]
          exact hN.out (jon n f g) (by simp [kid,h116]) _ (.fseq 1 (tab n λi=>.seq 1 (be n (jon n f g i)))) [] (by simp; rfl) (.inr ⟨rfl,rfl⟩)
       · by_cases h109:p.op=109
         · rcases ho with ⟨rfl,rfl⟩ | ⟨rfl,rfl⟩
           · simp (disch:=omega) [-zAa,hpv,Part.v,hlx,hg,h111,h116,h109,eJ]
             refine ah (λ(q:Nat × Tab × V × List (Option Ob))=>⟨[(0,.seq 3 (parts.map Part.v)),(1,.int .i64 k),(3,.seq 1 (tabs.map (eJ n))),(9,.int .i64 n),(10,q.2.2.1),(12,.int .i64 j),(13,.seq 1 (tab n λi=>.seq 1 (be n (g i)))),(14,.int .i64 q.1)],q.2.2.2⟩)
              (λq=>q.1≤n∧aif n q.2.1 q.2.2.1 q.2.2.2∧star n g (n - q.1) q.2.1=kid n p.op f g) (λq=>n - q.1) [] _ (0,f,.ref 0 n,[ś (.mat fp aH 1 (sm (tab n λi=>be n (f i))))]) rfl (by simp [eJ]) ⟨by simp,.inl ⟨rfl,rfl⟩,by simp [kid,h109]⟩ ?_
             rintro ⟨t,f2,o2,h2⟩ ⟨ht,ho2,hk2⟩ L hL
             simp only at ht ho2 hk2
             rcases zAc t n with htn | htn
             · have e:n - t=(n - (t + 1)) + 1:=by omega
               rw [e,star] at hk2
               replace hk2:=hid hk2
               have nx:∀ τ:St,τ.nrm [0,1,3,9,10,12,13,14]=⟨[(0,.seq 3 (parts.map Part.v)),(1,.int .i64 k),(3,.seq 1 (tabs.map (eJ n))),(9,.int .i64 n),(10,.fseq 1 (tab n λi=>.seq 1 (be n (both1 f2 (jon n f2 g) i)))),(12,.int .i64 j),(13,.seq 1 (tab n λi=>.seq 1 (be n (g i)))),(14,.int .i64 ((t + 1:Nat):Int))],[]⟩→L τ:=λτ hτ=>
                hL.out τ<|Nx.mk (t + 1,both1 f2 (jon n f2 g),_,[]) hτ ⟨by simp only; omega,.inr ⟨rfl,rfl⟩,hk2.out⟩ (by simp only; omega)
               replace nx:=hid nx
               rcases ho2 with ⟨rfl,rfl⟩ | ⟨rfl,rfl⟩
               all_goals
                simp (disch:=omega) [-zAa]
                refine iT (ph n f2 g (by omega)) λ_=>?_
                simp (disch:=omega) [-zAa,eJ]
                refine iT (tC n f2 (jon n f2 g) (by omega)) λ_=>?_
                simp (disch:=omega) [-zAa,eJ]
                exact nx.out _ (by simp; rfl)
             · have e:n - t=0:=by omega
               rw [e,star] at hk2
               replace hN:=hN.out f2 hk2.symm
               clear hL
               rcases ho2 with ⟨rfl,rfl⟩ | ⟨rfl,rfl⟩
               · simp (disch:=omega) [-zAa,htn]
                 exact hN _ _ _ (by simp) (.inl ⟨rfl,rfl⟩)
               · simp (disch:=omega) [-zAa,htn]
                 exact hN _ _ _ (by simp) (.inr ⟨rfl,rfl⟩)
           · simp (disch:=omega) [-zAa,hpv,Part.v,hlx,hg,h111,h116,h109,eJ]
             refine ah (λ(q:Nat × Tab × V × List (Option Ob))=>⟨[(0,.seq 3 (parts.map Part.v)),(1,.int .i64 k),(3,.seq 1 (tabs.map (eJ n))),(9,.int .i64 n),(10,q.2.2.1),(12,.int .i64 j),(13,.seq 1 (tab n λi=>.seq 1 (be n (g i)))),(14,.int .i64 q.1)],q.2.2.2⟩)
              (λq=>q.1≤n∧aif n q.2.1 q.2.2.1 q.2.2.2∧star n g (n - q.1) q.2.1=kid n p.op f g) (λq=>n - q.1) [] _ (0,f,.fseq 1 (tab n λi=>.seq 1 (be n (f i))),[]) rfl (by simp [eJ]) ⟨by simp,.inr ⟨rfl,rfl⟩,by simp [kid,h109]⟩ ?_
             rintro ⟨t,f2,o2,h2⟩ ⟨ht,ho2,hk2⟩ L hL
             simp only at ht ho2 hk2
             rcases zAc t n with htn | htn
             · have e:n - t=(n - (t + 1)) + 1:=by omega
               rw [e,star] at hk2
               replace hk2:=hid hk2
               have nx:∀ τ:St,τ.nrm [0,1,3,9,10,12,13,14]=⟨[(0,.seq 3 (parts.map Part.v)),(1,.int .i64 k),(3,.seq 1 (tabs.map (eJ n))),(9,.int .i64 n),(10,.fseq 1 (tab n λi=>.seq 1 (be n (both1 f2 (jon n f2 g) i)))),(12,.int .i64 j),(13,.seq 1 (tab n λi=>.seq 1 (be n (g i)))),(14,.int .i64 ((t + 1:Nat):Int))],[]⟩→L τ:=λτ hτ=>
                hL.out τ<|Nx.mk (t + 1,both1 f2 (jon n f2 g),_,[]) hτ ⟨by simp only; omega,.inr ⟨rfl,rfl⟩,hk2.out⟩ (by simp only; omega)
               replace nx:=hid nx
               rcases ho2 with ⟨rfl,rfl⟩ | ⟨rfl,rfl⟩
               all_goals
                simp (disch:=omega) [-zAa]
                refine iT (ph n f2 g (by omega)) λ_=>?_
                simp (disch:=omega) [-zAa,eJ]
                refine iT (tC n f2 (jon n f2 g) (by omega)) λ_=>?_
                simp (disch:=omega) [-zAa,eJ]
                exact nx.out _ (by simp; rfl)
             · have e:n - t=0:=by omega
               rw [e,star] at hk2
               replace hN:=hN.out f2 hk2.symm
               clear hL
               rcases ho2 with ⟨rfl,rfl⟩ | ⟨rfl,rfl⟩
               · simp (disch:=omega) [-zAa,htn]
                 exact hN _ _ _ (by simp) (.inl ⟨rfl,rfl⟩)
               · simp (disch:=omega) [-zAa,htn]
                 exact hN _ _ _ (by simp) (.inr ⟨rfl,rfl⟩)
         · rcases ho with ⟨rfl,rfl⟩ | ⟨rfl,rfl⟩
           all_goals
            simp (disch:=omega) [-zAa,hpv,Part.v,hlx,hg,h111,h116,h109,eJ]
            refine hN.out f (by simp [kid,h111,h116,h109]) _ _ _ (by simp; exact ⟨rfl,rfl⟩) ?_
            first | exact .inl ⟨rfl,rfl⟩ | exact .inr ⟨rfl,rfl⟩
def tabsGo(s:Str):List Tab->List Part->List Tab
 |acc,[]=>acc
 |acc,p::ps=>tabsGo s (acc++[stepT p s acc]) ps
theorem IM(s):∀(ps:List Part)(acc:List Tab),(tabsGo s acc ps).length=acc.length+ps.length
 |[],acc=>rfl
 |p::ps,acc=>by simp only[tabsGo,IM s ps,List.length_append,List.length_cons,List.length_nil];omega
def matchT(parts:List Part)(k:Nat)(s:Str):Bool:=(((tabsGo s [] (parts.take (k+1)))[k]?).getD λ_ _=>ğ) 0 s.length
def Wf(parts:List Part):Prop:=parts.length<=1000/\∀(i:Nat)(p:Part),parts[i]?=ś p->(∀x∈p.l,x<i)/\(p.op=115->p.set.length=95)/\p.l.length<=1000
theorem ON(parts)(k)(s:Str)(hw:Wf parts)(hk:k<parts.length)(hs:s.length<=999999):Fn ŷ Mt [.seq 3 (parts.map Part.v),.int .i64 k,.str s] (.bool (matchT parts k s)):=by
 refine yoA Nh ?_;have hpl:=hw.1;simp;obtain⟨T,hT⟩:∃T,T=tabsGo s [] (parts.take (k+1)):=⟨_,rfl⟩;have hTl:T.length=k+1:=by rw[hT,IM];simp;omega
 obtain⟨f,hf⟩:=av (l:=T) (k:=k) (by omega)
 have hm:matchT parts k s=f 0 s.length:=by rw[matchT,<-hT,hf];rfl
 rw[hm];have hlt:(parts.take (k+1)).length=k+1:=by simp;omega
 refine ah (λ(q:Nat×List Tab)=>⟨[(0,.seq 3 (parts.map Part.v)),(1,.int .i64 k),(2,.str s),(7,.ref 0 q.2.length),(8,.int .i64 q.1)],[ś (.arr Ec 1 (q.2.map (eJ (s.length+1))))]⟩)
  (λq=>q.1<=(parts.take (k+1)).length/\q.2.length=q.1/\tabsGo s q.2 ((parts.take (k+1)).drop q.1)=T) (λq=>(parts.take (k+1)).length-q.1) [.r 7 Ec 1] _ (0,[]) rfl (by simp) (by simp[hT]) ?_
 rintro⟨i,acc⟩ ⟨hi,ha,hi2⟩ N hN;simp only at hi ha hi2;rcases place (parts.take (k+1)) i hi with⟨he,hd⟩|⟨hlt2,p,hp,hd⟩<;>rw[hd,tabsGo]at hi2
 ·subst hi2
  clear hN;have e:(acc.map (eJ (s.length+1)))[k]?=ś (eJ (s.length+1) f):=by rw[zAi,hf];rfl
  simp(disch:=omega) [e,eJ]
 ·have hp2:parts[i]?=ś p:=by rw[List.getElem?_take]at hp;simpa[show i<k+1 by omega]using hp
  obtain⟨w1,w2,w3⟩:=hw.2 i p hp2;replace hi2:=hid hi2;simp(disch:=omega);refine fD (TS parts i p s acc hp2 hs (by rw[ha];exact w1) w2 w3) λ_=>?_
  simp(disch:=omega) [eJ];exact hN.out _<|Nx.mk (i+1,acc++[stepT p s acc]) (by simp;rfl) ⟨by simp only;omega,by simp;omega,hi2.out⟩ (by simp only;omega)
structure PS where
 n:List Part
 s:Str
 at':Nat
 bad:Bool
def PS.v(p:PS):V:=.strct [.seq 3 (p.n.map Part.v),.str p.s,.int .i64 p.at',.bool p.bad]
def isP(p:PS)(c:Nat):Bool:=match p.s[p.at']? with
 |some b=>decide (b.toNat=c)
 |none=>ğ
theorem bS(p)(c:Nat):Fn ŷ Yv [p.v,.int .u8 c] (.bool (isP p c)):=by
 refine yoB YO λho=>?_;simp only[oks,ok,and_true]at ho;simp[PS.v];rcases zAc p.at' p.s.length with h|h
 ·obtain⟨b,hb⟩:=av h
  simp(disch:=omega) [isP,hb,Int.ofNat_inj]
 ·have hb:p.s[p.at']?=none:=zAe (by omega)
  simp(disch:=omega) [isP]
def mR(c:Nat)(l:Str):Bool:=l.any λb=>decide (b.toNat=c)
theorem qY(c:Nat)(l:Str):Fn ŷ Mq [.int .u8 c,.str l] (.bool (mR c l)):=by
 refine yoB Nf λho=>?_;simp only[oks,ok,and_true]at ho;simp;obtain⟨r,hr⟩:∃r,mR c l=r:=⟨_,rfl⟩;rw[hr];refine ah (λk:Nat=>⟨[(0,.int .u8 c),(1,.str l),(5,.int .i64 k)],[]⟩) (λk=>k<=l.length/\mR c (l.drop k)=r) (λk=>l.length-k) [] _ 0 rfl (by simp) (by simp[hr]) ?_
 rintro k ⟨hk,hi⟩ N hN;rcases place l k hk with⟨he,hd⟩|⟨hlt,x,hx,hd⟩<;>rw[hd]at hi
 ·subst hi
  simp[he,mR]
 ·replace hi:=hid hi
  simp(disch:=omega) [hx];refine BrKd.mk (λh=>?_) (λh=>?_)
  ·have:=hi.out
   simp;rw[<-this];have h':x.toNat=c:=by omega
   simp[mR,h']
  ·simp(disch:=omega)
   refine hN.out _<|Nx.mk (k+1) (by simp) ⟨by omega,?_⟩ (by omega)
   have:=hi.out;have h':¬x.toNat=c:=by omega
   simpa[mR,h']using this
def bz(p:PS)(x:Part):PS:={ p with n:=p.n++[x] }
theorem bZ(p)(x)(hn:p.n.length<=1000):Fn ŷ Vn [p.v,x.v] (.tup [(bz p x).v,.int .i64 p.n.length]):=by
 refine yoA VS ?_;unfold GM;simp(disch:=omega) [PS.v,Part.v]
 repeat' (first|refine QU.mk ?_ ?_ |(simp(disch:=omega) [bz,Part.v];done)|(simp(disch:=omega);refine QU.mk ?_ ?_))
def et(p:PS)(odd:Str):PS×Nat:=
 let q:PS:=if isP p 92 then{ p with at':=p.at'+1 }else p
 match q.s[q.at']? with
 |some c=>if sgn c&&(isP p 92|| !mR c.toNat odd)then({ q with at':=q.at'+1 },c.toNat)else({ q with bad:=ť },32)
 |none=>({ q with bad:=ť },32)
theorem qX(p)(odd:Str):Fn ŷ Mo [p.v,.str odd] (.tup [(et p odd).1.v,.int .u8 (et p odd).2]):=by
 refine yoB Nc λho=>?_;simp only[oks,ok,and_true]at ho;have hs:p.s.length<=4611686018427387904:=by have:=ho.1;simp[PS.v]at this;exact this.2.1
 clear ho;simp[PS.v];refine aa (by simpa[PS.v]using bS p 92) rfl λ_=>?_
 have isat:isP p 92=ť->p.at'<p.s.length:=by
  intro h;unfold isP at h;split at h
  ·rename_i b hb;exact(zAg.1 hb).1
  ·cases h
 cases hb:isP p 92
 ·rcases zAc p.at' p.s.length with h|h
  ·obtain⟨c,hc⟩:=av h
   simp(disch:=omega) [hc];refine aa (tB c) rfl λ_=>?_;cases hg:sgn c
   ·simp(disch:=omega)
    simp[et,hb,hc,hg]
   ·simp(disch:=omega) [hc]
    refine aa (qY c.toNat odd) rfl λ_=>?_;cases ha:mR c.toNat odd
    all_goals
     simp(disch:=omega) [hc];simp[et,hb,hc,hg,ha]
  ·have hc:p.s[p.at']?=none:=zAe (by omega)
   simp(disch:=omega);simp[et,hb,hc]
 ·have hat:=isat hb
  rcases zAc (p.at'+1) p.s.length with h|h
  ·obtain⟨c,hc⟩:=av h
   simp(disch:=omega) [hc];refine aa (tB c) rfl λ_=>?_;cases hg:sgn c
   ·simp(disch:=omega)
    simp[et,hb,hc,hg]
   ·simp(disch:=omega) [hc]
    simp[et,hb,hc,hg]
  ·have hc:p.s[p.at'+1]?=none:=zAe (by omega)
   simp(disch:=omega);simp[et,hb,hc]
def il(set:List Bool)(low high:Nat):Nat->Bool:=λi=>((set[i]?).getD ğ)||(decide (low<=i+32)&&decide (i+32<=high))
theorem lE(set)(low high:Nat):FnN ŷ Mm [.seq 1 (set.map .bool),.int .u8 low,.int .u8 high] (.seq 1 (be 95 (il set low high))):=by
 refine FnN.of_image mixed Nb.1 Nb.2 rfl λho=>?_;have hlo:low<=255/\high<=255:=by have:=ho.2;simp at this;omega
 clear ho;simp;rw[Eb (F:=il set low high)];refine ah (λk:Nat=>⟨[(0,.seq 1 (set.map .bool)),(1,.int .u8 low),(2,.int .u8 high),(7,.ref 0 95),(8,.int .i64 k)],[ś (.arr aH 1 (be 95 (G7 k (il set low high))))]⟩) (λk=>k<=95) (λk=>95-k) [] _ 0 rfl (by simp) (by simp) ?_
 rintro k hk N hN;rcases zAc k 95 with hlt|hge
 ·have fin:∀b:Bool,b=il set low high k->∀τ:St,τ.nrm [0,1,2,7,8]=⟨[(0,.seq 1 (set.map .bool)),(1,.int .u8 low),(2,.int .u8 high),(7,.ref 0 95),(8,.int .i64 ((k+1:Nat):Int))],[ś (.arr aH 1 (be 95 (sub k b (G7 k (il set low high)))))]⟩->N τ:=λb hb τ hτ=>by
   rw[Ea hb]at hτ;exact hN.out _<|Nx.mk (k+1) hτ (by omega) (by omega)
  replace fin:=hid fin
  have low1:((set[k]?).getD ğ)=ğ->low<=k+32->decide ((k:Int)+32<=high)=il set low high k:=λh h1=>by
   simp only[il,h,zBc,h1,decide_true,zBi];exact decide_eq_decide.2 (by omega)
  have low0:((set[k]?).getD ğ)=ğ->¬low<=k+32->ğ=il set low high k:=λh h1=>by
   simp[il,h,h1]
  rcases zAc k set.length with hks|hks
  ·obtain⟨b,hb⟩:=av hks
   cases b
   ·by_cases h1:low<=k+32
    ·simp(disch:=omega) [hb]
     exact fin.out _ (low1 (by rw[hb];rfl) h1) _ (by simp)
    ·simp(disch:=omega) [hb]
     exact fin.out _ (low0 (by rw[hb];rfl) h1) _ (by simp)
   ·simp(disch:=omega) [hb]
    exact fin.out ť (by simp[il,hb]) _ (by simp)
  ·have hb:set[k]?=none:=zAe hks
   by_cases h1:low<=k+32
   ·simp(disch:=omega)
    exact fin.out _ (low1 (by rw[hb];rfl) h1) _ (by simp)
   ·simp(disch:=omega)
    exact fin.out _ (low0 (by rw[hb];rfl) h1) _ (by simp)
 ·have:k=95:=by omega
  subst this;simp[II]
def aT(p:PS):PS:={ p with at':=p.at'+1 }
def O5(p:PS):PS:={ p with bad:=ť }
def Mb:Str:=[92,93,45,94]
def Fv(p:PS):PS×Nat:=et p Mb
def qo(p:PS):PS×Nat:=if isP (Fv p).1 45 then et (aT (Fv p).1) Mb else Fv p
def adj(p:PS):PS:=if(qo p).2<(Fv p).2 then O5 (qo p).1 else(qo p).1
def BA(p:PS)(set:List Bool):List Bool:=if(adj p).bad then set else tab 95 (il set (Fv p).2 (qo p).2)
def lim(p:PS):Bool:=decide (p.at'<=1000)&&(decide (p.n.length<=900)&&decide (p.s.length<=1000))
def mh:Nat->PS->List Bool->Nat->Option (PS×List Bool)
 |0,_,_,_=>ń
 |fuel+1,p,set,n=>if lim p then(if !p.bad&&(decide (n=0)|| !isP p 93)then mh fuel (adj p) (BA p set) (n+1)else ś (p,set))else ń
def LD(fuel:Nat)(p:PS):Option (PS×Nat):=
 match mh fuel (if isP p 94 then aT p else p) [] 0 with
 |some (q,set)=>ś (bz (aT (if isP q 93 then q else O5 q)) ⟨115,tab 95 (λi=>(((set[i]?).getD ğ) != isP p 94)),[]⟩,q.n.length)
 |none=>ń
theorem Ja(p)(o):(et p o).1.n=p.n/\(et p o).1.s=p.s/\(et p o).1.at'<=p.at'+2:=by
 unfold et;cases isP p 92<;>simp<;>(split<;>(try split))<;>simp
theorem r8:∀{fuel:Nat}{p:PS}{set:List Bool}{n:Nat}{r:PS×List Bool},mh fuel p set n=ś r->lim p=ť/\lim r.1=ť
 |0,_,_,_,_,h=>by simp[mh]at h
 |fuel+1,p,set,n,r,h=>by
   simp only[mh]at h;split at h
   ·rename_i hl
    split at h
    ·exact⟨hl,(r8 h).2⟩
    ·cases h;exact⟨hl,hl⟩
   ·cases h
theorem lX{p}(h:lim p=ť):p.at'<=1000/\p.n.length<=900/\p.s.length<=1000:=by
 simpa[lim]using h
def akm(set:List Bool)(v:V):Prop:=(v=.nil 1/\set=[])\/v=.seq 1 (set.map .bool)
theorem OL (fuel) (p) (q) (k) (hr:LD fuel p=ś (q,k)) (hl:lim p=ť) (hfu:fuel≤1000000):Fn ŷ Mp [p.v] (.tup [q.v,.int .i64 k]):=by
 refine yoB Ne λho=>?_
 simp only [oks,ok,and_true] at ho
 clear ho
 have hl0:=lX hl
 unfold LD at hr
 obtain ⟨R,hR⟩:∃ R,R=(V.tup [q.v,.int .i64 k]):=⟨_,rfl⟩
 rw [←hR]
 simp (disch:=omega) [-zAa,PS.v]
 refine aa (by simpa [PS.v] using bS p 94) rfl λ_=>?_
 generalize hp1:(if isP p 94=ť then aT p else p)=p1 at hr
 split at hr
 · rename_i q0 set0 hgo
   simp only [zAb,zAd] at hr
   obtain ⟨hq,hk⟩:=hr
   generalize hb:isP p 94=neg at hp1 hq
   have hl1:=(r8 hgo).2
   cases neg
   all_goals
    simp only [zAf,if_false,if_true] at hp1
    simp (disch:=omega) [-zAa]
    refine ah (λ(x:Nat × PS × List Bool × V × Nat)=>⟨[(1,.ptr 0 0),(2,.ptr 1 0),(4,.bool (isP p 94)),(5,x.2.2.2.1),(6,.int .i64 x.2.2.2.2)],
     [ś (.box [.seq 3 (x.2.1.n.map Part.v),.str x.2.1.s,.int .i64 x.2.1.at',.bool x.2.1.bad]),ś (.box [.nil 3,.str [],.int .i64 0,.bool ğ])]⟩)
     (λx=>mh x.1 x.2.1 x.2.2.1 x.2.2.2.2=ś (q0,set0)∧akm x.2.2.1 x.2.2.2.1∧x.1 + x.2.2.2.2=fuel) (λx=>x.1) [] _ (fuel,p1,[],.nil 1,0) rfl (by simp [←hp1,hb,aT]) ⟨hgo,.inl ⟨rfl,rfl⟩,rfl⟩ ?_
    rintro ⟨f,r,set,sv,n⟩ ⟨hi,hsv,hfn⟩ N hN
    simp only at hi hsv hfn
    cases f with
    | zero=>simp [mh] at hi
    | succ f=>
    have hl2:=lX (r8 hi).1
    have hl3:=(r8 hi).1
    simp only [mh,hl3,if_true] at hi
    have hex:(r.bad=ť∨(r.bad=ğ∧n≠0∧isP r 93=ť))∨((r.bad=ğ∧n=0)∨(r.bad=ğ∧n≠0∧isP r 93=ğ)):=by
     cases r.bad<;>cases isP r 93<;>simp
     all_goals omega
    rcases hex with hex | hex
    · have hc:(!r.bad && (decide (n=0) || !isP r 93))=false:=by
       rcases hex with h | ⟨h,h',h''⟩<;>simp [h]
       simp [h',h'']
      simp only [hc,zAf,if_false,zAb,zAd] at hi
      obtain ⟨rfl,rfl⟩:=hi
      clear hN hc
      have hn0:r.bad=ť∨(n≠0∧isP r 93=ť):=by
       rcases hex with h | ⟨_,h,h'⟩
       · exact .inl h
       · exact .inr ⟨h,h'⟩
      clear hex
      generalize hbd:r.bad=bd at hn0
      obtain ⟨X,hX⟩:∃ X,X=(if isP r 93=ť then r else O5 r):=⟨_,rfl⟩
      rw [←hX] at hq
      have hXn:X.n=r.n∧X.s=r.s∧X.at'=r.at':=by rw [hX]; split<;>simp [O5]
      have hXb:X.bad=(bd || !isP r 93):=by rw [hX,←hbd]; cases isP r 93<;>simp [O5]
      have h3:(bd=ť∧isP r 93=ğ)∨(bd=ť∧isP r 93=ť)∨(bd=ğ∧n≠0∧isP r 93=ť):=by
       rcases hn0 with h | ⟨h,h'⟩
       · cases hh:isP r 93
         · exact .inl ⟨h,rfl⟩
         · exact .inr (.inl ⟨h,rfl⟩)
       · cases bd
         · exact .inr (.inr ⟨rfl,h,h'⟩)
         · exact .inr (.inl ⟨rfl,h'⟩)
      clear hn0
      have hmid:∀ Y:V,True:=λ_=>trivial
      clear hmid
      obtain ⟨st0,hst0⟩:∃ s0,s0=set:=⟨_,rfl⟩
      obtain ⟨sv0,hsv0⟩:∃ v,v=sv:=⟨_,rfl⟩
      rw [←hst0] at hq
      rcases hsv with ⟨rfl,rfl⟩ | rfl<;>rcases h3 with ⟨rfl,h93⟩ | ⟨rfl,h93⟩ | ⟨rfl,hn0,h93⟩
      all_goals
       simp (disch:=omega) [-zAa, *,hbd]
       refine aa (by simpa [PS.v,hbd] using bS r 93) rfl λ_=>?_
       simp (disch:=omega) [-zAa,hbd,h93]
       try (refine aa (by simpa [PS.v,hbd] using bS r 93) rfl λ_=>?_; simp (disch:=omega) [-zAa,hbd,h93])
       rw [Eb (F:=λi=>(((st0[i]?).getD ğ) != isP p 94))]
       refine ah (λk:Nat=>⟨[(1,.ptr 0 0),(2,.ptr 1 0),(4,.bool (isP p 94)),(5,sv0),(11,.ref 2 95),(12,.int .i64 k)],
        [ś (.box [.seq 3 (X.n.map Part.v),.str X.s,.int .i64 ((X.at' + 1:Nat):Int),.bool X.bad]),ś (.box [.nil 3,.str [],.int .i64 0,.bool ğ]),ś (.arr aH 1 (be 95 (G7 k λi=>(((st0[i]?).getD ğ) != isP p 94))))]⟩)
        (λk=>k≤95) (λk=>95 - k) [] _ 0 rfl (by simp [hXn,hXb,h93,hsv0,hb,←hp1]) (by simp) ?_
       rintro k1 hk1 M hM
       try rw [←hst0] at hsv0
       rcases zAc k1 95 with hlt | hge
       · have fin:∀ b:Bool,b=(((st0[k1]?).getD ğ) != isP p 94)→∀ τ:St,τ.nrm [1,2,4,5,11,12]=⟨[(1,.ptr 0 0),(2,.ptr 1 0),(4,.bool (isP p 94)),(5,sv0),(11,.ref 2 95),(12,.int .i64 ((k1 + 1:Nat):Int))],
          [ś (.box [.seq 3 (X.n.map Part.v),.str X.s,.int .i64 ((X.at' + 1:Nat):Int),.bool X.bad]),ś (.box [.nil 3,.str [],.int .i64 0,.bool ğ]),ś (.arr aH 1 (be 95 (sub k1 b (G7 k1 λi=>(((st0[i]?).getD ğ) != isP p 94)))))]⟩→M τ:=λb hb τ hτ=>by
          rw [Ea hb] at hτ
          exact hM.out _<|Nx.mk (k1 + 1) hτ (by omega) (by omega)
         replace fin:=hid fin
         cases hg:st0[k1]? with
         | none=>
           have hlen:st0.length≤k1:=by rw [zAj] at hg; exact hg
           simp (disch:=omega) [-zAa,hsv0,hg]
           exact fin.out (isP p 94) (by simp [hg]) _ (by simp [hsv0])
         | some b=>
           have hlen:=(zAg.1 hg).1
           first
            | (exfalso; rw [hst0] at hg; simp at hg; done)
            | (simp (disch:=omega) [-zAa,hsv0,hg]
               have e:(!b == isP p 94)=(b != isP p 94):=by cases b<;>cases isP p 94<;>rfl
               exact fin.out (b != isP p 94) (by simp [hg]) _ (by simp [hsv0,e]))
       · have:k1=95:=by omega
         subst this
         simp (disch:=omega) [-zAa,hsv0,II]
         refine dC (r:=.tup [(bz (aT X) ⟨115,tab 95 (λi=>(((st0[i]?).getD ğ) != isP p 94)),[]⟩).v,.int .i64 (aT X).n.length]) ?_ λ_=>?_
         · have:=bZ (aT X) ⟨115,tab 95 (λi=>(((st0[i]?).getD ğ) != isP p 94)),[]⟩ (by simp [aT,hXn]; omega)
           simpa [PS.v,aT,Part.v,be] using this
         · simp (disch:=omega) [-zAa,PS.v,hR]
           simp [PS.v,←hq,←hk,aT,hXn,hb,hst0]
    · have hc:(!r.bad && (decide (n=0) || !isP r 93))=true:=by
       rcases hex with ⟨h,h'⟩ | ⟨h,h',h''⟩<;>simp [h,h']
       simp [h'']
      have hbd:r.bad=false:=by rcases hex with h | h<;>exact h.1
      simp only [hc,if_true] at hi
      clear hc
      obtain ⟨Y,hY⟩:∃ Y,Y=adj r:=⟨_,rfl⟩
      obtain ⟨st1,hst1⟩:∃ s,s=BA r set:=⟨_,rfl⟩
      rw [←hY,←hst1] at hi
      replace hi:=hid hi
      have fin:∀ (v:V),akm st1 v→∀ τ:St,τ.nrm [1,2,4,5,6]=⟨[(1,.ptr 0 0),(2,.ptr 1 0),(4,.bool (isP p 94)),(5,v),(6,.int .i64 ((n + 1:Nat):Int))],
       [ś (.box [.seq 3 (Y.n.map Part.v),.str Y.s,.int .i64 Y.at',.bool Y.bad]),ś (.box [.nil 3,.str [],.int .i64 0,.bool ğ])]⟩→N τ:=λv hv τ hτ=>
        hN.out _<|Nx.mk (f,Y,st1,v,n + 1) hτ ⟨hi.out,hv,by simp only; omega⟩ (by simp only; omega)
      replace fin:=hid fin
      obtain ⟨⟨q1,lo⟩,hql⟩:∃ x,et r Mb=x:=⟨_,rfl⟩
      have hq1:=Ja r Mb
      rw [hql] at hq1
      simp only at hq1
      have hlo:(Fv r)=(q1,lo):=hql
      obtain ⟨st0,hst0⟩:∃ s0,s0=set:=⟨_,rfl⟩
      obtain ⟨sv0,hsv0⟩:∃ v,v=sv:=⟨_,rfl⟩
      have hss:akm st0 sv0:=by rw [hst0,hsv0]; exact hsv
      rcases hex with ⟨_,rfl⟩ | ⟨_,hn0,h93⟩<;>rcases hsv with ⟨rfl,rfl⟩ | rfl
      all_goals
       simp (disch:=omega) [-zAa,hbd]
       try (refine aa (r:=.bool (isP r 93)) (by simpa [PS.v,hbd] using bS r 93) rfl λ_=>?_; simp (disch:=omega) [-zAa,hbd,h93,hn0])
       refine ae (r:=.tup [q1.v,.int .u8 lo]) (by have:=qX r Mb; rw [hql] at this; simpa [PS.v,hbd,Mb] using this) rfl λ_=>?_
       simp (disch:=omega) [-zAa,PS.v]
       refine aa (r:=.bool (isP q1 45)) (by simpa [PS.v] using bS q1 45) rfl λ_=>?_
       cases h45:isP q1 45
       · have hhi:qo r=(q1,lo):=by simp [qo,hlo,h45]
         have hYq:Y=q1:=by simp [hY,adj,hhi,hlo]
         subst hYq
         cases hb1:Y.bad
         · simp (disch:=omega) [-zAa,hb1]
           refine fD (r:=.seq 1 (be 95 (il st0 lo lo))) (by simpa [hst0] using lE st0 lo lo) λ_=>?_
           simp (disch:=omega) [-zAa]
           exact fin.out (.seq 1 (be 95 (il st0 lo lo))) (.inr (by simp [hst1,BA,←hY,hb1,hst0,hhi,hlo,be])) _ (by simp [hb1])
         · simp (disch:=omega) [-zAa,hb1]
           have e:st1=st0:=by simp [hst1,BA,←hY,hb1,hst0]
           exact fin.out sv0 (by rw [e]; exact hss) _ (by simp [hb1,hsv0])
       · simp (disch:=omega) [-zAa]
         obtain ⟨⟨q2,hi2⟩,hqh⟩:∃ x,et (aT q1) Mb=x:=⟨_,rfl⟩
         have hq2:=Ja (aT q1) Mb
         rw [hqh] at hq2
         simp only [aT] at hq2
         have hhi:qo r=(q2,hi2):=by simp [qo,hlo,h45,hqh]
         refine ae (r:=.tup [q2.v,.int .u8 hi2]) (by have:=qX (aT q1) Mb; rw [hqh] at this; simpa [PS.v,aT,Mb] using this) rfl λ_=>?_
         simp (disch:=omega) [-zAa,PS.v]
         refine BrKd.mk (λh=>?_) (λh=>?_)
         · have hYq:Y=O5 q2:=by simp [hY,adj,hhi,hlo]; omega
           simp (disch:=omega) [-zAa,h]
           have e:st1=st0:=by simp [hst1,BA,←hY,hYq,O5,hst0]
           exact fin.out sv0 (by rw [e]; exact hss) _ (by simp [hYq,O5,hsv0])
         · have hYq:Y=q2:=by simp [hY,adj,hhi,hlo]; omega
           subst hYq
           cases hb1:Y.bad
           · simp (disch:=omega) [-zAa,h,hb1]
             refine fD (r:=.seq 1 (be 95 (il st0 lo hi2))) (by simpa [hst0] using lE st0 lo hi2) λ_=>?_
             simp (disch:=omega) [-zAa]
             exact fin.out (.seq 1 (be 95 (il st0 lo hi2))) (.inr (by simp [hst1,BA,←hY,hb1,hst0,hhi,hlo,be])) _ (by simp [hb1])
           · simp (disch:=omega) [-zAa,h,hb1]
             have e:st1=st0:=by simp [hst1,BA,←hY,hb1,hst0]
             exact fin.out sv0 (by rw [e]; exact hss) _ (by simp [hb1,hsv0])
 · cases hr
def Yq:Str:=[92,40,41,91,93,124,42,43,63,46]
def aiG(p:PS):Bool:=!p.bad&&(match p.s[p.at']? with
 |some b=>!mR b.toNat [124,41]
 |none=>ğ)
def sR:Nat->PS->Nat->Option (PS×Nat)
 |0,_,_=>ń
 |f+1,q,k=>if lim q then(if q.bad||(!isP q 42&&(!isP q 43&& !isP q 63))then ś (q,k)
     else if isP q 63 then sR f (bz (bz (aT q) ⟨116,[],[]⟩) ⟨111,[],[k,q.n.length]⟩) (q.n.length+1)
     else if isP q 43 then sR f (bz (bz (aT q) ⟨109,[],[k]⟩) ⟨116,[],[k,q.n.length]⟩) (q.n.length+1)
     else sR f (bz (aT q) ⟨109,[],[k]⟩) q.n.length)else ń
mutual
def QJ:Nat->PS->Option (PS×Nat)
 |0,_=>ń
 |f+1,p=>if lim p then(if isP p 40 then(match lh f (aT p)with
       |some (q,k)=>if lim q then ś (aT (if isP q 41 then q else O5 q),k)else ń
       |none=>ń)
     else if isP p 46 then ś (bz (aT p) ⟨115,tab 95 (il [] 32 126),[]⟩,p.n.length)
     else if isP p 91 then LD f (aT p)
     else ś (bz (et p Yq).1 ⟨115,tab 95 (il [] (et p Yq).2 (et p Yq).2),[]⟩,p.n.length))else ń
def Er:Nat->PS->Option (PS×Nat)
 |0,_=>ń
 |f+1,p=>match QJ f p with
   |some (q,k)=>sR f q k
   |none=>ń
def Ve:Nat->PS->List Nat->Option (PS×List Nat)
 |0,_,_=>ń
 |f+1,p,own=>if lim p&&decide (own.length<=900)then(if aiG p then(match Er f p with
     |some (q,k)=>Ve f q (own++[k])
     |none=>ń)else ś (p,own))else ń
def adp:Nat->PS->List Nat->Option (PS×Nat)
 |0,_,_=>ń
 |f+1,p,l=>if decide (l.length<=900)then(match Ve f p []with
   |some (q,own)=>if q.bad|| !isP q 124 then ś (bz (bz q ⟨116,[],own⟩) ⟨111,[],l++[q.n.length]⟩,q.n.length+1)
      else adp f (aT (bz q ⟨116,[],own⟩)) (l++[q.n.length])
   |none=>ń)else ń
def lh:Nat->PS->Option (PS×Nat)
 |0,_=>ń
 |f+1,p=>adp f p []
end
theorem afw{p q}(h:lim q=ť)(hn:p.n.length<=q.n.length)(hs:p.s=q.s)(ha:p.at'<=q.at'):lim p=true:=by
 have:=lX h;simp[lim,hs];omega
theorem ZW{f p r}(h:LD f p=ś r):lim p=true:=by
 unfold LD at h;split at h
 ·rename_i q set hg
  have:=(r8 hg).1;split at this
  ·exact afw this (by simp[aT]) (by simp[aT]) (by simp[aT])
  ·exact this
 ·cases h
def PC(F:Nat->PS->Option (PS×Nat))(n:FuncId)(f:Nat):Prop:=∀(p q:PS)(k:Nat),F f p=ś (q,k)->Fn ŷ n [p.v] (.tup [q.v,.int .i64 k])
theorem TT(f)(hf:f<=1000000)(IH:PC lh kQ f):PC QJ sW (f+1):=by
 intro p q k hr;simp only[QJ]at hr;split at hr
 ·rename_i hl
  have hl0:=lX hl;refine yoA Sw ?_;simp[PS.v];refine aa (by simpa[PS.v]using bS p 40) rfl λ_=>?_
  cases h40:isP p 40
  ·simp
   refine aa (by simpa[PS.v]using bS p 46) rfl λ_=>?_
   simp only[h40,zAf,if_false]at hr;cases h46:isP p 46
   ·simp
    refine aa (by simpa[PS.v]using bS p 91) rfl λ_=>?_
    simp only[h46,zAf,if_false]at hr;cases h91:isP p 91
    ·simp only[h91,zAf,if_false,zAb,zAd]at hr
     obtain⟨⟨q1,lo⟩,hql⟩:∃x,et p Yq=x:=⟨_,rfl⟩;have hq1:=Ja p Yq;rw[hql]at hq1 hr;simp only at hq1 hr;simp;refine ae (r:=.tup [q1.v,.int .u8 lo]) (by have:=qX p Yq;rw[hql]at this;simpa[PS.v,Yq]using this) rfl λ_=>?_
     simp[PS.v];refine ol (by simpa using lE [] lo lo) ?_
     simp;refine az (r:=.tup [(bz q1 ⟨115,tab 95 (il [] lo lo),[]⟩).v,.int .i64 q1.n.length]) ?_ (by simp) ?_
     ·have:=bZ q1 ⟨115,tab 95 (il [] lo lo),[]⟩ (by rw[hq1.1];omega)
      simpa[PS.v,Part.v,be]using this
     ·simp[PS.v]
      simp[<-hr.1,<-hr.2,hq1]
    ·simp only[h91,if_true]at hr
     have hl1:=ZW hr;have hl2:=lX hl1;simp(disch:=omega);refine ae (r:=.tup [q.v,.int .i64 k]) (by have:=OL f (aT p) q k hr hl1 hf;simpa[PS.v,aT]using this) rfl λ_=>?_
     simp[PS.v]
   ·simp only[h46,if_true,zAb,zAd]at hr
    simp(disch:=omega);refine ol (by simpa using lE [] 32 126) ?_
    simp;refine az (r:=.tup [(bz (aT p) ⟨115,tab 95 (il [] 32 126),[]⟩).v,.int .i64 p.n.length]) ?_ (by simp) ?_
    ·have:=bZ (aT p) ⟨115,tab 95 (il [] 32 126),[]⟩ (by simp[aT];omega)
     simpa[PS.v,Part.v,be,aT]using this
    ·simp[PS.v]
     simp[<-hr.1,<-hr.2]
  ·simp only[h40,if_true]at hr
   split at hr
   ·rename_i q0 k0 hb
    split at hr
    ·rename_i hl1
     replace hl1:=lX hl1;simp only[zAb,zAd]at hr;simp(disch:=omega);refine ae (r:=.tup [q0.v,.int .i64 k0]) (by have:=IH (aT p) q0 k0 hb;simpa[PS.v,aT]using this) rfl λ_=>?_
     simp[PS.v];refine aa (by simpa[PS.v]using bS q0 41) rfl λ_=>?_
     cases h41:isP q0 41
     all_goals
      simp(disch:=omega);simp[<-hr.1,<-hr.2,h41,aT,O5]
    ·cases hr
   ·cases hr
 ·cases hr
theorem OK (f) (hf:f≤1000000) (IH:PC QJ sW f):PC Er qJ (f + 1):=by
 intro p q k hr
 simp only [Er] at hr
 split at hr
 · rename_i q0 k0 ha
   refine yoB Nd λho=>?_
   simp only [oks,ok,and_true] at ho
   clear ho
   obtain ⟨R,hR⟩:∃ R,R=(V.tup [q.v,.int .i64 k]):=⟨_,rfl⟩
   rw [←hR]
   simp (disch:=omega) [-zAa,PS.v]
   refine ae (r:=.tup [q0.v,.int .i64 k0]) (by have:=IH p q0 k0 ha; simpa [PS.v] using this) rfl λ_=>?_
   simp (disch:=omega) [-zAa,PS.v]
   refine ah (λ(x:Nat × PS × Nat)=>⟨[(1,.ptr 0 0),(2,.ptr 1 0),(4,.int .i64 x.2.2)],
    [ś (.box [.seq 3 (x.2.1.n.map Part.v),.str x.2.1.s,.int .i64 x.2.1.at',.bool x.2.1.bad]),ś (.box [.nil 3,.str [],.int .i64 0,.bool ğ])]⟩)
    (λx=>sR x.1 x.2.1 x.2.2=ś (q,k)) (λx=>x.1) [] _ (f,q0,k0) rfl (by simp) hr ?_
   rintro ⟨g,r,j⟩ hi N hN
   simp only at hi
   cases g with
   | zero=>simp [sR] at hi
   | succ g=>
   simp only [sR] at hi
   split at hi
   · rename_i hl
     have hl1:=lX hl
     cases hbd:r.bad
     · simp (disch:=omega) [-zAa,hbd]
       refine aa (r:=.bool (isP r 42)) (by simpa [PS.v,hbd] using bS r 42) rfl λ_=>?_
       simp (disch:=omega) [-zAa,hbd]
       refine aa (r:=.bool (isP r 43)) (by simpa [PS.v,hbd] using bS r 43) rfl λ_=>?_
       simp (disch:=omega) [-zAa,hbd]
       refine aa (r:=.bool (isP r 63)) (by simpa [PS.v,hbd] using bS r 63) rfl λ_=>?_
       simp only [hbd,zBc] at hi
       cases h42:isP r 42<;>cases h43:isP r 43<;>cases h63:isP r 63
       all_goals
        simp only [h42,h43,h63,Bool.not_true,Bool.not_false,Bool.and_true,Bool.and_false,Bool.false_and,zBi,Bool.and_self,if_true,zAf,if_false] at hi
        simp (disch:=omega) [-zAa,hbd]
       all_goals
        first
         | (simp only [zAb,zAd] at hi
            simp [hR,←hi.1,←hi.2,PS.v,hbd]
            done)
         | (refine ae (r:=.tup [(bz (aT r) ⟨116,[],[]⟩).v,.int .i64 r.n.length]) (by have:=bZ (aT r) ⟨116,[],[]⟩ (by simp [aT]; omega); simpa [PS.v,Part.v,aT,hbd] using this) rfl λ_=>?_
            simp (disch:=omega) [-zAa,PS.v,bz,aT,hbd]
            refine ae (r:=.tup [(bz (bz (aT r) ⟨116,[],[]⟩) ⟨111,[],[j,r.n.length]⟩).v,.int .i64 ((r.n.length + 1:Nat):Int)]) (by have:=bZ (bz (aT r) ⟨116,[],[]⟩) ⟨111,[],[j,r.n.length]⟩ (by simp [aT,bz]; omega); simpa [PS.v,Part.v,aT,hbd,bz] using this) (by simp) λ_=>?_
            simp (disch:=omega) [-zAa,PS.v,bz,aT,hbd]
            exact hN.out _<|Nx.mk (g,_,r.n.length + 1) (by simp [bz,aT,hbd]) hi (by simp only; omega))
         | (refine ae (r:=.tup [(bz (aT r) ⟨109,[],[j]⟩).v,.int .i64 r.n.length]) (by have:=bZ (aT r) ⟨109,[],[j]⟩ (by simp [aT]; omega); simpa [PS.v,Part.v,aT,hbd] using this) (by simp) λ_=>?_
            simp (disch:=omega) [-zAa,PS.v,bz,aT,hbd]
            refine ae (r:=.tup [(bz (bz (aT r) ⟨109,[],[j]⟩) ⟨116,[],[j,r.n.length]⟩).v,.int .i64 ((r.n.length + 1:Nat):Int)]) (by have:=bZ (bz (aT r) ⟨109,[],[j]⟩) ⟨116,[],[j,r.n.length]⟩ (by simp [aT,bz]; omega); simpa [PS.v,Part.v,aT,hbd,bz] using this) (by simp) λ_=>?_
            simp (disch:=omega) [-zAa,PS.v,bz,aT,hbd]
            exact hN.out _<|Nx.mk (g,_,r.n.length + 1) (by simp [bz,aT,hbd]) hi (by simp only; omega))
         | (refine ae (r:=.tup [(bz (aT r) ⟨109,[],[j]⟩).v,.int .i64 r.n.length]) (by have:=bZ (aT r) ⟨109,[],[j]⟩ (by simp [aT]; omega); simpa [PS.v,Part.v,aT,hbd] using this) (by simp) λ_=>?_
            simp (disch:=omega) [-zAa,PS.v,bz,aT,hbd]
            exact hN.out _<|Nx.mk (g,_,r.n.length) (by simp [bz,aT,hbd]) hi (by simp only; omega))
     · simp only [hbd,Bool.true_or,if_true,zAb,zAd] at hi
       simp (disch:=omega) [-zAa,hbd]
       simp [hR,←hi.1,←hi.2,PS.v,hbd]
   · cases hi
 · cases hr
theorem Fe(f)(hf:f<=1000000)(IH:∀g,g<f->PC Er qJ g):PC lh kQ (f+1):=by
 intro p q k hr;simp only[lh]at hr;refine yoA EI ?_;obtain⟨R,hR⟩:∃R,R=(V.tup [q.v,.int .i64 k]):=⟨_,rfl⟩;rw[<-hR];simp[PS.v]
 refine ah (λ(x:Nat×PS×List Nat)=>⟨[(1,.ptr 0 0),(2,.ptr 1 0),(4,.ref 2 x.2.2.length)],
  [ś (.box [.seq 3 (x.2.1.n.map Part.v),.str x.2.1.s,.int .i64 x.2.1.at',.bool x.2.1.bad]),ś (.box [.nil 3,.str [],.int .i64 0,.bool ğ]),ś (.arr ap 1 (x.2.2.map λ(j:Nat)=>V.int .i64 (j:Int)))]⟩)
  (λx=>adp x.1 x.2.1 x.2.2=ś (q,k)/\x.1<=f) (λx=>x.1) [.r 4 ap 1] _ (f,p,[]) rfl (by simp) ⟨hr,zBj _⟩ ?_
 rintro⟨g,r,l⟩ ⟨hi,hg⟩ N hN;simp only at hi hg;cases g with
 |zero=>simp[adp]at hi
 |succ g=>
 simp only[adp]at hi;split at hi
 ·rename_i hl
  simp only[decide_eq_true_eq]at hl;split at hi
  ·rename_i q0 own0 hown
   simp
   refine ah (λ(x:Nat×PS×List Nat)=>⟨[(1,.ptr 0 0),(2,.ptr 1 0),(4,.ref 2 l.length),(5,.ref 3 x.2.2.length)],
    [ś (.box [.seq 3 (x.2.1.n.map Part.v),.str x.2.1.s,.int .i64 x.2.1.at',.bool x.2.1.bad]),ś (.box [.nil 3,.str [],.int .i64 0,.bool ğ]),ś (.arr ap 1 (l.map λ(j:Nat)=>V.int .i64 (j:Int))),ś (.arr ap 1 (x.2.2.map λ(j:Nat)=>V.int .i64 (j:Int)))]⟩)
    (λx=>Ve x.1 x.2.1 x.2.2=ś (q0,own0)/\x.1<=g) (λx=>x.1) [.r 5 ap 1] _ (g,r,[]) rfl (by simp) ⟨hown,zBj _⟩ ?_
   rintro⟨g1,t,own⟩ ⟨hi1,hg1⟩ M hM;simp only at hi1 hg1;cases g1 with
   |zero=>simp[Ve]at hi1
   |succ g1=>
   simp only[Ve]at hi1;split at hi1
   ·rename_i hl0
    simp only[zAh,decide_eq_true_eq]at hl0;obtain⟨hl1,hol⟩:=hl0;replace hl1:=lX hl1
    have hgo:(aiG t=ť/\t.bad=ğ/\∃b,t.s[t.at']?=ś b/\mR b.toNat [124,41]=ğ)\/(aiG t=ğ/\(t.bad=ť\/(t.bad=ğ/\t.s[t.at']?=ń)\/(t.bad=ğ/\∃b,t.s[t.at']?=ś b/\mR b.toNat [124,41]=ť))):=by
     unfold aiG;cases t.bad<;>cases h:t.s[t.at']?<;>simp
     all_goals (rename_i b;cases mR b.toNat [124,41]<;>simp)
    rcases hgo with⟨hgo,hbd,b,hb,hab⟩|⟨hgo,hrest⟩
    ·simp only[hgo,if_true]at hi1
     split at hi1
     ·rename_i q1 k1 hp
      have hlt:=(zAg.1 hb).1;simp(disch:=omega) [hbd,hb];refine aa (r:=.bool ğ) (by have:=qY b.toNat [124,41];rwa[hab]at this) rfl λ_=>?_
      simp(disch:=omega);refine ae (r:=.tup [q1.v,.int .i64 k1]) (by have:=IH g1 (by omega) t q1 k1 hp;simpa[PS.v,hbd]using this) rfl λ_=>?_
      simp(disch:=omega) [PS.v];exact hM.out _<|Nx.mk (g1,q1,own++[k1]) (by simp;try rfl) ⟨hi1,by simp only;omega⟩ (by simp only;omega)
     ·cases hi1
    ·simp only[hgo,zAf,if_false,zAb,zAd]at hi1
     obtain⟨rfl,rfl⟩:=hi1;clear hM
     have hfin:(t.bad=ť\/(t.bad=ğ/\isP t 124=ğ))->ś (bz (bz t ⟨116,[],own⟩) ⟨111,[],l++[t.n.length]⟩,t.n.length+1)=ś (q,k):=λh=>by
      rw[if_pos]at hi
      ·exact hi
      ·rcases h with h|h<;>simp[h]
     have hmore:t.bad=ğ->isP t 124=ť->adp g (aT (bz t ⟨116,[],own⟩)) (l++[t.n.length])=ś (q,k):=λh h'=>by
      rw[if_neg]at hi
      ·exact hi
      ·simp[h,h']
     clear hi;replace hfin:=hid hfin;replace hmore:=hid hmore;rcases hrest with hbd|⟨hbd,hb⟩|⟨hbd,b,hb,hab⟩
     ·simp[hbd]
      refine dC (r:=.tup [(bz t ⟨116,[],own⟩).v,.int .i64 t.n.length]) (by have:=bZ t ⟨116,[],own⟩ (by omega);simpa[PS.v,Part.v,hbd]using this) λ_=>?_
      simp(disch:=omega) [PS.v,bz,hbd];refine dC (r:=.tup [(bz (bz t ⟨116,[],own⟩) ⟨111,[],l++[t.n.length]⟩).v,.int .i64 ((t.n.length+1:Nat):Int)]) (by have:=bZ (bz t ⟨116,[],own⟩) ⟨111,[],l++[t.n.length]⟩ (by simp[bz];omega);simpa[PS.v,Part.v,hbd,bz]using this) λ_=>?_
      simp[PS.v,bz,hbd];have:=hfin.out (.inl hbd);simp only[zAb,zAd]at this;simp[hR,<-this.1,<-this.2,PS.v,bz,hbd]
     ·have hge:t.s.length<=t.at':=by rwa[zAj]at hb
      have h124:isP t 124=false:=by simp[isP,hb]
      simp(disch:=omega) [hbd];refine dC (r:=.tup [(bz t ⟨116,[],own⟩).v,.int .i64 t.n.length]) (by have:=bZ t ⟨116,[],own⟩ (by omega);simpa[PS.v,Part.v,hbd]using this) λ_=>?_
      simp(disch:=omega) [PS.v,bz,hbd];refine aa (r:=.bool ğ) (by have:=bS (bz t ⟨116,[],own⟩) 124;rw[show isP (bz t ⟨116,[],own⟩) 124=ğ from h124]at this;simpa[PS.v,hbd,bz]using this) rfl λ_=>?_
      simp;refine dC (r:=.tup [(bz (bz t ⟨116,[],own⟩) ⟨111,[],l++[t.n.length]⟩).v,.int .i64 ((t.n.length+1:Nat):Int)]) (by have:=bZ (bz t ⟨116,[],own⟩) ⟨111,[],l++[t.n.length]⟩ (by simp[bz];omega);simpa[PS.v,Part.v,hbd,bz]using this) λ_=>?_
      simp[PS.v,bz,hbd];have:=hfin.out (.inr ⟨hbd,h124⟩);simp only[zAb,zAd]at this;simp[hR,<-this.1,<-this.2,PS.v,bz,hbd]
     ·have hlt:=(zAg.1 hb).1
      simp(disch:=omega) [hbd,hb];refine aa (r:=.bool ť) (by have:=qY b.toNat [124,41];rwa[hab]at this) rfl λ_=>?_
      simp(disch:=omega);refine dC (r:=.tup [(bz t ⟨116,[],own⟩).v,.int .i64 t.n.length]) (by have:=bZ t ⟨116,[],own⟩ (by omega);simpa[PS.v,Part.v,hbd]using this) λ_=>?_
      simp(disch:=omega) [PS.v,bz,hbd];cases h124:isP t 124
      ·refine aa (r:=.bool ğ) (by have:=bS (bz t ⟨116,[],own⟩) 124;rw[show isP (bz t ⟨116,[],own⟩) 124=ğ from h124]at this;simpa[PS.v,hbd,bz]using this) rfl λ_=>?_
       simp;refine dC (r:=.tup [(bz (bz t ⟨116,[],own⟩) ⟨111,[],l++[t.n.length]⟩).v,.int .i64 ((t.n.length+1:Nat):Int)]) (by have:=bZ (bz t ⟨116,[],own⟩) ⟨111,[],l++[t.n.length]⟩ (by simp[bz];omega);simpa[PS.v,Part.v,hbd,bz]using this) λ_=>?_
       simp[PS.v,bz,hbd];have:=hfin.out (.inr ⟨hbd,h124⟩);simp only[zAb,zAd]at this;simp[hR,<-this.1,<-this.2,PS.v,bz,hbd]
      ·refine aa (r:=.bool ť) (by have:=bS (bz t ⟨116,[],own⟩) 124;rw[show isP (bz t ⟨116,[],own⟩) 124=ť from h124]at this;simpa[PS.v,hbd,bz]using this) rfl λ_=>?_
       simp(disch:=omega);exact hN.out _<|Nx.mk (g,aT (bz t ⟨116,[],own⟩),l++[t.n.length]) (by simp[aT,bz,hbd];try rfl) ⟨hmore.out hbd h124,by simp only;omega⟩ (by simp only;omega)
   ·cases hi1
  ·cases hi
 ·cases hi
theorem PC0{F n}(h:∀p,F 0 p=ń):PC F n 0:=λp q k hr=>by rw[h]at hr;cases hr
theorem akN:∀f,f<=1000000->PC QJ sW f/\PC Er qJ f/\PC lh kQ f:=by
 intro f
 induction f using Nat.strongRecOn with
 |_ f IH=>
   intro hf;cases f with
   |zero=>exact⟨PC0 λp=>by simp[QJ],PC0 λp=>by simp[Er],PC0 λp=>by simp[lh]⟩
   |succ f=>
     have h1:=IH f (by omega) (by omega)
     exact⟨TT f (by omega) h1.2.2,OK f (by omega) h1.1,Fe f (by omega) λg hg=>(IH g (by omega) (by omega)).2.1⟩
def parseF(s:Str):Option (List Part×Nat):=match lh 200 ⟨[],s,0,ğ⟩with
 |some (q,k)=>if !q.bad&&(decide (q.at'=s.length)&&decide (q.at'<=1000))then ś (q.n,k)else ń
 |none=>ń
theorem OM(s)(ps)(k)(h:parseF s=ś (ps,k))(hs:s.length<=60):Fn ŷ Ms [.str s] (.tup [.seq 3 (ps.map Part.v),.int .i64 k,.int .i64 0]):=by
 unfold parseF at h;split at h
 ·rename_i q k0 hb
  split at h
  ·rename_i hc
   simp only[zAh,zBg,decide_eq_true_eq]at hc;obtain⟨hc1,hc2,hc3⟩:=hc;simp only[zAb,zAd]at h;obtain⟨rfl,rfl⟩:=h;refine yoA Ng ?_;simp(disch:=omega);refine ae (r:=.tup [q.v,.int .i64 k0]) (by have:=(akN 200 (by omega)).2.2 ⟨[],s,0,ğ⟩ q k0 hb;simpa[PS.v]using this) (by simp) λ_=>?_
   simp[PS.v,hc1,hc2]
  ·cases h
 ·cases h
def wfB:Nat->List Part->Bool
 |_,[]=>ť
 |i,p::l=>p.l.all (λx=>decide (x<i))&&((!decide (p.op=115)||decide (p.set.length=95))&&(decide (p.l.length<=1000)&&wfB (i+1) l))
theorem aak:∀{l:List Part}{i j:Nat}{p:Part},wfB i l=ť->l[j]?=ś p->(∀x∈p.l,x<i+j)/\(p.op=115->p.set.length=95)/\p.l.length<=1000
 |[],i,j,p,_,h=>by simp at h
 |y::l,i,0,p,hw,h=>by
   simp only[List.getElem?_cons_zero,zAb]at h;subst h;simp only[wfB,zAh,List.all_eq_true,decide_eq_true_eq,Bool.or_eq_true,zBg,decide_eq_false_iff_not]at hw;refine⟨λx hx=>by have:=hw.1 x hx;omega,λhp=>?_,hw.2.2.1⟩
   rcases hw.2.1 with h|h
   ·exact absurd hp h
   ·exact h
 |y::l,i,j+1,p,hw,h=>by
   simp only[List.getElem?_cons_succ]at h;simp only[wfB,zAh]at hw;have:=aak hw.2.2.2 h;rw[show i+(j+1)=i+1+j by omega]
   exact this
def rxB(s:Str):Bool:=decide (s.length<=60)&&match parseF s with
 |some (ps,k)=>wfB 0 ps&&(decide (ps.length<=1000)&&decide (k<ps.length))
 |none=>ğ
def rxM(s v:Str):Bool:=match parseF s with
 |some (ps,k)=>matchT ps k v
 |none=>ğ
def nz:Nat->Str->Int
 |_,[]=>-1
 |k,b::l=>if b.toNat=58 then k else nz (k+1) l
theorem JV:∀(s:Str)(k:Nat),nz k s=if 0<=Lib.indexByte s 58 then k+Lib.indexByte s 58 else -1
 |[],k=>by simp[nz,Lib.indexByte]
 |b::l,k=>by
   have ih:=JV l (k+1);have hg:=Lib.indexByte_ge l 58;have hb:(b.toNat=58)↔b=58:=by rw[<-UInt8.toNat_inj];rfl
   by_cases h:b=58
   ·have e:Lib.indexByte (b::l) 58=0:=by simp[Lib.indexByte,h]
    rw[nz,if_pos (hb.2 h),e];simp
   ·have e:Lib.indexByte (b::l) 58=if Lib.indexByte l 58=-1 then -1 else Lib.indexByte l 58+1:=by simp[Lib.indexByte,h]
    rw[nz,if_neg (λx=>h (hb.1 x)),ih,e];by_cases h2:Lib.indexByte l 58=-1
    ·simp[h2]
    ·rw[if_neg h2,if_pos (by omega),if_pos (by omega)];omega
def allows12(c:Constraint)(v:Str):Bool:=
 v.all sign&&(decide (c.kind=1)||((decide (c.kind=2)&&hasS c.words v)||((decide (c.kind=3)&&(!(cutB v 58).2.2||hasS c.words (cutB v 58).1))||(decide (c.kind=4)&&rxM c.regex v))))
theorem K7(c)(v:Str)(hk:1<=c.kind/\c.kind<=4)(hr:c.kind=4->rxB c.regex=ť)(hv:v.length<=999999):Fn ŷ eB [c.v,.str v] (.bool (allows12 c v)):=by
 refine yoB J0 λho=>?_;simp only[oks,ok,and_true]at ho;obtain⟨kd,ws,rx⟩:=c;simp only at hk hr;have hlen:ws.length<=140737488355328:=by have:=ho.1;simp at this;exact this.2.1.1
 clear ho;simp;refine aa (qW _) rfl λ_=>?_;cases hs:v.all sign
 ·simp[allows12,hs]
 ·simp
  have hkk:kd=1\/kd=2\/kd=3\/kd=4:=by omega
  rcases hkk with rfl|rfl|rfl|rfl
  ·simp[allows12,hs]
  ·simp
   have e:allows12 ⟨2,ws,rx⟩ v=hasS ws v:=by simp[allows12,hs]
   rw[e];generalize hR:hasS ws v=R;refine ah (λk:Nat=>⟨[(1,.str v),(2,.ptr 0 0),(6,.int .i64 k)],[ś (.box [.int .i64 2,.seq 1 (ws.map .str),.str rx])]⟩) (λk=>k<=ws.length/\hasS (ws.drop k) v=R) (λk=>ws.length-k) [] _ 0 rfl (by simp) (by simp[*]) ?_
   rintro k ⟨hk,hi⟩ N hN;rcases place ws k hk with⟨he,hd⟩|⟨hlt,x,hx,hd⟩<;>rw[hd]at hi<;>replace hi:=hid hi
   ·simp[he]
    simpa[hasS]using hi.out
   ·simp(disch:=omega) [hx]
    repeat' (first|(refine BrKd.mk (λh=>?_) (λh=>?_)<;>simp(disch:=omega))|(refine BrK.mk (λh=>?_) (λh=>?_)<;>simp(disch:=omega) [*]))
    all_goals first
     |(refine hN.out _<|Nx.mk (k+1) (by simp) ⟨by omega,?_⟩ (by omega);simpa(disch:=omega) [*,decide_eq_true,decide_eq_false,hasS]using hi.out)
     |(first|simpa(disch:=omega) [*,decide_eq_true,decide_eq_false,hasS]using hi.out.symm|simpa(disch:=omega) [*,decide_eq_true,decide_eq_false,hasS]using hi.out)
  ·simp
   have hix:=JV v 0;have hb:=eZ 58 v;have hg:=Lib.indexByte_ge v 58;obtain⟨T,hT⟩:∃T,T=nz 0 v:=⟨_,rfl⟩;rw[<-hT]at hix;have hTb:T=-1\/(0<=T/\T<v.length):=by rw[hix];split<;>omega
   have e:allows12 ⟨3,ws,rx⟩ v=(decide (T<0)||hasS ws (v.take T.toNat)):=by
    simp only[allows12,hs,cutB,hix];by_cases h:0<=Lib.indexByte v 58
    ·simp[h,show ¬Lib.indexByte v 58<0 by omega]
    ·simp[h]
   rw[e];generalize hR:(decide (T<0)||hasS ws (v.take T.toNat))=R
   refine ah (λ(q:Nat×Int)=>⟨[(1,.str v),(2,.ptr 0 0),(7,.int .i64 q.2),(8,.int .i64 q.1)],[ś (.box [.int .i64 3,.seq 1 (ws.map .str),.str rx])]⟩)
    (λq=>q.1<=v.length/\((q.2=-1/\nz q.1 (v.drop q.1)=T)\/(q.2=T/\0<=T))) (λq=>v.length-q.1) [] _ (0,-1) rfl (by simp) (by simp[hT]) ?_
   rintro⟨k,at'⟩ ⟨hk,hi⟩ N hN;simp only at hk hi;rcases hi with⟨rfl,hi⟩|⟨rfl,hT0⟩
   ·rcases place v k hk with⟨he,hd⟩|⟨hlt,x,hx,hd⟩<;>rw[hd]at hi
    ·simp only[nz]at hi
     subst hi;simp[he];simpa using hR
    ·simp only[nz]at hi
     replace hi:=hid hi;simp(disch:=omega) [hx];refine BrKd.mk (λh=>?_) (λh=>?_)
     ·have hi:=hi.out
      rw[if_pos (by omega)]at hi
      simp(disch:=omega);exact hN.out _<|Nx.mk (k+1,(k:Int)) (by simp) ⟨by simp only;omega,.inr ⟨hi,by omega⟩⟩ (by simp only;omega)
     ·have hi:=hi.out
      rw[if_neg (by omega)]at hi
      simp(disch:=omega);exact hN.out _<|Nx.mk (k+1,(-1:Int)) (by simp) ⟨by simp only;omega,.inl ⟨rfl,hi⟩⟩ (by simp only;omega)
   ·obtain⟨t,rfl⟩:=Int.eq_ofNat_of_zero_le hT0
    have htl:t<v.length:=by omega
    simp only[show decide ((t:Int)<0)=ğ by simp,zBc,zBf]at hR
    clear hN;rcases zAc k v.length with hkl|hkl
    all_goals
     simp(disch:=omega)
     refine ah (λ(j:Nat)=>⟨[(1,.str v),(2,.ptr 0 0),(7,.int .i64 t),(9,.int .i64 j)],[ś (.box [.int .i64 3,.seq 1 (ws.map .str),.str rx])]⟩)
      (λj=>j<=ws.length/\hasS (ws.drop j) (v.take t)=R) (λj=>ws.length-j) [] _ 0 rfl (by simp) (by simp[hR]) ?_
     rintro j ⟨hj,hi⟩ M hM;rcases place ws j hj with⟨he,hd⟩|⟨hlt,x,hx,hd⟩<;>rw[hd]at hi
     ·simp[he]
      simpa[hasS]using hi
     ·simp only[hasS]at hi
      replace hi:=hid hi;simp(disch:=omega) [hx];refine BrKd.mk (λh=>?_) (λh=>?_)
      ·have hi:=hi.out
       rw[if_pos (by simpa using h)]at hi
       simp;simpa using hi
      ·have hi:=hi.out
       rw[if_neg (by simpa using h)]at hi
       simp(disch:=omega);exact hM.out _<|Nx.mk (j+1) (by simp) ⟨by omega,hi⟩ (by omega)
  ·simp
   have hb:=hr rfl;simp only[rxB,zAh,decide_eq_true_eq]at hb;obtain⟨hb1,hb2⟩:=hb;have e:allows12 ⟨4,ws,rx⟩ v=rxM rx v:=by simp[allows12,hs]
   rw[e];unfold rxM;split at hb2
   ·rename_i ps k hp
    simp only[zAh,decide_eq_true_eq]at hb2;obtain⟨hw,hpl,hkl⟩:=hb2
    try simp only[hp]
    refine ae (OM rx ps k hp hb1) (by simp) λ_=>?_
    simp;refine aa (by simpa using ON ps k v ⟨hpl,λi p h=>by have:=aak hw h;rwa[Nat.zero_add]at this⟩ hkl (by omega)) rfl λ_=>?_
    simp
   ·cases hb2
theorem ah6:pool12.all rxB=true:=by decide+kernel
end Go.Abs.F
end
section
set_option maxHeartbeats 4000000
set_option maxRecDepth 100000
namespace Go.Abs.F
open Go.Proofs
attribute [-simp] getElem?_pos zBe List.map_map
theorem Wa:∀{l:List Str}{s:Str},hasS l s=ť↔s∈l
 |[],s=>by simp[hasS]
 |x::l,s=>by
   simp only[hasS,List.mem_cons];split
   ·rename_i h;simp[h]
   ·rename_i h
    rw[Wa];exact⟨.inr,λh'=>h'.resolve_left (λe=>h e.symm)⟩
def ZP(e:Allowed):Prop:=e.kids.length<=8/\∃l,e.rules=lu l
theorem Lo:∀(l out:List Allowed)(i:Nat),(∀e∈out,ZP e)->∀e∈m4 i out l,ZP e
 |[],out,i,h=>by simpa[m4]using h
 |x::l,out,i,h=>by
   simp only[m4];split
   ·exact Lo l out _ h
   ·refine Lo l _ _ λe he=>?_
    rcases List.mem_append.1 he with he|he
    ·exact h e he
    ·simp at he;subst he;exact⟨by simp,x.rules,rfl⟩
theorem XY {els} (k) (own) (h:∀ e∈els,ZP e):∀ e∈lm els k own,ZP e:=by
 intro e he
 unfold lm at he
 split at he
 · rename_i x hx
   rcases List.mem_or_eq_of_mem_set he with he | he
   · exact h e he
   · subst he
     exact ⟨WG _ _ _,(h x (zBb hx)).2⟩
 · exact h e he
theorem Qe:∀(l els:List Allowed)(k:Nat),(∀e∈els,ZP e)->∀e∈iO k els l,ZP e
 |[],els,k,h=>by simpa[iO]using h
 |x::l,els,k,h=>by
   simp only[iO];exact Qe l _ _ (XY k x.kids h)
theorem tu(p):∀e∈(ai p).elements,ZP e:=by
 unfold ai;exact Qe _ _ _ (Lo _ _ _ (by simp))
end Go.Abs.F
end
