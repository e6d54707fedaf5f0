/- Plain: a kind's least value is one alone; turned round; of the same policy twice there is none that one alone allows. No condition. -/
import Derived.Test.YtloaikaippankaaGreatDoorQP1
import Derived.Test.YtloaikaippankaaGreatDoorQF17
set_option linter.all false open List renaming mem_cons→zAa,mem_append→zAb,mem_map→zAc,reduceReplicate→zAe,getElem?_eq_some_iff→zAf,length_append→zAg,getElem?_cons_succ→zAh,all_eq_true→zAi,length_cons→zAj,not_mem_nil→zBa,getElem?_cons_zero→zBb,map_map→zBd,cons_append→zBe,mem_of_getElem?→zBg,mem_filter→zBh,findIdx?_eq_some_iff_getElem→zBi,mem_flatMap→zBj,map_cons→zCa,length_map→zCd,nodup_cons→zCe,getElem?_eq_getElem→zCf,flatMap_cons→zCg,getElem?_map→zCh,pairwise_map→zCi,length_take→zDb,getElem?_eq_none→zDc,length_nil→zDd,take_append_of_le_length→zDf,getElem?_range→zDg,take_succ_cons→zDh,getElem?_append_right→zDj,getElem?_append_left→zEa,range→zEb,getElem?_eq_none_iff→zEc,take_zero→zEf,all_cons→zEg,map_congr_left→zEh,take_add_one→zEj,ext_getElem?→zFa,all_eq_false→zFb,append_assoc→zFc,nodup_append→zFd,take_length→zFf,any_eq_true→zFg,length_drop→zFi,getElem_mem→zFj,nil_append→zGd,length→zGh,map→zHa
open Bool renaming and_eq_true→zAd,true_and→zDa,or_eq_true→zGa,eq_iff_iff→zGc
open Option renaming not_isSome→zBc,getD_some→zBf,map_some→zDe,map_eq_some_iff→zEd,some→zGi
open Nat renaming le_refl→zCb,lt_trichotomy→zCc,add_one_sub_one→zDi,add_le_add→zEe,eq_or_lt_of_le→zEi,reduceSub→zGe,lt_or_ge→zGf,le_trans→zGg,mod_lt→zGj
open Option.some renaming injEq→zCj
open Function renaming comp_def→zFe,comp→zHc
open Prod renaming ext→zFh
open UInt8 renaming toNat_inj→zGb
open List.cons renaming injEq→zHb open Option renaming some→ś,none→ń open Bool renaming true→ť,false→ğ
section
set_option maxHeartbeats 4000000
set_option maxRecDepth 100000
namespace Go.Abs.F
open Go.Proofs
attribute [-simp] getElem?_pos zBc zBd
theorem JR:∀s t:Str,s.length=t.length->Op.bytesLess s t=ť\/s=t\/Op.bytesLess t s=ť
 |[],[],_=>.inr (.inl rfl)
 |[],y::t,h=>by simp at h
 |x::s,[],h=>by simp at h
 |x::s,y::t,h=>by
   simp only[Op.bytesLess,zGa,zAd,decide_eq_true_eq,beq_iff_eq,UInt8.lt_iff_toNat_lt];rcases zCc x.toNat y.toNat with h1|h1|h1
   ·exact .inl (.inl h1)
   ·have e:x=y:=zGb.1 h1
    subst e;rcases JR s t (by simpa using h)with h2|h2|h2
    ·exact .inl (.inr ⟨rfl,h2⟩)
    ·exact .inr (.inl (by rw[h2]))
    ·exact .inr (.inr (.inr ⟨rfl,h2⟩))
   ·exact .inr (.inr (.inl h1))
theorem Xv(s t:Str):FB s t\/s=t\/FB t s:=by
 grind[FB,zCc,JR]
theorem ZX{f g f1 f2}:∀{r r':Option (List Nat)},uT f g f1 f2 r->uT f g f1 f2 r'->r=r'
 |none,ń,_,_=>rfl
 |none,ś w,h,h'=>absurd h'.2.2.1 λe=>h _ (kM h'.1) h'.2.1 e
 |some w,ń,h,h'=>absurd h.2.2.1 λe=>h' _ (kM h.1) h.2.1 e
 |some w,ś w',h,h'=>by
   have k1:=h.2.2.2 _ (kM h'.1) h'.2.1 h'.2.2.1;have k2:=h'.2.2.2 _ (kM h.1) h.2.1 h.2.2.1;rcases Xv (bK w) (bK w')with h1|h1|h1
   ·exact absurd h1 k2
   ·have:=congrArg sw h1
    rw[BS h.1,BS h'.1]at this;rw[this]
   simp_all
theorem mj{f g f1 f2 r}(h:uT f g f1 f2 r):Dr f g f1 f2=r:=by
 have hex:∃r,uT f g f1 f2 r:=⟨r,h⟩;unfold Dr;rw[dif_pos hex];grind[ZX,Classical.choose_spec]
end Go.Abs.F
end
section
set_option maxHeartbeats 4000000
set_option maxRecDepth 100000
namespace Go.Abs.F
open Go.Proofs Go.Aut
attribute [-simp] getElem?_pos zBc zBd
theorem iI{Φ d K σ}(ps)(q)(m){f vs us H H' r}(hc:σ.curs (c9 vs ps)=ť)(hl:ir σ.h (c9 vs ps) vs=(q,m))(hu:fq m vs=us)(hH:kN σ.h m m=H)
 (h:Φ.e f ps us H r H') (hk:kin q H H'=ť) (k:K (St.put ⟨σ.r,σ.back q m H'⟩ d (bck (Fq q m σ.h.length H'.length) r))):xY Φ d f vs K σ:=by
 refine⟨ps,hc,r,H',?_,?_,?_⟩
 ·rw[hl,hH];exact hk
 ·simp_all
 ·rw[hl];exact k
def cc(k:Int)(el:Str):Label:=⟨k,el,[],ğ,[],ğ,ğ⟩
def bC(p q:Policy)(at':Str->Str->List Label)(el:Str):List Label:=cc 3 el::(aP p q el).flatMap (at' el)
def iL(p q:Policy):List Str:=dd (srt (srt (p.elements.map Allowed.name)++srt (q.elements.map Allowed.name)))
def fO(p q:Policy)(at':Str->Str->List Label):List Label:=[cc 1 [],cc 2 []]++(iL p q).flatMap (bC p q at')
theorem rU{α β:Type}(f:α->List β)(n):∀(l:List α),(∀x∈l,(f x).length<=n)->(l.flatMap f).length<=n*l.length
 |[],_=>by simp
 |x::l,h=>by
   have h1:=h x (by simp)
   have h2:=rU f n l λy hy=>h y (by simp[hy])
   grind[zAg,zAj,Nat.mul_add]
theorem pt(p q)(el):(aP p q el).length<=2*((aC p el).length+(aC q el).length):=by
 have hc:aP p q el=dd (srt (eu (aC p el++aC q el)))++dd (srt (i4 (aC p el++aC q el))):=rfl;rw[hc,zAg];have h1:=Fr (srt (eu (aC p el++aC q el)));grind[Fr,srt,i4,aC,AK,Et,fL,zAg]
theorem Jq(p q):(iL p q).length<=p.elements.length+q.elements.length:=by
 unfold iL;have:=Fr (srt (srt (p.elements.map Allowed.name)++srt (q.elements.map Allowed.name)));grind[fL,zAg,zCd]
theorem xg(p q)(hp:p.elements.length<=1000)(hq:q.elements.length<=1000)(hpr:∀el,(aC p el).length<=1000)(hqr:∀el,(aC q el).length<=1000)
 (at') (hat:∀el nm,(at' el nm).length<=4)
 (hA:∀el nm,Fn Tryz.prog iN [p.v,q.v,.str el,.str nm,.str (aG (aP p q el) nm)] (.seq 7 ((at' el nm).map Label.v))):
 Fn Tryz.prog we [p.v,q.v] (.seq 7 ((fO p q at').map Label.v)):=by
 refine yoE Kh ?_;simp;refine az (w8 p hp) (by simp) ?_
 simp;refine az (w8 q hq) (by simp) ?_
 simp;have hcc:=HZ (srt (p.elements.map Allowed.name)) (srt (q.elements.map Allowed.name)) (by grind[fL,zCd])
 have hnl:=Jq p q;obtain⟨A,hAe⟩:∃A,A=srt (p.elements.map Allowed.name)++srt (q.elements.map Allowed.name):=⟨_,rfl⟩;have hAl:A.length<=2000:=by grind[zAg,fL,zCd]
 have hNe:iL p q=dd (srt A):=by rw[hAe];rfl
 rw[<-hAe]at hcc;have s1:=lC A (by omega)
 have c1:=k9 (srt A) (by rw[fL];omega)
 rw[fL]at c1;have l1:=fL A;refine iI [] 0 [] (by simp) (by simp) (by simp) (by simp) hcc (by simp) ?_
 clear hcc hAe;simp;refine am [0] 1 [3] (by simp) (by simp) (by simp) (by simp) s1 (by simp) λ_ _=>?_
 simp;refine am [] 0 [3] (by simp) (by simp) (by simp) (by simp) c1 (by simp) λ_ _=>?_
 simp;simp only[fO,hNe];have hDl:(dd (srt A)).length<=2000:=by grind
 generalize dd (srt A)=D at *;clear hNe hnl c1 s1 l1
 have hEl:∀el,(bC p q at' el).length<=20000:=λel=>by
  have h1:=rU (at' el) 4 (aP p q el) λx _=>hat el x;grind[pt,bC,zAj]
 refine ah (λk:Nat=>⟨[(2,.ptr 0 0),(3,.ptr 1 0),(5,.ref 2 ([cc 1 [],cc 2 []]++(D.take k).flatMap (bC p q at')).length),(24,.ref 3 D.length),(25,.int .i64 D.length),(26,.int .i64 k)],
  [ś (.box [.seq 1 (p.top.map .str),.seq 3 (p.elements.map Allowed.v),.seq 1 (p.unwrap.map .str)]),ś (.box [.seq 1 (q.top.map .str),.seq 3 (q.elements.map Allowed.v),.seq 1 (q.unwrap.map .str)]),ś (.arr jp 7 (([cc 1 [],cc 2 []]++(D.take k).flatMap (bC p q at')).map Label.v)),ś (.arr aA 1 (D.map .str))]⟩)
  (λk=>k<=D.length) (λk=>D.length-k) [] _ 0 rfl (by simp[cc,Label.v]) (by simp) ?_
 rintro k hk N hN
 have hPl:([cc 1 [],cc 2 []]++(D.take k).flatMap (bC p q at')).length<=50000000:=by
  have:=rU (bC p q at') 20000 (D.take k) λx _=>hEl x;grind
 rcases zGf k D.length with hlt|hge
 ·obtain⟨x,hx⟩:=av hlt
  have hstep:[cc 1 [],cc 2 []]++(D.take (k+1)).flatMap (bC p q at')=([cc 1 [],cc 2 []]++(D.take k).flatMap (bC p q at'))++(cc 3 x::(aP p q x).flatMap (at' x)):=by simp[zEj,hx,bC]
  have hC:=xh p q x (hpr x) (hqr x);have hAx:=hA x;have hatx:=hat x;have hcl:(aP p q x).length<=4000:=by grind[pt]
  generalize[cc 1 [],cc 2 []]++(D.take k).flatMap (bC p q at')=P at *;generalize aP p q x=C at *;simp(disch:=omega) [hx];refine ae hC (by simp) λ_=>?_
  simp
  refine ah (λj:Nat=>⟨[(2,.ptr 0 0),(3,.ptr 1 0),(5,.ref 2 (P++(cc 3 x::(C.take j).flatMap (at' x))).length),(8,.str x),(9,.seq 1 (C.map .str)),(24,.ref 3 D.length),(25,.int .i64 D.length),(26,.int .i64 k),(39,.seq 1 (C.map .str)),(40,.int .i64 C.length),(41,.int .i64 j)],
   [ś (.box [.seq 1 (p.top.map .str),.seq 3 (p.elements.map Allowed.v),.seq 1 (p.unwrap.map .str)]),ś (.box [.seq 1 (q.top.map .str),.seq 3 (q.elements.map Allowed.v),.seq 1 (q.unwrap.map .str)]),ś (.arr jp 7 ((P++(cc 3 x::(C.take j).flatMap (at' x))).map Label.v)),ś (.arr aA 1 (D.map .str))]⟩)
   (λj=>j<=C.length) (λj=>C.length-j) [] _ 0 rfl (by simp[cc,Label.v]) (by simp) ?_
  rintro j hj N' hN'
  have hQl:(P++(cc 3 x::(C.take j).flatMap (at' x))).length<=60000000:=by
   have:=rU (at' x) 4 (C.take j) λy _=>hatx y;grind
  rcases zGf j C.length with hlt2|hge2
  ·obtain⟨y,hy⟩:=av hlt2
   have hst2:P++(cc 3 x::(C.take (j+1)).flatMap (at' x))=(P++(cc 3 x::(C.take j).flatMap (at' x)))++at' x y:=by simp[zEj,hy]
   have h4:=hatx y;have hAy:=hAx y;generalize P++(cc 3 x::(C.take j).flatMap (at' x))=R at *;simp(disch:=omega) [hy];refine az (Ib C (by omega) y) (by simp) ?_
   simp;refine az hAy (by simp) ?_
   simp(disch:=omega);exact hN'.out _<|Nx.mk (j+1) (by simp[hst2]) (by omega) (by omega)
  ·obtain rfl:j=C.length:=by omega
   simp only[zFf]at *;simp(disch:=omega);exact hN.out _<|Nx.mk (k+1) (by simp[hstep]) (by omega) (by omega)
 ·obtain rfl:k=D.length:=by omega
  simp
end Go.Abs.F
end
section
set_option maxHeartbeats 1000000
set_option maxRecDepth 100000
namespace Go.Abs.F
open Go.Proofs Go.Aut
attribute [-simp] getElem?_pos zBc zBd
noncomputable def atR(p q:Policy)(el nm:Str):List Label:=
 it el (aG (aP p q el) nm) (bA nm) (Dr (bD p el (aG (aP p q el) nm)) (bD q el (aG (aP p q el) nm)) ť ť) (Dr (bD p el (aG (aP p q el) nm)) (bD q el (aG (aP p q el) nm)) ť ğ)
  (Dr (bD p el (aG (aP p q el) nm)) (bD q el (aG (aP p q el) nm)) ğ ť) (Dr (bD p el (aG (aP p q el) nm)) (bD q el (aG (aP p q el) nm)) ğ ğ) 4
theorem Ur(p q)(el nm):(atR p q el nm).length<=4:=by
 grind[atR,it,zAg,zGg,zEe,ef]
theorem af2(p q)(hp:∀el nm c,dp p el nm=ś c->∃x,GoodC c x)(hq:∀el nm c,dp q el nm=ś c->∃x,GoodC c x)(el nm:Str):
 Fn Tryz.prog iN [p.v,q.v,.str el,.str nm,.str (aG (aP p q el) nm)] (.seq 7 ((atR p q el nm).map Label.v)):=by
 obtain⟨r0,r1,r2,r3,c0,c1,c2,c3,hl,hV⟩:=xf p q el (aG (aP p q el) nm) (hp el _) (hq el _);grind[Bu,atR,mj]
end Go.Abs.F
end
section
set_option maxHeartbeats 1000000
set_option maxRecDepth 100000
namespace Go.Abs.F
open Go.Proofs Go.Aut
attribute [-simp] getElem?_pos zBc zBd
end Go.Abs.F
end
section
set_option maxHeartbeats 1000000
set_option maxRecDepth 100000
namespace Go.Abs.F
open Go.Proofs Go.Aut
attribute [-simp] getElem?_pos zBc zBd
end Go.Abs.F
end
section
set_option maxHeartbeats 1000000
set_option maxRecDepth 100000
namespace Go.Abs.F
open Go.Proofs Go.Aut
attribute [-simp] getElem?_pos zBc zBd
theorem jw:∀(l out:List Rule)(i:Nat),(∀r∈out,∃c,r.value=good12 c)->∀r∈gG i out l,∃c,r.value=good12 c
 |[],out,i,h=>by simpa[gG]using h
 |x::l,out,i,h=>by
   simp only[gG];split
   ·exact jw l out _ h
   ·refine jw l _ _ λr hr=>?_
    rcases zAb.1 hr with hr|hr
    ·exact h r hr
    ·simp at hr;subst hr
     unfold iu;split<;>exact⟨_,rfl⟩
theorem jZ(p)(el):aC (ai p) el=[]\/∃l,aC (ai p) el=lu l:=by
 unfold aC;cases h:aJ (ai p).elements el with
 |none=>exact .inl rfl
 |some e=>obtain⟨_,l,hl⟩:=tu p e (k8 h).1;grind
theorem iF(p)(el):(aC (ai p) el).length<=1000:=by
 grind[jZ,vE]
theorem tr(p)(el nm)(c)(h:dp (ai p) el nm=ś c):∃x,GoodC c x:=by
 simp only[dp,zEd]at h;obtain⟨r,hr,rfl⟩:=h;have hm:=rX hr;rcases jZ p el with h|⟨l,h⟩<;>rw[h]at hm
 ·simp at hm
 ·obtain⟨c,hc⟩:=jw (l.take 3) [] 0 (by simp) r hm.1
  rw[hc];exact Gr c
theorem y7(els)(k)(own):(lm els k own).map Allowed.name=els.map Allowed.name:=by
 unfold lm;split
 ·rename_i e he
  refine zFa λi=>?_;grind
 ·rfl
theorem CC:∀(l els:List Allowed)(k:Nat),(iO k els l).map Allowed.name=els.map Allowed.name
 |[],els,k=>by simp[iO]
 |e::l,els,k=>by simp only[iO];rw[CC l,y7]
theorem PN:∀{a b:List Str},a.Nodup->(∀s∈a,s∈b)->a.length<=b.length
 |[],b,_,_=>by simp
 |x::a,b,h,hs=>by
   have h1:=zCe.1 h;have hx:=hs x (by simp)
   have:=PN (a:=a) (b:=b.erase x) h1.2 λs hm=>by
    grind
   grind
theorem j1(p):(ai p).elements.length<=1000:=by
 have h:=congrArg zGh (CC (p.elements.take (m4 0 [] (p.elements.take 5)).length) (m4 0 [] (p.elements.take 5)) 0);grind[zCd,yr,ai]
end Go.Abs.F
end
section
set_option maxHeartbeats 1000000
set_option maxRecDepth 100000
namespace Go.Abs.F
open Go.Proofs Go.Aut
attribute [-simp] getElem?_pos zBc zBd
end Go.Abs.F
end
section
set_option maxHeartbeats 1000000
set_option maxRecDepth 100000
namespace Go.Abs.F
open Go.Proofs Go.Aut
attribute [-simp] getElem?_pos zBc zBd
theorem IR{s}(h:bA s=ğ):cZ s=(s,ğ):=by
 grind[bA,cZ]
theorem kL{s}(h:bA s=ť):0<s.length/\cZ s=(s.take (s.length-1),ť)/\s=s.take (s.length-1)++[42]:=by
 have hp:=P3 h;refine⟨hp,?_⟩;unfold bA cZ at h;unfold cZ;split at h<;>rename_i x h1
 ·split at h<;>rename_i h2
  ·refine⟨by simp[h2],?_⟩
   have hx:x=42:=zGb.1 (by rw[h2];rfl)
   subst hx;refine zFa λi=>?_;grind
  ·simp at h
 ·simp at h
def okC(C:List Str):Prop:=∀c∈C,plain (cZ c).1=ť
theorem gv{c s}(hp:plain (cZ c).1=ť)(h:bA c=ğ):fits c s=decide (s=c):=by
 grind[IR,fits]
theorem n8{c s}(hp:plain (cZ c).1=ť)(h:bA c=ť):fits c s=dH s (c.take (c.length-1)):=by
 obtain⟨_,h1,_⟩:=kL h;rw[h1]at hp;simp only[fits,h1,hp,if_true,zDa]
theorem LY(a b):dH (a++b) a=true:=by simp[dH]
theorem Z4{s p}:dH s p=ť↔∃t,s=p++t:=by
 constructor
 ·intro h
  simp only[dH,zAd,decide_eq_true_eq]at h;grind[List.take_append_drop]
 simp_all[LY]
theorem BC{a t p}(h:p.length<=a.length):dH (a++t) p=dH a p:=by
 grind[dH]
theorem Qw(l:List Str)(nm st:Str):∀B:Str,(∃b∈B,ZM l nm st B=st++[b]/\ma l nm (st++[b])=ť)\/∀b∈B,ma l nm (st++[b])=ğ
 |[]=>.inr λb h=>by cases h
 |b::B=>by
   simp only[ZM];split
   ·simp_all
   ·rename_i h
    rcases Qw l nm st B with⟨c,hc,h1,h2⟩|h1
    ·exact .inl ⟨c,by simp[hc],h1,h2⟩
    ·exact .inr λc hc=>by
      rcases zAa.1 hc with rfl|hc
      ·simpa using h
      ·exact h1 c hc
theorem agA{C}(hC:okC C){c x}(hm:bA c=ť)(hx:x.length<=c.length)(h:ma C c x=ğ):x∈C.map λo=>(cZ o).1:=by
 unfold ma at h;rw[zFb]at h;obtain⟨o,ho,h⟩:=h;refine zAc.2 ⟨o,ho,?_⟩;have hp:=hC o ho;cases hmo:bA o
 ·grind[IR]
 ·obtain⟨h0,h1,h2⟩:=kL hmo
  rw[n8 hp hmo]at h;simp[hmo]at h;obtain⟨h3,h4⟩:=h;rw[h1];simp only[dH,zAd,decide_eq_true_eq,zDb]at h4;grind
theorem Un:LX.Nodup:=by decide
theorem Z3:LX.length=37:=rfl
theorem yq{C}(hC:okC C)(hl:C.length<=37){c}(hm:bA c=ť):
 ma C c (aG C c)=ť/\∃t,aG C c=c.take (c.length-1)++t/\t.length<=1/\∀b∈t,b∈LX:=by
 obtain⟨h0,h1,h2⟩:=kL hm;rw[aG,if_pos hm];obtain⟨st,hst⟩:∃st,st=c.take (c.length-1):=⟨_,rfl⟩;rw[<-hst];have hsl:st.length=c.length-1:=by rw[hst];simp
 split
 ·grind
 ·rename_i hf
  rcases Qw C c st LX with⟨b,hb,h3,h4⟩|h3
  ·grind
  ·exfalso
   have hn:(st::LX.map λb=>st++[b]).Nodup:=by
    rw[zCe];refine⟨?_,?_⟩
    ·simp
    ·unfold List.Nodup
     rw[zCi];refine List.Pairwise.imp ?_ Un;simp
   have hs:∀s∈st::LX.map λb=>st++[b],s∈C.map λo=>(cZ o).1:=by
    intro s hs;rcases zAa.1 hs with rfl|hs
    ·grind[agA]
    ·obtain⟨b,hb,rfl⟩:=zAc.1 hs
     grind[agA]
   have:=PN hn hs;grind[zAj,zCd,Z3]
theorem aa6{C}(hC:okC C)(hl:C.length<=37){c}(hc:c∈C):fits c (aG C c)=true:=by
 cases hm:bA c
 ·rw[gv (hC c hc) hm,aG,if_neg (by simp[hm])];simp
 ·obtain⟨_,t,h,_⟩:=yq hC hl hm
  rw[n8 (hC c hc) hm,h];exact LY _ _
theorem ZL{C c}(hm:bA c=ğ):aG C c=c:=by simp_all[aG,if_neg]
theorem KV{C c x d}(h:ma C c x=ť)(hd:d∈C)(hm:bA d=ğ):d≠x:=by
 have:=zAi.1 h d hd;simp_all
theorem E2{C c x d}(h:ma C c x=ť)(hd:d∈C)(hm:bA d=ť)(hl:c.length<d.length):fits d x=false:=by
 have:=zAi.1 h d hd;simp_all
theorem aaO(P:Str->Prop):∀l:List Str,(∃c∈l,P c)->∃c∈l,P c/\∀d∈l,P d->d.length<=c.length
 |[],h=>by simp_all
 |x::l,h=>by
   by_cases h1:∃c∈l,P c
   ·obtain⟨c,hc,h2,h3⟩:=aaO P l h1
    grind
   simp_all
theorem agi{C}(hC:okC C)(hl:C.length<=37){nm}(h:∃c∈C,fits c nm=ť):∃c∈C,fits c nm=ť/\∀d∈C,fits d (aG C c)=fits d nm:=by
 by_cases hn:nm∈C/\bA nm=ğ
 ·have he:=ZL (C:=C) hn.2
  exact⟨nm,hn.1,by rw[gv (hC nm hn.1) hn.2];simp,λd hd=>by rw[he]⟩
 ·obtain⟨c,hc,hf,hmax⟩:=aaO (λc=>fits c nm=ť) C h
  have hplain:∀d∈C,bA d=ğ->fits d nm=false:=λd hd hm=>by
   rw[gv (hC d hd) hm];grind
  have hm:bA c=true:=by
   grind
  obtain⟨hfree,t,he,ht,_⟩:=yq hC hl hm;refine⟨c,hc,hf,λd hd=>?_⟩;cases hmd:bA d
  ·rw[hplain d hd hmd,gv (hC d hd) hmd]
   grind[decide_eq_false_iff_not,KV]
  grind[E2,fits,kL,n8,Z4,BC]
theorem af5{C}(hC:okC C)(hl:C.length<=37){c d}(hc:c∈C)(hd:d∈C)(hne:c≠d):∃e∈C,fits e (aG C c)≠fits e (aG C d):=by
 have fc:=aa6 hC hl hc;have fd:=aa6 hC hl hd;cases hmc:bA c<;>cases hmd:bA d
 ·refine⟨c,hc,?_⟩
  rw[fc,ZL hmd,gv (hC c hc) hmc];simp[Ne.symm hne]
 ·obtain⟨hf,_⟩:=yq hC hl hmd
  refine⟨c,hc,?_⟩;rw[fc,gv (hC c hc) hmc];simp[Ne.symm (KV hf hc hmc)]
 ·obtain⟨hf,_⟩:=yq hC hl hmc
  refine⟨d,hd,?_⟩;rw[fd,gv (hC d hd) hmd];simp[Ne.symm (KV hf hd hmd)]
 ·obtain⟨hfc,t,hec,_,_⟩:=yq hC hl hmc
  obtain⟨hfd,u,hed,_,_⟩:=yq hC hl hmd;rcases zCc c.length d.length with h|h|h
  ·grind[E2]
  ·refine⟨c,hc,?_⟩
   rw[fc,n8 (hC c hc) hmc,hed];intro h2;obtain⟨hc0,_,ec⟩:=kL hmc;obtain⟨hd0,_,ed⟩:=kL hmd;rw[BC (by simp;omega)]at h2
   simp only[dH,Eq.comm (a:=ť),zAd,decide_eq_true_eq,zDb]at h2;grind
  grind[E2]
theorem af4{C}(hC:okC C)(hl:C.length<=37){c d}(hc:c∈C)(hd:d∈C)(he:aG C c=aG C d):c=d:=by
 grind[af5,absurd]
def ro(C:List Str)(nm ex:Str):Bool:=C.all λc=>fits c ex == fits c nm
theorem aaf{C nm ex}:ro C nm ex=ť↔∀c∈C,fits c ex=fits c nm:=by simp[ro]
def YW(p q:Policy)(el:Str)(a:Attr)(b:Label):Bool:=
 decide (b.kind=4)&&(decide (b.element=el)&&(decide (b.one=bD p el a.name a.value)&&(decide (b.two=bD q el a.name a.value)&&ro (aP p q el) a.name b.name)))
theorem wD{p q el a b}:YW p q el a b=ť↔b.kind=4/\b.element=el/\b.one=bD p el a.name a.value/\b.two=bD q el a.name a.value/\∀c∈aP p q el,fits c b.name=fits c a.name:=by
 simp only[YW,zAd,decide_eq_true_eq,aaf]
structure RulesOK (p:Policy):Prop where
 plain:∀el,∀r∈aC p el,Go.Abs.F.plain (cZ r.name).1=ť
 good:∀el nm c,dp p el nm=ś c->∃x,GoodC c x
 few:∀el,(aC p el).length<=3
 req:∀el,∀r∈aC p el,r.req=ť->bA r.name=ğ
theorem pr{p q el s}:s∈aP p q el↔∃r∈aC p el++aC q el,r.name=s:=by
 simp only[aP,zAb,aeF,zBh,zAc];grind
theorem yv{p q}(hp:RulesOK p)(hq:RulesOK q)(el):okC (aP p q el):=λc hc=>by
 obtain⟨r,hr,rfl⟩:=pr.1 hc;rcases zAb.1 hr with h|h
 ·exact hp.plain el r h
 ·exact hq.plain el r h
theorem Bz{p q}(hp:RulesOK p)(hq:RulesOK q)(el):(aP p q el).length<=37:=by
 have:=pt p q el;have:=hp.few el;have:=hq.few el;omega
theorem wU:∀{l:List Rule}{a b:Str},(∀r∈l,fits r.name a=fits r.name b)->dK l a=dK l b
 |[],a,b,h=>rfl
 |r::l,a,b,h=>by
   simp only[dK];rw[h r (by simp),wU λr hr=>h r (by simp[hr])]
theorem ady{p q el a b s}(h:∀c∈aP p q el,fits c a=fits c b):bD p el a s=bD p el b s/\bD q el a s=bD q el b s:=by
 have h1:dp p el a=dp p el b:=by
  unfold dp;rw[wU λr hr=>h _ (pr.2 ⟨r,zAb.2 (.inl hr),rfl⟩)]
 have h2:dp q el a=dp q el b:=by
  unfold dp;rw[wU λr hr=>h _ (pr.2 ⟨r,zAb.2 (.inr hr),rfl⟩)]
 simp_all[bD,and_self]
theorem abj{p}(hp:RulesOK p){el nm s}(h:bD p el nm s=ť):ep s:=by
 unfold bD at h;split at h
 ·rename_i c hc
  obtain⟨x,hx⟩:=hp.good el nm c hc;exact((tS hx s).1 h).1
 ·cases h
theorem Xx{p el nm s}(h:bD p el nm s=ť):∃r∈aC p el,fits r.name nm=true:=by
 unfold bD at h;split at h
 ·rename_i c hc
  simp only[dp,zEd]at hc;obtain⟨r,hr,_⟩:=hc;exact⟨r,rX hr⟩
 ·cases h
theorem y8{p el r}(h:r∈aC p el):el∈p.elements.map Allowed.name:=by
 unfold aC at h;cases he:aJ p.elements el with
 |none=>grind[Allowed.zero]
 |some e=>obtain⟨h1,h2⟩:=k8 he;grind
theorem oF{p q el}:el∈iL p q↔el∈p.elements.map Allowed.name\/el∈q.elements.map Allowed.name:=by
 grind[iL,ZS,BX]
noncomputable def aY(p q:Policy):List Label:=fO p q (atR p q)
theorem afz{p q b}(h:b∈aY p q)(hk:b.kind=4):b.element∈iL p q/\∃c∈aP p q b.element,b∈atR p q b.element c:=by
 simp only[aY,fO,zAb,zAa,zBa,or_false,zBj,bC]at h;rcases h with(rfl|rfl)|⟨el,he,rfl|⟨nm,hn,h⟩⟩
 ·simp[cc]at hk
 ·simp[cc]at hk
 ·simp[cc]at hk
 ·have:b.element=el:=by
   simp only[atR,it,zAb]at h;rcases h with((h|h)|h)|h<;>(unfold lab at h;grind)
  grind
theorem abd{p q}(hp:RulesOK p)(hq:RulesOK q)(el nm)(f1 f2):uT (bD p el nm) (bD q el nm) f1 f2 (Dr (bD p el nm) (bD q el nm) f1 f2):=by
 obtain⟨r0,r1,r2,r3,c0,c1,c2,c3,_⟩:=xf p q el nm (hp.good el nm) (hq.good el nm);cases f1<;>cases f2
 ·rw[mj c3];exact c3
 ·rw[mj c2];exact c2
 ·rw[mj c1];exact c1
 grind[mj]
theorem Uq{p q el c b}:b∈atR p q el c↔∃f1 f2 w,Dr (bD p el (aG (aP p q el) c)) (bD q el (aG (aP p q el) c)) f1 f2=ś w/\b=⟨4,el,aG (aP p q el) c,bA c,bK w,f1,f2⟩:=by
 have hl:∀{x:Str}{mn f1 f2 r},b∈lab el x mn f1 f2 r↔∃w,r=ś w/\b=⟨4,el,x,mn,bK w,f1,f2⟩:=λ{x mn f1 f2 r}=>by
  cases r<;>simp[lab]
 simp only[atR,it,zAb,hl];constructor
 ·grind
 ·rintro⟨f1,f2,w,h1,h2⟩
  cases f1<;>cases f2
  ·simp_all
  ·simp_all
  ·simp_all
  simp_all
theorem JS{p q}(hp:RulesOK p)(hq:RulesOK q){b}(h:b∈aY p q)(hk:b.kind=4):
 ∃c∈aP p q b.element,b.name=aG (aP p q b.element) c/\b.many=bA c/\ep b.value/\bD p b.element b.name b.value=b.one/\bD q b.element b.name b.value=b.two:=by
 obtain⟨_,c,hc,hb⟩:=afz h hk;obtain⟨f1,f2,w,hw,hb⟩:=Uq.1 hb;have hcell:=abd hp hq b.element (aG (aP p q b.element) c) f1 f2;rw[hw]at hcell;have e1:=congrArg Label.name hb;have e2:=congrArg Label.many hb;have e3:=congrArg Label.value hb;have e4:=congrArg Label.one hb;have e5:=congrArg Label.two hb;simp only at e1 e2 e3 e4 e5;exact⟨c,hc,e1,e2,by rw[e3];exact kM hcell.1,by rw[e1,e3,e4];exact hcell.2.1,by rw[e1,e3,e5];exact hcell.2.2.1⟩
theorem Qc{p q}(hp:RulesOK p)(hq:RulesOK q){el a}(h:bD p el a.name a.value=ť\/bD q el a.name a.value=ť):∃b∈aY p q,YW p q el a b=true:=by
 have hs:ep a.value:=by
  grind[abj]
 have hr:∃r∈aC p el++aC q el,fits r.name a.name=true:=by
  grind[Xx]
 obtain⟨r,hr,hf⟩:=hr
 have hel:el∈iL p q:=by
  grind[oF,y8]
 obtain⟨c,hc,_,hall⟩:=agi (yv hp hq el) (Bz hp hq el) ⟨r.name,pr.2 ⟨r,hr,rfl⟩,hf⟩;have hcell:=abd hp hq el (aG (aP p q el) c) (bD p el a.name a.value) (bD q el a.name a.value);have hacc:=ady (s:=a.value) hall;cases hw:Dr (bD p el (aG (aP p q el) c)) (bD q el (aG (aP p q el) c)) (bD p el a.name a.value) (bD q el a.name a.value)with
 |none=>
   rw[hw]at hcell;exact absurd (hcell _ hs hacc.1 hacc.2) id
 |some w=>
   refine⟨⟨4,el,aG (aP p q el) c,bA c,bK w,bD p el a.name a.value,bD q el a.name a.value⟩,?_,?_⟩
   ·simp only[aY,fO,zAb,zBj,bC,zAa]
    exact .inr ⟨el,hel,.inr ⟨c,hc,Uq.2 ⟨_,_,w,hw,rfl⟩⟩⟩
   simp_all[wD]
def B4(r:Rule):Prop:=plain (cZ r.name).1=ť/\(r.req=ť->bA r.name=ğ)
theorem Oz(i)(hi:i<3)(r):B4 (iu i r):=by
 unfold iu;split
 ·rename_i h
  refine⟨h,λh2=>?_⟩;simp only[zAd,Bool.not_eq_true']at h2;exact h2.1
 ·have h3:i=0\/i=1\/i=2:=by omega
  rcases h3 with rfl|rfl|rfl
  ·exact⟨show plain (cZ ((Cd[0]?).getD [])).1=ť by decide,λ_=>show bA ((Cd[0]?).getD [])=ğ by decide⟩
  ·exact⟨show plain (cZ ((Cd[1]?).getD [])).1=ť by decide,λ_=>show bA ((Cd[1]?).getD [])=ğ by decide⟩
  ·exact⟨show plain (cZ ((Cd[2]?).getD [])).1=ť by decide,λh=>by simp at h⟩
theorem sM:∀(l out:List Rule)(i:Nat),i+l.length<=3->(∀r∈out,B4 r)->∀r∈gG i out l,B4 r
 |[],out,i,_,h=>by simpa[gG]using h
 |x::l,out,i,hi,h=>by
   simp only[zAj]at hi;simp only[gG];split
   ·exact sM l out _ (by omega) h
   ·refine sM l _ _ (by omega) λr hr=>?_
    rcases zAb.1 hr with hr|hr
    ·exact h r hr
    ·simp at hr;subst hr
     exact Oz i (by omega) x
theorem rS (p) (el):∀ r∈aC (ai p) el,B4 r:=by
 rcases jZ p el with h | ⟨l,h⟩<;>rw [h]
 · simp
 · exact sM (l.take 3) [] 0 (by simp; omega) (by simp)
theorem eD (p):RulesOK (ai p) where
 plain el r hr:=(rS p el r hr).1
 good:=tr p
 few el:=by
  grind[jZ,vE]
 req el r hr:=(rS p el r hr).2
structure Wi where
 len:Nat
 nl:Nat
 row:Nat->Nat
 many:Nat->Bool
 attr:Nat->Bool
 text:Nat->Bool
 stands:Nat->Bool
 needed:List Nat
def Wi.lacks(w:Wi)(f t:Nat):Bool:=w.needed.any λn=>decide (f<n)&&decide (n<t)
def Wi.ends(w:Wi)(s:Nat):Bool:=!decide (s=w.len+3)&&(decide (w.len+1<=s)|| !w.lacks s (w.len+2))
def Wi.next(w:Wi)(s r:Nat):Nat:=
 if w.len+3<=s\/w.nl<=r then w.len+3
 else if w.attr r=ť then(if w.len+1<=s\/w.row r=0\/(w.row r<=s/\¬(w.row r=s/\w.many r=ť))\/w.lacks s (w.row r)=ť then w.len+3 else w.row r)
 else if w.ends s=ğ\/w.stands r=ğ then w.len+3
 else if w.text r=ğ then w.len+1
 else if s=w.len+2 then w.len+3 else w.len+2
def Wi.run(w:Wi):Nat->List Nat->Nat
 |s,[]=>s
 |s,r::rs=>w.run (w.next s r) rs
theorem Wi.run_append(w:Wi):∀(a b:List Nat)(s:Nat),w.run s (a++b)=w.run (w.run s a) b
 |[],b,s=>rfl
 |x::a,b,s=>by simp only[zBe,Wi.run];exact Wi.run_append w a b _
theorem Wi.next_dead(w:Wi)(r):w.next (w.len+3) r=w.len+3:=by simp_all[Wi.next,if_pos,zCb]
theorem Wi.run_dead(w:Wi):∀rs:List Nat,w.run (w.len+3) rs=w.len+3
 |[]=>rfl
 |r::rs=>by simp only[Wi.run,Wi.next_dead];exact Wi.run_dead w rs
theorem Wi.ends_dead(w:Wi):w.ends (w.len+3)=false:=by simp[Wi.ends]
def Wi.up(w:Wi)(r b:Nat):Prop:=r<w.row b\/(r=w.row b/\w.many b=ť)
theorem Wi.run_attrs(w:Wi)(hn:∀n∈w.needed,n<=w.len+1):∀(zs:List Nat)(s:Nat),s<=w.len->(∀a∈zs,a<w.nl/\w.attr a=ť/\0<w.row a/\w.row a<=w.len)->(∀a∈zs,w.up s a)->zs.Pairwise (λa b=>w.up (w.row a) b)->
 (w.run s zs=w.len+3\/w.run s zs<=w.len)/\(w.ends (w.run s zs)=ť↔∀n∈w.needed,s<n->∃a∈zs,w.row a=n)
 |[],s,hs,_,_,_=>by
   refine⟨.inr hs,?_⟩;have h1:¬s=w.len+3:=by omega
   have h2:¬w.len+1<=s:=by omega
   have e:w.ends (w.run s [])=ť↔∀n∈w.needed,¬(s<n/\n<w.len+2):=by
    simp[Wi.run,Wi.ends,Wi.lacks,h1,h2];grind
   grind
 |a::zs,s,hs,ha,hu,hp=>by
   obtain⟨h1,h2,h3,h4⟩:=ha a (by simp)
   have hua:=hu a (by simp)
   rw[List.pairwise_cons]at hp;simp only[Wi.run];have c1:¬(w.len+3<=s\/w.nl<=a):=by omega
   have c2:¬(w.row a<=s/\¬(w.row a=s/\w.many a=ť)):=by
    rintro⟨k1,k2⟩;rcases hua with h|⟨h,hm⟩
    ·omega
    simp_all
   cases hl:w.lacks s (w.row a)
   ·have hx:w.next s a=w.row a:=by
     unfold Wi.next;grind
    rw[hx];obtain⟨i1,i2⟩:=Wi.run_attrs w hn zs (w.row a) h4 (λb hb=>ha b (by simp[hb])) (λb hb=>hp.1 b hb) hp.2
    refine⟨i1,i2.trans ?_⟩
    have hl2:∀n∈w.needed,s<n->w.row a<=n:=λn hm hsn=>by
     simp_all[Wi.lacks,List.any_eq_false,zAd,decide_eq_true_eq,not_and]
    grind
   ·have hx:w.next s a=w.len+3:=by
     simp_all[Wi.next,if_neg,if_pos]
    rw[hx,Wi.run_dead,Wi.ends_dead];refine⟨.inl rfl,?_⟩;simp only[Bool.false_eq_true,false_iff];intro h;unfold Wi.lacks at hl;rw[zFg]at hl;obtain⟨n,hm,hl⟩:=hl;simp only[zAd,decide_eq_true_eq]at hl;obtain⟨b,hb,h6⟩:=h n hm hl.1;rcases zAa.1 hb with rfl|hb
    ·omega
    ·rcases hp.1 b hb with h7|⟨h7,_⟩<;>omega
def QO(text:Nat->Bool):Bool->List Nat->Prop
 |_,[]=>True
 |b,k::ks=>¬(b=ť/\text k=ť)/\QO text (text k) ks
theorem Wi.ends_calm(w:Wi):w.ends (w.len+1)=true:=by simp[Wi.ends]
theorem Wi.ends_text(w:Wi):w.ends (w.len+2)=true:=by simp[Wi.ends]
theorem Wi.run_kids(w:Wi):∀(ks:List Nat)(s:Nat),s<=w.len+3->w.ends s=ť->(∀k∈ks,w.attr k=ğ)->QO w.text (decide (s=w.len+2)) ks->
 w.ends (w.run s ks)=ks.all λk=>decide (k<w.nl)&&w.stands k
 |[],s,hb,hs,_,_=>by grind[Wi.run]
 |k::ks,s,hb,hs,ha,hj=>by
   simp only[Wi.run,zEg];have hk:=ha k (by simp)
   have hs3:¬w.len+3<=s:=by
    by_cases h:s=w.len+3
    ·grind[Wi.ends_dead]
    ·omega
   by_cases h1:w.len+3<=s\/w.nl<=k
   ·have hx:w.next s k=w.len+3:=by simp_all[Wi.next,if_pos]
    grind[Wi.run_dead,Wi.ends_dead,absurd]
   ·have h2:k<w.nl:=by omega
    cases hst:w.stands k
    ·simp_all[Wi.next,if_neg,if_pos,Wi.run_dead,Wi.ends_dead]
    ·simp only[h2,decide_true,zDa]
     simp only[QO]at hj;cases ht:w.text k
     ·have hx:w.next s k=w.len+1:=by
       simp_all[Wi.next,if_neg,if_pos]
      rw[hx];refine Wi.run_kids w ks _ (by omega) w.ends_calm (λj hj=>ha j (by simp[hj])) ?_
      simp_all
     ·have hne:¬s=w.len+2:=λe=>hj.1 ⟨by simp[e],ht⟩
      have hx:w.next s k=w.len+2:=by
       simp_all[Wi.next,if_neg]
      rw[hx];refine Wi.run_kids w ks _ (by omega) w.ends_text (λj hj=>ha j (by simp[hj])) ?_
      simp_all
inductive Tr where
 |mk (label:Nat) (kids:List Tr)
def Tr.label:Tr->Nat
 |⟨l,_⟩=>l
def Tr.kids:Tr->List Tr
 |⟨_,k⟩=>k
def bP(n:Nat):Tr:=⟨n,[]⟩
structure SideP where
 next:List (List Nat)
 out:List Nat
structure HedgeP where
 states:Nat
 labels:List SideP
 root:SideP
section
variable {p:List Tr->Prop}(h0:p [])(h1:∀t l,p t.kids->p l->p (t::l))
include h0 h1
mutual
theorem kJ:∀l,p l
 |[]=>h0
 |t::l=>h1 t l (XP t) (kJ l)
theorem XP:∀t:Tr,p t.kids
 |⟨_,ks⟩=>kJ ks
end
end
mutual
def stT(h:HedgeP):Tr->Option Nat
 |⟨l,ks⟩=>match h.labels[l]? with
   |none=>ń
   |some s=>match goT h s 0 ks with
     |none=>ń
     |some a=>s.out[a]?
def goT(h:HedgeP)(s:SideP):Nat->List Tr->Option Nat
 |a,[]=>ś a
 |a,t::ts=>match stT h t with
   |none=>ń
   |some v=>match s.next[a]? with
     |none=>ń
     |some row=>match row[v]? with
       |none=>ń
       |some b=>goT h s b ts
end
theorem XT(h)(t):stT h t=match h.labels[t.label]? with
 |none=>ń
 |some s=>match goT h s 0 t.kids with
   |none=>ń
   |some a=>s.out[a]?:=by cases t;grind[stT,Tr.label,Tr.kids]
def fM(n own:Nat)(next:Nat->Nat->Nat)(tells:Nat->Nat):SideP:=
 ⟨(zEb own).map λs=>(zEb (n+1)).map (next s),(zEb own).map tells⟩
def X9(next:Nat->Nat->Nat):Nat->List Nat->Nat
 |a,[]=>a
 |a,v::vs=>X9 next (next a v) vs
theorem rT(h)(n own)(next)(tells)(hx:∀s r,s<own->r<=n->next s r<own):
 ∀(ts:List Tr)(rd:Tr->Nat)(a:Nat),a<own->(∀t∈ts,stT h t=ś (rd t)/\rd t<=n)->goT h (fM n own next tells) a ts=ś (X9 next a (ts.map rd))/\X9 next a (ts.map rd)<own
 |[],rd,a,ha,_=>by simp[goT,X9,ha]
 |t::ts,rd,a,ha,ht=>by
   obtain⟨h1,h2⟩:=ht t (by simp)
   have e1:(fM n own next tells).next[a]?=ś ((zEb (n+1)).map (next a)):=by
    grind[fM,zDg]
   have e2:((zEb (n+1)).map (next a))[rd t]?=ś (next a (rd t)):=by
    grind
   simp only[goT,h1,e1,e2,zCa,X9];exact rT h n own next tells hx ts rd (next a (rd t)) (hx _ _ ha h2) λu hu=>ht u (by simp[hu])
theorem rG{n own next tells a}(ha:a<own):(fM n own next tells).out[a]?=ś (tells a):=by
 grind[fM,zDg]
theorem Wi.run_runF(w:Wi):∀(rs:List Nat)(s:Nat),w.run s rs=X9 w.next s rs
 |[],s=>rfl
 |r::rs,s=>by simp only[Wi.run,X9];exact Wi.run_runF w rs _
theorem Wi.next_lt(w:Wi)(hr:∀r,w.row r<=w.len)(s r):w.next s r<w.len+4:=by
 grind[Wi.next]
def cH(p:Policy)(par:Str)(b:Label):Bool:=
 if b.kind=1 then hasS (mW p par) ja else if b.kind=2 then hasS (mW p par) dU else if b.kind=3 then(aJ p.elements b.element).isSome&&hasS (mW p par) b.element else ğ
def aR(par:Str)(names:List Str)(b:Label):List Str:=
 if b.kind=4/\par≠[]/\b.element=par then(if names.getLast?=ś b.name then names else names++[b.name])else names
def ar(par:Str):List Str->List Label->List Str
 |ns,[]=>ns
 |ns,b::l=>ar par (aR par ns b) l
def bp(par:Str):List Str->List Label->List Nat
 |_,[]=>[]
 |ns,b::l=>(if b.kind=4/\par≠[]/\b.element=par then(aR par ns b).length else 0)::bp par (aR par ns b) l
def jj(l:List Str)(s:Str):Nat:=match l.findIdx? (λx=>decide (x=s))with
 |some i=>i
 |none=>l.length
def au(p:Policy)(L:List Label)(par:Str)(req:List Str):Wi where
 len:=(ar par [] L).length
 nl:=L.length
 row r:=((bp par [] L)[r]?).getD 0
 many r:=match L[r]? with
  |some b=>b.many
  |none=>ğ
 attr r:=match L[r]? with
  |some b=>decide (b.kind=4)
  |none=>ğ
 text r:=match L[r]? with
  |some b=>decide (b.kind=1)
  |none=>ğ
 stands r:=match L[r]? with
  |some b=>cH p par b
  |none=>ğ
 needed:=req.map λs=>jj (ar par [] L) s+1
def qj(al:Label->Bool)(b:Label):Bool:=decide (b.kind=1)||(decide (b.kind=2)||(decide (b.kind=4)&&al b))
def jM(L:List Label)(al:Label->Bool)(i:Nat)(b:Label):SideP:=
 fM L.length 2 (λ_ _=>1) λs=>if s=0/\qj al b=ť then i else L.length
def sy(L:List Label)(w:Wi)(i:Nat):SideP:=fM L.length (w.len+4) w.next λs=>if w.ends s=ť then i else L.length
def b6(e:Allowed):List Str:=(e.rules.filter λr=>r.req).map Rule.name
def eo(p:Policy)(L:List Label)(al:Label->Bool)(i:Nat)(b:Label):SideP:=
 if b.kind=3 then(match aJ p.elements b.element with
  |some e=>sy L (au p L b.element (b6 e)) i
  |none=>jM L al i b)else jM L al i b
def rD(p:Policy)(L:List Label):SideP:=
 fM L.length ((au p L [] []).len+4) (au p L [] []).next λs=>if(au p L [] []).ends s=ť then 1 else 0
def ba(p:Policy)(L:List Label)(al:Label->Bool):HedgeP:=⟨L.length+1,L.mapIdx λi b=>eo p L al i b,rD p L⟩
def xW(h:HedgeP)(ts:List Tr):Bool:=match goT h h.root 0 ts with
 |none=>ğ
 |some a=>decide (h.root.out[a]?=ś 1)
def lP(par:Str)(b:Label):Prop:=b.kind=4/\par≠[]/\b.element=par
instance (par:Str)(b:Label):Decidable (lP par b):=by unfold lP;infer_instance
theorem ip{par ns b}(h:¬lP par b):aR par ns b=ns:=if_neg h
theorem io{par ns b}(h:lP par b):aR par ns b=if ns.getLast?=ś b.name then ns else ns++[b.name]:=if_pos h
theorem Jp{par ns b}(h:lP par b):0<(aR par ns b).length/\(aR par ns b)[(aR par ns b).length-1]?=ś b.name:=by
 grind[io,zAf,zAg,zDj]
theorem qH{par}(ns)(b):∃u,aR par ns b=ns++u:=by
 by_cases h:lP par b
 ·rw[io h]
  split
  ·simp
  ·exact⟨_,rfl⟩
 simp_all[ip]
theorem F8{par}:∀(l:List Label)(ns:List Str),∃u,ar par ns l=ns++u
 |[],ns=>⟨[],by simp[ar]⟩
 |b::l,ns=>by
   obtain⟨u,hu⟩:=qH (par:=par) ns b;obtain⟨v,hv⟩:=F8 (par:=par) l (aR par ns b);grind[ar,zFc]
theorem fX{par}:∀(l:List Label)(ns:List Str),(bp par ns l).length=l.length
 |[],ns=>rfl
 |b::l,ns=>by simp[bp,fX l]
theorem nZ{par}:∀(l:List Label)(ns:List Str)(i:Nat)(b:Label),l[i]?=ś b->lP par b->
 ∃r,(bp par ns l)[i]?=ś r/\ns.length<=r/\0<r/\r<=(ar par ns l).length/\(ar par ns l)[r-1]?=ś b.name
 |[],ns,i,b,h,_=>by simp at h
 |x::l,ns,0,b,h,hb=>by
   simp only[zBb,zCj]at h;subst h;obtain⟨h1,h2⟩:=Jp (ns:=ns) hb;obtain⟨u,hu⟩:=F8 (par:=par) l (aR par ns x);obtain⟨v,hv⟩:=qH (par:=par) ns x;refine⟨(aR par ns x).length,?_,?_,h1,?_,?_⟩
   ·simp only[bp,zBb]
    exact congrArg ś (if_pos hb)
   ·rw[hv,zAg];omega
   ·grind[ar,zAg]
   grind[ar,zEa]
 |x::l,ns,i+1,b,h,hb=>by
   simp only[zAh]at h;obtain⟨r,h1,h2,h3,h4,h5⟩:=nZ l (aR par ns x) i b h hb;obtain⟨v,hv⟩:=qH (par:=par) ns x;have:ns.length<=(aR par ns x).length:=by rw[hv,zAg];omega
   exact⟨r,by grind[bp,zAh],by omega,h3,h4,h5⟩
theorem I0{par}:∀(l:List Label)(ns:List Str)(i:Nat)(b:Label),l[i]?=ś b->¬lP par b->(bp par ns l)[i]?=ś 0
 |[],ns,i,b,h,_=>by simp at h
 |x::l,ns,0,b,h,hb=>by
   simp only[zBb,zCj]at h;subst h;simp only[bp,zBb];exact congrArg ś (if_neg hb)
 |x::l,ns,i+1,b,h,hb=>by
   simp only[zAh]at h;simpa only[bp,zAh]using I0 l (aR par ns x) i b h hb
theorem Pr{par}:∀(l:List Label)(ns:List Str)(i j:Nat)(b c:Label),i<=j->l[i]?=ś b->l[j]?=ś c->lP par b->lP par c->∃r s,(bp par ns l)[i]?=ś r/\(bp par ns l)[j]?=ś s/\r<=s
 |[],ns,i,j,b,c,_,h,_,_,_=>by simp at h
 |x::l,ns,i+1,0,b,c,hij,_,_,_,_=>by omega
 |x::l,ns,0,0,b,c,_,h,h2,hb,hc=>by
   obtain⟨r,h1,_⟩:=nZ (x::l) ns 0 b h hb;simp_all
 |x::l,ns,0,j+1,b,c,_,h,h2,hb,hc=>by
   simp only[zBb,zCj]at h;subst h;simp only[zAh]at h2;obtain⟨r,h3,h4,_⟩:=nZ l (aR par ns x) j c h2 hc;refine⟨(aR par ns x).length,r,?_,by grind[bp,zAh],h4⟩
   simp only[bp,zBb];exact congrArg ś (if_pos hb)
 |x::l,ns,i+1,j+1,b,c,hij,h,h2,hb,hc=>by
   simp only[zAh]at h h2;simpa only[bp,zAh]using Pr l (aR par ns x) i j b c (by omega) h h2 hb hc
theorem eA{par}:∀(a b:List Label)(ns:List Str),ar par ns (a++b)=ar par (ar par ns a) b
 |[],b,ns=>rfl
 |x::a,b,ns=>by simp only[zBe,ar];exact eA a b _
theorem sU{par}:∀(l:List Label)(ns:List Str),(∀b∈l,¬lP par b)->ar par ns l=ns
 |[],ns,_=>rfl
 |x::l,ns,h=>by
   simp only[ar];rw[ip (h x (by simp))]
   exact sU l ns λb hb=>h b (by simp[hb])
theorem Cj{par nm}:∀(l:List Label)(ns:List Str),(∀b∈l,lP par b/\b.name=nm)->ar par ns l=ns\/ar par ns l=ns++[nm]
 |[],ns,_=>.inl rfl
 |x::l,ns,h=>by
   obtain⟨h1,h2⟩:=h x (by simp)
   have hl:∀b∈l,lP par b/\b.name=nm:=λb hb=>h b (by simp[hb])
   simp only[ar];rw[io h1,h2];split
   ·exact Cj l ns hl
   ·right
    have key:∀(l:List Label),(∀b∈l,lP par b/\b.name=nm)->ar par (ns++[nm]) l=ns++[nm]:=λl=>by
     induction l with
     |nil=>intro _;rfl
     |cons y l ih=>
       simp_all[ar,io,if_pos]
    exact key l hl
theorem oG{par}{α:Type}(f)(nm):∀(l:List α)(ns:List Str),(∀x∈l,∀b∈f x,lP par b/\b.name=nm x)->(∀x∈l,nm x ∉ ns)->ns.Nodup->(l.map nm).Nodup->
 (ar par ns (l.flatMap f)).Nodup
 |[],ns,_,_,h,_=>by simpa[ar]using h
 |x::l,ns,hf,hn,h,hd=>by
   rw[zCg,eA];rw[zCa,zCe]at hd;rcases Cj (f x) ns (hf x (by simp))with h1|h1
   ·rw[h1]
    exact oG f nm l ns (λy hy=>hf y (by simp[hy])) (λy hy=>hn y (by simp[hy])) h hd.2
   ·rw[h1]
    refine oG f nm l _ (λy hy=>hf y (by simp[hy])) (λy hy hm=>?_) ?_ hd.2
    ·simp_all
    grind
theorem IV(l):(sd l).Nodup:=(abR l).imp λh e=>by grind
theorem Ui(p q)(el):(aP p q el).Nodup:=by
 grind[aP,zFd,IV,aeF]
theorem Rk(p q):(iL p q).Nodup:=IV _
theorem Z8{p q el c b}(h:b∈atR p q el c):b.kind=4/\b.element=el/\b.name=aG (aP p q el) c/\b.many=bA c:=by
 obtain⟨f1,f2,w,_,rfl⟩:=Uq.1 h;simp
theorem F7{p q}(hp:RulesOK p)(hq:RulesOK q)(par:Str)(hpar:par≠[]):(ar par [] (aY p q)).Nodup:=by
 have hel:(ar par [] ((aP p q par).flatMap (atR p q par))).Nodup:=by
  refine oG (atR p q par) (aG (aP p q par)) (aP p q par) [] (λc hc b hb=>?_) (λc _ h=>by cases h) (by simp) ?_
  ·obtain⟨h1,h2,h3,_⟩:=Z8 hb
   exact⟨⟨h1,hpar,h2⟩,h3⟩
  grind[List.Nodup,List.Pairwise.imp_of_mem,Ui,af4,yv,Bz]
 have hone:∀el,el≠par->∀ns,ar par ns (bC p q (atR p q) el)=ns:=λel hne ns=>by
  refine sU _ _ λb hb h=>?_;simp only[bC,zAa,zBj]at hb;rcases hb with rfl|⟨c,_,hb⟩
  ·simp[lP,cc]at h
  ·exact hne ((Z8 hb).2.1.symm.trans h.2.2)
 have hself:ar par [] (bC p q (atR p q) par)=ar par [] ((aP p q par).flatMap (atR p q par)):=by
  grind[bC,ar,ip,lP,cc]
 have hall:∀l:List Str,l.Nodup->(par ∉ l->∀ns,ar par ns (l.flatMap (bC p q (atR p q)))=ns)/\(ar par [] (l.flatMap (bC p q (atR p q)))).Nodup:=λl=>by
  induction l with
  |nil=>simp_all[ar]
  |cons x l ih=>
    intro h;rw[zCe]at h;obtain⟨i1,i2⟩:=ih h.2;refine⟨λhm ns=>?_,?_⟩
    ·simp only[zAa,not_or]at hm
     grind[eA]
    ·rw[zCg,eA]
     by_cases hx:x=par
     ·simp_all
     simp_all
 have e:ar par [] (aY p q)=ar par [] ((iL p q).flatMap (bC p q (atR p q))):=by
  simp only[aY,fO];rw[eA];simp_all[sU,cc,zAa,zBa,or_false,lP]
 grind[Rk]
def fG(k:Int)(nm:Str)(b:Label):Bool:=
 if k=2 then decide (b.kind=1)else if k=3 then decide (b.kind=2)else if k=1 then decide (b.kind=3)&&decide (b.element=nm)else ğ
def cD(L:List Label)(k:Int)(nm:Str):Int:=fdx (fG k nm) 0 L
def dz(l:List Nat):List Nat:=l.mergeSort λa b=>decide (a<=b)
mutual
def mS(L:List Label)(F:Str->Attr->Int):Node->Option Tr
 |⟨k,nm,a,t,ks⟩=>if cD L k nm<0 then ń
   else if k=1 then(if a.all (λx=>decide (0<=F nm x))=ť then(match bc L F ks with
    |none=>ń
    |some ts=>ś ⟨(cD L k nm).toNat,(dz (a.map λx=>(F nm x).toNat)).map bP++ts⟩)else ń)
   else ś ⟨(cD L k nm).toNat,[]⟩
def bc(L:List Label)(F:Str->Attr->Int):List Node->Option (List Tr)
 |[]=>ś []
 |n::l=>match mS L F n with
   |none=>ń
   |some t=>match bc L F l with
     |none=>ń
     |some ts=>ś (t::ts)
end
theorem ov(L:List Label)(F:Str->Attr->Int)(n):mS L F n=if cD L n.kind n.name<0 then ń
 else if n.kind=1 then(if n.attrs.all (λx=>decide (0<=F n.name x))=ť then(match bc L F n.kids with
  |none=>ń
  |some ts=>ś ⟨(cD L n.kind n.name).toNat,(dz (n.attrs.map λx=>(F n.name x).toNat)).map bP++ts⟩)else ń)
 else ś ⟨(cD L n.kind n.name).toNat,[]⟩:=by cases n;simp only[mS]
mutual
def okT(p:Policy):Node->Bool
 |⟨k,nm,a,t,ks⟩=>if k=1 then(match aJ p.elements nm with
   |none=>ğ
   |some e=>zo allows12 e a&&qF p nm ks)else ť
def qF(p:Policy)(par:Str):List Node->Bool
 |[]=>ť
 |n::l=>(lz p par n&&okT p n)&&qF p par l
end
theorem Jg(p)(n):okT p n=if n.kind=1 then(match aJ p.elements n.name with
 |none=>ğ
 |some e=>zo allows12 e n.attrs&&qF p n.name n.kids)else true:=by cases n;simp only[okT]
def qG:Bool->List Node->Prop
 |_,[]=>True
 |b,n::l=>¬(b=ť/\n.kind=2)/\qG (decide (n.kind=2)) l
def ndC(n:Node):Prop:=(n.kind=1\/n.kind=2\/n.kind=3)/\(n.kind=1->named n.name=ť/\(n.attrs.map Attr.name).Nodup)/\(n.kind≠1->n.kids=[])/\qG ğ n.kids
structure LabOK (p:Policy) (L:List Label) (al:Label->Bool) (F:Str->Attr->Int):Prop where
 found:∀el a,0<=F el a->∃b,L[(F el a).toNat]?=ś b/\b.kind=4/\b.element=el/\al b=bD p el a.name a.value/\(b.many=ğ->a.name=b.name)/\∀r∈aC p el,r.req=ť->(b.name=r.name↔a.name=r.name)
 find:∀el a,bD p el a.name a.value=ť->0<=F el a
 same:∀b∈L,∀c∈L,b.kind=4->c.kind=4->b.element=c.element->b.name=c.name->b.many=c.many
 place:∀el,(aJ p.elements el).isSome=ť->0<=cD L 1 el
 placeT:∀el,0<=cD L 2 el/\0<=cD L 3 el
 names:∀par,par≠[]->(ar par [] L).Nodup
 lists:∀par s,named s=ť->hasS (mW p par) s=ť->(aJ p.elements s).isSome=ť
theorem Zl{α}(f):∀(l:List α)(k:Nat),0<=fdx f k l->∃b,l[(fdx f k l).toNat-k]?=ś b/\f b=ť/\k<=(fdx f k l).toNat/\∀i c,i<(fdx f k l).toNat-k->l[i]?=ś c->f c=ğ
 |[],k,h=>by simp[fdx]at h
 |x::l,k,h=>by
   simp only[fdx]at h⊢;split
   ·simp_all
   ·rename_i hx
    rw[if_neg hx]at h;obtain⟨b,h1,h2,h3,h4⟩:=Zl f l (k+1) h;grind
theorem iZ{L k nm}(h:0<=cD L k nm):∃b,L[(cD L k nm).toNat]?=ś b/\fG k nm b=true:=by
 obtain⟨b,h1,h2,_⟩:=Zl (fG k nm) L 0 h;exact⟨b,h1,h2⟩
theorem afL{l s}:(fT l s).isSome=ť↔∃a∈l,a.name=s:=by
 induction l with
 |nil=>simp[fT]
 |cons a l ih=>
   simp only[fT];grind
theorem BE{p el e}(he:aJ p.elements el=ś e)(a):xU allows12 e a=bD p el a.name a.value:=by
 grind[xU,bD,dp,aC,dK]
theorem Qk{p el e}(he:aJ p.elements el=ś e)(l):zo allows12 e l=(l.all (λa=>bD p el a.name a.value)&&whole e l):=by
 unfold zo;congr 1;rw[zGc,decide_eq_true_iff,wl,List.length_filter_eq_length_iff,zAi];grind[BE]
theorem aiF{l s}(h:jj l s<l.length):l[jj l s]?=ś s:=by
 grind[jj,decide,zBi,zCf]
theorem YM:∀{l:List Str}{s:Str}{i:Nat},l.Nodup->l[i]?=ś s->jj l s=i:=by
 intro l s i hn hi;have hlt:=(zAf.1 hi).1;have hi2:=(zAf.1 hi).2;unfold jj;cases hf:l.findIdx? (λx=>decide (x=s))with
 |none=>
   simp_all
 |some j=>
   rw[zBi]at hf;obtain⟨h1,h2,_⟩:=hf;simp only[decide_eq_true_eq]at h2;grind[List.pairwise_iff_getElem,zCc,absurd]
theorem aaZ(l)(s):jj l s<=l.length:=by
 grind[jj,decide,zBi]
theorem Wi.run_bad(w:Wi):∀(rs:List Nat)(s:Nat),(∃r∈rs,w.nl<=r)->w.run s rs=w.len+3
 |[],s,h=>by obtain⟨r,hr,_⟩:=h;cases hr
 |x::rs,s,h=>by
   simp only[Wi.run];by_cases hx:w.nl<=x
   ·have:w.next s x=w.len+3:=by unfold Wi.next;rw[if_pos (.inr hx)]
    rw[this,Wi.run_dead]
   ·refine Wi.run_bad w rs _ ?_
    obtain⟨r,hr,h2⟩:=h;rcases zAa.1 hr with rfl|hr
    ·exact absurd h2 hx
    ·exact⟨r,hr,h2⟩
theorem Wi.run_kids_not(w:Wi):∀(ks:List Nat)(s:Nat),w.ends s=ğ->(∀k∈ks,w.attr k=ğ)->w.ends (w.run s ks)=ğ
 |[],s,hs,_=>by grind[Wi.run]
 |k::ks,s,hs,ha=>by
   simp_all[Wi.next,if_neg,if_pos,Wi.run,Wi.run_dead,Wi.ends_dead]
theorem bo(l):(dz l).Perm l:=List.mergeSort_perm _ _
theorem FV(l):(dz l).Pairwise λa b=>a<=b:=by
 have h:=List.pairwise_mergeSort (le:=λ(a b:Nat)=>decide (a<=b)) (λa b c h1 h2=>by simp at *;omega) (λa b=>by simp;omega) l
 exact h.imp λh=>by simpa using h
def rdN(p:Policy)(L:List Label)(n:Node):Nat:=if okT p n=ť then(cD L n.kind n.name).toNat else L.length
def rdA(L:List Label)(al:Label->Bool)(j:Nat):Nat:=match L[j]? with
 |some b=>if al b=ť then j else L.length
 |none=>L.length
theorem En(p)(L)(par)(req)(r):(au p L par req).row r<=(au p L par req).len:=by
 simp only[au];cases hr:L[r]? with
 |none=>
   grind[bp,zEc,fX]
 |some b=>
   by_cases hb:lP par b
   ·obtain⟨s,h1,_,_,h4,_⟩:=nZ (par:=par) L [] r b hr hb
    rw[h1];exact h4
   grind[I0]
theorem Qb{p L al i b}(h:L[i]?=ś b):(ba p L al).labels[i]?=ś (eo p L al i b):=by
 grind[ba]
theorem US{p L al i b}(h:L[i]?=ś b)(hk:b.kind≠3):stT (ba p L al) (bP i)=ś (if qj al b=ť then i else L.length):=by
 rw[XT];simp only[bP,Tr.label,Tr.kids,Qb h,goT];simp_all[eo,if_neg,jM,rG]
theorem AY {p} {L} {al} {F} (hL:LabOK p L al F) (par) (req):∀ (l:List Node),(∀ m∈l,0≤cD L m.kind m.name∧(m.kind=1∨m.kind=2∨m.kind=3)∧(m.kind=1→named m.name=ť))→
 (∀ k∈l.map (rdN p L),(au p L par req).attr k=ğ)∧(∀ b,qG b l→QO (au p L par req).text b (l.map (rdN p L)))∧((l.map (rdN p L)).all (λk=>decide (k < (au p L par req).nl) && (au p L par req).stands k)=qF p par l)
 | [],_=>by simp [QO,qF]
 | m::l,h=>by
   obtain ⟨i1,i2,i3⟩:=AY hL par req l λm hm=>h m (by simp [hm])
   obtain ⟨h1,h2,h3⟩:=h m (by simp)
   obtain ⟨b,hb,hpb⟩:=iZ h1
   have hlt:=(zAf.1 hb).1
   have hnone:L[L.length]?=none:=zDc (zCb _)
   have hbk:b.kind≠4∧(b.kind=1↔m.kind=2)∧cH p par b=lz p par m:=by
    unfold fG at hpb
    unfold cH lz
    rcases h2 with hk | hk | hk
    · simp [hk] at hpb
      have hns:hasS (mW p par) m.name=ť→(aJ p.elements m.name).isSome=true:=hL.lists par m.name (h3 hk)
      simp_all
    · simp_all
    simp_all
   obtain ⟨hb4,hb1,hst⟩:=hbk
   have hattr:(au p L par req).attr (rdN p L m)=false:=by
    grind[okT,m,au,rdN]
   have htext:(au p L par req).text (rdN p L m)=decide (m.kind=2):=by
    grind[okT,m,Jg,au,rdN]
   have hst2:(decide (rdN p L m < (au p L par req).nl) && (au p L par req).stands (rdN p L m))=(lz p par m && okT p m):=by
    grind[okT,m,au,rdN]
   refine ⟨?_,λbb hn=>?_,?_⟩
   · simp_all
   · grind[qG,QO]
   grind[qF]
theorem agB {p} {L} {al} {F} (hL:LabOK p L al F) {el:Str} (hel:el≠[]) (req) (l:List Attr) (hn:(l.map Attr.name).Nodup) (hf:∀ a∈l,0≤F el a):
 (∀ j∈dz (l.map λx=>(F el x).toNat),j < (au p L el req).nl∧(au p L el req).attr j=ť∧0 < (au p L el req).row j∧(au p L el req).row j≤(au p L el req).len)∧
   (dz (l.map λx=>(F el x).toNat)).Pairwise λa b=>(au p L el req).up ((au p L el req).row a) b:=by
 have hat:∀ a∈l,∃ b r,L[(F el a).toNat]?=ś b∧lP el b∧(bp el [] L)[(F el a).toNat]?=ś r∧0 < r∧r≤(ar el [] L).length∧(ar el [] L)[r - 1]?=ś b.name∧(b.many=ğ→a.name=b.name):=λa ha=>by
  obtain ⟨b,h1,h2,h3,_,h5,_⟩:=hL.found el a (hf a ha)
  have ho:lP el b:=⟨h2,hel,h3⟩
  obtain ⟨r,k1,_,k3,k4,k5⟩:=nZ L [] _ b h1 ho
  simp_all
 refine ⟨λj hj=>?_,?_⟩
 · obtain ⟨a,ha,rfl⟩:=zAc.1 ((bo _).mem_iff.1 hj)
   obtain ⟨b,r,h1,h2,h3,h4,h5,_⟩:=hat a ha
   refine ⟨(zAf.1 h1).1,?_,?_,En _ _ _ _ _⟩
   · simp only [au,h1]; simpa using h2.1
   grind[au]
 · have hsym:(dz (l.map λx=>(F el x).toNat)).Pairwise λa b=>(au p L el req).row a=(au p L el req).row b→(au p L el req).many a=ť∧(au p L el req).many b=true:=by
    refine ((bo _).pairwise_iff λ{x y} h e=>(h e.symm).symm).2 ?_
    rw [zCi]
    unfold List.Nodup at hn
    rw [zCi] at hn
    refine List.Pairwise.imp_of_mem (λ{x y} hx hy hne e=>?_) hn
    obtain ⟨b,r,h1,h2,h3,h4,h5,h6,h7⟩:=hat x hx
    obtain ⟨c,s,k1,k2,k3,k4,k5,k6,k7⟩:=hat y hy
    simp only [au,h3,k3,zBf] at e
    subst e
    have hbc:b.name=c.name:=by simp_all
    have hsame:=hL.same b (zBg h1) c (zBg k1) h2.1 k2.1 (h2.2.2.trans k2.2.2.symm) hbc
    grind[absurd,trans,au]
   have hs:=FV (l.map λx=>(F el x).toNat)
   refine List.Pairwise.imp_of_mem (λ{x y} hx hy h=>?_) (hsym.and hs)
   obtain ⟨a,ha,rfl⟩:=zAc.1 ((bo _).mem_iff.1 hx)
   obtain ⟨c,hc,rfl⟩:=zAc.1 ((bo _).mem_iff.1 hy)
   obtain ⟨b,r,h1,h2,h3,_⟩:=hat a ha
   obtain ⟨d,s,k1,k2,k3,_⟩:=hat c hc
   obtain ⟨r',s',e1,e2,e3⟩:=Pr (par:=el) L [] _ _ b d h.2 h1 k1 h2 k2
   have hle:(au p L el req).row (F el a).toNat≤(au p L el req).row (F el c).toNat:=by
    grind[au]
   rcases zEi hle with h5 | h5
   · exact .inr ⟨h5,(h.1 h5).2⟩
   · exact .inl h5
theorem Xp {p} {L} {al} {F} (hL:LabOK p L al F) {el:Str} (hel:el≠[]) {e} (he:aJ p.elements el=ś e) (l) (hf:∀ a∈l,0≤F el a):
 (∀ n∈(au p L el (b6 e)).needed,0 < n→∃ a∈dz (l.map λx=>(F el x).toNat),(au p L el (b6 e)).row a=n)↔whole e l=true:=by
 have hr:aC p el=e.rules:=by simp [aC,he]
 have hnd:=hL.names el hel
 have hat:∀ a∈l,∃ b r,L[(F el a).toNat]?=ś b∧(bp el [] L)[(F el a).toNat]?=ś r∧0 < r∧r≤(ar el [] L).length∧(ar el [] L)[r - 1]?=ś b.name∧∀ x∈e.rules,x.req=ť→(b.name=x.name↔a.name=x.name):=λa ha=>by
  obtain ⟨b,h1,h2,h3,_,_,h6⟩:=hL.found el a (hf a ha)
  have ho:lP el b:=⟨h2,hel,h3⟩
  obtain ⟨r,k1,_,k3,k4,k5⟩:=nZ L [] _ b h1 ho
  simp_all
 have key:∀ x∈e.rules,x.req=ť→((∃ a∈dz (l.map λx=>(F el x).toNat),(au p L el (b6 e)).row a=jj (ar el [] L) x.name + 1)↔(fT l x.name).isSome=ť):=λx hx hq=>by
  rw [afL]
  constructor
  · rintro ⟨j,hj,h⟩
    obtain ⟨a,ha,rfl⟩:=zAc.1 ((bo _).mem_iff.1 hj)
    grind[au,jj,ar,aiF,zGi.inj]
  · rintro ⟨a,ha,h⟩
    obtain ⟨b,r,h1,h2,h3,h4,h5,h6⟩:=hat a ha
    refine ⟨_,(bo _).mem_iff.2 (zAc.2 ⟨a,ha,rfl⟩),?_⟩
    grind[au,YM]
 constructor
 · intro h
   unfold whole
   rw [zAi]
   intro x hx
   cases hq:x.req
   · simp
   · have:=(key x hx hq).1 (h _ (by
      simp only [au,b6]
      grind) (by omega))
     simp [this]
 · intro h n hn _
   simp only [au,b6,zAc,zBh] at hn
   obtain ⟨s,⟨x,⟨hx,hq⟩,rfl⟩,rfl⟩:=hn
   grind[whole,zAi]
theorem aca(p)(L)(par)(req):∀n∈(au p L par req).needed,n<=(au p L par req).len+1:=by
 simp_all[au,zAc,aaZ,ar]
theorem afh{s}(h:named s=ť):s≠[]:=by rintro rfl;simp[named]at h
theorem abz {p} {L} {al} {F} (hL:LabOK p L al F) {n} (hn:ndC n) (hk:n.kind=1) {e} (he:aJ p.elements n.name=ś e) (hf:∀ a∈n.attrs,0≤F n.name a)
 (hkids:∀ m∈n.kids,0≤cD L m.kind m.name∧(m.kind=1∨m.kind=2∨m.kind=3)∧(m.kind=1→named m.name=ť)):
 (au p L n.name (b6 e)).ends ((au p L n.name (b6 e)).run 0 ((dz (n.attrs.map λx=>(F n.name x).toNat)).map (rdA L al)++n.kids.map (rdN p L)))=(zo allows12 e n.attrs && qF p n.name n.kids):=by
 obtain ⟨hnm,hnd⟩:=hn.2.1 hk
 have hel:=afh hnm
 obtain ⟨u1,u2⟩:=agB hL hel (b6 e) n.attrs hnd hf
 have hw:=Xp hL hel he n.attrs hf
 obtain ⟨k1,k2,k3⟩:=AY hL n.name (b6 e) n.kids hkids
 rw [Qk he]
 have hal:∀ a∈n.attrs,rdA L al (F n.name a).toNat=if bD p n.name a.name a.value=ť then (F n.name a).toNat else L.length:=λa ha=>by
  obtain ⟨b,h1,_,_,h4,_⟩:=hL.found n.name a (hf a ha)
  grind[rdA]
 obtain ⟨w,hwd⟩:∃ w,w=au p L n.name (b6 e):=⟨_,rfl⟩
 have hnl:w.nl=L.length:=by rw [hwd]; rfl
 have hneed:=aca p L n.name (b6 e)
 rw [←hwd] at u1 u2 hw k1 k2 k3 hneed ⊢
 rw [Wi.run_append]
 by_cases hall:∀ a∈n.attrs,bD p n.name a.name a.value=ť
 · have hm:(dz (n.attrs.map λx=>(F n.name x).toNat)).map (rdA L al)=dz (n.attrs.map λx=>(F n.name x).toNat):=by
    refine (zEh (g:=id) λj hj=>?_).trans (List.map_id _)
    obtain ⟨a,ha,rfl⟩:=zAc.1 ((bo _).mem_iff.1 hj)
    simp_all
   rw [hm]
   obtain ⟨r1,r2⟩:=Wi.run_attrs w hneed (dz (n.attrs.map λx=>(F n.name x).toNat)) 0 (Nat.zero_le _) u1 (λa ha=>.inl (u1 a ha).2.2.1) u2
   have hends:w.ends (w.run 0 (dz (n.attrs.map λx=>(F n.name x).toNat)))=whole e n.attrs:=by
    simp_all
   have hallb:n.attrs.all (λa=>bD p n.name a.name a.value)=true:=zAi.2 hall
   rw [hallb,zDa,←hends]
   cases hx:w.ends (w.run 0 (dz (n.attrs.map λx=>(F n.name x).toNat)))
   · simp_all[Wi.run_kids_not]
   · have hne:¬w.run 0 (dz (n.attrs.map λx=>(F n.name x).toNat))=w.len + 3:=λh=>by grind[Wi.ends_dead]
     have hle:w.run 0 (dz (n.attrs.map λx=>(F n.name x).toNat))≤w.len:=by
      omega
     rw [Wi.run_kids w _ _ (by omega) hx k1 (by
      have:¬w.run 0 (dz (n.attrs.map λx=>(F n.name x).toNat))=w.len + 2:=by omega
      simp only [this,decide_false]
      exact k2 ğ hn.2.2.2),k3]
     rfl
 · have hex:∃ a∈n.attrs,bD p n.name a.name a.value=false:=by
    simp_all
   obtain ⟨a,ha,hacc⟩:=hex
   have hallb:n.attrs.all (λa=>bD p n.name a.name a.value)=false:=zFb.2 ⟨a,ha,by simp [hacc]⟩
   rw [hallb]
   rw [Wi.run_bad w _ 0 ⟨L.length,zAc.2 ⟨(F n.name a).toNat,(bo _).mem_iff.2 (zAc.2 ⟨a,ha,rfl⟩),by simp_all⟩,by omega⟩]
   grind[Wi.run_dead,Wi.ends_dead]
theorem jq{L F}:∀(l:List Node)(ts:List Tr),bc L F l=ś ts->∀m∈l,0<=cD L m.kind m.name
 |[],ts,_,m,hm=>by cases hm
 |n::l,ts,h,m,hm=>by
   simp only[bc]at h;split at h
   ·cases h
   ·rename_i t ht
    split at h
    ·cases h
    ·rename_i ts' hts
     rcases zAa.1 hm with rfl|hm
     ·grind[ov]
     ·exact jq l ts' hts m hm
theorem UR{p L al F}(hL:LabOK p L al F):∀l:List Node,aq ndC l->∀ts,bc L F l=ś ts->ts.map (stT (ba p L al))=l.map λn=>ś (rdN p L n):=by
 refine aE (λ_ ts h=>by grind[bc,zCj]) ?_
 intro n l h1 h2 ha ts h;simp only[aq,bE]at ha;obtain⟨⟨hn,hka⟩,hla⟩:=ha;have hpl:=jq (n::l) ts h n (by simp)
 simp only[bc]at h;split at h
 ·cases h
 ·rename_i t ht
  split at h
  ·cases h
  ·rename_i ts' hts
   cases h;simp only[zCa,zHb];refine⟨?_,h2 hla ts' hts⟩;obtain⟨b,hb,hpb⟩:=iZ hpl;rw[ov,if_neg (by omega)]at ht
   by_cases hk:n.kind=1
   ·rw[if_pos hk]at ht
    split at ht
    ·rename_i hall
     split at ht
     ·cases ht
     ·rename_i us hus
      cases ht;have hf:∀a∈n.attrs,0<=F n.name a:=λa ha=>by simp_all
      have hkm:=h1 hka us hus;have hb3:b.kind=3/\b.element=n.name:=by grind[fG]
      obtain⟨zs,has⟩:∃zs,zs=dz (n.attrs.map λx=>(F n.name x).toNat):=⟨_,rfl⟩;rw[<-has]
      have hleaf:∀j∈zs,stT (ba p L al) (bP j)=ś (rdA L al j):=λj hj=>by
       rw[has]at hj;obtain⟨a,ha,rfl⟩:=zAc.1 ((bo _).mem_iff.1 hj);obtain⟨c,c1,c2,_⟩:=hL.found n.name a (hf a ha);simp_all[US,rdA,qj]
      have hrdA:∀j,rdA L al j<=L.length:=λj=>by
       grind[rdA,zAf]
      have hplk:=jq n.kids us hus
      have hrdN:∀m∈n.kids,rdN p L m<=L.length:=λm hm=>by
       grind[rdN,iZ,m,zAf]
      have hts2:∀t∈zs.map bP++us,stT (ba p L al) t=ś ((stT (ba p L al) t).getD 0)/\(stT (ba p L al) t).getD 0<=L.length:=λt ht=>by
       rcases zAb.1 ht with ht|ht
       ·grind
       ·have:stT (ba p L al) t∈n.kids.map λn=>ś (rdN p L n):=by
         grind
        grind
      have hreads:(zs.map bP++us).map (λt=>(stT (ba p L al) t).getD 0)=zs.map (rdA L al)++n.kids.map (rdN p L):=by
       rw[List.map_append,zBd];congr 1
       ·simp_all
       ·have:=congrArg (zHa λo:Option Nat=>o.getD 0) hkm
        simpa only[zBd,zFe,zBf]using this
      rw[XT];simp only[Tr.label,Tr.kids,Qb hb];rw[eo,if_pos hb3.1,hb3.2];have hrd:rdN p L n=if okT p n=ť then(cD L n.kind n.name).toNat else L.length:=rfl
      rw[hrd,Jg,if_pos hk];cases he:aJ p.elements n.name with
      |none=>
        obtain⟨g1,g2⟩:=rT (ba p L al) L.length 2 (λ_ _=>1) (λs=>if s=0/\qj al b=ť then(cD L n.kind n.name).toNat else L.length) (λs r _ _=>by omega) _ _ 0 (by omega) hts2
        grind[jM,rG,qj]
      |some e=>
        obtain⟨g1,g2⟩:=rT (ba p L al) L.length ((au p L n.name (b6 e)).len+4) (au p L n.name (b6 e)).next (λs=>if(au p L n.name (b6 e)).ends s=ť then(cD L n.kind n.name).toNat else L.length) (λs r _ _=>Wi.next_lt _ (En _ _ _ _) s r) _ _ 0 (by omega) hts2
        simp only[sy,g1,rG g2];rw[hreads,<-Wi.run_runF,has,abz hL hn hk he hf λm hm=>⟨hplk m hm,(dB hka hm).1.1,λh=>((dB hka hm).1.2.1 h).1⟩]
    ·cases ht
   ·rw[if_neg hk]at ht
    cases ht
    have hb3:b.kind≠3/\qj al b=true:=by
     grind[absurd,fG,qj]
    have:=US (p:=p) (al:=al) hb hb3.1;simp_all[bP,if_pos,rdN,Jg,if_neg]
theorem O8 {p} {L} {al} {F} (hL:LabOK p L al F) (l) (ha:aq ndC l) (hj:qG ğ l) (ts) (h:bc L F l=ś ts):xW (ba p L al) ts=qF p [] l:=by
 have hm:=UR hL l ha ts h
 have hpl:=jq l ts h
 have hk:∀ m∈l,0≤cD L m.kind m.name∧(m.kind=1∨m.kind=2∨m.kind=3)∧(m.kind=1→named m.name=ť):=λm hm=>⟨hpl m hm,(dB ha hm).1.1,λh=>((dB ha hm).1.2.1 h).1⟩
 obtain ⟨k1,k2,k3⟩:=AY hL [] [] l hk
 have hrdN:∀ m∈l,rdN p L m≤L.length:=λm hm=>by
  grind[rdN,iZ,m,zAf]
 have hts2:∀ t∈ts,stT (ba p L al) t=ś ((stT (ba p L al) t).getD 0)∧(stT (ba p L al) t).getD 0≤L.length:=λt ht=>by
  have:stT (ba p L al) t∈l.map λn=>ś (rdN p L n):=by
   grind
  grind
 have hreads:ts.map (λt=>(stT (ba p L al) t).getD 0)=l.map (rdN p L):=by
  have:=congrArg (zHa λo:Option Nat=>o.getD 0) hm
  simpa only [zBd,zFe,zBf] using this
 obtain ⟨g1,g2⟩:=rT (ba p L al) L.length ((au p L [] []).len + 4) (au p L [] []).next (λs=>if (au p L [] []).ends s=ť then 1 else 0) (λs r _ _=>Wi.next_lt _ (En _ _ _ _) s r) ts _ 0 (by omega) hts2
 have hroot:(ba p L al).root=fM L.length ((au p L [] []).len + 4) (au p L [] []).next λs=>if (au p L [] []).ends s=ť then 1 else 0:=rfl
 unfold xW
 rw [hroot,g1]
 simp only [rG g2]
 rw [hreads,←Wi.run_runF]
 grind[au,ends,Wi.ends,Wi.lacks,Wi.run_kids,rdN,decide_false,qF]
theorem FU{p L al F}(hL:LabOK p L al F):∀l:List Node,aq ndC l->∀par,qF p par l=ť->∃ts,bc L F l=ś ts:=by
 refine aE (λ_ _ _=>⟨[],by simp[bc]⟩) ?_
 intro n l h1 h2 ha par h;simp only[aq,bE]at ha;obtain⟨⟨hn,hka⟩,hla⟩:=ha;simp only[qF,zAd]at h;obtain⟨us,hus⟩:=h2 hla par h.2
 have ht:∃t,mS L F n=ś t:=by
  rw[ov];rcases hn.1 with hk|hk|hk
  ·have hok:=h.1.2
   rw[Jg,if_pos hk]at hok;cases he:aJ p.elements n.name with
   |none=>simp_all
   |some e=>
     rw[he]at hok;simp only[zAd]at hok;have hpl:=hL.place n.name (by rw[he];rfl)
     rw[hk,if_neg (by omega),if_pos rfl]
     rw[Qk he,zAd]at hok
     have hall:n.attrs.all (λx=>decide (0<=F n.name x))=true:=by
      rw[zAi];intro a ha;have:=hL.find n.name a (zAi.1 hok.1.1 a ha);simpa using this
     obtain⟨vs,hvs⟩:=h1 hka n.name hok.2;simp_all
  ·rw[hk,if_neg (by have:=(hL.placeT n.name).1;omega),if_neg (by omega)];exact⟨_,rfl⟩
  ·rw[hk,if_neg (by have:=(hL.placeT n.name).2;omega),if_neg (by omega)];exact⟨_,rfl⟩
 grind[bc]
def oT(els:List Allowed)(l:List Str):Prop:=∀s∈l,s=ja\/s=dU\/(aJ els s).isSome=ť
def tV(p:Policy):Prop:=oT p.elements p.top/\∀e∈p.elements,oT p.elements e.kids
theorem kZ{l s}:(aJ l s).isSome=ť↔s∈l.map Allowed.name:=by
 induction l with
 |nil=>simp[aJ]
 |cons e l ih=>
   simp only[aJ,zCa,zAa];grind
theorem R5{a b}(h:a.map Allowed.name=b.map Allowed.name){l}(hl:oT a l):oT b l:=λs hs=>by
 rcases hl s hs with h1|h1|h1
 ·exact .inl h1
 ·simp_all
 grind[kZ]
theorem KW(p)(par):∀(l out:List Str),oT p.elements out->oT p.elements (zu p par out l)
 |[],out,h=>by simpa[zu]using h
 |x::l,out,h=>by
   simp only[zu];refine KW p par l _ ?_;split
   ·rename_i hk
    intro s hs;simp only[kids,zAd,zAi]at hk;have:=hk.1 s hs;simp only[zl,zAd,zGa,decide_eq_true_eq]at this;grind
   ·exact h
theorem L5{els}(k)(own)(h:∀e∈els,oT els e.kids):∀e∈lm els k own,oT (lm els k own) e.kids:=by
 intro e he;refine R5 (y7 els k own).symm ?_;unfold lm at he;split at he
 ·rename_i x hx
  rcases List.mem_or_eq_of_mem_set he with he|he
  ·exact h e he
  ·subst he
   exact KW ⟨[],els,[]⟩ _ _ _ (λs hs=>by cases hs)
 ·exact h e he
theorem CD:∀(l els:List Allowed)(k:Nat),(∀e∈els,oT els e.kids)->∀e∈iO k els l,oT (iO k els l) e.kids
 |[],els,k,h=>by simpa[iO]using h
 |x::l,els,k,h=>by
   simp only[iO];exact CD l _ _ (L5 k x.kids h)
theorem Bw:∀(l out:List Allowed)(i:Nat),(∀e∈out,e.kids=[])->∀e∈m4 i out l,e.kids=[]
 |[],out,i,h=>by simpa[m4]using h
 |x::l,out,i,h=>by
   simp only[m4];split
   ·exact Bw l out _ h
   ·refine Bw l _ _ λe he=>?_
    rcases zAb.1 he with he|he
    ·exact h e he
    ·simp at he;subst he;rfl
theorem nI(p):tV (ai p):=by
 unfold ai;refine⟨?_,?_⟩
 ·exact KW ⟨[],_,[]⟩ [] _ _ (λs hs=>by cases hs)
 ·refine CD _ _ _ λe he s hs=>?_
  grind[Bw]
theorem F9{s}(h:named s=ť):s≠ja/\s≠dU:=by
 constructor<;>rintro rfl<;>exact absurd h (by decide)
theorem Qm{els l s}(hl:oT els l)(hs:named s=ť)(h:hasS l s=ť):(aJ els s).isSome=true:=by
 rcases hl s (Wa.1 h)with h1|h1|h1
 ·grind[absurd,F9]
 ·grind[absurd,F9]
 ·exact h1
theorem Yp(A)(p):∀(l:List Node)(par:Str)(m:Nat),dD A p par l m=(if(dD A p par l 0).1<0 then -1 else(m:Int)+(dD A p par l 0).1,m+(dD A p par l 0).2):=by
 refine aE (λpar m=>by simp[dD]) ?_
 intro n l h1 h2 par m;have hb:=yj A p n.kids n.name 0;simp only[dD,Im];grind
def okN(A:Constraint->Str->Bool)(p:Policy)(par:Str)(l:List Node):Bool:=decide ((dD A p par l 0).1<0)
theorem PM(A)(p)(l)(par)(many many')(h:(dD A p par l many).1<0):(dD A p par l many').1<0:=by
 rw[Yp]at h⊢;omega
theorem afb(A)(p)(par)(n)(l):okN A p par (n::l)=(oE A p par n&&(okN A p n.name n.kids&&okN A p par l)):=by
 have hb:=(yj A p n.kids n.name 0).2.2.1;simp only[okN,dD,Im];cases hn:oE A p par n
 ·simp
 ·simp only[if_true,zDa]
  by_cases hk:0<=(dD A p n.name n.kids 0).1
  ·grind
  ·rw[if_neg hk]
   have h1:(dD A p n.name n.kids 0).1<0:=by omega
   simp only[h1,decide_true,zDa];exact decide_eq_decide.2 ⟨PM A p l par _ _,PM A p l par _ _⟩
theorem ym{txt n l}:lW txt (n::l)=0↔gJ n txt=0/\lW ğ n.kids=0/\lW (decide (n.kind=2)) l=0:=by
 grind[lW,aaM,absurd]
def bf(p q:Policy)(L:List Label)(el:Str)(a:Attr):Int:=fdx (YW p q el a) 0 L
theorem Cs{α f}{l:List α}(h:∃b∈l,f b=ť):0<=fdx f 0 l:=by
 have:=Ir f l 0;grind
theorem C3{p q L el a}(h:0<=bf p q L el a):∃b,L[(bf p q L el a).toNat]?=ś b/\YW p q el a b=true:=by
 obtain⟨b,h1,h2,_⟩:=Zl (YW p q el a) L 0 h;exact⟨b,h1,h2⟩
theorem V9{p q}(hp:RulesOK p)(hq:RulesOK q){el a b}(hb:b∈aY p q)(h:YW p q el a b=ť):
 (b.many=ğ->a.name=b.name)/\∀r∈aC p el++aC q el,r.req=ť->(b.name=r.name↔a.name=r.name):=by
 rw[wD]at h;obtain⟨h1,h2,h3,h4,h5⟩:=h;obtain⟨c,hc,e1,e2,_⟩:=JS hp hq hb h1;rw[h2]at hc e1;have hC:=yv hp hq el;refine⟨λhm=>?_,λr hr hq'=>?_⟩
 ·rw[e2]at hm
  have hn:b.name=c:=by rw[e1,ZL hm]
  have:=h5 c hc;rw[gv (hC c hc) hm,gv (hC c hc) hm,hn]at this;grind
 ·have hrm:r.name∈aP p q el:=pr.2 ⟨r,hr,rfl⟩
  have hm:bA r.name=false:=by
   rcases zAb.1 hr with h|h
   ·exact hp.req el r h hq'
   ·exact hq.req el r h hq'
  have:=h5 r.name hrm;rw[gv (hC _ hrm) hm,gv (hC _ hrm) hm]at this;simp_all
theorem VG{p q}(hp:RulesOK p)(hq:RulesOK q){b c}(hb:b∈aY p q)(hc:c∈aY p q)(k1:b.kind=4)(k2:c.kind=4)(he:b.element=c.element)(hn:b.name=c.name):b.many=c.many:=by
 grind[JS,af4,yv,Bz]
theorem ak2{p q el}(h:el∈iL p q):cc 3 el∈aY p q:=by
 simp only[aY,fO,zAb,zBj,bC,zAa];grind
theorem Jb{p q el}(h:el∈iL p q):0<=cD (aY p q) 1 el:=
 Cs ⟨cc 3 el,ak2 h,by simp[fG,cc]⟩
theorem yh{p q}(el):0<=cD (aY p q) 2 el/\0<=cD (aY p q) 3 el:=by
 constructor
 ·exact Cs ⟨cc 1 [],by simp[aY,fO],by simp[fG,cc]⟩
 ·exact Cs ⟨cc 2 [],by simp[aY,fO],by simp[fG,cc]⟩
theorem JP{p}(h:tV p)(par s)(hs:named s=ť)(hh:hasS (mW p par) s=ť):(aJ p.elements s).isSome=true:=by
 unfold mW at hh;split at hh
 ·exact Qm h.1 hs hh
 ·cases hf:aJ p.elements par with
  |none=>grind[Allowed.zero,hasS]
  |some e=>rw[hf]at hh;exact Qm (h.2 e (k8 hf).1) hs hh
theorem Qd{p q}(hp:RulesOK p)(hq:RulesOK q)(hl:tV p):LabOK p (aY p q) Label.one (bf p q (aY p q)) where
 found el a h:=by
  grind[C3,V9,zBg,wD]
 find el a h:=Cs (Qc hp hq (.inl h))
 same b hb c hc k1 k2 he hn:=VG hp hq hb hc k1 k2 he hn
 place el h:=Jb (oF.2 (.inl (kZ.1 h)))
 placeT:=yh
 names par hpar:=F7 hp hq par hpar
 lists par s hs hh:=JP hl par s hs hh
theorem acz{p q}(hp:RulesOK p)(hq:RulesOK q)(hl:tV q):LabOK q (aY p q) Label.two (bf p q (aY p q)) where
 found el a h:=by
  grind[C3,V9,zBg,wD]
 find el a h:=Cs (Qc hp hq (.inr h))
 same b hb c hc k1 k2 he hn:=VG hp hq hb hc k1 k2 he hn
 place el h:=Jb (oF.2 (.inr (kZ.1 h)))
 placeT:=yh
 names par hpar:=F7 hp hq par hpar
 lists par s hs hh:=JP hl par s hs hh
theorem Qy:∀(l pre:List Attr),r4 pre l=0->(l.map Attr.name).Nodup/\∀a∈l,CP pre a.name=ğ
 |[],pre,_=>by simp
 |a::l,pre,h=>by
   simp only[r4]at h;split at h
   ·split at h
    ·cases h
    ·rename_i h1 h2
     obtain⟨i1,i2⟩:=Qy l (pre++[a]) h
     have hsn:∀(pre:List Attr)(s:Str),CP (pre++[a]) s=(CP pre s||decide (a.name=s)):=λpre s=>by
      induction pre with
      |nil=>grind[CP]
      |cons x pre ih=>grind[CP]
     grind
   ·cases h
theorem R0:∀(l:List Node)(txt:Bool),lW txt l=0->aq ndC l/\qG txt l:=by
 refine aE (λtxt _=>⟨trivial,trivial⟩) ?_;intro n l h1 h2 txt h;obtain⟨e1,e2,e3⟩:=ym.1 h;obtain⟨k1,k2⟩:=h1 ğ e2;obtain⟨l1,l2⟩:=h2 _ e3
 have hn:ndC n/\¬(txt=ť/\n.kind=2):=by
  unfold gJ at e1;by_cases hk1:n.kind=1
  ·rw[if_pos hk1]at e1
   unfold xj at e1;split at e1
   ·split at e1
    ·rename_i hnm
     split at e1
     ·rename_i hd
      exact⟨⟨.inl hk1,λ_=>⟨hnm,(Qy _ _ hd).1⟩,λh=>absurd hk1 h,k2⟩,by omega⟩
     omega
    ·cases e1
   ·cases e1
  ·rw[if_neg hk1]at e1
   split at e1
   ·rename_i hk
    split at e1
    ·rename_i hz
     split at e1
     ·rename_i ht
      refine⟨⟨.inr hk,λh=>absurd h hk1,λ_=>hz.2.2,k2⟩,λhc=>?_⟩;simp_all
     ·cases e1
    ·cases e1
   ·cases e1
 exact⟨by grind[aq,bE,l1],hn.2,l2⟩
theorem afa{p}(hl:tV p):∀(l:List Node),aq ndC l->∀par,qF p par l=okN allows12 p par l:=by
 refine aE (λ_ par=>by simp[qF,okN,dD]) ?_
 intro n l h1 h2 ha par;simp only[aq,bE]at ha;obtain⟨⟨hn,hka⟩,hla⟩:=ha;rw[afb,qF,h2 hla par,<-h1 hka n.name]
 have e:(lz p par n&&okT p n)=(oE allows12 p par n&&qF p n.name n.kids):=by
  unfold oE;cases hin:lz p par n
  ·simp
  ·rw[Jg]
   by_cases hk:n.kind=1
   ·have hnm:=(hn.2.1 hk).1
    grind[hasS,mW,lz,JP,aJ]
   ·have hkk:=hn.2.2.1 hk
    simp[hk,hkk,qF]
 grind
theorem Jk{p}(hl:tV p){l}(hs:vu l=ť):iC allows12 p l=qF p [] l:=by
 have hm:lW ğ l=0:=by
  simp only[vu,may,zAd]at hs;grind
 rw[afa hl l (R0 l ğ hm).1];grind[iC,aaK,okN]
theorem aih{x}{t u:Str}(h:¬((one (x::t)).1=65533/\(one (x::t)).2=1)):one (x::(t++u))=one (x::t):=by
 simp only[one]at h⊢;grind
theorem JU(b)(t:Str):isU (b::t)=if(one (b::t)).1=65533/\(one (b::t)).2=1 then ğ else((!decide ((one (b::t)).1=0)&& !decide ((one (b::t)).1=13))&&isU ((b::t).drop (one (b::t)).2)):=by
 grind[isU,FP,iK,Lib.validD,one,eN,decide]
theorem Sa:isU []=true:=by simp[isU,Lib.validD,Lib.validGoD,eN,jv]
theorem Sb:∀(n:Nat)(a b:Str),a.length<=n->isU a=ť->isU (a++b)=isU b
 |n,[],b,_,_=>by simp
 |0,x::t,b,h,_=>by simp at h
 |n+1,x::t,b,h,hu=>by
   rw[JU]at hu;split at hu
   ·cases hu
   ·rename_i hbad
    simp only[zAd]at hu;have hone:=aih (u:=b) hbad;have hr:=i5 (x::t);have hlen:=hr.2.2.1 (by simp)
    rw[zBe,JU,hone,if_neg hbad,hu.1.1,hu.1.2]
    have hd:(x::(t++b)).drop (one (x::t)).2=(x::t).drop (one (x::t)).2++b:=by
     grind
    rw[hd,Sb n _ b (by grind) hu.2]
    simp
theorem abW{a b}(ha:right a=ť)(hb:right b=ť):right (a++b)=true:=by
 rw[Py]at ha hb⊢;rw[Sb a.length a b (zCb _) ha,hb]
theorem oneB(r)(h:r<=1114111)(hs:¬(55296<=r/\r<=57343)):one (eH r)=(r,(eH r).length):=by
 have hv:¬(1114111<r\/(55296<=r/\r<=57343)):=by omega
 unfold eH;simp only[if_neg hv];by_cases h1:r<128
 ·rw[if_pos h1]
  grind[one,fC]
 ·rw[if_neg h1]
  by_cases h2:r<2048
  ·rw[if_pos h2]
   have e1:=fC (n:=192+r/64) (by omega)
   have e2:=fC (n:=128+r%64) (by omega)
   have a1:¬(192+r/64<128):=by omega
   have hh:hdr (192+r/64)=(2,r/64,128):=by
    unfold hdr;grind
   have hf:follows (b8 (128+r%64))=true:=by grind[follows]
   simp only[one,e1,if_neg a1,hh,zAj,zDd];rw[if_neg (by omega)]
   simp only[zDh,zEf,goV,hf,if_true,e2];have hval:64*(r/64)+(128+r%64)-128=r:=by omega
   simp_all[Cf,if_neg]
  ·rw[if_neg h2]
   by_cases h3:r<65536
   ·rw[if_pos h3]
    have e1:=fC (n:=224+r/4096) (by omega)
    have e2:=fC (n:=128+r/64%64) (by omega)
    have e3:=fC (n:=128+r%64) (by omega)
    have a1:¬(224+r/4096<128):=by omega
    have hh:hdr (224+r/4096)=(3,r/4096,2048):=by
     unfold hdr;grind
    have hf2:follows (b8 (128+r/64%64))=true:=by grind[follows]
    have hf3:follows (b8 (128+r%64))=true:=by grind[follows]
    simp only[one,e1,if_neg a1,hh,zAj,zDd];rw[if_neg (by omega)]
    simp only[zDh,zEf,goV,hf2,hf3,if_true,e2,e3];have hval:64*(64*(r/4096)+(128+r/64%64)-128)+(128+r%64)-128=r:=by omega
    simp_all[Cf,if_neg]
   ·rw[if_neg h3]
    have e1:=fC (n:=240+r/262144) (by omega)
    have e2:=fC (n:=128+r/4096%64) (by omega)
    have e3:=fC (n:=128+r/64%64) (by omega)
    have e4:=fC (n:=128+r%64) (by omega)
    have a1:¬(240+r/262144<128):=by omega
    have hh:hdr (240+r/262144)=(4,r/262144,65536):=by
     unfold hdr;grind
    have hf2:follows (b8 (128+r/4096%64))=true:=by grind[follows]
    have hf3:follows (b8 (128+r/64%64))=true:=by grind[follows]
    have hf4:follows (b8 (128+r%64))=true:=by grind[follows]
    simp only[one,e1,if_neg a1,hh,zAj,zDd];rw[if_neg (by omega)]
    simp only[zDh,zEf,goV,hf2,hf3,hf4,if_true,e2,e3,e4];have hval:64*(64*(64*(r/262144)+(128+r/4096%64)-128)+(128+r/64%64)-128)+(128+r%64)-128=r:=by omega
    simp_all[Cf,if_neg]
def aa3(r:Nat):Prop:=r<=1114111/\¬(55296<=r/\r<=57343)/\r≠0/\r≠13
theorem YL{r}(h:aa3 r):isU (eH r)=true:=by
 obtain⟨h1,h2,h3,h4⟩:=h;have ho:=oneB r h1 h2;cases hb:eH r with
 |nil=>exact Sa
 |cons x t=>
   rw[hb]at ho;rw[JU,ho]
   have hbad:¬(r=65533/\(x::t).length=1):=by
    rintro⟨e,hl⟩;subst e;rw[<-hb]at hl;exact absurd hl (by decide)
   simp_all[if_neg,List.drop_length,Sa]
theorem Qi:∀l:List Nat,(∀r∈l,aa3 r)->isU (jr l)=ť
 |[],_=>by simp[jr,Sa]
 |r::l,h=>by
   have e:jr (r::l)=eH r++jr l:=by simp[jr]
   rw[e,Sb _ _ _ (zCb _) (YL (h r (by simp)))]
   exact Qi l λx hx=>h x (by simp[hx])
theorem B0:∀(n:Nat)(s:Str),s.length<=n->∀r∈eN s,r<=1114111/\¬(55296<=r/\r<=57343)
 |n,[],_,r,hr=>by simp[eN,jv]at hr
 |0,x::t,h,_,_=>by simp at h
 |n+1,x::t,h,r,hr=>by
   rw[iK]at hr;have ho:=i5 (x::t);rcases zAa.1 hr with rfl|hr
   ·exact ho.2.2.2
   ·exact B0 n _ (by grind) r hr
theorem Qp:∀(l:List Nat)(p:Option Nat),(∀r∈l,r<=1114111/\¬(55296<=r/\r<=57343))->∀r∈nJ p l,aa3 r
 |[],p,_,r,hr=>by simp[nJ]at hr
 |x::l,p,h,r,hr=>by
   simp only[nJ,zAb]at hr;rcases hr with hr|hr
   ·have hx:=h x (by simp)
    split at hr
    ·cases hr
    ·simp only[zAa,zBa,or_false]at hr
     grind[aa3]
   ·exact Qp l _ (λy hy=>h y (by simp[hy])) r hr
theorem sN(s):right (eS s)=true:=by
 rw[Py];exact Qi _ (Qp _ _ (B0 s.length s (zCb _)))
theorem ae2:ae3.all (λs=>gC s)=true:=by decide+kernel
theorem O7(s):gC (cJ s)=true:=by
 unfold cJ;split
 ·rename_i h;exact h
 ·have hm:s.length%5<ae3.length:=zGj _ (by decide)
  grind[zCf,zAi,ae2,zFj]
theorem ae4:aaE.all (λs=>named s)=true:=by decide
theorem XE(s):named (D6 s)=true:=by
 unfold D6;split
 ·rename_i h;exact h
 ·have hm:sumB s%10<aaE.length:=zGj _ (by decide)
  grind[zCf,zAi,ae4,zFj]
theorem afK(l)(s):CP l s=(fT l s).isSome:=by
 induction l with
 |nil=>rfl
 |cons a l ih=>grind[CP,fT]
theorem Qz:∀(l pre:List Attr)(a:Attr),r4 pre l=0->gC a.name=ť->CP (pre++l) a.name=ğ->r4 pre (l++[a])=0
 |[],pre,a,_,h2,h3=>by
   simp only[List.append_nil]at h3;simp[r4,h2,h3]
 |x::l,pre,a,h1,h2,h3=>by
   simp only[zBe,r4]at h1⊢;split at h1
   ·rename_i hx
    split at h1
    ·cases h1
    ·rename_i hy
     rw[if_pos hx,if_neg hy];exact Qz l (pre++[x]) a h1 h2 (by rw[zFc];exact h3)
   ·cases h1
theorem B6:∀(l:List Attr)(a:Attr),gH l=ť->right a.value=ť->gH (l++[a])=ť
 |[],a,_,h=>by simp[gH,h]
 |x::l,a,h,h2=>by
   simp only[gH,zAd]at h;simp only[zBe,gH,h.1,B6 l a h.2 h2,Bool.and_self]
theorem KR:∀(l acc:List Attr),r4 [] acc=0->gH acc=ť->r4 [] (ku acc l)=0/\gH (ku acc l)=ť
 |[],acc,h1,h2=>⟨h1,h2⟩
 |a::l,acc,h1,h2=>by
   simp only[ku];split
   ·exact KR l acc h1 h2
   ·rename_i hn
    refine KR l _ (Qz acc [] _ h1 (O7 _) ?_) (B6 acc _ h2 (sN _));rw[zGd,afK];simpa using hn
structure PreOK (f:Node->Prop) (n:Node):Prop where
 txt:n.kind=2->n.name=[]/\n.attrs=[]/\n.kids=[]/\right n.text=ť
 oth:n.kind≠2->gJ n ğ=0
 kids:lW ğ n.kids=0
 own:f n
def FE(f:Node->Prop)(n:Node):Prop:=gJ n ğ=0/\lW ğ n.kids=0/\f n
theorem Eu{n:Node}(hk:n.kind=2)(h1:n.name=[]/\n.attrs=[]/\n.kids=[])(h2:right n.text=ť)(h3:n.text≠[]):gJ n ğ=0:=by
 simp_all[gJ,if_neg,if_pos]
theorem qE{n b}(hk:n.kind=2)(h:gJ n b=0):(n.name=[]/\n.attrs=[]/\n.kids=[])/\right n.text=ť/\n.text≠[]:=by
 unfold gJ at h;grind
def EF:Bool->List Node->Bool
 |b,[]=>b
 |_,n::l=>EF (decide (n.kind=2)) l
theorem Ev:∀(l:List Node)(b:Bool)(n:Node),qG b (l++[n])↔qG b l/\¬(EF b l=ť/\n.kind=2)
 |[],b,n=>by simp[qG,EF]
 |x::l,b,n=>by
   simp only[zBe,qG,EF,Ev l];exact⟨λh=>⟨⟨h.1,h.2.1⟩,h.2.2⟩,λh=>⟨h.1.1,h.1.2,h.2⟩⟩
theorem Gk:∀(l:List Node)(b:Bool)(n:Node),EF b (l++[n])=decide (n.kind=2)
 |[],b,n=>rfl
 |x::l,b,n=>by simp only[zBe,EF];exact Gk l _ n
theorem YI{l}{o:Node}(h:l[l.length-1]?=ś o):∃u,l=u++[o]:=by
 have hlt:=(zAf.1 h).1;have hne:l≠[]:=λe=>by simp_all
 refine⟨l.dropLast,?_⟩
 grind[zAf,List.dropLast_concat_getLast]
theorem oQ{f}(hf:∀k n a t ks t',k=2->f ⟨k,n,a,t,ks⟩->f ⟨k,n,a,t',ks⟩):∀(l out:List Node),(∀n∈out,FE f n)->qG ğ out->(∀n∈l,PreOK f n)->(∀n∈cE out l,FE f n)/\qG ğ (cE out l)
 |[],out,h1,h2,_=>⟨h1,h2⟩
 |n::l,out,h1,h2,h3=>by
   have hn:=h3 n (by simp)
   have hl:∀m∈l,PreOK f m:=λm hm=>h3 m (by simp[hm])
   simp only[cE];split
   ·exact oQ hf l out h1 h2 hl
   ·rename_i hne
    have hpost:FE f n:=by
     refine⟨?_,hn.kids,hn.own⟩;by_cases hk:n.kind=2
     ·obtain⟨a,b,c,d⟩:=hn.txt hk
      grind[Eu]
     ·exact hn.oth hk
    split
    ·rename_i o ho
     obtain⟨u,hu⟩:=YI ho;split
     ·rename_i hk
      have hop:=h1 o (zBg ho);obtain⟨a,b,c⟩:=qE hk.2 hop.1;obtain⟨a2,b2,c2,d2⟩:=hn.txt hk.1
      have hset:out.set (out.length-1) ⟨o.kind,o.name,o.attrs,o.text++n.text,o.kids⟩=u++[⟨o.kind,o.name,o.attrs,o.text++n.text,o.kids⟩]:=by
       rw[hu];simp
      rw[hset];rw[hu]at h1 h2;refine oQ hf l _ (λm hm=>?_) ?_ hl
      ·rcases zAb.1 hm with hm|hm
       ·simp_all
       ·simp only[zAa,zBa,or_false]at hm
        subst hm;refine⟨Eu hk.2 a (abW b d2) (by simp[c]),hop.2.1,?_⟩
        have key:∀o:Node,o.kind=2->f o->∀t,f ⟨o.kind,o.name,o.attrs,t,o.kids⟩:=λo hk h t=>by
         cases o;grind
        exact key o hk.2 hop.2.2 _
      grind[Ev]
     ·rename_i hk
      refine oQ hf l _ (λm hm=>?_) ?_ hl
      ·grind
      ·rw[Ev]
       refine⟨h2,λhc=>hk ⟨hc.2,?_⟩⟩;have:=hc.1;rw[hu,Gk]at this;simp_all
    ·rename_i ho
     have hout:out=[]:=by
      cases out with
      |nil=>rfl
      |cons x r=>simp at ho
     subst hout;refine oQ hf l _ (λm hm=>?_) (by simp[qG]) hl
     simp_all
theorem Cr{f}(hf:∀k n a t ks t',k=2->f ⟨k,n,a,t,ks⟩->f ⟨k,n,a,t',ks⟩)(l)(h:∀n∈l,PreOK f n):(∀n∈dt l,FE f n)/\qG ğ (dt l):=
 oQ hf l [] (λn hn=>by cases hn) trivial h
theorem ae8{n b}(h:gJ n ğ=0)(hb:¬(b=ť/\n.kind=2)):gJ n b=0:=by
 by_cases hk:n.kind=2
 ·simp_all
 simp_all[gJ,if_pos,if_neg,absurd]
theorem Ct:∀(l:List Node)(b:Bool),(∀n∈l,gJ n ğ=0/\lW ğ n.kids=0)->qG b l->lW b l=0
 |[],b,_,_=>rfl
 |n::l,b,h,hj=>by
   rw[ym];obtain⟨h1,h2⟩:=h n (by simp)
   exact⟨ae8 h1 hj.1,h2,Ct l _ (λm hm=>h m (by simp[hm])) hj.2⟩
theorem VH(k):ug k=1\/ug k=2\/ug k=3:=by
 grind[ug]
theorem acO:∀l:List Node,∀n∈l,PreOK (λ_=>True) (dG n):=by
 refine aE (λn h=>by cases h) ?_
 intro n l h1 h2 x hx;rcases zAa.1 hx with rfl|hx
 ·rw[l9]
  have hm:=Cr (f:=λ_=>True) (λ_ _ _ _ _ _ _ _=>trivial) (x.kids.map dG) λm hm=>by
   grind
  by_cases hk:ug x.kind=1
  ·rw[if_pos hk]
   obtain⟨g1,g2⟩:=KR x.attrs [] rfl rfl;refine⟨λh=>by simp at h,λ_=>?_,Ct _ _ (λn hn=>⟨(hm.1 n hn).1,(hm.1 n hn).2.1⟩) hm.2,trivial⟩
   grind[gJ,xj,XE]
  ·rw[if_neg hk]
   refine⟨λ_=>⟨rfl,rfl,rfl,sN _⟩,λh=>?_,rfl,trivial⟩
   grind[ug,VH,absurd,gJ,sN]
 ·exact h2 x hx
theorem qk(l:List Node):(∀n∈bI l,FE (λ_=>True) n)/\qG ğ (bI l):=by
 unfold bI
 exact Cr (λ_ _ _ _ _ _ _ _=>trivial) _ λm hm=>by
  obtain⟨y,hy,rfl⟩:=zAc.1 hm;exact acO _ y hy
theorem Za(l):lW ğ (bI l)=0:=Ct _ _ (λn hn=>⟨((qk l).1 n hn).1,((qk l).1 n hn).2.1⟩) (qk l).2
def sH(n:Node):Prop:=(n.kind=3->bB sq n.text=ğ)/\n.kids.all (iv n.name)=ť/\tT n.kids=ť
def Ym(par:Str)(n:Node):Prop:=(raw par=ť->n.kind=2)/\(raw par=ğ->XL par=ğ->iv par n=ť)
theorem Ut:∀l:List Node,(∀n∈l,sH n)->tT l=ť
 |[],_=>rfl
 |n::l,h=>by
   obtain⟨h1,h2,h3⟩:=h n (by simp)
   simp only[tT,abi,h2,h3,Ut l (λm hm=>h m (by simp[hm])),Bool.and_true]
   grind
theorem acQ{par n}(hr:raw par=ğ){t}:iv par ⟨n.kind,n.name,n.attrs,t,n.kids⟩=iv par n:=by
 simp[iv,hr]
theorem acR{par n m}(hr:raw par=ğ)(hk:m.kind=n.kind)(hn:m.name=n.name):iv par m=iv par n:=by
 simp[iv,hr,hk,hn]
theorem F5{f}:∀(l:List Node)(b:Bool),(∀n∈l,f n=ť)->l.filter f=l
 |[],b,_=>rfl
 |n::l,b,h=>by simp_all
theorem UP(par)(kids)(ih:∀n∈kids,∀m∈aQ n,PreOK sH m/\m.kind=n.kind/\m.name=n.name/\(n.kind=2->m=n)):
 lW ğ (aD par (dt ((aD par kids).flatMap aQ)))=0/\(aD par (dt ((aD par kids).flatMap aQ))).all (iv par)=ť/\tT (aD par (dt ((aD par kids).flatMap aQ)))=true:=by
 have hpre:∀m∈(aD par kids).flatMap aQ,PreOK (λm=>sH m/\Ym par m) m:=λm hm=>by
  obtain⟨n,hn,hm⟩:=zBj.1 hm;have hnf:=zBh.1 hn;obtain⟨h1,h2,h3,h4⟩:=ih n hnf.1 m hm;refine⟨h1.txt,h1.oth,h1.kids,h1.own,λhr=>?_,λhr hv=>?_⟩
  ·grind[iv]
  grind[acR]
 obtain⟨k1,k2⟩:=Cr (f:=λm=>sH m/\Ym par m) (λk n a t ks t' hk h=>⟨⟨λh3=>by simp_all,h.1.2⟩,h.2.1,λhr hv=>(acQ (n:=⟨k,n,a,t,ks⟩) hr).trans (h.2.2 hr hv)⟩) _ hpre
 generalize dt ((aD par kids).flatMap aQ)=K at *;have hmem:∀n∈aD par K,FE (λm=>sH m/\Ym par m) n:=λn hn=>k1 n (zBh.1 hn).1;refine⟨?_,?_,Ut _ λn hn=>(hmem n hn).2.2.1⟩
 ·refine Ct _ _ (λn hn=>⟨(hmem n hn).1,(hmem n hn).2.1⟩) ?_
  cases hr:raw par
  ·cases hv:XL par
   ·have:aD par K=K:=F5 K ğ λn hn=>(k1 n hn).2.2.2.2 hr hv
    rw[this];exact k2
   ·have:aD par K=[]:=by
     refine List.filter_eq_nil_iff.2 λn hn=>?_;simp[iv,hv]
    rw[this];trivial
  ·have hK:K.length<=1:=by
    match K,k1,k2 with
    |[],_,_=>simp
    |[_],_,_=>simp
    |x::y::r,k1,k2=>
      exfalso;have h1:=(k1 x (by simp)).2.2.2.1 hr
      have h2:=(k1 y (by simp)).2.2.2.1 hr
      exact k2.2.1 ⟨by simp[h1],h2⟩
   have hl:(aD par K).length<=1:=zGg (List.length_filter_le _ _) hK
   match aD par K,hl with
   |[],_=>trivial
   |[z],_=>simp[qG]
   |_::_::_,h=>simp at h
 ·rw[zAi]
  exact λn hn=>(zBh.1 hn).2
theorem UQ:∀l:List Node,(∀n∈l,gJ n ğ=0/\lW ğ n.kids=0)->∀n∈l,∀m∈aQ n,PreOK sH m/\m.kind=n.kind/\m.name=n.name/\(n.kind=2->m=n):=by
 refine aE (λ_ n h=>by cases h) ?_
 intro n l h1 h2 ha x hx m hm;rcases zAa.1 hx with rfl|hx
 ·obtain⟨e1,e2⟩:=ha x (by simp)
  have hkids:∀n∈x.kids,gJ n ğ=0/\lW ğ n.kids=0:=by
   have:∀(l:List Node)(b:Bool),lW b l=0->∀n∈l,gJ n ğ=0/\lW ğ n.kids=0:=λl=>by
    induction l with
    |nil=>simp
    |cons y l ih=>
      intro b h n hn;obtain⟨g1,g2,g3⟩:=ym.1 h;rcases zAa.1 hn with rfl|hn
      ·refine⟨?_,g2⟩
       by_cases hk:n.kind=2
       ·grind[qE,Eu]
       ·by_cases hk1:n.kind=1
        ·unfold gJ at g1⊢;omega
        ·unfold gJ at g1⊢
         grind
      grind
   grind
  rw[ox]at hm;split at hm
  ·cases hm
  ·rename_i hno
   split at hm
   ·rename_i hk
    simp only[zAa,zBa,or_false]at hm;subst hm;obtain⟨s1,s2,s3⟩:=UP x.name x.kids (h1 hkids);refine⟨⟨λh=>?_,λ_=>?_,s1,λh=>?_,s2,s3⟩,rfl,rfl,λh=>?_⟩
    ·grind
    ·unfold gJ at e1⊢
     rw[if_pos hk]at e1⊢;exact e1
    ·grind
    ·omega
   ·rename_i hk
    simp only[zAa,zBa,or_false]at hm;subst hm
    have hkk:m.kids=[]:=by
     unfold gJ at e1;grind
    refine⟨⟨λh=>?_,λ_=>e1,e2,λh=>?_,by rw[hkk];rfl,by rw[hkk];rfl⟩,rfl,rfl,λ_=>rfl⟩
    ·grind[qE]
    grind
 ·exact h2 (λn hn=>ha n (by simp[hn])) x hx m hm
theorem zr(l):vu (bR l)=true:=by
 have hp:=qk l;have hs:=UQ (bI l) λn hn=>⟨(hp.1 n hn).1,(hp.1 n hn).2.1⟩
 obtain⟨k1,k2⟩:=Cr (f:=sH) (λk n a t ks t' hk h=>⟨λh3=>by simp_all,h.2⟩) ((bI l).flatMap aQ) λm hm=>by
  grind
 have e:bR l=dt ((bI l).flatMap aQ):=rfl;rw[e];unfold vu;rw[zAd];exact⟨decide_eq_true (Ct _ _ (λn hn=>⟨(k1 n hn).1,(k1 n hn).2.1⟩) k2),Ut _ λn hn=>(k1 n hn).2.2⟩
end Go.Abs.F
end
