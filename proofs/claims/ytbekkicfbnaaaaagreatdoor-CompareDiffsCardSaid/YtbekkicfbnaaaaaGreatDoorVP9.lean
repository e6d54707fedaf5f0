/- Plain: a kind's least value is one alone; turned round; of the same policy twice there is none that one alone allows. No condition. -/
import Derived.Test.YtbekkicfbnaaaaaGreatDoorVP1
import Derived.Test.YtbekkicfbnaaaaaGreatDoorVF17
set_option linter.all false open List renaming mem_cons→zAa,mem_append→zAb,mem_map→zAc,reduceReplicate→zAe,getElem?_eq_some_iff→zAf,length_append→zAg,getElem?_cons_succ→zAh,all_eq_true→zAi,length_cons→zAj,not_mem_nil→zBa,getElem?_cons_zero→zBb,map_map→zBd,cons_append→zBe,mem_of_getElem?→zBg,mem_filter→zBh,findIdx?_eq_some_iff_getElem→zBi,mem_flatMap→zBj,map_cons→zCa,length_map→zCd,nodup_cons→zCe,getElem?_eq_getElem→zCf,flatMap_cons→zCg,getElem?_map→zCh,pairwise_map→zCi,length_take→zDb,getElem?_eq_none→zDc,length_nil→zDd,take_append_of_le_length→zDf,getElem?_range→zDg,take_succ_cons→zDh,getElem?_append_right→zDj,getElem?_append_left→zEa,range→zEb,getElem?_eq_none_iff→zEc,take_zero→zEf,all_cons→zEg,map_congr_left→zEh,take_add_one→zEj,ext_getElem?→zFa,all_eq_false→zFb,append_assoc→zFc,nodup_append→zFd,take_length→zFf,any_eq_true→zFg,length_drop→zFi,getElem_mem→zFj,nil_append→zGd,length→zGh,map→zHa
open Bool renaming and_eq_true→zAd,true_and→zDa,or_eq_true→zGa,eq_iff_iff→zGc
open Option renaming not_isSome→zBc,getD_some→zBf,map_some→zDe,map_eq_some_iff→zEd,some→zGi
open Nat renaming le_refl→zCb,lt_trichotomy→zCc,add_one_sub_one→zDi,add_le_add→zEe,eq_or_lt_of_le→zEi,reduceSub→zGe,lt_or_ge→zGf,le_trans→zGg,mod_lt→zGj
open Option.some renaming injEq→zCj
open Function renaming comp_def→zFe,comp→zHc
open Prod renaming ext→zFh
open UInt8 renaming toNat_inj→zGb
open List.cons renaming injEq→zHb open Option renaming some→ś,none→ń open Bool renaming true→ť,false→ğ
section
set_option maxHeartbeats 4000000
set_option maxRecDepth 100000
namespace Go.Abs.F
open Go.Proofs
attribute [-simp] getElem?_pos zBc zBd
theorem JR:∀s t:Str,s.length=t.length->Op.bytesLess s t=ť\/s=t\/Op.bytesLess t s=ť
 |[],[],_=>.inr (.inl rfl)
 |[],y::t,h=>by simp at h
 |x::s,[],h=>by simp at h
 |x::s,y::t,h=>by
   simp only[Op.bytesLess,zGa,zAd,decide_eq_true_eq,beq_iff_eq,UInt8.lt_iff_toNat_lt];rcases zCc x.toNat y.toNat with h1|h1|h1
   ·exact .inl (.inl h1)
   ·have e:x=y:=zGb.1 h1
    subst e;rcases JR s t (by simpa using h)with h2|h2|h2
    ·exact .inl (.inr ⟨rfl,h2⟩)
    ·exact .inr (.inl (by rw[h2]))
    ·exact .inr (.inr (.inr ⟨rfl,h2⟩))
   ·exact .inr (.inr (.inl h1))
theorem Xv(s t:Str):FB s t\/s=t\/FB t s:=by
 grind[FB,zCc,JR]
theorem ZX{f g f1 f2}:∀{r r':Option (List Nat)},uT f g f1 f2 r->uT f g f1 f2 r'->r=r'
 |none,ń,_,_=>rfl
 |none,ś w,h,h'=>absurd h'.2.2.1 λe=>h _ (kM h'.1) h'.2.1 e
 |some w,ń,h,h'=>absurd h.2.2.1 λe=>h' _ (kM h.1) h.2.1 e
 |some w,ś w',h,h'=>by
   have k1:=h.2.2.2 _ (kM h'.1) h'.2.1 h'.2.2.1;have k2:=h'.2.2.2 _ (kM h.1) h.2.1 h.2.2.1;rcases Xv (bK w) (bK w')with h1|h1|h1
   ·exact absurd h1 k2
   ·have:=congrArg sw h1
    rw[BS h.1,BS h'.1]at this;rw[this]
   simp_all
theorem mj{f g f1 f2 r}(h:uT f g f1 f2 r):Dr f g f1 f2=r:=by
 have hex:∃r,uT f g f1 f2 r:=⟨r,h⟩;unfold Dr;rw[dif_pos hex];grind[ZX,Classical.choose_spec]
end Go.Abs.F
end
section
set_option maxHeartbeats 4000000
set_option maxRecDepth 100000
namespace Go.Abs.F
open Go.Proofs Go.Aut
attribute [-simp] getElem?_pos zBc zBd
theorem iI{Φ d K σ}(ps)(q)(m){f vs us H H' r}(hc:σ.curs (c9 vs ps)=ť)(hl:ir σ.h (c9 vs ps) vs=(q,m))(hu:fq m vs=us)(hH:kN σ.h m m=H)
 (h:Φ.e f ps us H r H') (hk:kin q H H'=ť) (k:K (St.put ⟨σ.r,σ.back q m H'⟩ d (bck (Fq q m σ.h.length H'.length) r))):xY Φ d f vs K σ:=by
 refine⟨ps,hc,r,H',?_,?_,?_⟩
 ·rw[hl,hH];exact hk
 ·simp_all
 ·rw[hl];exact k
def cc(k:Int)(el:Str):Label:=⟨k,el,[],ğ,[],ğ,ğ⟩
def bC(p q:Policy)(at':Str->Str->List Label)(el:Str):List Label:=cc 3 el::(aP p q el).flatMap (at' el)
def iL(p q:Policy):List Str:=dd (srt (srt (p.elements.map Allowed.name)++srt (q.elements.map Allowed.name)))
def fO(p q:Policy)(at':Str->Str->List Label):List Label:=[cc 1 [],cc 2 []]++(iL p q).flatMap (bC p q at')
theorem rU{α β:Type}(f:α->List β)(n):∀(l:List α),(∀x∈l,(f x).length<=n)->(l.flatMap f).length<=n*l.length
 |[],_=>by simp
 |x::l,h=>by
   have h1:=h x (by simp)
   have h2:=rU f n l λy hy=>h y (by simp[hy])
   grind[zAg,zAj,Nat.mul_add]
theorem pt(p q)(el):(aP p q el).length<=2*((aC p el).length+(aC q el).length):=by
 have hc:aP p q el=dd (srt (eu (aC p el++aC q el)))++dd (srt (i4 (aC p el++aC q el))):=rfl;rw[hc,zAg];have h1:=Fr (srt (eu (aC p el++aC q el)));grind[Fr,srt,i4,aC,AK,Et,fL,zAg]
theorem Jq(p q):(iL p q).length<=p.elements.length+q.elements.length:=by
 unfold iL;have:=Fr (srt (srt (p.elements.map Allowed.name)++srt (q.elements.map Allowed.name)));grind[fL,zAg,zCd]
theorem xg(p q)(hp:p.elements.length<=1000)(hq:q.elements.length<=1000)(hpr:∀el,(aC p el).length<=1000)(hqr:∀el,(aC q el).length<=1000)
 (at') (hat:∀el nm,(at' el nm).length<=4)
 (hA:∀el nm,Fn Tryz.prog iN [p.v,q.v,.str el,.str nm,.str (aG (aP p q el) nm)] (.seq 7 ((at' el nm).map Label.v))):
 Fn Tryz.prog we [p.v,q.v] (.seq 7 ((fO p q at').map Label.v)):=by
 refine yoE Kh ?_;simp;refine az (w8 p hp) (by simp) ?_
 simp;refine az (w8 q hq) (by simp) ?_
 simp;have hcc:=HZ (srt (p.elements.map Allowed.name)) (srt (q.elements.map Allowed.name)) (by grind[fL,zCd])
 have hnl:=Jq p q;obtain⟨A,hAe⟩:∃A,A=srt (p.elements.map Allowed.name)++srt (q.elements.map Allowed.name):=⟨_,rfl⟩;have hAl:A.length<=2000:=by grind[zAg,fL,zCd]
 have hNe:iL p q=dd (srt A):=by rw[hAe];rfl
 rw[<-hAe]at hcc;have s1:=lC A (by omega)
 have c1:=k9 (srt A) (by rw[fL];omega)
 rw[fL]at c1;have l1:=fL A;refine iI [] 0 [] (by simp) (by simp) (by simp) (by simp) hcc (by simp) ?_
 clear hcc hAe;simp;refine am [0] 1 [3] (by simp) (by simp) (by simp) (by simp) s1 (by simp) λ_ _=>?_
 simp;refine am [] 0 [3] (by simp) (by simp) (by simp) (by simp) c1 (by simp) λ_ _=>?_
 simp;simp only[fO,hNe];have hDl:(dd (srt A)).length<=2000:=by grind
 generalize dd (srt A)=D at *;clear hNe hnl c1 s1 l1
 have hEl:∀el,(bC p q at' el).length<=20000:=λel=>by
  have h1:=rU (at' el) 4 (aP p q el) λx _=>hat el x;grind[pt,bC,zAj]
 refine ah (λk:Nat=>⟨[(2,.ptr 0 0),(3,.ptr 1 0),(5,.ref 2 ([cc 1 [],cc 2 []]++(D.take k).flatMap (bC p q at')).length),(24,.ref 3 D.length),(25,.int .i64 D.length),(26,.int .i64 k)],
  [ś (.box [.seq 1 (p.top.map .str),.seq 3 (p.elements.map Allowed.v),.seq 1 (p.unwrap.map .str)]),ś (.box [.seq 1 (q.top.map .str),.seq 3 (q.elements.map Allowed.v),.seq 1 (q.unwrap.map .str)]),ś (.arr jp 7 (([cc 1 [],cc 2 []]++(D.take k).flatMap (bC p q at')).map Label.v)),ś (.arr aA 1 (D.map .str))]⟩)
  (λk=>k<=D.length) (λk=>D.length-k) [] _ 0 rfl (by simp[cc,Label.v]) (by simp) ?_
 rintro k hk N hN
 have hPl:([cc 1 [],cc 2 []]++(D.take k).flatMap (bC p q at')).length<=50000000:=by
  have:=rU (bC p q at') 20000 (D.take k) λx _=>hEl x;grind
 rcases zGf k D.length with hlt|hge
 ·obtain⟨x,hx⟩:=av hlt
  have hstep:[cc 1 [],cc 2 []]++(D.take (k+1)).flatMap (bC p q at')=([cc 1 [],cc 2 []]++(D.take k).flatMap (bC p q at'))++(cc 3 x::(aP p q x).flatMap (at' x)):=by simp[zEj,hx,bC]
  have hC:=xh p q x (hpr x) (hqr x);have hAx:=hA x;have hatx:=hat x;have hcl:(aP p q x).length<=4000:=by grind[pt]
  generalize[cc 1 [],cc 2 []]++(D.take k).flatMap (bC p q at')=P at *;generalize aP p q x=C at *;simp(disch:=omega) [hx];refine ae hC (by simp) λ_=>?_
  simp
  refine ah (λj:Nat=>⟨[(2,.ptr 0 0),(3,.ptr 1 0),(5,.ref 2 (P++(cc 3 x::(C.take j).flatMap (at' x))).length),(8,.str x),(9,.seq 1 (C.map .str)),(24,.ref 3 D.length),(25,.int .i64 D.length),(26,.int .i64 k),(39,.seq 1 (C.map .str)),(40,.int .i64 C.length),(41,.int .i64 j)],
   [ś (.box [.seq 1 (p.top.map .str),.seq 3 (p.elements.map Allowed.v),.seq 1 (p.unwrap.map .str)]),ś (.box [.seq 1 (q.top.map .str),.seq 3 (q.elements.map Allowed.v),.seq 1 (q.unwrap.map .str)]),ś (.arr jp 7 ((P++(cc 3 x::(C.take j).flatMap (at' x))).map Label.v)),ś (.arr aA 1 (D.map .str))]⟩)
   (λj=>j<=C.length) (λj=>C.length-j) [] _ 0 rfl (by simp[cc,Label.v]) (by simp) ?_
  rintro j hj N' hN'
  have hQl:(P++(cc 3 x::(C.take j).flatMap (at' x))).length<=60000000:=by
   have:=rU (at' x) 4 (C.take j) λy _=>hatx y;grind
  rcases zGf j C.length with hlt2|hge2
  ·obtain⟨y,hy⟩:=av hlt2
   have hst2:P++(cc 3 x::(C.take (j+1)).flatMap (at' x))=(P++(cc 3 x::(C.take j).flatMap (at' x)))++at' x y:=by simp[zEj,hy]
   have h4:=hatx y;have hAy:=hAx y;generalize P++(cc 3 x::(C.take j).flatMap (at' x))=R at *;simp(disch:=omega) [hy];refine az (Ib C (by omega) y) (by simp) ?_
   simp;refine az hAy (by simp) ?_
   simp(disch:=omega);exact hN'.out _<|Nx.mk (j+1) (by simp[hst2]) (by omega) (by omega)
  ·obtain rfl:j=C.length:=by omega
   simp only[zFf]at *;simp(disch:=omega);exact hN.out _<|Nx.mk (k+1) (by simp[hstep]) (by omega) (by omega)
 ·obtain rfl:k=D.length:=by omega
  simp
end Go.Abs.F
end
section
set_option maxHeartbeats 1000000
set_option maxRecDepth 100000
namespace Go.Abs.F
open Go.Proofs Go.Aut
attribute [-simp] getElem?_pos zBc zBd
noncomputable def atR(p q:Policy)(el nm:Str):List Label:=
 it el (aG (aP p q el) nm) (bA nm) (Dr (bD p el (aG (aP p q el) nm)) (bD q el (aG (aP p q el) nm)) ť ť) (Dr (bD p el (aG (aP p q el) nm)) (bD q el (aG (aP p q el) nm)) ť ğ)
  (Dr (bD p el (aG (aP p q el) nm)) (bD q el (aG (aP p q el) nm)) ğ ť) (Dr (bD p el (aG (aP p q el) nm)) (bD q el (aG (aP p q el) nm)) ğ ğ) 4
theorem Ur(p q)(el nm):(atR p q el nm).length<=4:=by
 grind[atR,it,zAg,zGg,zEe,ef]
theorem af2(p q)(hp:∀el nm c,dp p el nm=ś c->∃x,GoodC c x)(hq:∀el nm c,dp q el nm=ś c->∃x,GoodC c x)(el nm:Str):
 Fn Tryz.prog iN [p.v,q.v,.str el,.str nm,.str (aG (aP p q el) nm)] (.seq 7 ((atR p q el nm).map Label.v)):=by
 obtain⟨r0,r1,r2,r3,c0,c1,c2,c3,hl,hV⟩:=xf p q el (aG (aP p q el) nm) (hp el _) (hq el _);grind[Bu,atR,mj]
end Go.Abs.F
end
section
set_option maxHeartbeats 1000000
set_option maxRecDepth 100000
namespace Go.Abs.F
open Go.Proofs Go.Aut
attribute [-simp] getElem?_pos zBc zBd
end Go.Abs.F
end
section
set_option maxHeartbeats 1000000
set_option maxRecDepth 100000
namespace Go.Abs.F
open Go.Proofs Go.Aut
attribute [-simp] getElem?_pos zBc zBd
end Go.Abs.F
end
section
set_option maxHeartbeats 1000000
set_option maxRecDepth 100000
namespace Go.Abs.F
open Go.Proofs Go.Aut
attribute [-simp] getElem?_pos zBc zBd
theorem jw:∀(l out:List Rule)(i:Nat),(∀r∈out,∃c,r.value=good12 c)->∀r∈gG i out l,∃c,r.value=good12 c
 |[],out,i,h=>by simpa[gG]using h
 |x::l,out,i,h=>by
   simp only[gG];split
   ·exact jw l out _ h
   ·refine jw l _ _ λr hr=>?_
    rcases zAb.1 hr with hr|hr
    ·exact h r hr
    ·simp at hr;subst hr
     unfold iu;split<;>exact⟨_,rfl⟩
theorem jZ(p)(el):aC (ai p) el=[]\/∃l,aC (ai p) el=lu l:=by
 unfold aC;cases h:aJ (ai p).elements el with
 |none=>exact .inl rfl
 |some e=>obtain⟨_,l,hl⟩:=tu p e (k8 h).1;grind
theorem iF(p)(el):(aC (ai p) el).length<=1000:=by
 grind[jZ,vE]
theorem tr(p)(el nm)(c)(h:dp (ai p) el nm=ś c):∃x,GoodC c x:=by
 simp only[dp,zEd]at h;obtain⟨r,hr,rfl⟩:=h;have hm:=rX hr;rcases jZ p el with h|⟨l,h⟩<;>rw[h]at hm
 ·simp at hm
 ·obtain⟨c,hc⟩:=jw (l.take 3) [] 0 (by simp) r hm.1
  rw[hc];exact Gr c
theorem y7(els)(k)(own):(lm els k own).map Allowed.name=els.map Allowed.name:=by
 unfold lm;split
 ·rename_i e he
  refine zFa λi=>?_;grind
 ·rfl
theorem CC:∀(l els:List Allowed)(k:Nat),(iO k els l).map Allowed.name=els.map Allowed.name
 |[],els,k=>by simp[iO]
 |e::l,els,k=>by simp only[iO];rw[CC l,y7]
theorem j1(p):(ai p).elements.length<=1000:=by
 have h:=congrArg zGh (CC (p.elements.take (m4 0 [] (p.elements.take 5)).length) (m4 0 [] (p.elements.take 5)) 0);grind[zCd,yr,ai]
end Go.Abs.F
end
section
set_option maxHeartbeats 1000000
set_option maxRecDepth 100000
namespace Go.Abs.F
open Go.Proofs Go.Aut
attribute [-simp] getElem?_pos zBc zBd
end Go.Abs.F
end
section
set_option maxHeartbeats 1000000
set_option maxRecDepth 100000
namespace Go.Abs.F
open Go.Proofs Go.Aut
attribute [-simp] getElem?_pos zBc zBd
noncomputable def aY(p q:Policy):List Label:=fO p q (atR p q)
structure Wi where
 len:Nat
 nl:Nat
 row:Nat->Nat
 many:Nat->Bool
 attr:Nat->Bool
 text:Nat->Bool
 stands:Nat->Bool
 needed:List Nat
def Wi.lacks(w:Wi)(f t:Nat):Bool:=w.needed.any λn=>decide (f<n)&&decide (n<t)
def Wi.ends(w:Wi)(s:Nat):Bool:=!decide (s=w.len+3)&&(decide (w.len+1<=s)|| !w.lacks s (w.len+2))
def Wi.next(w:Wi)(s r:Nat):Nat:=
 if w.len+3<=s\/w.nl<=r then w.len+3
 else if w.attr r=ť then(if w.len+1<=s\/w.row r=0\/(w.row r<=s/\¬(w.row r=s/\w.many r=ť))\/w.lacks s (w.row r)=ť then w.len+3 else w.row r)
 else if w.ends s=ğ\/w.stands r=ğ then w.len+3
 else if w.text r=ğ then w.len+1
 else if s=w.len+2 then w.len+3 else w.len+2
inductive Tr where
 |mk (label:Nat) (kids:List Tr)
def Tr.label:Tr->Nat
 |⟨l,_⟩=>l
def Tr.kids:Tr->List Tr
 |⟨_,k⟩=>k
def bP(n:Nat):Tr:=⟨n,[]⟩
structure SideP where
 next:List (List Nat)
 out:List Nat
structure HedgeP where
 states:Nat
 labels:List SideP
 root:SideP
section
variable {p:List Tr->Prop}(h0:p [])(h1:∀t l,p t.kids->p l->p (t::l))
include h0 h1
mutual
theorem kJ:∀l,p l
 |[]=>h0
 |t::l=>h1 t l (XP t) (kJ l)
theorem XP:∀t:Tr,p t.kids
 |⟨_,ks⟩=>kJ ks
end
end
def fM(n own:Nat)(next:Nat->Nat->Nat)(tells:Nat->Nat):SideP:=
 ⟨(zEb own).map λs=>(zEb (n+1)).map (next s),(zEb own).map tells⟩
def cH(p:Policy)(par:Str)(b:Label):Bool:=
 if b.kind=1 then hasS (mW p par) ja else if b.kind=2 then hasS (mW p par) dU else if b.kind=3 then(aJ p.elements b.element).isSome&&hasS (mW p par) b.element else ğ
def aR(par:Str)(names:List Str)(b:Label):List Str:=
 if b.kind=4/\par≠[]/\b.element=par then(if names.getLast?=ś b.name then names else names++[b.name])else names
def ar(par:Str):List Str->List Label->List Str
 |ns,[]=>ns
 |ns,b::l=>ar par (aR par ns b) l
def bp(par:Str):List Str->List Label->List Nat
 |_,[]=>[]
 |ns,b::l=>(if b.kind=4/\par≠[]/\b.element=par then(aR par ns b).length else 0)::bp par (aR par ns b) l
def jj(l:List Str)(s:Str):Nat:=match l.findIdx? (λx=>decide (x=s))with
 |some i=>i
 |none=>l.length
def au(p:Policy)(L:List Label)(par:Str)(req:List Str):Wi where
 len:=(ar par [] L).length
 nl:=L.length
 row r:=((bp par [] L)[r]?).getD 0
 many r:=match L[r]? with
  |some b=>b.many
  |none=>ğ
 attr r:=match L[r]? with
  |some b=>decide (b.kind=4)
  |none=>ğ
 text r:=match L[r]? with
  |some b=>decide (b.kind=1)
  |none=>ğ
 stands r:=match L[r]? with
  |some b=>cH p par b
  |none=>ğ
 needed:=req.map λs=>jj (ar par [] L) s+1
def qj(al:Label->Bool)(b:Label):Bool:=decide (b.kind=1)||(decide (b.kind=2)||(decide (b.kind=4)&&al b))
def jM(L:List Label)(al:Label->Bool)(i:Nat)(b:Label):SideP:=
 fM L.length 2 (λ_ _=>1) λs=>if s=0/\qj al b=ť then i else L.length
def sy(L:List Label)(w:Wi)(i:Nat):SideP:=fM L.length (w.len+4) w.next λs=>if w.ends s=ť then i else L.length
def b6(e:Allowed):List Str:=(e.rules.filter λr=>r.req).map Rule.name
def eo(p:Policy)(L:List Label)(al:Label->Bool)(i:Nat)(b:Label):SideP:=
 if b.kind=3 then(match aJ p.elements b.element with
  |some e=>sy L (au p L b.element (b6 e)) i
  |none=>jM L al i b)else jM L al i b
def rD(p:Policy)(L:List Label):SideP:=
 fM L.length ((au p L [] []).len+4) (au p L [] []).next λs=>if(au p L [] []).ends s=ť then 1 else 0
def ba(p:Policy)(L:List Label)(al:Label->Bool):HedgeP:=⟨L.length+1,L.mapIdx λi b=>eo p L al i b,rD p L⟩
def lP(par:Str)(b:Label):Prop:=b.kind=4/\par≠[]/\b.element=par
instance (par:Str)(b:Label):Decidable (lP par b):=by unfold lP;infer_instance
theorem ip{par ns b}(h:¬lP par b):aR par ns b=ns:=if_neg h
theorem io{par ns b}(h:lP par b):aR par ns b=if ns.getLast?=ś b.name then ns else ns++[b.name]:=if_pos h
theorem Jp{par ns b}(h:lP par b):0<(aR par ns b).length/\(aR par ns b)[(aR par ns b).length-1]?=ś b.name:=by
 grind[io,zAf,zAg,zDj]
theorem qH{par}(ns)(b):∃u,aR par ns b=ns++u:=by
 by_cases h:lP par b
 ·rw[io h]
  split
  ·simp
  ·exact⟨_,rfl⟩
 simp_all[ip]
theorem F8{par}:∀(l:List Label)(ns:List Str),∃u,ar par ns l=ns++u
 |[],ns=>⟨[],by simp[ar]⟩
 |b::l,ns=>by
   obtain⟨u,hu⟩:=qH (par:=par) ns b;obtain⟨v,hv⟩:=F8 (par:=par) l (aR par ns b);grind[ar,zFc]
theorem fX{par}:∀(l:List Label)(ns:List Str),(bp par ns l).length=l.length
 |[],ns=>rfl
 |b::l,ns=>by simp[bp,fX l]
theorem nZ{par}:∀(l:List Label)(ns:List Str)(i:Nat)(b:Label),l[i]?=ś b->lP par b->
 ∃r,(bp par ns l)[i]?=ś r/\ns.length<=r/\0<r/\r<=(ar par ns l).length/\(ar par ns l)[r-1]?=ś b.name
 |[],ns,i,b,h,_=>by simp at h
 |x::l,ns,0,b,h,hb=>by
   simp only[zBb,zCj]at h;subst h;obtain⟨h1,h2⟩:=Jp (ns:=ns) hb;obtain⟨u,hu⟩:=F8 (par:=par) l (aR par ns x);obtain⟨v,hv⟩:=qH (par:=par) ns x;refine⟨(aR par ns x).length,?_,?_,h1,?_,?_⟩
   ·simp only[bp,zBb]
    exact congrArg ś (if_pos hb)
   ·rw[hv,zAg];omega
   ·grind[ar,zAg]
   grind[ar,zEa]
 |x::l,ns,i+1,b,h,hb=>by
   simp only[zAh]at h;obtain⟨r,h1,h2,h3,h4,h5⟩:=nZ l (aR par ns x) i b h hb;obtain⟨v,hv⟩:=qH (par:=par) ns x;have:ns.length<=(aR par ns x).length:=by rw[hv,zAg];omega
   exact⟨r,by grind[bp,zAh],by omega,h3,h4,h5⟩
theorem I0{par}:∀(l:List Label)(ns:List Str)(i:Nat)(b:Label),l[i]?=ś b->¬lP par b->(bp par ns l)[i]?=ś 0
 |[],ns,i,b,h,_=>by simp at h
 |x::l,ns,0,b,h,hb=>by
   simp only[zBb,zCj]at h;subst h;simp only[bp,zBb];exact congrArg ś (if_neg hb)
 |x::l,ns,i+1,b,h,hb=>by
   simp only[zAh]at h;simpa only[bp,zAh]using I0 l (aR par ns x) i b h hb
theorem eA{par}:∀(a b:List Label)(ns:List Str),ar par ns (a++b)=ar par (ar par ns a) b
 |[],b,ns=>rfl
 |x::a,b,ns=>by simp only[zBe,ar];exact eA a b _
def dz(l:List Nat):List Nat:=l.mergeSort λa b=>decide (a<=b)
theorem aiF{l s}(h:jj l s<l.length):l[jj l s]?=ś s:=by
 grind[jj,decide,zBi,zCf]
theorem aaZ(l)(s):jj l s<=l.length:=by
 grind[jj,decide,zBi]
theorem bo(l):(dz l).Perm l:=List.mergeSort_perm _ _
theorem FV(l):(dz l).Pairwise λa b=>a<=b:=by
 have h:=List.pairwise_mergeSort (le:=λ(a b:Nat)=>decide (a<=b)) (λa b c h1 h2=>by simp at *;omega) (λa b=>by simp;omega) l
 exact h.imp λh=>by simpa using h
theorem En(p)(L)(par)(req)(r):(au p L par req).row r<=(au p L par req).len:=by
 simp only[au];cases hr:L[r]? with
 |none=>
   grind[bp,zEc,fX]
 |some b=>
   by_cases hb:lP par b
   ·obtain⟨s,h1,_,_,h4,_⟩:=nZ (par:=par) L [] r b hr hb
    rw[h1];exact h4
   grind[I0]
end Go.Abs.F
end
