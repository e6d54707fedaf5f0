/- What strainerref03's Same, Weight, All and strainerref04's Plain answer. No condition. -/
import Derived.Test.YtnnbodoijkbceaaGreatDoorIP2
import Derived.Test.YtnnbodoijkbceaaGreatDoorICodeR
import Derived.Test.YtnnbodoijkbceaaGreatDoorICodeU
set_option linter.all false
set_option maxHeartbeats 0
set_option maxRecDepth 100000
open List renaming reduceReplicate→zAa,getElem?_eq_some_iff→zAc,mem_of_getElem?→zAd,getElem?_append_left→zAe,getElem?_set_ne→zAf,drop_eq_nil_of_le→zAg,getElem?_concat_length→zAh,getElem?_set_self→zAi,replicate→zBa,map_map→zBc
open Bool renaming false_and→zAb,true_and→zAj
open Option renaming not_isSome→zBb
open Nat renaming lt_or_ge→zBd
open List.cons renaming injEq→zBe
section
namespace Go.Abs.F
open Go.Proofs
attribute [-simp] getElem?_pos zBb zBc
theorem Di(a b a' b':Str):eqK (.strct [.str a,.str b]) (.strct [.str a',.str b'])=(decide (a=a')&&decide (b=b')):=by
 simp[eqK,cl,yn,eqC]
theorem uP(a b:Str):bc ⟨true,[.s,.s]⟩ (.strct [.str a,.str b])=true:=by
 simp[bc,gY,cl,bS,kOf,aS]
def cF(n:Node):Prop:=n.attrs.length<=1000000/\n.kids.length<=1000000
def lL:List Attr->List Attr->Bool
 |[],[]=>true
 |a::l,b::m=>(decide (a.name=b.name)&&decide (a.value=b.value))&&lL l m
 |_,_=>false
theorem G1:∀{a b:List Attr},lL a b=true↔a=b
 |[],[]=>by simp[lL]
 |[],b::m=>by simp[lL]
 |a::l,[]=>by simp[lL]
 |a::l,b::m=>by
   obtain⟨n,v⟩:=a;obtain⟨n',v'⟩:=b;simp[lL,G1]
theorem G0:∀{a b:List Attr},a.length≠b.length->lL a b=false
 |[],[],h=>by simp at h
 |[],b::m,h=>rfl
 |a::l,[],h=>rfl
 |a::l,b::m,h=>by simp[lL,G0 (a:=l) (b:=m) (by simpa using h)]
mutual
def VX:Node->Node->Bool
 |⟨k,nm,a,t,ks⟩,⟨k',nm',a',t',ks'⟩=>decide (k=k')&&(decide (nm=nm')&&(decide (t=t')&&(lL a a'&&dh ks ks')))
def dh:List Node->List Node->Bool
 |[],[]=>true
 |x::l,y::m=>VX x y&&dh l m
 |_,_=>false
end
theorem Mb(x y:Node):VX x y=(decide (x.kind=y.kind)&&(decide (x.name=y.name)&&(decide (x.text=y.text)&&(lL x.attrs y.attrs&&dh x.kids y.kids)))):=by cases x;cases y;simp[VX]
theorem Bn:∀(a b:List Node),dh a b=true↔a=b:=by
 refine aw (p:=fun a=>∀b,dh a b=true↔a=b) ?_ ?_
 ·intro b
  cases b<;>simp[dh]
 ·intro x l h1 h2 b
  cases b with
  |nil=>simp[dh]
  |cons y m=>
    simp only[dh,Mb,Bool.and_eq_true,decide_eq_true_eq,G1,h1,h2,zBe];cases x;cases y;simp only[Node.mk.injEq];constructor
    ·rintro⟨⟨h1,h2,h3,h4,h5⟩,h6⟩;exact⟨⟨h1,h2,h4,h3,h5⟩,h6⟩
    ·rintro⟨⟨h1,h2,h3,h4,h5⟩,h6⟩;exact⟨⟨h1,h2,h4,h3,h5⟩,h6⟩
theorem ce{α:Type}{l:List α}{k:Nat}{x:α}(h:l[k]?=some x):l.drop k=x::l.drop (k+1):=by
 obtain⟨h1,e⟩:=zAc.1 h;rw[List.drop_eq_getElem_cons h1,e]
theorem Bm:∀(a b:List Node),a.length≠b.length->dh a b=false
 |[],[],h=>by simp at h
 |[],b::m,h=>rfl
 |a::l,[],h=>rfl
 |a::l,b::m,h=>by simp[dh,Bm l m (by simpa using h)]
theorem Lc:∀(a b:List Node),an cF a->an cF b->a.length<=1000000->b.length<=1000000->Fn Tryz.prog gH [.seq 5 (a.map Node.v),.seq 5 (b.map Node.v)] (.bool (dh a b)):=by
 have key:∀a b:List Node,a.length<=1000000->b.length<=1000000->(∀n∈a,cF n)->(∀n∈b,cF n)->(∀n∈a,∀m∈b,Fn Tryz.prog gH [.seq 5 (n.kids.map Node.v),.seq 5 (m.kids.map Node.v)] (.bool (dh n.kids m.kids)))->
  Fn Tryz.prog gH [.seq 5 (a.map Node.v),.seq 5 (b.map Node.v)] (.bool (dh a b)):=by
  intro a b hla hlb fa fb hrec;refine yoA J1 ?_;unfold w9;by_cases hab:a.length=b.length
  ·generalize hR:dh a b=R
   simp(disch:=omega) [-zAa,hab];refine ak (fun k:Nat=>⟨[(0,.seq 5 (a.map Node.v)),(1,.seq 5 (b.map Node.v)),(5,.int .i64 k)],[]⟩) (fun k=>k<=a.length/\dh (a.drop k) (b.drop k)=R) (fun k=>a.length-k) [] _ 0 rfl (by simp) (by simp[hR]) ?_
   rintro j ⟨hj,hi⟩ N hN;rcases zBd j a.length with hlt|hge
   ·obtain⟨x,hx⟩:=aP hlt
    obtain⟨y,hy⟩:=aP (l:=b) (k:=j) (by omega)
    have hk:=hrec x (zAd hx) y (zAd hy);have hal:=(fa x (zAd hx)).1;have hbl:=(fb y (zAd hy)).1;rw[ce hx,ce hy]at hi;simp only[dh,Mb]at hi;generalize hkk:dh x.kids y.kids=sk at *;by_cases h1:x.kind=y.kind
    ·by_cases h2:x.name=y.name
     ·by_cases h3:x.text=y.text
      ·by_cases h4:x.attrs.length=y.attrs.length
       ·simp only[h1,h2,h3,decide_true,zAj]at hi
        replace hi:=hid hi;simp(disch:=omega) [-zAa,hx,hy,h1,h2,h3,h4]
        refine ak (fun k:Nat=>⟨[(0,.seq 5 (a.map Node.v)),(1,.seq 5 (b.map Node.v)),(5,.int .i64 j),(6,.ptr 0 0),(7,.ptr 1 0),(8,.int .i64 k)],
         [some (.box [.int .i64 y.kind,.str y.name,.seq 2 (x.attrs.map Attr.v),.str y.text,.seq 5 (x.kids.map Node.v)]),some (.box [.int .i64 y.kind,.str y.name,.seq 2 (y.attrs.map Attr.v),.str y.text,.seq 5 (y.kids.map Node.v)])]⟩)
         (fun k=>k<=x.attrs.length/\lL (x.attrs.drop k) (y.attrs.drop k)=lL x.attrs y.attrs) (fun k=>x.attrs.length-k) [] _ 0 rfl (by simp[h1,h2,h3]) (by simp) ?_
        rintro i ⟨hi2,hs⟩ N' hN';rcases zBd i x.attrs.length with hlt2|hge2
        ·obtain⟨u,hu⟩:=aP hlt2
         obtain⟨v,hv⟩:=aP (l:=y.attrs) (k:=i) (by omega)
         rw[ce hu,ce hv]at hs;simp only[lL]at hs;by_cases g1:u.name=v.name
         ·by_cases g2:u.value=v.value
          ·simp(disch:=omega) [-zAa,hu,hv,Di,uP,g1,g2]
           exact hN'.out _<|Nx.mk (i+1) (by simp) ⟨by omega,by simpa[g1,g2]using hs⟩ (by omega)
          ·simp only[g2,decide_false,Bool.and_false,zAb]at hs
           have hi:=hi.out;rw[<-hs]at hi;simp only[zAb]at hi;subst hi;simp(disch:=omega) [-zAa,hu,hv,Di,uP,g1,g2]
         ·simp only[g1,decide_false,zAb]at hs
          have hi:=hi.out;rw[<-hs]at hi;simp only[zAb]at hi;subst hi;simp(disch:=omega) [-zAa,hu,hv,Di,uP,g1]
        ·obtain rfl:i=x.attrs.length:=by omega
         have hd1:x.attrs.drop x.attrs.length=[]:=zAg (by omega)
         have hd2:y.attrs.drop x.attrs.length=[]:=zAg (by omega)
         rw[hd1,hd2]at hs;simp only[lL]at hs;have hi:=hi.out;rw[<-hs]at hi;simp only[zAj]at hi;replace hi:=hid hi;simp(disch:=omega) [-zAa];refine ac hk rfl fun _=>?_;cases sk
         ·have hi:=hi.out
          simp only[zAb]at hi;subst hi;simp(disch:=omega) [-zAa]
         ·simp(disch:=omega) [-zAa]
          exact hN.out _<|Nx.mk (j+1) (by simp) ⟨by omega,by simpa using hi.out⟩ (by omega)
       ·have h4':¬(x.attrs.length:Int)=(y.attrs.length:Int):=by omega
        rw[G0 h4]at hi;simp only[h1,h2,h3,decide_true,zAj,zAb]at hi;subst hi;simp(disch:=omega) [-zAa,hx,hy,h1,h2,h3,h4']
      ·simp only[h1,h2,h3,decide_true,decide_false,zAj,zAb]at hi
       subst hi;simp(disch:=omega) [-zAa,hx,hy,h1,h2,h3]
     ·simp only[h1,h2,decide_true,decide_false,zAj,zAb]at hi
      subst hi;simp(disch:=omega) [-zAa,hx,hy,h1,h2]
    ·simp only[h1,decide_false,zAb]at hi
     subst hi;simp(disch:=omega) [-zAa,hx,hy,h1]
   ·obtain rfl:j=a.length:=by omega
    have hd1:a.drop a.length=[]:=zAg (by omega)
    have hd2:b.drop a.length=[]:=zAg (by omega)
    rw[hd1,hd2]at hi;simp only[dh]at hi;subst hi;simp(disch:=omega) [-zAa]
  ·have hab':¬(a.length:Int)=(b.length:Int):=by omega
   rw[Bm a b hab];simp(disch:=omega) [-zAa,hab,hab']
 have all:∀a:List Node,an cF a->∀b,an cF b->∀n∈a,∀m∈b,Fn Tryz.prog gH [.seq 5 (n.kids.map Node.v),.seq 5 (m.kids.map Node.v)] (.bool (dh n.kids m.kids)):=by
  refine aw (fun _ _ _ n h=>by cases h) ?_
  intro n l h1 h2 ha b hb x hx m hm;obtain⟨⟨g1,g2⟩,g3⟩:=aL.1 ha;rcases List.mem_cons.1 hx with rfl|hx
  ·obtain⟨k1,k2⟩:=aN.1 hb m hm
   exact key x.kids m.kids g1.2 k1.2 (fun n hn=>(aN.1 g2 n hn).1) (fun n hn=>(aN.1 k2 n hn).1) (h1 g2 m.kids k2)
  ·exact h2 g3 b hb x hx m hm
 exact fun a b ha hb hl hl'=>key a b hl hl' (fun n hn=>(aN.1 ha n hn).1) (fun n hn=>(aN.1 hb n hn).1) (all a ha b hb)
end Go.Abs.F
end
section
namespace Go.Abs.F
open Go.Proofs Go.RowKit
attribute [-simp] getElem?_pos zBb zBc
def jmT(J:List Jb):Nat:=(J.map fun q=>1+ai q.sp).sum
theorem cC(a b:List Jb):jmT (a++b)=jmT a+jmT b:=by simp[jmT]
theorem fg(q:Jb):jmT [q]=1+ai q.sp:=by simp[jmT]
theorem vS:∀J:List Jb,J.length<=jmT J
 |[]=>by simp[jmT]
 |q::J=>by
   have:=vS J;simp only[jmT,List.map_cons,List.sum_cons,List.length_cons]at *;omega
theorem u3(n:Node):lF n=1+ai n.kids:=by cases n;simp[lF]
def pO:V:=.strct [.int .i64 0,.str [],.seq 2 [],.str [],.seq 5 []]
theorem OF(l:List Node)(hf:an cF l)(hc:ai l<=1000000):Fn Tryz.prog M4 [.seq 5 (l.map Node.v)] (.seq 5 (l.map Node.v)):=by
 refine FnE.fn ?_;refine FnE.of_imageQ mixed NG.1 NG.2 rfl fun ho=>?_;clear ho;simp(disch:=omega) [-zAa]
 refine ak (fun(q:List Po×Nat×List Jb)=>⟨[(3,.q 0 0 0 0 0),(4,.q 1 q.2.1 q.2.2.length 0 0)],[some (.pool q.1)]⟩)
  (fun q=>(∃S,TI (fun p=>p.ag=[.seq 5 (p.sp.map Node.v)]/\an cF p.sp) (fun _ v=>v=pO) 41 176 2 0 l S 0 0 [] q.1 q.2.1 q.2.2)/\jmT q.2.2<=1+ai l) (fun q=>jmT q.2.2) [] _ ([.bx 0 [.nil 5],.rw 176 2 [Jb.v 0 ⟨l,[.seq 5 (l.map Node.v)],none⟩]],1,[⟨l,[.seq 5 (l.map Node.v)],none⟩]) rfl (by simp[Jb.v,Jb.tv])
  ⟨⟨_,TI.start ⟨rfl,hf⟩ rfl rfl (by simp) rfl rfl⟩,by simp[fg]⟩ ?_
 rintro⟨ms,jw,J⟩ ⟨⟨S,hn⟩,hjm⟩ N hN;simp only at hn hjm;have hwt:=hn.wait;rcases List.eq_nil_or_concat J with rfl|⟨J0,q,rfl⟩
 ·obtain⟨v,F,hv,hF⟩:=hn.read
  simp only[List.map_nil]at hwt;have hv2:=hn.var;obtain⟨v',hv',hg⟩:=hv2;rw[hv]at hv';cases hv';rcases hg with⟨rfl|rfl,_⟩|⟨j',rfl,_⟩
  all_goals
   simp(disch:=omega) [-zAa,hwt,hv];exact⟨_,F,[.seq 5 (l.map Node.v)],rfl,by simp[gS,hF],rfl⟩
 ·rw[List.concat_eq_append]at *
  have hpop:=hn.pop;obtain⟨⟨hag,hfew⟩,_,_⟩:=hn.jobs q (by simp)
  have hJm:(J0.map (Jb.v 0)).length=J0.length:=by simp
  have hJl:=vS (J0++[q]);rw[cC,fg]at hjm hJl
  obtain⟨a,tj,tn,ti,tt,hT⟩:∃a j n i o,q.tv 0=.q a j n i o:=by
   unfold Jb.tv;split
   ·exact⟨_,_,_,_,_,rfl⟩
   ·exact⟨_,_,_,_,_,rfl⟩
  have hqv:Jb.v 0 q=.strct [.seq 5 (q.sp.map Node.v),.q a tj tn ti tt]:=by simp[Jb.v,hag,hT]
  have hwt':ms[jw]?=some (.rw 176 2 (J0.map (Jb.v 0)++[.strct [.seq 5 (q.sp.map Node.v),.q a tj tn ti tt]])):=by rw[hwt];simp[hqv]
  have hql:(J0.map (Jb.v 0)++[V.strct [.seq 5 (q.sp.map Node.v),.q a tj tn ti tt]])[J0.length]?=some (.strct [.seq 5 (q.sp.map Node.v),.q a tj tn ti tt]):=by
   rw[<-hJm];exact zAh ..
  have hqt:(J0.map (Jb.v 0)++[V.strct [.seq 5 (q.sp.map Node.v),.q a tj tn ti tt]]).take J0.length=J0.map (Jb.v 0):=by rw[<-hJm,List.take_left]
  have hJl2:J0.length+1<=1000001:=by simp at hJl;omega
  simp(disch:=omega) [-zAa,hwt',hql,hJm,hqt];refine BrK.mk (fun he=>?_) (fun he=>?_)
  ·have he:q.sp=[]:=by simpa using he
   simp(disch:=omega) [-zAa];exact hN.out _<|Nx.mk (ms.set jw .no++[.rw 176 2 (J0.map (Jb.v 0))],ms.length,J0) (by simp) ⟨⟨S,hpop.skip he⟩,by simp only;omega⟩ (by simp only[cC,fg];omega)
  ·have he:q.sp≠[]:=by simpa using he
   have hcs:q.sp.length<=ai q.sp:=dr q.sp;have hml:(ms.set jw Po.no++[Po.rw 176 2 (J0.map (Jb.v 0))]).length=ms.length+1:=by simp
   generalize hM0:ms.set jw Po.no++[Po.rw 176 2 (J0.map (Jb.v 0))]=m0 at *
   have hrow:TI (fun p=>p.ag=[.seq 5 (p.sp.map Node.v)]/\an cF p.sp) (fun _ v=>v=pO) 41 176 2 0 l (xB S (ms.length+1) q.sp) (ms.length+1) 0 [q] (m0++[.rw 41 5 (zBa q.sp.length pO)]) ms.length J0:=by
    have h1:=hpop.ext (ms':=m0++[.rw 41 5 (zBa q.sp.length pO)]) (by simp) (fun j p hj _=>by rw[zAe (zAc.1 hj).1];exact hj)
    have hn0:S (ms.length+1)=none:=by
     cases hs:S (ms.length+1)with
     |none=>rfl
     |some L=>have:=(hpop.dom _ _ hs).1;omega
    refine h1.row (el:=zBa q.sp.length pO) hn0 (by omega) (by omega) ?_ (by simp) fun i m hm=>⟨pO,?_,rfl⟩
    ·rw[<-hml];exact zAh ..
    ·rw[List.getElem?_replicate,if_pos (zAc.1 hm).1]
   have hS1:xB S (ms.length+1) q.sp (ms.length+1)=some q.sp:=xA ..;generalize xB S (ms.length+1) q.sp=S1 at *;simp(disch:=omega) [-zAa,hml]
   refine ak (fun(x:Nat×List Po×List Jb)=>⟨[(3,.q 0 0 0 0 0),(4,.q 1 ms.length x.2.2.length 0 0),(5,.ptr 1 0),(6,.q 1 (ms.length+1) q.sp.length 0 0),(35,.seq 5 (q.sp.map Node.v)),(36,.int .i64 q.sp.length),(37,.int .i64 x.1)],
    [some (.pool x.2.1),some (.box [.seq 5 (q.sp.map Node.v),.q a tj tn ti tt])]⟩)
    (fun x=>x.1<=q.sp.length/\TI (fun p=>p.ag=[.seq 5 (p.sp.map Node.v)]/\an cF p.sp) (fun _ v=>v=pO) 41 176 2 0 l S1 (ms.length+1) x.1 [q] x.2.1 ms.length x.2.2/\jmT x.2.2+ai (q.sp.drop x.1)<=jmT J0+ai q.sp) (fun x=>q.sp.length-x.1) [] _ (0,m0++[.rw 41 5 (zBa q.sp.length pO)],J0) rfl (by simp[pO]) ⟨Nat.zero_le _,hrow,by simp⟩ ?_
   rintro⟨k,mk,Jk⟩ ⟨hk,hti,hjk⟩ N2 hN2;simp only at hk hti hjk;have hw2:=hti.wait;obtain⟨el,he1,he2,he3⟩:=hti.rows _ _ hS1;have hlen2:=(hti.dom _ _ hS1).1;have hJkl:=vS Jk;rcases place q.sp k hk with⟨hke,hd⟩|⟨hlt,m,hm,hd⟩<;>rw[hd]at hjk
   ·subst hke
    have hfull:=hti.full hS1;cases ht:q.tg with
    |none=>
      have hst:=hfull.store0 (.inr ⟨_,rfl,hS1⟩) ht;have e:V.q a tj tn ti tt=.q 0 0 0 0 0:=by rw[<-hT];simp[Jb.tv,ht]
      cases e;obtain⟨v,hv,_⟩:=hti.var;simp(disch:=omega) [-zAa,hv];exact hN.out _<|Nx.mk (mk.set 0 (.bx 0 [.q 1 (ms.length+1) q.sp.length 0 0]),ms.length,Jk) (by simp) ⟨⟨S1,hst⟩,by simp only[ai]at hjk⊢;omega⟩ (by simp only[cC,fg,ai]at hjk⊢;omega)
    |some tg=>
      obtain⟨j,n,i⟩:=tg;obtain⟨e2,m2,kc,g1,g2,g3,g4⟩:=hfull.store1 (.inr ⟨_,rfl,hS1⟩) ht;have e:V.q a tj tn ti tt=.q 2 j n i 4:=by rw[<-hT];simp[Jb.tv,ht]
      cases e;subst g2;simp only[eT]at g3 g4;have hil:=(zAc.1 g3).1;simp(disch:=omega) [-zAa,g1,g3];exact hN.out _<|Nx.mk (_,ms.length,Jk) (by simp) ⟨⟨S1,g4⟩,by simp only[ai]at hjk⊢;omega⟩ (by simp only[cC,fg,ai]at hjk⊢;omega)
   ·obtain⟨hmf,hmk⟩:=aN.1 hfew m (zAd hm)
    simp only[ai,u3]at hjk;have w1:∀x,(mk++[x])[ms.length]?=some (.rw 176 2 (Jk.map (Jb.v 0))):=fun x=>by rw[zAe (by omega)];exact hw2
    have w2:∀x:Po,(mk++[x])[mk.length]?=some x:=fun x=>zAh ..;have w4:∀x y:Po,(mk++[x]).set ms.length y=mk.set ms.length y++[x]:=fun x y=>List.set_append_left _ _ (by omega)
    have w3:∀x y:Po,(mk.set ms.length y++[x])[ms.length+1]?=some (.rw 41 5 el):=fun x y=>by rw[zAe (by rw[List.length_set];omega),zAf (by omega)];exact he1
    have hJml:(Jk.map (Jb.v 0)).length=Jk.length:=by simp
    obtain⟨v0,hv0⟩:=aP (l:=el) (k:=k) (by omega)
    have hv0z:v0=pO:=by
     rcases he3 k m hm with⟨_,v,h1,h2⟩|⟨h1,_⟩
     ·rw[hv0]at h1;cases h1;exact h2
     ·exact(h1 ⟨rfl,Nat.le_refl _⟩).elim
    subst hv0z;simp only[pO]at hv0;have hkl:k<q.sp.length:=hlt;have hcell:V.strct [.int .i64 m.kind,.str m.name,.seq 2 (m.attrs.map Attr.v),.str m.text,.nil 5]=eT m (.nil 5):=rfl;have hjob:V.strct [.seq 5 (m.kids.map Node.v),.q 2 (ms.length+1) q.sp.length k 4]=Jb.v 0 ⟨m.kids,[.seq 5 (m.kids.map Node.v)],some (ms.length+1,q.sp.length,k)⟩:=rfl;have hma:=hmf.1
    have nx:=hti.next (ms':=((mk++[Po.rw 176 2 [Jb.v 0 ⟨m.kids,[.seq 5 (m.kids.map Node.v)],some (ms.length+1,q.sp.length,k)⟩]]).set ms.length (.rw 176 2 (Jk.map (Jb.v 0)++[Jb.v 0 ⟨m.kids,[.seq 5 (m.kids.map Node.v)],some (ms.length+1,q.sp.length,k)⟩]))).set (ms.length+1) (.rw 41 5 (el.set k (eT m (.nil 5)))))
     (el':=el.set k (eT m (.nil 5))) (J':=Jk++[⟨m.kids,[.seq 5 (m.kids.map Node.v)],some (ms.length+1,q.sp.length,k)⟩]) hS1 hm he1 (by simp) (by rw[zAi (by simp;omega)]) (by simp) (.inl rfl) (by rw[zAi (by omega)])
     (fun i hi=>by rw[zAf (Ne.symm hi)]) (by rw[zAf (by omega),zAi (by simp;omega)];simp)
     (fun j p hj hne ho=>by
       have hlt:=(zAc.1 hj).1
       have hne2:j≠ms.length:=by
        rcases ho with rfl|⟨L,hL⟩
        ·exact hti.jo0.2
        ·exact(hti.dom j L hL).2.2
       rw[zAf (Ne.symm hne),zAf (Ne.symm hne2),zAe hlt];exact hj)
     (.inr ⟨_,⟨rfl,hmk⟩,rfl⟩)
    obtain⟨mk2,hmk2⟩:∃x,x=((mk++[Po.rw 176 2 [Jb.v 0 ⟨m.kids,[.seq 5 (m.kids.map Node.v)],some (ms.length+1,q.sp.length,k)⟩]]).set ms.length (.rw 176 2 (Jk.map (Jb.v 0)++[Jb.v 0 ⟨m.kids,[.seq 5 (m.kids.map Node.v)],some (ms.length+1,q.sp.length,k)⟩]))).set (ms.length+1) (.rw 41 5 (el.set k (eT m (.nil 5)))):=⟨_,rfl⟩;rw[<-hmk2]at nx;simp(disch:=omega) [-zAa,hm,he1,w1,w2,w3,hJml,he2,hv0,hkl];exact hN2.out _<|Nx.mk (k+1,mk2,Jk++[⟨m.kids,[.seq 5 (m.kids.map Node.v)],some (ms.length+1,q.sp.length,k)⟩]) (by subst hmk2;simp[hJml,Jb.v,Jb.tv,eT,w4]) ⟨by simp only;omega,nx,by simp only[cC,fg];omega⟩ (by simp only;omega)
end Go.Abs.F
end
