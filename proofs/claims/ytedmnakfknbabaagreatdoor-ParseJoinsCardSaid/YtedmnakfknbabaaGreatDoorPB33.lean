/- slices. No condition. -/
import Derived.Test.YtedmnakfknbabaaGreatDoorPP3
import Derived.Test.YtedmnakfknbabaaGreatDoorPCodeR
set_option linter.all false
set_option maxHeartbeats 0
open List renaming reduceReplicate→zAa,getElem?_eq_some_iff→zAd,drop_eq_getElem_cons→zAe,length_eq_zero_iff→zAf,drop_eq_nil_of_le→zAg,all_nil→zAi,all_append→zBa,all_cons→zBb
open Bool renaming and_false→zAb,false_and→zAc,and_true→zAh,true_and→zBc
open Nat renaming eq_zero_or_pos→zAj,lt_or_ge→zBd
open List.cons renaming injEq→zBe
set_option maxRecDepth 100000
namespace Go.Abs.F
open Go.Proofs Go.RowKit
attribute [-simp] getElem?_pos Option.not_isSome List.map_map
theorem tl(a b a' b':Str):eqK (.strct [.str a,.str b]) (.strct [.str a',.str b'])=(decide (a=a')&&decide (b=b')):=by
 simp[eqK,cl,tm,eqC]
theorem m8(a b:Str):be ⟨true,[.s,.s]⟩ (.strct [.str a,.str b])=true:=by
 simp[be,fB,cl,bG,kOf,aS]
def pg(n:Node):Prop:=n.attrs.length<=1000000/\n.kids.length<=1000000
theorem lx:∀l:List Node,ar pg l->l.length<=1000000->Fn Tryz.prog jL [.seq 5 (l.map Node.v),.seq 5 (l.map Node.v)] (.bool true):=by
 have key:∀l:List Node,l.length<=1000000->(∀n∈l,pg n/\Fn Tryz.prog jL [.seq 5 (n.kids.map Node.v),.seq 5 (n.kids.map Node.v)] (.bool true))->Fn Tryz.prog jL [.seq 5 (l.map Node.v),.seq 5 (l.map Node.v)] (.bool true):=by
  intro l hb hrec;refine Fn.of_image mixed Eb DP rfl fun ho=>?_;unfold tN;simp only[oks,ok,and_true]at ho;clear ho;simp(disch:=omega) [-zAa];refine ay (fun k:Nat=>⟨[(0,.seq 5 (l.map Node.v)),(1,.seq 5 (l.map Node.v)),(5,.int .i64 k)],[]⟩) (fun k=>k<=l.length) (fun k=>l.length-k) [] _ 0 rfl (by simp) (by simp) ?_
  rintro j hj N hN;rcases zBd j l.length with hlt|hge
  ·obtain⟨x,hx⟩:=bH hlt
   obtain⟨⟨hal,_⟩,hk⟩:=hrec x (List.mem_of_getElem? hx);simp(disch:=omega) [-zAa,hx]
   refine ay (fun k:Nat=>⟨[(0,.seq 5 (l.map Node.v)),(1,.seq 5 (l.map Node.v)),(5,.int .i64 j),(6,.ptr 0 0),(7,.ptr 1 0),(8,.int .i64 k)],
    [some (.box [.int .i64 x.kind,.str x.name,.seq 2 (x.attrs.map Attr.v),.str x.text,.seq 5 (x.kids.map Node.v)]),some (.box [.int .i64 x.kind,.str x.name,.seq 2 (x.attrs.map Attr.v),.str x.text,.seq 5 (x.kids.map Node.v)])]⟩)
    (fun k=>k<=x.attrs.length) (fun k=>x.attrs.length-k) [] _ 0 rfl (by simp) (by simp) ?_
   rintro i hi N' hN';rcases zBd i x.attrs.length with hlt2|hge2
   ·obtain⟨a,ha⟩:=bH hlt2
    simp(disch:=omega) [-zAa,ha,tl,m8];exact hN'.out _<|Nx.mk (i+1) (by simp) (by omega) (by omega)
   ·obtain rfl:i=x.attrs.length:=by omega
    simp(disch:=omega) [-zAa];refine ac hk rfl fun _=>?_;simp(disch:=omega) [-zAa];exact hN.out _<|Nx.mk (j+1) (by simp) (by omega) (by omega)
  ·obtain rfl:j=l.length:=by omega
   simp(disch:=omega) [-zAa]
 have all:∀l:List Node,ar pg l->∀n∈l,pg n/\Fn Tryz.prog jL [.seq 5 (n.kids.map Node.v),.seq 5 (n.kids.map Node.v)] (.bool true):=by
  refine aC (fun _ n h=>by cases h) ?_
  intro n l h1 h2 ha x hx;simp only[ar,fc]at ha;rcases List.mem_cons.1 hx with rfl|hx
  ·exact⟨ha.1.1,key x.kids ha.1.1.2 (h1 ha.1.2)⟩
  ·exact h2 ha.2 x hx
 exact fun l ha hl=>key l hl (all l ha)
def ju:List Attr->List Attr->Bool
 |[],[]=>true
 |a::l,b::m=>(decide (a.name=b.name)&&decide (a.value=b.value))&&ju l m
 |_,_=>false
theorem Bu:∀{a b:List Attr},ju a b=true↔a=b
 |[],[]=>by simp[ju]
 |[],b::m=>by simp[ju]
 |a::l,[]=>by simp[ju]
 |a::l,b::m=>by
   obtain⟨n,v⟩:=a;obtain⟨n',v'⟩:=b;simp[ju,Bu]
theorem Bt:∀{a b:List Attr},a.length≠b.length->ju a b=false
 |[],[],h=>by simp at h
 |[],b::m,h=>rfl
 |a::l,[],h=>rfl
 |a::l,b::m,h=>by simp[ju,Bt (a:=l) (b:=m) (by simpa using h)]
theorem wT(a b:List Attr)(ha:a.length<=1000000000):Fn Tryz.prog ga [.seq 2 (a.map Attr.v),.seq 2 (b.map Attr.v)] (.bool (ju a b)):=by
 refine Fn.of_image mixed gm ge rfl fun ho=>?_;unfold cQ;simp only[oks,ok,and_true]at ho;clear ho;by_cases hl:a.length=b.length
 ·simp(disch:=omega) [-zAa,hl]
  generalize hR:ju a b=R
  refine ay (fun(k:Nat)=>⟨[(0,.seq 2 (a.map Attr.v)),(1,.seq 2 (b.map Attr.v)),(12,.int .i64 b.length),(13,.int .i64 k)],[]⟩)
   (fun k=>k<=b.length/\ju (a.drop k) (b.drop k)=R) (fun k=>b.length-k) [] _ 0 rfl (by simp) (by simp[hR]) ?_
  rintro k ⟨hk,hr⟩ N hN;rcases place b k hk with⟨he,hd⟩|⟨hlt,y,hy,hd⟩<;>rw[hd]at hr
  ·have:a.drop k=[]:=zAg (by omega)
   rw[this]at hr;simp only[ju]at hr;subst hr;simp(disch:=omega) [-zAa,he]
  ·obtain⟨x,hx⟩:=bH (l:=a) (k:=k) (by omega)
   have hda:a.drop k=x::a.drop (k+1):=by
    obtain⟨h1,e⟩:=zAd.1 hx;rw[zAe h1,e]
   rw[hda]at hr;simp only[ju]at hr;by_cases hn:x.name=y.name
   ·by_cases hv:x.value=y.value
    ·simp(disch:=omega) [-zAa,hx,hy,hlt,tl,m8,hn,hv]
     exact hN.out _<|Nx.mk (k+1) (by simp) ⟨by omega,by simpa[hn,hv]using hr⟩ (by omega)
    ·simp only[hv,decide_false,zAb,zAc]at hr
     subst hr;simp(disch:=omega) [-zAa,hx,hy,hlt,tl,m8,hn,hv]
   ·simp only[hn,decide_false,zAc]at hr
    subst hr;simp(disch:=omega) [-zAa,hx,hy,hlt,tl,m8,hn]
 ·have hl':¬(a.length:Int)=(b.length:Int):=by omega
  rw[Bt hl];simp(disch:=omega) [-zAa,hl,hl']
mutual
def N3:Node->Node->Bool
 |⟨k,nm,a,t,ks⟩,⟨k',nm',a',t',ks'⟩=>decide (k=k')&&(decide (nm=nm')&&(decide (t=t')&&(ju a a'&&dI ks ks')))
def dI:List Node->List Node->Bool
 |[],[]=>true
 |x::l,y::m=>N3 x y&&dI l m
 |_,_=>false
end
theorem Fj(x y:Node):N3 x y=(decide (x.kind=y.kind)&&(decide (x.name=y.name)&&(decide (x.text=y.text)&&(ju x.attrs y.attrs&&dI x.kids y.kids)))):=by cases x;cases y;simp[N3]
theorem Im:∀(a b:List Node),dI a b=true↔a=b:=by
 refine aC (p:=fun a=>∀b,dI a b=true↔a=b) ?_ ?_
 ·intro b
  cases b<;>simp[dI]
 ·intro x l h1 h2 b
  cases b with
  |nil=>simp[dI]
  |cons y m=>
    simp only[dI,Fj,Bool.and_eq_true,decide_eq_true_eq,Bu,h1,h2,zBe];cases x;cases y;simp only[Node.mk.injEq];constructor
    ·rintro⟨⟨h1,h2,h3,h4,h5⟩,h6⟩;exact⟨⟨h1,h2,h4,h3,h5⟩,h6⟩
    ·rintro⟨⟨h1,h2,h3,h4,h5⟩,h6⟩;exact⟨⟨h1,h2,h4,h3,h5⟩,h6⟩
theorem xK:∀{a b:List Node},a.length≠b.length->dI a b=false
 |[],[],h=>by simp at h
 |[],b::m,h=>rfl
 |a::l,[],h=>rfl
 |a::l,b::m,h=>by simp[dI,xK (a:=l) (b:=m) (by simpa using h)]
abbrev Pr:Type:=List Node×List Node
def prV(p:Pr):V:=.strct [.seq 5 (p.1.map Node.v),.seq 5 (p.2.map Node.v)]
def prS(p:Pr):Bool:=dI p.1 p.2
def prM(W:List Pr):Nat:=(W.map fun p=>1+aj p.1).sum
theorem q7(a b:List Pr):prM (a++b)=prM a+prM b:=by simp[prM]
theorem CW:∀W:List Pr,W.length<=prM W
 |[]=>by simp[prM]
 |p::W=>by
   have:=CW W;simp only[prM,List.map_cons,List.sum_cons,List.length_cons]at this⊢;omega
theorem Js(a b:List Node)(hc:aj a<=1000000000)(hA:ar (fun n=>n.attrs.length<=1000000000) a):Fn Tryz.prog IJ [.seq 5 (a.map Node.v),.seq 5 (b.map Node.v)] (.bool (dI a b)):=by
 refine Fn.of_imageE mixed Jh Ja rfl fun ho=>?_;unfold zr;simp only[oks,ok,and_true]at ho;clear ho;simp(disch:=omega) [-zAa];generalize hR:dI a b=R
 refine ay (fun(W:List Pr)=>⟨[(5,.ref 0 W.length)],[some (.arr 93 2 (W.map prV))]⟩)
  (fun W=>(W.all prS=R)/\prM W<=1000000001/\∀p∈W,ar (fun n=>n.attrs.length<=1000000000) p.1) prM [] _ [(a,b)] rfl (by simp[prV]) ⟨by simp[prS,hR],by simp[prM];omega,fun p hp=>by simp at hp;subst hp;exact hA⟩ ?_
 rintro W ⟨hr,hm,ha⟩ N hN;rcases List.eq_nil_or_concat W with rfl|⟨W0,p,rfl⟩
 ·simp only[zAi]at hr
  subst hr;simp(disch:=omega) [-zAa]
 ·rw[List.concat_eq_append]at *
  obtain⟨x,y⟩:=p;simp only[zBa,zBb,zAi,zAh,q7]at hr hm;have hax:=ha (x,y) (by simp)
  have hpm:prM [(x,y)]=1+aj x:=by simp[prM]
  have hwl:=CW W0;have hxl:=c6 x;have hg:∀v:V,(List.map prV W0++[v])[W0.length]?=some v:=fun v=>by rw[List.getElem?_append_right (by simp)];simp
  by_cases hl:x.length=y.length
  ·simp(disch:=omega) [-zAa,prV,hl,hg]
   refine ay (fun(q:Nat×List Pr)=>⟨[(5,.ref 0 q.2.length),(6,.ptr 1 0),(37,.int .i64 y.length),(38,.int .i64 q.1)],[some (.arr 93 2 (q.2.map prV)),some (.box [.seq 5 (x.map Node.v),.seq 5 (y.map Node.v)])]⟩)
    (fun q=>q.1<=y.length/\(q.2.all prS&&dI (x.drop q.1) (y.drop q.1))=R/\prM q.2+aj (x.drop q.1)<=prM W0+aj x/\(∀p∈q.2,ar (fun n=>n.attrs.length<=1000000000) p.1)/\ar (fun n=>n.attrs.length<=1000000000) (x.drop q.1))
    (fun q=>y.length-q.1) [] _ (0,W0) rfl (by simp) ⟨Nat.zero_le _,by simpa[prS]using hr,by simp,fun p hp=>ha p (by simp[hp]),by simpa using hax⟩ ?_
   rintro⟨k,U⟩ ⟨hk,hr2,hm2,ha2,hd2⟩ N2 hN2;simp only at hk hr2 hm2 ha2 hd2;have hul:=CW U;rcases place y k hk with⟨he,hd⟩|⟨hlt,v,hv,hd⟩<;>rw[hd]at hr2
   ·have hxd:x.drop k=[]:=zAg (by omega)
    rw[hxd]at hr2 hm2;simp only[dI,zAh,aj]at hr2 hm2;simp(disch:=omega) [-zAa,he];exact hN.out _<|Nx.mk U (by simp) ⟨hr2,by omega,ha2⟩ (by rw[q7];omega)
   ·obtain⟨u,hu⟩:=bH (l:=x) (k:=k) (by omega)
    have hdx:x.drop k=u::x.drop (k+1):=by
     obtain⟨h1,e⟩:=zAd.1 hu;rw[zAe h1,e]
    rw[hdx]at hr2 hm2 hd2;simp only[dI,Fj,aj,ef,ar,fc]at hr2 hm2 hd2;have hua:=hd2.1.1;by_cases h1:u.kind=v.kind
    ·by_cases h2:u.name=v.name
     ·by_cases h3:u.text=v.text
      ·simp(disch:=omega) [-zAa,hu,hv,hlt,h1,h2,h3]
       refine a6 (wT u.attrs v.attrs hua) rfl ?_;by_cases h4:ju u.attrs v.attrs=true
       ·have hkl:=c6 u.kids
        simp only[h1,h2,h3,h4,decide_true,zBc]at hr2;by_cases hk0:u.kids=[]/\v.kids=[]
        ·simp(disch:=omega) [-zAa,h4,hk0.1,hk0.2]
         simp only[hk0.1,hk0.2,dI,zBc]at hr2;exact hN2.out _<|Nx.mk (k+1,U) (by simp) ⟨hlt,hr2,by simp only;omega,ha2,hd2.2⟩ (by simp only;omega)
        ·have hk1:(0:Int)<(u.kids.length:Int)\/(0:Int)<(v.kids.length:Int):=by
          rcases zAj u.kids.length with g|g
          ·rcases zAj v.kids.length with g2|g2
           ·exact(hk0 ⟨zAf.1 g,zAf.1 g2⟩).elim
           ·exact .inr (by omega)
          ·exact .inl (by omega)
         have hend:N2 ⟨[(5,.ref 0 (U.length+1)),(6,.ptr 1 0),(37,.int .i64 y.length),(38,.int .i64 (k+1:Nat))],[some (.arr 93 2 (U.map prV++[prV (u.kids,v.kids)])),some (.box [.seq 5 (x.map Node.v),.seq 5 (y.map Node.v)])]⟩:=by
          refine hN2.out _<|Nx.mk (k+1,U++[(u.kids,v.kids)]) (by simp) ⟨hlt,?_,?_,?_,hd2.2⟩ (by simp only;omega)
          ·simp only[zBa,zBb,zAi,zAh,prS]
           rw[Bool.and_assoc];exact hr2
          ·have:prM [(u.kids,v.kids)]=1+aj u.kids:=by simp[prM]
           simp only[q7];omega
          ·intro p hp
           rcases List.mem_append.1 hp with hp|hp
           ·exact ha2 p hp
           ·obtain rfl:=List.mem_singleton.1 hp
            exact hd2.1.2
         rcases hk1 with g|g
         ·simp(disch:=omega) [-zAa,h4,g]
          simpa[prV]using hend
         ·by_cases g0:(0:Int)<(u.kids.length:Int)
          ·simp(disch:=omega) [-zAa,h4,g0]
           simpa[prV]using hend
          ·simp(disch:=omega) [-zAa,h4,g,g0]
           simpa[prV]using hend
       ·simp only[h4,zAc,zAb]at hr2
        subst hr2;simp(disch:=omega) [-zAa,h4]
      ·simp only[h3,decide_false,zAc,zAb]at hr2
       subst hr2;simp(disch:=omega) [-zAa,hu,hv,hlt,h1,h2,h3]
     ·simp only[h2,decide_false,zAc,zAb]at hr2
      subst hr2;simp(disch:=omega) [-zAa,hu,hv,hlt,h1,h2]
    ·simp only[h1,decide_false,zAc,zAb]at hr2
     subst hr2;simp(disch:=omega) [-zAa,hu,hv,hlt,h1]
  ·have hl':¬(x.length:Int)=(y.length:Int):=by omega
   have:prS (x,y)=false:=xK hl;rw[this,zAb]at hr;subst hr;simp(disch:=omega) [-zAa,prV,hl,hl',hg]
end Go.Abs.F
