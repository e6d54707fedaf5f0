/- Plain: how much made nodes weigh; how long a right. -/
import Derived.Test.YtedmnakfknbabaaGreatDoorPQ1
import Derived.Test.YtedmnakfknbabaaGreatDoorPF1
import Derived.Test.YtedmnakfknbabaaGreatDoorPQ2
import Derived.Test.YtedmnakfknbabaaGreatDoorPB3
import Derived.Test.YtedmnakfknbabaaGreatDoorPB33
import Derived.Test.YtedmnakfknbabaaGreatDoorPP3
set_option linter.all false
set_option maxHeartbeats 0
set_option maxRecDepth 100000
open List renaming reduceReplicate→zAa,cons_append→zAb,mem_cons→zAc,not_mem_nil→zAe,dropLast_concat_getLast→zAg,getElem?_append_right→zAh,getElem?_eq_some_iff→zAi,map_map→zAj,length_drop→zBb,filter_cons→zBc,getElem?_eq_getElem→zBd,all_eq_true→zBe,mem_filter→zBf,eq_nil_or_concat→zBh,map_cons→zBi,length_append→zBj,flatMap_cons→zCa,length_cons→zCb,getElem_mem→zCc,mem_flatMap→zCd,length_nil→zCe,nil_append→zCf,mem_append→zCg,sum_cons→zCh,mem_map→zCi
open Bool renaming and_eq_true→zAd
open Option renaming not_isSome→zAf
open Nat renaming le_trans→zBa,le_refl→zBg,mod_lt→zCj
section
namespace Go.Abs.F
open Go.Proofs
attribute [-simp] getElem?_pos zAf zAj
theorem pf{r:Nat}(h:r<65536):(aw r).length<=3:=by
 unfold aw;simp only;have hv:(if 1114111<r\/(55296<=r/\r<=57343)then 65533 else r)<65536:=by split<;>omega
 generalize(if 1114111<r\/(55296<=r/\r<=57343)then 65533 else r)=v at hv
 split
 ·simp
 ·split
  ·simp
  ·simp
theorem LG(s:Str):(one s).2=1->(one s).1<65536:=by
 cases s with
 |nil=>simp[one]
 |cons b t=>
   have hr:=uH b.toNat;simp only[one];split
   ·intro _;omega
   ·split
    ·simp
    ·rename_i h1
     unfold oa;split
     ·intro _;simp only;omega
     ·split
      ·intro _;simp only;omega
      ·intro h;simp only at h;omega
def uR(r:Nat):Nat:=if r<65536 then 3 else 4
theorem PS(r:Nat):(aw r).length<=uR r:=by
 unfold uR;split
 ·exact pf ‹_›
 ·exact eO r
theorem Pn:∀(l:List Nat)(p:Option Nat),(aX (eW p l)).length<=(l.map uR).sum
 |[],p=>by simp[eW,aX]
 |r::l,p=>by
   have h1:=Pn l (some r);simp only[eW,sd,zBj,zBi,zCh]
   have h2:(aX (if r=10/\p=some 13 then[]else[if r=13 then 10 else if r=0 then 65533 else r])).length<=uR r:=by
    split
    ·simp[aX]
    ·have e:aX [if r=13 then 10 else if r=0 then 65533 else r]=aw (if r=13 then 10 else if r=0 then 65533 else r):=by simp[aX]
     rw[e];split
     ·exact zBa (pf (by decide)) (by unfold uR;split<;>omega)
     ·split
      ·exact zBa (pf (by decide)) (by unfold uR;split<;>omega)
      ·exact PS r
   omega
theorem RQ:∀(n:Nat)(s:Str),s.length<=n->((b9 s).map uR).sum<=3*s.length:=by
 intro n
 induction n with
 |zero=>intro s h;have:s=[]:=List.eq_nil_of_length_eq_zero (by omega);subst this;simp[b9,d8]
 |succ n ih=>
   intro s h;cases s with
   |nil=>simp[b9,d8]
   |cons b t=>
     have h1:=cR (b::t);have h2:=LG (b::t);have h3:=h1.2.2.1 (by simp)
     have e:b9 (b::t)=(one (b::t)).1::b9 ((b::t).drop (one (b::t)).2):=by
      show d8 (t.length+1) (b::t)=_
      simp only[d8];rw[xL _ _ (by rw[zBb,zCb];omega)]
     have h4:=ih ((b::t).drop (one (b::t)).2) (by rw[zBb];omega)
     rw[zBb]at h4;rw[e,zBi,zCh]
     have h5:uR (one (b::t)).1<=3*(one (b::t)).2:=by
      unfold uR;split
      ·omega
      ·rename_i h6
       have:(one (b::t)).2≠1:=fun h7=>h6 (h2 h7);omega
     omega
theorem vu(s:Str):(bg s).length<=3*s.length:=zBa (Pn _ _) (RQ s.length s (zBg _))
theorem Rp(A B:Nat){n:Node}{ks:List Node}(h:wNs A B ks<=wNs A B n.kids):wN A B ⟨n.kind,n.name,n.attrs,n.text,ks⟩<=wN A B n:=by
 rw[fN,fN];simp only;omega
theorem Ro(A B:Nat):∀(l:List Node)(o n:Node),l[l.length-1]?=some o->wNs A B (l.set (l.length-1) n)+wN A B o=wNs A B l+wN A B n:=by
 intro l o n h;rcases zBh l with rfl|⟨l0,x,rfl⟩
 ·simp at h
 ·rw[List.concat_eq_append]at *
  have e:(l0++[x]).length-1=l0.length:=by simp
  rw[e]at h⊢;rw[zAh (zBg _)]at h;simp at h;subst h;rw[List.set_append,if_neg (by omega)]
  simp only[Nat.sub_self,List.set_cons_zero,cj,jF];omega
theorem pC(A B:Nat):∀(l out:List Node),wNs A B (bA out l)<=wNs A B out+wNs A B l
 |[],out=>by simp[bA,wNs]
 |n::l,out=>by
   have h1:=pC A B l out;have h2:=pC A B l (out++[n]);rw[cj,jF]at h2;simp only[bA,wNs];split
   ·omega
   ·split
    ·rename_i o ho
     split
     ·have h3:=pC A B l (out.set (out.length-1) ⟨o.kind,o.name,o.attrs,o.text++n.text,o.kids⟩)
      have e:=Ro A B out o ⟨o.kind,o.name,o.attrs,o.text++n.text,o.kids⟩ ho
      have e2:wN A B ⟨o.kind,o.name,o.attrs,o.text++n.text,o.kids⟩<=wN A B o+wN A B n:=by
       rw[fN,fN,fN];simp only[zBj];have e3:B*(2*o.name.length+6*(o.text.length+n.text.length)+dn o.attrs)=B*(2*o.name.length+6*o.text.length+dn o.attrs)+B*(6*n.text.length):=by rw[<-Nat.mul_add];congr 1;omega
       have e4:B*(6*n.text.length)<=B*(2*n.name.length+6*n.text.length+dn n.attrs):=Nat.mul_le_mul_left _ (by omega)
       omega
      omega
     ·omega
    ·omega
theorem xg(A B:Nat)(l:List Node):wNs A B (cf l)<=wNs A B l:=by
 have:=pC A B l [];simpa[cf,wNs]using this
theorem Hg(A B:Nat)(f:Node->Bool):∀l:List Node,wNs A B (l.filter f)<=wNs A B l
 |[]=>by simp[wNs]
 |n::l=>by
   have:=Hg A B f l;simp only[zBc];split<;>simp only[wNs]<;>omega
theorem mg(A B:Nat)(f:Node->Bool)(g:Node->List Node):∀l:List Node,wNs A B ((l.filter f).flatMap g)<=wNs A B (l.flatMap g)
 |[]=>by simp[wNs]
 |n::l=>by
   have:=mg A B f g l;simp only[zBc];split<;>simp only[zCa,cj]<;>omega
theorem Lj(A B:Nat):∀l:List Node,wNs A B (l.flatMap aD)<=wNs A B l:=by
 refine aC (p:=fun l=>wNs A B (l.flatMap aD)<=wNs A B l) (by simp[wNs]) ?_
 intro n l h1 h2;simp only[zCa,cj,wNs]
 have:wNs A B (aD n)<=wN A B n:=by
  rw[j4];split
  ·simp[wNs]
  ·split
   ·rw[jF]
    refine Rp A B ?_;have g1:=Hg A B (bw n.name) (cf ((av n.name n.kids).flatMap aD));have g2:=xg A B ((av n.name n.kids).flatMap aD);have g3:=mg A B (bw n.name) aD n.kids;simp only[av]at g1 g2 g3⊢;omega
   ·rw[jF];exact zBg _
 omega
theorem Pe(A B:Nat)(l:List Node):wNs A B (cc l)<=wNs A B (bC l):=by
 have h1:=xg A B ((bC l).flatMap aD);have h2:=Lj A B (bC l);unfold cc gZ;omega
theorem zy(s:Str)(h:s.length<=30):(bD s).length<=30:=by
 unfold bD;split
 ·exact h
 ·exact sy (l:=Ke) (m:=30) (by decide) (s.length%5)
theorem Eh:∀(l acc:List Attr),(∀a∈l,a.name.length<=30/\a.value.length<=30)->dn (gW acc l)<=dn acc+755*l.length
 |[],acc,_=>by simp[gW]
 |x::l,acc,hl=>by
   have hx:=hl x (by simp)
   have hl':∀a∈l,a.name.length<=30/\a.value.length<=30:=fun a h=>hl a (by simp[h])
   simp only[gW,zCb];split
   ·have:=Eh l acc hl'
    omega
   ·have:=Eh l (acc++[⟨bD x.name,bg x.value⟩]) hl'
    have h1:=j9 x.value;have h2:=zy x.name hx.1;rw[Cv]at this;simp only at this;omega
theorem Sr:∀l:List Node,ar En l->wNs 10 1 (l.map cg)<=4565*aj l:=by
 refine aC (p:=fun l=>ar En l->wNs 10 1 (l.map cg)<=4565*aj l) (fun _=>by simp[wNs]) ?_
 intro n l h1 h2 ha;simp only[ar,fc]at ha;have g2:=h2 ha.2;have g1:=h1 ha.1.2;obtain⟨⟨⟨a1,a2,a3,a4⟩,_⟩,_⟩:=ha;have hm:=xg 10 1 (n.kids.map cg);have hA:=Eh n.attrs [] a4
 have hw:(r8 n.name).length<=30:=by
  unfold r8;split
  ·exact a1
  ·exact sy (l:=FC) (m:=30) (by decide) (E9 n.name%10)
 have hr:=j9 n.text;have h0:dn []=0:=rfl;simp only[zBi,wNs,aj,ef];rw[fN,i5];split
 ·simp only[zCe]
  omega
 ·simp only[zCe,wNs,h0]
  omega
theorem G1(l:List Node):wNs 10 1 (bC l)<=182600:=by
 have hc:=tr l 40;have h1:=Sr (dB l 40).1 (vQ l 40);have h2:=xg 10 1 ((dB l 40).1.map cg);unfold bC;omega
theorem uL(l:List Node):wNs 10 1 (cc l)<=182600:=by
 have:=Pe 10 1 l;have:=G1 l;omega
end Go.Abs.F
end
section
namespace Go.Abs.F
open Go.Proofs
attribute [-simp] getElem?_pos zAf zAj
def wu:Bool->List Node->Prop
 |_,[]=>True
 |b,n::l=>¬(b=true/\n.kind=2)/\wu (decide (n.kind=2)) l
theorem mK(s:Str):right (bg s)=true:=(vg _).1 (lZ s)
theorem Lr{a b:Str}(ha:right a=true)(hb:right b=true):right (a++b)=true:=(vg _).1 (((vg _).2 ha).append ((vg _).2 hb))
theorem On:Ke.all (fun s=>aU s)=true:=by decide+kernel
theorem Bf(s:Str):aU (bD s)=true:=by
 unfold bD;split
 ·rename_i h;exact h
 ·have hm:s.length%5<Ke.length:=zCj _ (by decide)
  rw[zBd hm];exact zBe.1 On _ (zCc hm)
theorem Oo:FC.all (fun s=>named s)=true:=by decide
theorem H9(s:Str):named (r8 s)=true:=by
 unfold r8;split
 ·rename_i h;exact h
 ·have hm:E9 s%10<FC.length:=zCj _ (by decide)
  rw[zBd hm];exact zBe.1 Oo _ (zCc hm)
theorem O6(l:List Attr)(s:Str):kq l s=(jb l s).isSome:=by
 induction l with
 |nil=>rfl
 |cons a l ih=>by_cases h:a.name=s<;>simp[kq,jb,h,ih]
theorem y5:∀(l pre:List Attr)(a:Attr),dU pre l=0->aU a.name=true->kq (pre++l) a.name=false->dU pre (l++[a])=0
 |[],pre,a,_,h2,h3=>by
   simp only[List.append_nil]at h3;simp[dU,h2,h3]
 |x::l,pre,a,h1,h2,h3=>by
   simp only[zAb,dU]at h1⊢;split at h1
   ·rename_i hx
    split at h1
    ·cases h1
    ·rename_i hy
     rw[if_pos hx,if_neg hy];exact y5 l (pre++[x]) a h1 h2 (by rw[List.append_assoc];exact h3)
   ·cases h1
theorem qe:∀(l:List Attr)(a:Attr),bf l=true->right a.value=true->bf (l++[a])=true
 |[],a,_,h=>by simp[bf,h]
 |x::l,a,h,h2=>by
   simp only[bf,zAd]at h;simp only[zAb,bf,h.1,qe l a h.2 h2,Bool.and_self]
theorem yN:∀(l acc:List Attr),dU [] acc=0->bf acc=true->dU [] (gW acc l)=0/\bf (gW acc l)=true
 |[],acc,h1,h2=>⟨h1,h2⟩
 |a::l,acc,h1,h2=>by
   simp only[gW];split
   ·exact yN l acc h1 h2
   ·rename_i hn
    refine yN l _ (y5 acc [] _ h1 (Bf _) ?_) (qe acc _ h2 (mK _));rw[zCf,O6];simpa using hn
structure PreOK (f:Node->Prop) (n:Node):Prop where
 txt:n.kind=2->n.name=[]/\n.attrs=[]/\n.kids=[]/\right n.text=true
 oth:n.kind≠2->b5 n false=0
 kids:cK false n.kids=0
 own:f n
def vh(f:Node->Prop)(n:Node):Prop:=b5 n false=0/\cK false n.kids=0/\f n
theorem ur{n:Node}(hk:n.kind=2)(h1:n.name=[]/\n.attrs=[]/\n.kids=[])(h2:right n.text=true)(h3:n.text≠[]):b5 n false=0:=by
 unfold b5;rw[if_neg (by omega),if_pos (.inl hk),if_pos h1,if_pos ⟨h2,fun _=>⟨h3,rfl⟩⟩]
theorem lF{n:Node}{b:Bool}(hk:n.kind=2)(h:b5 n b=0):(n.name=[]/\n.attrs=[]/\n.kids=[])/\right n.text=true/\n.text≠[]:=by
 unfold b5 at h;rw[if_neg (by omega),if_pos (.inl hk)]at h
 split at h
 ·rename_i h1
  split at h
  ·rename_i h2
   exact⟨h1,h2.1,(h2.2 hk).1⟩
  ·cases h
 ·cases h
def oq:Bool->List Node->Bool
 |b,[]=>b
 |_,n::l=>oq (decide (n.kind=2)) l
theorem ut:∀(l:List Node)(b:Bool)(n:Node),wu b (l++[n])↔wu b l/\¬(oq b l=true/\n.kind=2)
 |[],b,n=>by simp[wu,oq]
 |x::l,b,n=>by
   simp only[zAb,wu,oq,ut l];exact⟨fun h=>⟨⟨h.1,h.2.1⟩,h.2.2⟩,fun h=>⟨h.1.1,h.1.2,h.2⟩⟩
theorem oo:∀(l:List Node)(b:Bool)(n:Node),oq b (l++[n])=decide (n.kind=2)
 |[],b,n=>rfl
 |x::l,b,n=>by simp only[zAb,oq];exact oo l _ n
theorem IV{l:List Node}{o:Node}(h:l[l.length-1]?=some o):∃u,l=u++[o]:=by
 have hlt:=(zAi.1 h).1;have hne:l≠[]:=fun e=>by rw[e]at hlt;simp at hlt
 refine⟨l.dropLast,?_⟩
 have h6:l.getLast hne=o:=by
  rw[List.getLast_eq_getElem];exact(zAi.1 h).2
 rw[<-h6];exact(zAg hne).symm
theorem ki{f:Node->Prop}(hf:∀k n a t ks t',k=2->f ⟨k,n,a,t,ks⟩->f ⟨k,n,a,t',ks⟩):∀(l out:List Node),(∀n∈out,vh f n)->wu false out->(∀n∈l,PreOK f n)->(∀n∈bA out l,vh f n)/\wu false (bA out l)
 |[],out,h1,h2,_=>⟨h1,h2⟩
 |n::l,out,h1,h2,h3=>by
   have hn:=h3 n (by simp)
   have hl:∀m∈l,PreOK f m:=fun m hm=>h3 m (by simp[hm])
   simp only[bA];split
   ·exact ki hf l out h1 h2 hl
   ·rename_i hne
    have hpost:vh f n:=by
     refine⟨?_,hn.kids,hn.own⟩;by_cases hk:n.kind=2
     ·obtain⟨a,b,c,d⟩:=hn.txt hk
      exact ur hk ⟨a,b,c⟩ d fun e=>hne ⟨hk,e⟩
     ·exact hn.oth hk
    split
    ·rename_i o ho
     obtain⟨u,hu⟩:=IV ho;split
     ·rename_i hk
      have hop:=h1 o (List.mem_of_getElem? ho);obtain⟨a,b,c⟩:=lF hk.2 hop.1;obtain⟨a2,b2,c2,d2⟩:=hn.txt hk.1
      have hset:out.set (out.length-1) ⟨o.kind,o.name,o.attrs,o.text++n.text,o.kids⟩=u++[⟨o.kind,o.name,o.attrs,o.text++n.text,o.kids⟩]:=by
       rw[hu];simp
      rw[hset];rw[hu]at h1 h2;refine ki hf l _ (fun m hm=>?_) ?_ hl
      ·rcases zCg.1 hm with hm|hm
       ·exact h1 m (by simp[hm])
       ·simp only[zAc,zAe,or_false]at hm
        subst hm;refine⟨ur hk.2 a (Lr b d2) (by simp[c]),hop.2.1,?_⟩
        have key:∀o:Node,o.kind=2->f o->∀t,f ⟨o.kind,o.name,o.attrs,t,o.kids⟩:=fun o hk h t=>by
         cases o;exact hf _ _ _ _ _ _ hk h
        exact key o hk.2 hop.2.2 _
      ·rw[ut]at h2⊢
       exact h2
     ·rename_i hk
      refine ki hf l _ (fun m hm=>?_) ?_ hl
      ·rcases zCg.1 hm with hm|hm
       ·exact h1 m hm
       ·simp only[zAc,zAe,or_false]at hm
        subst hm;exact hpost
      ·rw[ut]
       refine⟨h2,fun hc=>hk ⟨hc.2,?_⟩⟩;have:=hc.1;rw[hu,oo]at this;exact of_decide_eq_true this
    ·rename_i ho
     have hout:out=[]:=by
      cases out with
      |nil=>rfl
      |cons x r=>simp at ho
     subst hout;refine ki hf l _ (fun m hm=>?_) (by simp[wu]) hl
     simp only[zCf,zAc,zAe,or_false]at hm;subst hm;exact hpost
theorem sE{f:Node->Prop}(hf:∀k n a t ks t',k=2->f ⟨k,n,a,t,ks⟩->f ⟨k,n,a,t',ks⟩)(l:List Node)(h:∀n∈l,PreOK f n):(∀n∈cf l,vh f n)/\wu false (cf l):=
 ki hf l [] (fun n hn=>by cases hn) trivial h
theorem FI{n:Node}{b:Bool}(h:b5 n false=0)(hb:¬(b=true/\n.kind=2)):b5 n b=0:=by
 by_cases hk:n.kind=2
 ·have:b=false:=by cases b;rfl;exact absurd ⟨rfl,hk⟩ hb
  rw[this];exact h
 ·unfold b5 at h⊢
  by_cases h1:n.kind=1
  ·rw[if_pos h1]at h⊢;exact h
  ·rw[if_neg h1]at h⊢
   split at h
   ·rename_i h2
    rw[if_pos h2];split at h
    ·rename_i h3
     rw[if_pos h3];split at h
     ·rename_i h4
      rw[if_pos ⟨h4.1,fun hk'=>absurd hk' hk⟩]
     ·cases h
    ·cases h
   ·cases h
theorem sG:∀(l:List Node)(b:Bool),(∀n∈l,b5 n false=0/\cK false n.kids=0)->wu b l->cK b l=0
 |[],b,_,_=>rfl
 |n::l,b,h,hj=>by
   rw[d5];obtain⟨h1,h2⟩:=h n (by simp)
   exact⟨FI h1 hj.1,h2,sG l _ (fun m hm=>h m (by simp[hm])) hj.2⟩
theorem Gb(k:Int):nv k=1\/nv k=2\/nv k=3:=by
 unfold nv;split<;>omega
theorem Mk:∀l:List Node,∀n∈l,PreOK (fun _=>True) (cg n):=by
 refine aC (fun n h=>by cases h) ?_
 intro n l h1 h2 x hx;rcases zAc.1 hx with rfl|hx
 ·rw[i5]
  have hm:=sE (f:=fun _=>True) (fun _ _ _ _ _ _ _ _=>trivial) (x.kids.map cg) fun m hm=>by
   obtain⟨y,hy,rfl⟩:=zCi.1 hm;exact h1 y hy
  by_cases hk:nv x.kind=1
  ·rw[if_pos hk]
   obtain⟨g1,g2⟩:=yN x.attrs [] rfl rfl;refine⟨fun h=>by simp at h,fun _=>?_,sG _ _ (fun n hn=>⟨(hm.1 n hn).1,(hm.1 n hn).2.1⟩) hm.2,trivial⟩
   simp[b5,gL,H9,g1,g2]
  ·rw[if_neg hk]
   refine⟨fun _=>⟨rfl,rfl,rfl,mK _⟩,fun h=>?_,rfl,trivial⟩
   have h3:nv x.kind=3:=by
    rcases Gb x.kind with h4|h4|h4
    ·exact absurd h4 hk
    ·exact absurd h4 h
    ·exact h4
   simp[b5,h3,mK]
 ·exact h2 x hx
theorem lr(l:List Node):(∀n∈bC l,vh (fun _=>True) n)/\wu false (bC l):=by
 unfold bC
 exact sE (fun _ _ _ _ _ _ _ _=>trivial) _ fun m hm=>by
  obtain⟨y,hy,rfl⟩:=zCi.1 hm;exact Mk _ y hy
theorem Jl(l:List Node):cK false (bC l)=0:=sG _ _ (fun n hn=>⟨((lr l).1 n hn).1,((lr l).1 n hn).2.1⟩) (lr l).2
def mF(n:Node):Prop:=(n.kind=3->gg dc n.text=false)/\n.kids.all (bw n.name)=true/\dQ n.kids=true
def Iu(par:Str)(n:Node):Prop:=(raw par=true->n.kind=2)/\(raw par=false->ew par=false->bw par n=true)
theorem ER:∀l:List Node,(∀n∈l,mF n)->dQ l=true
 |[],_=>rfl
 |n::l,h=>by
   obtain⟨h1,h2,h3⟩:=h n (by simp)
   simp only[dQ,xm,h2,h3,ER l (fun m hm=>h m (by simp[hm])),Bool.and_true]
   by_cases hk:n.kind=3
   ·simp[hk,h1 hk]
   ·simp[hk]
theorem Mo{par:Str}{n:Node}(hr:raw par=false){t:Str}:bw par ⟨n.kind,n.name,n.attrs,t,n.kids⟩=bw par n:=by
 simp[bw,hr]
theorem Mp{par:Str}{n m:Node}(hr:raw par=false)(hk:m.kind=n.kind)(hn:m.name=n.name):bw par m=bw par n:=by
 simp[bw,hr,hk,hn]
theorem vB{f:Node->Bool}:∀(l:List Node)(b:Bool),(∀n∈l,f n=true)->l.filter f=l
 |[],b,_=>rfl
 |n::l,b,h=>by rw[zBc,if_pos (h n (by simp)),vB l b fun m hm=>h m (by simp[hm])]
theorem Fc(par:Str)(kids:List Node)(ih:∀n∈kids,∀m∈aD n,PreOK mF m/\m.kind=n.kind/\m.name=n.name/\(n.kind=2->m=n)):
 cK false (av par (cf ((av par kids).flatMap aD)))=0/\(av par (cf ((av par kids).flatMap aD))).all (bw par)=true/\dQ (av par (cf ((av par kids).flatMap aD)))=true:=by
 have hpre:∀m∈(av par kids).flatMap aD,PreOK (fun m=>mF m/\Iu par m) m:=fun m hm=>by
  obtain⟨n,hn,hm⟩:=zCd.1 hm;have hnf:=zBf.1 hn;obtain⟨h1,h2,h3,h4⟩:=ih n hnf.1 m hm;refine⟨h1.txt,h1.oth,h1.kids,h1.own,fun hr=>?_,fun hr hv=>?_⟩
  ·have:=hnf.2
   unfold bw at this;rw[hr]at this;split at this
   ·cases this
   ·simp at this
    rw[h2];exact this.1
  ·rw[Mp hr h2 h3];exact hnf.2
 obtain⟨k1,k2⟩:=sE (f:=fun m=>mF m/\Iu par m) (fun k n a t ks t' hk h=>⟨⟨fun h3=>by simp only at h3;omega,h.1.2⟩,h.2.1,fun hr hv=>(Mo (n:=⟨k,n,a,t,ks⟩) hr).trans (h.2.2 hr hv)⟩) _ hpre
 generalize cf ((av par kids).flatMap aD)=K at *;have hmem:∀n∈av par K,vh (fun m=>mF m/\Iu par m) n:=fun n hn=>k1 n (zBf.1 hn).1;refine⟨?_,?_,ER _ fun n hn=>(hmem n hn).2.2.1⟩
 ·refine sG _ _ (fun n hn=>⟨(hmem n hn).1,(hmem n hn).2.1⟩) ?_
  cases hr:raw par
  ·cases hv:ew par
   ·have:av par K=K:=vB K false fun n hn=>(k1 n hn).2.2.2.2 hr hv
    rw[this];exact k2
   ·have:av par K=[]:=by
     refine List.filter_eq_nil_iff.2 fun n hn=>?_;simp[bw,hv]
    rw[this];trivial
  ·have hK:K.length<=1:=by
    match K,k1,k2 with
    |[],_,_=>simp
    |[_],_,_=>simp
    |x::y::r,k1,k2=>
      exfalso;have h1:=(k1 x (by simp)).2.2.2.1 hr
      have h2:=(k1 y (by simp)).2.2.2.1 hr
      exact k2.2.1 ⟨by simp[h1],h2⟩
   have hl:(av par K).length<=1:=zBa (List.length_filter_le _ _) hK
   match av par K,hl with
   |[],_=>trivial
   |[z],_=>simp[wu]
   |_::_::_,h=>simp at h
 ·rw[zBe]
  exact fun n hn=>(zBf.1 hn).2
theorem Fd:∀l:List Node,(∀n∈l,b5 n false=0/\cK false n.kids=0)->∀n∈l,∀m∈aD n,PreOK mF m/\m.kind=n.kind/\m.name=n.name/\(n.kind=2->m=n):=by
 refine aC (fun _ n h=>by cases h) ?_
 intro n l h1 h2 ha x hx m hm;rcases zAc.1 hx with rfl|hx
 ·obtain⟨e1,e2⟩:=ha x (by simp)
  have hkids:∀n∈x.kids,b5 n false=0/\cK false n.kids=0:=by
   have:∀(l:List Node)(b:Bool),cK b l=0->∀n∈l,b5 n false=0/\cK false n.kids=0:=fun l=>by
    induction l with
    |nil=>intro b _ n hn;cases hn
    |cons y l ih=>
      intro b h n hn;obtain⟨g1,g2,g3⟩:=dy h;rcases zAc.1 hn with rfl|hn
      ·refine⟨?_,g2⟩
       by_cases hk:n.kind=2
       ·obtain⟨a,b',c⟩:=lF hk g1
        exact ur hk a b' c
       ·by_cases hk1:n.kind=1
        ·unfold b5 at g1⊢;rw[if_pos hk1]at g1⊢;exact g1
        ·unfold b5 at g1⊢
         rw[if_neg hk1]at g1⊢;split at g1
         ·rename_i q1
          rw[if_pos q1];split at g1
          ·rename_i q2
           rw[if_pos q2];split at g1
           ·rename_i q3
            rw[if_pos ⟨q3.1,fun h=>absurd h hk⟩]
           ·cases g1
          ·cases g1
         ·cases g1
      ·exact ih _ g3 n hn
   exact this x.kids false e2
  rw[j4]at hm;split at hm
  ·cases hm
  ·rename_i hno
   split at hm
   ·rename_i hk
    simp only[zAc,zAe,or_false]at hm;subst hm;obtain⟨s1,s2,s3⟩:=Fc x.name x.kids (h1 hkids);refine⟨⟨fun h=>?_,fun _=>?_,s1,fun h=>?_,s2,s3⟩,rfl,rfl,fun h=>?_⟩
    ·simp only at h;omega
    ·unfold b5 at e1⊢
     rw[if_pos hk]at e1⊢;exact e1
    ·simp only at h;omega
    ·omega
   ·rename_i hk
    simp only[zAc,zAe,or_false]at hm;subst hm
    have hkk:m.kids=[]:=by
     unfold b5 at e1;rw[if_neg hk]at e1;split at e1
     ·split at e1
      ·rename_i q;exact q.2.2
      ·cases e1
     ·cases e1
    refine⟨⟨fun h=>?_,fun _=>e1,e2,fun h=>?_,by rw[hkk];rfl,by rw[hkk];rfl⟩,rfl,rfl,fun _=>rfl⟩
    ·obtain⟨⟨a,b,c⟩,d,_⟩:=lF h e1
     exact⟨a,b,c,d⟩
    ·cases hw:gg dc m.text
     ·rfl
     ·exact absurd ⟨h,hw⟩ hno
 ·exact h2 (fun n hn=>ha n (by simp[hn])) x hx m hm
theorem lI(l:List Node):b6 (cc l)=true:=by
 have hp:=lr l;have hs:=Fd (bC l) fun n hn=>⟨(hp.1 n hn).1,(hp.1 n hn).2.1⟩
 obtain⟨k1,k2⟩:=sE (f:=mF) (fun k n a t ks t' hk h=>⟨fun h3=>by simp only at h3;omega,h.2⟩) ((bC l).flatMap aD) fun m hm=>by
  obtain⟨n,hn,hm⟩:=zCd.1 hm;exact(hs n hn m hm).1
 have e:cc l=cf ((bC l).flatMap aD):=rfl;rw[e];unfold b6;rw[zAd];exact⟨decide_eq_true (sG _ _ (fun n hn=>⟨(k1 n hn).1,(k1 n hn).2.1⟩) k2),ER _ fun n hn=>(k1 n hn).2.2⟩
end Go.Abs.F
end
section
namespace Go.Abs.F
open Go.Proofs
attribute [-simp] getElem?_pos zAf zAj
theorem Rt.low{l:Str}(h:∀b∈l,b.toNat<128/\b.toNat≠0/\b.toNat≠13):Rt l:=Rt.ascii h
theorem Qe{s:Str}(h:right s=true):Rt s:=(vg s).2 h
theorem KC(v:Bool):∀(u t:Str),(∀b∈u,128<=b.toNat)->bN v (u++t)=u++bN v t
 |[],t,_=>rfl
 |c::u,t,h=>by
   have hc:=h c (by simp)
   simp only[zAb,bN,KC v u t (fun b hb=>h b (by simp[hb]))]
   unfold p7;rw[if_neg (by omega),if_neg (by omega),if_neg (by omega),if_neg (by omega)]
   rfl
theorem Rt.esc{v:Bool}{s:Str}(h:Rt s):Rt (bN v s):=by
 refine Rt.ind (p:=fun s=>Rt (bN v s)) Rt.nil ?_ ?_ h
 ·intro b t h1 h2 h3 _ ht
  simp only[bN];refine Rt.append ?_ ht;unfold p7;split
  ·exact Rt.low (by decide)
  ·split
   ·exact Rt.low (by decide)
   ·split
    ·exact Rt.low (by decide)
    ·split
     ·exact Rt.low (by decide)
     ·exact Rt.low (fun x hx=>by obtain rfl:=List.mem_singleton.1 hx;exact⟨h1,h2,h3⟩)
 ·intro u t hu hh hR ht hp
  rw[KC v u t hh];exact hR.append hp
theorem FN{s:Str}(h:named s=true):Rt s:=Rt.low fun b hb=>by have:=ik h b hb;omega
theorem Be{s:Str}(h:aU s=true):Rt s:=by
 simp only[aU,zAd,decide_eq_true_eq]at h;exact Qe (by simpa[right]using h.2.1)
theorem Cu:∀(l pre:List Attr),dU pre l=0->bf l=true->Rt (aW l)
 |[],pre,_,_=>Rt.nil
 |a::l,pre,h1,h2=>by
   simp only[dU]at h1;simp only[bf,zAd]at h2;split at h1
   ·rename_i ha
    split at h1
    ·cases h1
    ·have ih:=Cu l _ h1 h2.2
     have e:aW (a::l)=[32]++(a.name++([61,34]++(bN true a.value++([34]++aW l)))):=by simp[aW]
     rw[e];exact(Rt.low (by decide)).append ((Be ha).append ((Rt.low (by decide)).append ((Qe h2.1).esc.append ((Rt.low (by decide)).append ih))))
   ·cases h1
theorem FF{nm:Str}{l:List Attr}(h:named nm=true)(h1:dU [] l=0)(h2:bf l=true):Rt (bL nm l):=by
 have e:bL nm l=[60]++(nm++(aW l++[62])):=by simp[bL]
 rw[e];exact(Rt.low (by decide)).append ((FN h).append ((Cu l [] h1 h2).append (Rt.low (by decide))))
theorem MK{nm:Str}(h:named nm=true):Rt (aJ nm):=by
 have e:aJ nm=[60,47]++(nm++[62]):=by simp[aJ]
 rw[e];exact(Rt.low (by decide)).append ((FN h).append (Rt.low (by decide)))
theorem SH{t:Str}(h:Rt t):Rt (oS t):=by
 have e:oS t=[60,33,45,45]++(t++[45,45,62]):=by simp[oS]
 rw[e];exact(Rt.low (by decide)).append (h.append (Rt.low (by decide)))
theorem xq:∀(l:List Node)(b rw:Bool),cK b l=0->Rt (wrL rw l):=by
 refine aC (p:=fun l=>∀(b rw:Bool),cK b l=0->Rt (wrL rw l)) (fun b rw _=>Rt.nil) ?_;intro n l h1 h2 b rw hm;obtain⟨g1,g2,g3⟩:=dy hm;have i1:=h1 false (raw n.name) g2;have i2:=h2 _ rw g3;simp only[wrL];refine Rt.append ?_ i2;rw[qO];rcases ii g1 with⟨k1,k2,k3,k4,k5⟩|⟨k1,k2,k3,k4,k5⟩
 ·rw[if_pos k1]
  split
  ·exact FF k3 k4 k5
  ·exact(FF k3 k4 k5).append (i1.append (MK k3))
 ·rw[if_neg (by omega)]
  have hr:Rt n.text:=Qe k5.1;split
  ·split
   ·exact hr
   ·exact hr.esc
  ·split
   ·exact SH hr
   ·exact Rt.nil
theorem L5{l:List Node}(h:may l=0):cN (aO (wrL false l))=l↔b6 l=true:=
 ⟨fun e=>by rw[<-e];exact n8 (xq l false false h),nj⟩
theorem xp (rw:Bool):∀ a b:List Node,wrL rw (a++b)=wrL rw a++wrL rw b
 | [],b=>rfl
 | n::a,b=>by simp [wrL,xp rw a b]
theorem vE:∀(x y:List Node)(b:Bool),cK b x=0->cK (oq b x) y=0->cK b (x++y)=0
 |[],y,b,_,h=>h
 |n::x,y,b,h1,h2=>by
   obtain⟨g1,g2,g3⟩:=dy h1;rw[zAb,d5];exact⟨g1,g2,vE x y _ g3 h2⟩
theorem wm:∀(x y:List Node),dQ x=true->dQ y=true->dQ (x++y)=true
 |[],y,_,h=>h
 |n::x,y,h1,h2=>by
   simp only[zAb,dQ,zAd]at h1⊢;exact⟨h1.1,wm x y h1.2 h2⟩
theorem Ga:∀(x:List Node)(b:Bool),x≠[]->oq b x=decide ((x[x.length-1]?).map Node.kind=some 2):=by
 intro x b hne;obtain⟨u,o,rfl⟩:∃u o,x=u++[o]:=⟨x.dropLast,x.getLast hne,(zAg hne).symm⟩;rw[oo];rw[zAh (by simp)]
 simp
theorem Gf{x y:List Node}(hx:b6 x=true)(hy:b6 y=true)(hs:¬((x[x.length-1]?).map Node.kind=some 2/\(y[0]?).map Node.kind=some 2)):b6 (x++y)=true:=by
 unfold b6 may at hx hy⊢;rw[zAd,decide_eq_true_eq]at hx hy⊢;refine⟨vE x y false hx.1 ?_,wm x y hx.2 hy.2⟩;cases y with
 |nil=>rfl
 |cons n y=>
   obtain⟨g1,g2,g3⟩:=dy hy.1;rw[d5];refine⟨?_,g2,g3⟩;rcases zBh x with rfl|⟨u,o,e⟩
   ·exact g1
   ·have hne:x≠[]:=by rw[e];simp
    rw[Ga x false hne];by_cases hk:(x[x.length-1]?).map Node.kind=some 2
    ·have:¬n.kind=2:=fun h=>hs ⟨hk,by simp[h]⟩
     exact FI g1 (fun h=>this h.2)
    ·rw[decide_eq_false hk];exact g1
theorem I2{x y:List Node}(hx:b6 x=true)(hy:b6 y=true)(hs:¬((x[x.length-1]?).map Node.kind=some 2/\(y[0]?).map Node.kind=some 2)):cN (aO (wrL false x++wrL false y))=x++y:=by
 rw[<-xp];exact nj (Gf hx hy hs)
end Go.Abs.F
end
section
namespace Go.Abs.F
open Go.Proofs Go.RowKit
attribute [-simp] getElem?_pos zAf zAj
theorem Small.of{s:Str}(h:Rt s)(hl:s.length<=1000000):Small s:=by
 obtain⟨h1,h2,h3⟩:=NR s.length s (zBg _) h;have h4:=Is h;exact⟨hl,by omega,fun t ht=>by have:=h3 t ht;omega,by omega⟩
theorem EQ{p q:Node->Prop}(h:∀n,p n->q n):∀l:List Node,ar p l->ar q l:=by
 refine aC (p:=fun l=>ar p l->ar q l) (fun _=>trivial) ?_;intro n l h1 h2 ha;simp only[ar,fc]at ha⊢;exact⟨⟨h n ha.1.1,h1 ha.1.2⟩,h2 ha.2⟩
theorem w5{l:List Node}(h:wNs 10 1 l<=1000000):ar kx l:=EQ (fun n ⟨a,b,c,d,_⟩=>⟨a,b,c,d⟩) l (NK l _ h)
theorem JX:∀l:List Node,10*aj l<=wNs 10 1 l:=by
 refine aC (p:=fun l=>10*aj l<=wNs 10 1 l) (by simp[aj]) ?_
 intro n l h1 h2;simp only[aj,ef,wNs,fN];omega
theorem qr(l:List Node)(hm:may l=0)(hw:wNs 10 1 l<=1000000)(hc:aj l<1000):Fn Tryz.prog z6 [.seq 5 (l.map Node.v)] (.seq 5 ((cN (aO (wrL false l))).map Node.v)):=by
 have h1:=Bj l false;have h2:=JX l;refine Fn.of_image mixed AS Aw rfl fun ho=>?_;unfold qI;simp only[oks,ok,and_true]at ho;clear ho;simp(disch:=omega) [-zAa];refine ac (Ch l (w5 hw) hc) rfl fun _=>?_;simp(disch:=omega) [-zAa,hm];refine aq (Ep l (by omega) (by omega)) (by simp) fun _=>?_
 simp(disch:=omega) [-zAa];refine aq (tf _ (Small.of (xq l false false hm) (by omega))) (by simp) fun _=>?_
 simp(disch:=omega) [-zAa]
theorem iF(l:List Node)(hm:may l=0)(hw:wNs 10 1 l<=1000000)(hc:aj l<1000):Fn Tryz.prog zZ [.seq 5 (l.map Node.v)] (.bool (b6 l)):=by
 have h1:=Bj l false;have hR:=xq l false false hm;have h3:=Is hR;have h4:=EQ (fun n (h:n.name.length<=30000000/\n.text.length<=30000000/\n.attrs.length<=30000000/\(∀a∈n.attrs,a.name.length<=30000000/\a.value.length<=30000000)/\n.kids.length<=30000000)=>(by omega:n.attrs.length<=1000000000)) (cN (aO (wrL false l))) (NK _ _ (by omega))
 have e:dI (cN (aO (wrL false l))) l=b6 l:=by
  have:=(Im (cN (aO (wrL false l))) l).trans (L5 hm);cases h:b6 l
  ·cases h':dI (cN (aO (wrL false l))) l
   ·rfl
   ·rw[this]at h';rw[h]at h';cases h'
  ·exact this.2 h
 refine Fn.of_image mixed AQ Au rfl fun ho=>?_;unfold qG;simp only[oks,ok,and_true]at ho;clear ho;simp(disch:=omega) [-zAa];refine ac (Ch l (w5 (by omega)) hc) rfl fun _=>?_
 simp(disch:=omega) [-zAa,hm];refine aq (qr l hm hw hc) (by simp) fun _=>?_
 simp(disch:=omega) [-zAa];refine ac (Js _ l (by omega) h4) rfl fun _=>?_
 simp(disch:=omega) [-zAa,e]
end Go.Abs.F
end
