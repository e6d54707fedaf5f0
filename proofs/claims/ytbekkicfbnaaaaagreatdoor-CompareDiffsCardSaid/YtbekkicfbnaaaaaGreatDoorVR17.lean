/- Match of package regex. No condition. -/
import Derived.Test.YtbekkicfbnaaaaaGreatDoorVR16
import Derived.Test.YtbekkicfbnaaaaaGreatDoorVP9
import Derived.Test.YtbekkicfbnaaaaaGreatDoorVCodeH
set_option linter.all false open List renaming reduceReplicate→zAa,mem_of_getElem?→zAb,range→zAc,cons_append→zAd,getElem?_eq_some_iff→zAe,mem_cons→zAf,nil_append→zAh,length_cons→zAi,getElem?_eq_none→zAj,length_append→zBa,append_assoc→zBb,getElem?_map→zBc,getElem?_range→zBe,replicate→zBf,map_map→zBg,mem_map→zBh,length_take→zBj,getElem?_replicate→zCa,length→zCc,ext_getElem?→zCd,take_add_one→zCe,take_append_drop→zCf,set_append_right→zCg,mem_append→zCj,map_set→zDa,take_of_length_le→zDc,perm_middle→zDd,pairwise_append→zDe,length_map→zDf,append_nil→zDg,eq_nil_of_length_eq_zero→zDh,map_congr_left→zDi,dropLast_concat_getLast→zDj,mem_range→zEa,getElem?_append_right→zEb,map_cons→zEc,getElem?_append_left→zEd,take_length→zEf,mem_flatMap→zEh,all_eq_true→zEi,getLast_eq_getElem→zEj,getElem?_cons_zero→zFa,getElem?_cons_succ→zFb,length_nil→zFc,length_filter_le→zFd,pairwise_cons→zFe,set_cons_zero→zFf,getElem?_set→zFg,length_range→zFi,length_drop→zGa,any_eq_true→zGb,take_left'→zGc,mem_filter→zGd,all_cons→zGe
open Nat renaming lt_or_ge→zAg,lt_irrefl→zBi,sub_self→zEe,zero_le→zFj,le_trans→zGf,le_refl→zGg
open Option.some renaming injEq→zBd
open Bool renaming true_and→zCb
open Option renaming getD_some→zCh,map_some→zCi,not_isSome→zDb,bind_some→zEg
open Function renaming comp_def→zFh open Option renaming some→ś open Bool renaming true→ť,false→ğ open Go.Proofs.Tryz renaming prog→ŷ
section
set_option maxHeartbeats 4000000
set_option maxRecDepth 100000
namespace Go.Abs
open Go.Proofs Go.Aut
attribute [-simp] getElem?_pos zDb zBg
end Go.Abs
end
section
set_option maxRecDepth 100000
set_option maxHeartbeats 1000000
namespace Go.Abs
open Go.Proofs Go.Aut
end Go.Abs
end
section
set_option maxHeartbeats 4000000
set_option maxRecDepth 100000
namespace Go.Abs.F
open Go.Proofs
attribute [-simp] getElem?_pos zDb zBg
theorem FnH.boxedFn{P f us H' cs cs' g}(h:FnH P f [] us [] (.fn g [] [.ptr 0 0]) H')(hb:H'[0]?=ś (ś (.box cs)))(hp:purs H' cs=ś cs'):Fn P f us (.fn g [] [.sptr (.strct cs') 0]):=by
 intro M w ca hM hus o a Nx Q hN;refine h M w _ ca noJ (rI rfl) (FnH.start hM ca) (bv (λ_ _ h=>h) (λ_ _ h=>h.elim) _ _ hus) o a Nx Q ?_;intro c M' w' κ' hr hu hh hM1 hM2 _;simp only[rep,af]at hr;obtain⟨a1,a2,rfl,e1,c1,cs1,e2,hr1,e3⟩:=hr;obtain⟨M2,k1,k2,k3,k4⟩:=hh.boxed (P:=P) hu hb hp (c:=c1) (by simpa only[rep]using hr1)
 refine hN _ M2 w' ?_ ⟨hu.os,hu.tape,hu.output,hu.size,λk hk=>hu.block k hk (λ⟨i,ob,g1,_⟩=>by simp at g1)⟩ k2 (λp v h=>k1 p v (hM1 p v h)) (λp v h=>?_)
 ·simp only[rep,af]at k4⊢
  exact⟨a1,a2,rfl,e1,c1,cs1,e2,k4,e3⟩
 ·rcases k3 p v h with h|h
  ·rcases hM2 p v h with h|h|⟨i,ob,g1,_⟩
   ·exact .inl h
   ·exact .inr h
   ·simp at g1
  ·exact .inr h
def oB(e:Allowed):List Str:=(e.rules.filter (·.req)).map (·.name)
theorem De(e)(hl:e.rules.length<=1000000):Fn ŷ p8 [e.v] (.seq 1 ((oB e).map .str)):=by
 refine yoA CI ?_;simp;generalize hw:oB e=w
 refine ah (λ(q:Nat×List Str)=>⟨[(3,.ref 0 q.2.length),(7,.seq 5 (e.rules.map Rule.v)),(8,.int .i64 e.rules.length),(9,.int .i64 q.1)],[ś (.arr aA 1 (q.2.map .str))]⟩)
  (λq=>q.1<=e.rules.length/\q.2.length<=q.1/\q.2++((e.rules.drop q.1).filter (·.req)).map (·.name)=w) (λq=>e.rules.length-q.1) [.r 3 aA 1] _ (0,[]) rfl (by simp) (by simp[<-hw,oB]) ?_
 rintro⟨k,out⟩ ⟨hk,hol,hi⟩ N hN;simp only at hk hol hi;rcases place e.rules k hk with⟨he,hd⟩|⟨hlt,x,hx,hd⟩<;>rw[hd]at hi
 ·simp at hi
  subst hi;simp[he]
 ·simp only[List.filter_cons]at hi
  replace hi:=hid hi;simp(disch:=omega) [hx];refine BrK.mk (λh=>?_) (λh=>?_)
  ·simp(disch:=omega)
   have hi:=hi.out;refine hN.out _<|Nx.mk (k+1,out++[x.name]) (by simp) ⟨by simp only;omega,by simp;omega,?_⟩ (by simp only;omega)
   simpa[h]using hi
  ·simp(disch:=omega)
   have hi:=hi.out;refine hN.out _<|Nx.mk (k+1,out) (by simp) ⟨by simp only;omega,by simp only;omega,?_⟩ (by simp only;omega)
   simpa[h]using hi
mutual
def Tr.v:Tr->V
 |⟨l,ks⟩=>.strct [.int .i64 l,.seq 2 (Tr.vs ks)]
def Tr.vs:List Tr->List V
 |[]=>[]
 |t::l=>t.v::Tr.vs l
end
theorem Tr.vs_map:∀l:List Tr,Tr.vs l=l.map Tr.v
 |[]=>by simp[Tr.vs]
 |t::l=>by simp[Tr.vs,Tr.vs_map l]
theorem Tr.v_eq(t:Tr):t.v=.strct [.int .i64 t.label,.seq 2 (t.kids.map Tr.v)]:=by
 cases t;simp[Tr.v,Tr.vs_map,Tr.label,Tr.kids]
def lfV(j:Nat):V:=.strct [.int .i64 j,.seq 2 []]
theorem R6(j):(bP j).v=lfV j:=by simp[bP,Tr.v,Tr.vs,lfV]
theorem xe(x):Fn ŷ Hj [.int .i64 x] (.bool ğ):=by
 refine yoB HB λho=>?_;simp only[oks,ok,and_true]at ho;simp
theorem vP:∀{a b:List Nat},a.Perm b->a.Pairwise (λx y=>x<=y)->b.Pairwise (λx y=>x<=y)->a=b
 |[],b,h,_,_=>(List.nil_perm.1 h).symm ▸ rfl
 |x::a,[],h,_,_=>by simp at h
 |x::a,y::b,h,h1,h2=>by
   rw[zFe]at h1 h2;have hx:x∈y::b:=h.mem_iff.1 (by simp)
   have hy:y∈x::a:=h.mem_iff.2 (by simp)
   have hxy:x=y:=by
    rcases zAf.1 hx with e|hx
    ·exact e
    ·rcases zAf.1 hy with e|hy
     ·exact e.symm
     ·have:=h2.1 x hx;have:=h1.1 y hy;omega
   subst hxy;rw[vP ((List.perm_cons x).1 h) h1.2 h2.2]
theorem aat{a l}(h:a.Perm l)(hs:a.Pairwise λx y=>x<=y):a=dz l:=vP (h.trans (bo l).symm) hs (FV l)
theorem FW{A B}{x:Nat}(h:(A++B).Pairwise λx y=>x<=y)(hx:∀b∈B,x<b)(ha:∀a∈A,a<=x):(A++x::B).Pairwise λx y=>x<=y:=by
 rw[zDe]at h⊢;refine⟨h.1,?_,λa ha' b hb=>?_⟩
 ·rw[zFe]
  exact⟨λb hb=>Nat.le_of_lt (hx b hb),h.2.1⟩
 ·rcases zAf.1 hb with rfl|hb
  ·exact ha a ha'
  ·exact h.2.2 a ha' b hb
section
variable (p q:Policy)(L:List Label)(m:Nat)
end
section
variable (p q:Policy)(L:List Label)(m:Nat)
end
mutual
def ai2(f:Tr->Prop):Tr->Prop
 |⟨l,ks⟩=>f ⟨l,ks⟩/\dw f ks
def dw(f:Tr->Prop):List Tr->Prop
 |[]=>True
 |t::l=>ai2 f t/\dw f l
end
theorem nR(f)(t):ai2 f t=(f t/\dw f t.kids):=by cases t;simp[ai2,Tr.kids]
def Label.zero:Label:=⟨0,[],[],ğ,[],ğ,ğ⟩
def fV(L:List Label)(i:Nat):Label:=(L[i]?).getD .zero
theorem xc(L)(hL:L.length<=1000000000)(t:Tr):Fn ŷ JF [.seq 7 (L.map Label.v),t.v] (fV L t.label).v:=by
 rw[Tr.v_eq];generalize t.label=i;refine yoA Kf ?_;have hn:¬(i:Int)<0:=by omega
 by_cases h:i<L.length
 ·obtain⟨x,hx⟩:=av h
  have hxv:x.v=.strct [.int .i64 x.kind,.str x.element,.str x.name,.bool x.many,.str x.value,.bool x.one,.bool x.two]:=rfl;simp_all[zAa,fV]
 simp_all[zAj,zAa,fV,Label.zero,Label.v]
def Av(L:List Label)(t:Tr):List Attr:=if(fV L t.label).kind=4 then[⟨(fV L t.label).name,(fV L t.label).value⟩]else[]
def cX(L:List Label)(ts:List Tr):List Attr:=ts.flatMap (Av L)
theorem xd(L)(hL:L.length<=1000000000)(ts)(hts:ts.length<=1000000000):Fn ŷ wa [.seq 7 (L.map Label.v),.seq 2 (ts.map Tr.v)] (.seq 2 ((cX L ts).map Attr.v)):=by
 refine yoA wB ?_;simp;generalize hw:cX L ts=w
 refine ah (λx:Nat×List Attr=>⟨[(0,.seq 7 (L.map Label.v)),(5,.ref 0 x.2.length),(9,.seq 2 (ts.map Tr.v)),(10,.int .i64 ts.length),(11,.int .i64 x.1)],[ś (.arr bW 2 (x.2.map Attr.v))]⟩)
  (λx=>x.1<=ts.length/\x.2.length<=x.1/\x.2++cX L (ts.drop x.1)=w) (λx=>ts.length-x.1) [.r 5 bW 2] _ (0,[]) rfl (by simp) (by simp[hw]) ?_
 rintro⟨j,out⟩ ⟨hj,hol,hi⟩ N hN;simp only at hj hol hi;rcases place ts j hj with⟨he,hd⟩|⟨hlt,t,ht,hd⟩<;>rw[hd]at hi
 ·simp_all[cX,zAa]
 ·have htold:=xc L hL t
  have hcons:cX L (t::ts.drop (j+1))=Av L t++cX L (ts.drop (j+1)):=rfl;rw[hcons]at hi;replace hi:=hid hi;have htv:=Tr.v_eq t;rw[htv]at htold;unfold Av at hi;generalize fV L t.label=b at *;have hbv:b.v=.strct [.int .i64 b.kind,.str b.element,.str b.name,.bool b.many,.str b.value,.bool b.one,.bool b.two]:=rfl;rw[hbv]at htold;simp(disch:=omega) [ht,htv];refine ae htold (by simp) λ_=>?_
  simp;by_cases hk:b.kind=4
  ·simp(disch:=omega) [hk]
   refine hN.out _<|Nx.mk (j+1,out++[⟨b.name,b.value⟩]) (by simp) ⟨by simp only;omega,by simp;omega,?_⟩ (by simp only;omega)
   have hi:=hi.out;simpa[hk]using hi
  ·simp(disch:=omega)
   refine hN.out _<|Nx.mk (j+1,out) (by simp) ⟨by simp only;omega,by simp only;omega,?_⟩ (by simp only;omega)
   have hi:=hi.out;simpa[hk]using hi
mutual
def F4(L:List Label):Tr->List Node
 |⟨i,ks⟩=>if(fV L i).kind=1 then[⟨2,[],[],[120],[]⟩]else if(fV L i).kind=2 then[⟨3,[],[],[],[]⟩]
   else if(fV L i).kind=3 then[⟨1,(fV L i).element,cX L ks,[],br L ks⟩]else[]
def br(L:List Label):List Tr->List Node
 |[]=>[]
 |t::ts=>F4 L t++br L ts
end
theorem im(L)(t):F4 L t=if(fV L t.label).kind=1 then[⟨2,[],[],[120],[]⟩]else if(fV L t.label).kind=2 then[⟨3,[],[],[],[]⟩]
 else if(fV L t.label).kind=3 then[⟨1,(fV L t.label).element,cX L t.kids,[],br L t.kids⟩]else[]:=by
 cases t;grind[F4,Tr.label,Tr.kids]
theorem ab9(L)(t):(F4 L t).length<=1:=by
 grind[im]
def gO(t:Tr):Prop:=t.kids.length<=1000000000
theorem uy(L)(hL:L.length<=1000000000):∀ts:List Tr,dw gO ts->ts.length<=1000000000->Fn ŷ fy [.seq 7 (L.map Label.v),.seq 2 (ts.map Tr.v)] (.seq 5 ((br L ts).map Node.v)):=by
 have key:∀ts:List Tr,ts.length<=1000000000->(∀t∈ts,gO t/\Fn ŷ fy [.seq 7 (L.map Label.v),.seq 2 (t.kids.map Tr.v)] (.seq 5 ((br L t.kids).map Node.v)))->
  Fn ŷ fy [.seq 7 (L.map Label.v),.seq 2 (ts.map Tr.v)] (.seq 5 ((br L ts).map Node.v)):=by
  intro ts hts hrec;refine yoA Hz ?_;simp;generalize hw:br L ts=w
  refine ah (λx:Nat×List Node=>⟨[(0,.seq 7 (L.map Label.v)),(5,.ref 0 x.2.length),(9,.seq 2 (ts.map Tr.v)),(10,.int .i64 ts.length),(11,.int .i64 x.1)],[ś (.arr aL 5 (x.2.map Node.v))]⟩)
   (λx=>x.1<=ts.length/\x.2.length<=x.1/\x.2++br L (ts.drop x.1)=w) (λx=>ts.length-x.1) [.r 5 aL 5] _ (0,[]) rfl (by simp) (by simp[hw]) ?_
  rintro⟨j,out⟩ ⟨hj,hol,hi⟩ N hN;simp only at hj hol hi;rcases place ts j hj with⟨he,hd⟩|⟨hlt,t,ht,hd⟩<;>rw[hd]at hi
  ·simp_all[br,zAa]
  ·have htold:=xc L hL t
   obtain⟨hkf,hkn⟩:=hrec t (zAb ht);have hat:=xd L hL t.kids hkf;rw[br,im]at hi;replace hi:=hid hi;have htv:=Tr.v_eq t;rw[htv]at htold;generalize fV L t.label=b at *;have hbv:b.v=.strct [.int .i64 b.kind,.str b.element,.str b.name,.bool b.many,.str b.value,.bool b.one,.bool b.two]:=rfl;rw[hbv]at htold;simp(disch:=omega) [ht,htv];refine ae htold (by simp) λ_=>?_
   simp;by_cases h1:b.kind=1
   ·simp(disch:=omega) [h1]
    refine hN.out _<|Nx.mk (j+1,out++[⟨2,[],[],[120],[]⟩]) (by simp) ⟨by simp only;omega,by simp;omega,?_⟩ (by simp only;omega)
    have hi:=hi.out;simpa[h1]using hi
   ·by_cases h2:b.kind=2
    ·simp(disch:=omega) [h2]
     refine hN.out _<|Nx.mk (j+1,out++[⟨3,[],[],[],[]⟩]) (by simp) ⟨by simp only;omega,by simp;omega,?_⟩ (by simp only;omega)
     have hi:=hi.out;simp_all
    ·by_cases h3:b.kind=3
     ·simp[h3]
      refine az hat (by simp) ?_
      simp;refine az hkn (by simp) ?_
      simp(disch:=omega);refine hN.out _<|Nx.mk (j+1,out++[⟨1,b.element,cX L t.kids,[],br L t.kids⟩]) (by simp) ⟨by simp only;omega,by simp;omega,?_⟩ (by simp only;omega)
      have hi:=hi.out;simp_all
     ·simp(disch:=omega)
      refine hN.out _<|Nx.mk (j+1,out) (by simp) ⟨by simp only;omega,by simp only;omega,?_⟩ (by simp only;omega)
      have hi:=hi.out;simp_all
 have all:∀ts:List Tr,dw gO ts->∀t∈ts,gO t/\Fn ŷ fy [.seq 7 (L.map Label.v),.seq 2 (t.kids.map Tr.v)] (.seq 5 ((br L t.kids).map Node.v)):=by
  refine kJ (λ_ t h=>by cases h) ?_
  intro t l h1 h2 ha x hx;simp only[dw,nR]at ha;rcases zAf.1 hx with rfl|hx
  ·exact⟨ha.1.1,key x.kids ha.1.1 (h1 ha.1.2)⟩
  simp_all
 grind
theorem BR{L i b}(h:L[i]?=ś b):fV L i=b:=by simp[fV,h]
section
variable (p q:Policy)(L:List Label)(m:Nat)
end
theorem W5(a b:Nat):Fn ŷ JG [.int .i64 a,.int .i64 b] (.bool (decide (a<b))):=by
 refine yoA Kg ?_;simp;refine aa (xe a) rfl λ_=>?_;simp
theorem T7(xs)(hxs:xs.length<=1000000):FnH ŷ ji [0] [.ref 0 xs.length,.int .i64 0,.int .i64 xs.length] [ś (.arr ap 1 (xs.map nV))] (.tup []) [ś (.arr ap 1 ((dz xs).map nV))]:=by
 refine yoH jl ?_;simp
 refine ah (λq:Nat×List Nat=>⟨[(0,.ref 0 q.2.length),(1,.int .i64 0),(2,.int .i64 xs.length),(6,.int .i64 q.1)],[ś (.arr ap 1 (q.2.map nV))]⟩)
  (λq=>1<=q.1/\(q.1<=xs.length\/q.1=1)/\q.2.Perm xs/\(q.2.take q.1).Pairwise λx y=>x<=y) (λq=>xs.length-q.1) [] _ (1,xs) rfl (by simp) ?_ ?_
 ·refine⟨by simp,by simp,List.Perm.refl _,?_⟩
  cases xs<;>simp
 rintro⟨i,D⟩ ⟨h1,h2,hp,hs⟩ N hN;simp only at h1 h2 hp hs;have hDl:D.length=xs.length:=hp.length_eq;by_cases hlt:i<xs.length
 ·obtain⟨x,hx⟩:=av (l:=D) (k:=i) (by omega)
  simp[hDl,hlt]
  refine ah (λq:Nat×List Nat=>⟨[(0,.ref 0 q.2.length),(1,.int .i64 0),(2,.int .i64 xs.length),(6,.int .i64 i),(7,.int .i64 q.1)],[ś (.arr ap 1 (q.2.map nV))]⟩)
   (λq=>∃A B,q.2=A++x::(B++D.drop (i+1))/\A.length=q.1/\A++B=D.take i/\∀b∈B,x<b) (λq=>q.1) [] _ (i,D) rfl (by simp[hDl]) ?_ ?_
  ·refine⟨D.take i,[],?_,by simp;omega,by simp,by simp⟩
   simp only[zAh];obtain⟨_,y,hy,hd⟩:=(place D i (by omega)).resolve_left (by omega)
   rw[hx]at hy;cases hy;rw[<-hd,zCf]
  rintro⟨j,E⟩ ⟨A,B,hE,hA,hAB,hB⟩ N' hN';simp only at hE hA
  have hEl:E.length=xs.length:=by
   have h3:=congrArg zCc hE;have h4:=congrArg zCc hAB;simp only[zBa,zAi,zGa,zBj]at h3 h4;omega
  have hji:j<=i:=by
   have h4:=congrArg zCc hAB;simp only[zBa,zBj]at h4;omega
  have hEj:E[j]?=ś x:=by rw[hE,zEb (by omega)];simp[hA]
  have hfin:(∀a∈A,a<=x)->N ⟨[(0,.ref 0 E.length),(1,.int .i64 0),(2,.int .i64 xs.length),(6,.int .i64 (i+1))],[ś (.arr ap 1 (E.map nV))]⟩:=λha=>by
   refine hN.out _<|Nx.mk (i+1,E) (by simp) ⟨by simp only;omega,by simp only;omega,?_,?_⟩ (by simp only;omega)
   ·have e1:E.Perm D:=by
     obtain⟨_,y,hy,hd2⟩:=(place D i (by omega)).resolve_left (by omega)
     rw[hx]at hy;cases hy;have hD:(A++B)++x::D.drop (i+1)=D:=by rw[hAB,<-hd2,zCf]
     rw[hE];have k1:(A++x::(B++D.drop (i+1))).Perm (x::(A++(B++D.drop (i+1)))):=zDd;have k2:((A++B)++x::D.drop (i+1)).Perm (x::((A++B)++D.drop (i+1))):=zDd;rw[hD,zBb]at k2;exact k1.trans k2.symm
    exact e1.trans hp
   ·have e2:E.take (i+1)=A++x::B:=by
     have hl:(A++x::B).length=i+1:=by
      have h4:=congrArg zCc hAB;simp only[zBa,zBj,zAi]at h4⊢;omega
     rw[hE,<-zAd,<-zBb,<-hl,zGc];rfl
    simp only[e2];rw[<-hAB]at hs;exact FW hs hB ha
  by_cases hj:j=0
  ·subst hj
   have hA0:A=[]:=zDh hA;simp(disch:=omega);exact hfin (by simp[hA0])
  ·obtain⟨y,hy⟩:=av (l:=E) (k:=j-1) (by omega)
   have hc:=W5 x y;have hjj:((j:Int)-1).toNat=j-1:=by omega
   have hj0:0<j:=by omega
   have hj1:(1:Int)<=j:=by omega
   obtain⟨A',hA'⟩:∃A',A=A'++[y]:=by
    have hne:A≠[]:=λe=>by rw[e]at hA;simp at hA;omega
    refine⟨A.dropLast,?_⟩
    have h5:A[j-1]?=ś y:=by
     rw[hE,zEd (by omega)]at hy
     exact hy
    have h6:A.getLast hne=y:=by
     rw[zEj];have:=(zAe.1 h5).2;rw[<-this];congr 1;omega
    rw[<-h6];exact(zDj hne).symm
   have hset:(E.set j y).set (j-1) x=A'++x::(y::B++D.drop (i+1)):=by
    have hAl:A'.length=j-1:=by rw[hA']at hA;simp at hA;omega
    rw[hE,zCg _ _ (by omega),hA,zEe,zFf,hA',zBb]
    rw[zCg _ _ (by omega),hAl,zEe]
    simp
   simp(disch:=omega) [hj0,hEj,hy];refine aw hc rfl ?_;by_cases hxy:x<y
   ·have hms:∀(E:List Nat)(j y:Nat),(E.map nV).set j (.int .i64 y)=(E.set j y).map nV:=λE j y=>by simp
    simp(disch:=omega) [-zDa,hy,hEj,hms];refine hN'.out _<|Nx.mk (j-1,(E.set j y).set (j-1) x) (by simp;omega) ⟨A',y::B,hset,?_,?_,?_⟩ (by simp only;omega)
    ·rw[hA']at hA;simp at hA⊢;omega
    ·rw[<-hAB,hA'];simp
    ·intro b hb
     rcases zAf.1 hb with rfl|hb
     ·exact hxy
     ·exact hB b hb
   ·have hfin2:=hfin (λa ha=>by
     rw[hA']at ha;rcases zCj.1 ha with ha|ha
     ·have h7:(A'++[y]++B).Pairwise λx y=>x<=y:=by rw[<-hA',hAB];exact hs
      rw[zBb,zDe]at h7;have:=h7.2.2 a ha y (by simp)
      omega
     ·simp at ha;omega)
    simp(disch:=omega);exact hfin2
 ·have hD:D=dz xs:=by
   refine aat hp ?_;rw[zDc (by omega)]at hs
   exact hs
  subst hD;simp[hDl,hlt]
theorem aiP(k:Nat)(hk:k<13):Fn ŷ Cp [.int .u64 k] (.int .i64 (([0,1,2,2,3,3,3,3,4,4,4,4,4]:List Nat).getD k 0)):=by
 refine yoA CJ ?_;have h:k=0\/k=1\/k=2\/k=3\/k=4\/k=5\/k=6\/k=7\/k=8\/k=9\/k=10\/k=11\/k=12:=by omega
 rcases h with rfl|rfl|rfl|rfl|rfl|rfl|rfl|rfl|rfl|rfl|rfl|rfl|rfl<;>simp
theorem ac4(k:Nat)(hk:k<13):Fn ŷ Hf [.int .u64 k] (.int .i64 (([0,1,2,2,3,3,3,3,4,4,4,4,4]:List Nat).getD k 0)):=by
 refine yoA Ht ?_;simp;refine aa (aiP k hk) rfl λ_=>?_;simp
theorem f_pdq(xs)(hxs:xs.length<13)(z):FnH ŷ nh [0] [.ref 0 xs.length,.int .i64 0,.int .i64 xs.length,.int .i64 z] [ś (.arr ap 1 (xs.map nV))] (.tup []) [ś (.arr ap 1 ((dz xs).map nV))]:=by
 have h:=T7 xs (by omega)
 have hl:(dz xs).length=xs.length:=(bo xs).length_eq;refine yoH nA ?_;simp;refine ah (λk:Nat=>⟨[(0,.ref 0 xs.length),(1,.int .i64 0),(2,.int .i64 xs.length),(3,.int .i64 z),(8,.bool ť),(9,.bool ť)],[ś (.arr ap 1 (xs.map nV))]⟩) (λk=>True) (λk=>0) [] _ 0 rfl (by simp) (by simp) ?_
 rintro k _ N hN;have h12:(xs.length:Int)<=12:=by omega
 simp(disch:=omega) [h12];refine am [0] 1 [0] (by simp) (by simp) (by simp) (by simp) h (by simp) λ_ _=>?_
 simp
theorem aiO(xs)(hxs:xs.length<13):FnH ŷ sV [0] [.ref 0 xs.length] [ś (.arr ap 1 (xs.map nV))] (.tup []) [ś (.arr ap 1 ((dz xs).map nV))]:=by
 have hl:(dz xs).length=xs.length:=(bo xs).length_eq;have hb:=ac4 xs.length hxs;generalize(([0,1,2,2,3,3,3,3,4,4,4,4,4]:List Nat).getD xs.length 0)=z at *;have h:=f_pdq xs hxs z;refine yoH tc ?_;have hwr:IntKind.u64.wrap (xs.length:Int)=xs.length:=by rw[Go.IntKind.wrap_u64];omega
 simp;simp[L4,hwr];refine aa hb rfl λ_=>?_;simp;refine am [0] 1 [0] (by simp) (by simp) (by simp) (by simp) h (by simp) λ_ _=>?_
 simp
theorem ac1(f t r:Nat):FnH ŷ b7 [1,2] [.int .i64 r,.ptr 0 0,.ptr 1 0] [ś (.box [.int .i64 f]),ś (.box [.int .i64 t])] (.bool (decide (f<r)&&decide (r<t))) [ś (.box [.int .i64 f]),ś (.box [.int .i64 t])]:=by
 refine yoH qM ?_;simp;by_cases h:f<r
 ·simp[h]
 ·simp[h]
theorem Ug(l)(hl:l.length<=1000000)(f t:Nat):FnH ŷ nj [1] [.seq 1 (l.map nV),.fn (.func b7) [] [.ptr 0 0,.ptr 1 0]] [ś (.box [.int .i64 f]),ś (.box [.int .i64 t])]
 (.int .i64 (fdx (λr=>decide (f<r)&&decide (r<t)) 0 l)) [ś (.box [.int .i64 f]),ś (.box [.int .i64 t])]:=by
 obtain⟨g,hg⟩:∃g:Nat->Bool,g=λr:Nat=>decide (f<r)&&decide (r<t):=⟨_,rfl⟩
 have hF:∀r:Nat,FnH ŷ b7 [1,2] [.int .i64 r,.ptr 0 0,.ptr 1 0] [ś (.box [.int .i64 f]),ś (.box [.int .i64 t])] (.bool (g r)) [ś (.box [.int .i64 f]),ś (.box [.int .i64 t])]:=λr=>by
  rw[hg];exact ac1 f t r
 rw[<-hg];clear hg;refine yoH nC ?_;simp;generalize hr:fdx g 0 l=r;refine ah (λk:Nat=>⟨[(0,.seq 1 (l.map nV)),(1,.fn (.func b7) [] [.ptr 0 0,.ptr 1 0]),(7,.int .i64 l.length),(8,.int .i64 k)],[ś (.box [.int .i64 f]),ś (.box [.int .i64 t])]⟩) (λk=>k<=l.length/\fdx g k (l.drop k)=r) (λk=>l.length-k) [] _ 0 rfl (by simp) (by simp[hr]) ?_
 rintro k ⟨hk,hi⟩ N hN;rcases place l k hk with⟨he,hd⟩|⟨hlt,x,hx,hd⟩<;>rw[hd]at hi<;>replace hi:=hid hi
 ·simp[he]
  simpa[fdx]using hi.out
 ·have hFx:=hF x
  simp(disch:=omega) [hx];refine am [1,2] 2 [0,1] (by simp) (by simp) (by simp) (by simp) hFx (by simp) λ_ _=>?_
  simp;refine BrK.mk (λh=>?_) (λh=>?_)
  ·simp
   have hi:=hi.out;simpa[fdx,h]using hi
  ·simp(disch:=omega)
   refine hN.out _<|Nx.mk (k+1) (by simp) ⟨by omega,?_⟩ (by omega)
   have hi:=hi.out;simpa[fdx,h]using hi
theorem Id(l:List Nat)(hl:l.length<=1000000)(f t:Nat):FnH ŷ kO [1] [.seq 1 (l.map nV),.fn (.func b7) [] [.ptr 0 0,.ptr 1 0]] [ś (.box [.int .i64 f]),ś (.box [.int .i64 t])]
 (.bool (l.any λr=>decide (f<r)&&decide (r<t))) [ś (.box [.int .i64 f]),ś (.box [.int .i64 t])]:=by
 have h:=Ug l hl f t;have ha:=Ir (λr:Nat=>decide (f<r)&&decide (r<t)) l 0;generalize(λr:Nat=>decide (f<r)&&decide (r<t))=g at *;generalize fdx g 0 l=z at *;refine yoH kU ?_;simp;refine am [1] 2 [0,1] (by simp) (by simp) (by simp) (by simp) h (by simp) λ_ _=>?_
 simp[ha]
def mkC(p:Policy)(L:List Label)(g:Nat):List V:=[.seq 1 (p.top.map .str),.seq 3 (p.elements.map Allowed.v),.seq 1 (p.unwrap.map .str),.seq 7 (L.map Label.v),.fn (.func g) [] []]
structure WD where
 label:Int
 names:List Str
 row:List Nat
 st:List Bool
 nd:List Nat
def WD.c(p:Policy)(L:List Label)(g:Nat)(w:WD):List V:=mkC p L g++[.int .i64 w.label,.seq 1 (w.names.map .str),.seq 1 (w.row.map nV),.seq 1 (w.st.map .bool),.seq 1 (w.nd.map nV)]
structure WD.few (L:List Label) (w:WD):Prop where
 names:w.names.length<=1000000
 row:w.row.length=L.length
 st:w.st.length=L.length
 nd:w.nd.length<=1000000
 ln:L.length<=1000000
def WD.wi(L:List Label)(w:WD):Wi where
 len:=w.names.length
 nl:=L.length
 row r:=(w.row[r]?).getD 0
 many r:=match L[r]? with
  |some b=>b.many
  |none=>ğ
 attr r:=match L[r]? with
  |some b=>decide (b.kind=4)
  |none=>ğ
 text r:=match L[r]? with
  |some b=>decide (b.kind=1)
  |none=>ğ
 stands r:=(w.st[r]?).getD ğ
 needed:=w.nd
section
variable (p:Policy)(L:List Label)(g:Nat)(w:WD)(hw:w.few L)
include hw
theorem lB:Fn ŷ kq [.strct (w.c p L g)] (.int .i64 (w.names.length+3:Nat)):=by
 have hn:=hw.names;refine yoA u5 ?_;simp(disch:=omega) [WD.c,mkC]
theorem zy:Fn ŷ uX [.strct (w.c p L g)] (.int .i64 (w.names.length+1:Nat)):=by
 have hn:=hw.names;refine yoA u6 ?_;simp(disch:=omega) [WD.c,mkC]
theorem K0:Fn ŷ sZ [.strct (w.c p L g)] (.int .i64 (w.names.length+2:Nat)):=by
 have hn:=hw.names;refine yoA te ?_;simp(disch:=omega) [WD.c,mkC]
theorem wW(f t:Nat):Fn ŷ jJ [.strct (w.c p L g),.int .i64 f,.int .i64 t] (.bool ((w.wi L).lacks f t)):=by
 have h:=Id w.nd hw.nd f t;refine yoE tg ?_;simp[WD.c,mkC];refine am [1] 2 [1,2] (by simp) (by simp) (by simp) (by simp) h (by simp) λ_ _=>?_
 simp[Wi.lacks,WD.wi]
theorem qU(s:Nat)(hs:s<=2000000):Fn ŷ uW [.strct (w.c p L g),.int .i64 s] (.bool ((w.wi L).ends s)):=by
 have hn:=hw.names;have hd:=lB p L g w hw;have hc:=zy p L g w hw;have hl:=wW p L g w hw s (w.names.length+2);have he:(w.wi L).ends s=(!decide (s=w.names.length+3)&&(decide (w.names.length+1<=s)|| !(w.wi L).lacks s (w.names.length+2))):=rfl;rw[he];generalize(w.wi L).lacks s (w.names.length+2)=lk at *;simp only[WD.c,mkC,zAd,zAh]at hd hc hl⊢;refine yoA u4 ?_;simp;refine az hd (by simp) ?_
 by_cases h1:s=w.names.length+3
 ·simp[h1]
 ·have h1':¬(s:Int)=(w.names.length:Int)+3:=by omega
  simp[h1,h1'];refine az hc (by simp) ?_
  by_cases h2:w.names.length+1<=s
  ·have h2':(w.names.length:Int)+1<=s:=by omega
   simp[h2,h2']
  ·have h2':¬(w.names.length:Int)+1<=s:=by omega
   simp[h2,h2'];refine az hc (by simp) ?_
   simp(disch:=omega);have e2:((w.names.length:Int)+1+1)=((w.names.length+2:Nat):Int):=by omega
   rw[e2];refine az hl (by simp) ?_
   simp
end
section
variable (p:Policy)(L:List Label)(g:Nat)(w:WD)(hw:w.few L)
include hw
theorem zx(s r:Nat)(hs:s<=2000000)(hr:r<=2000000)(hrow:∀i:Nat,(w.row[i]?).getD 0<=2000000):Fn ŷ cG [.strct (w.c p L g),.int .i64 s,.int .i64 r] (.int .i64 ((w.wi L).next s r:Nat)):=by
 have hn:=hw.names;have hrl:=hw.row;have hsl:=hw.st;have hd:=lB p L g w hw;have hc:=zy p L g w hw;have ht:=K0 p L g w hw;have he:=qU p L g w hw s hs;have hlk:=wW p L g w hw s
 have hx:(w.wi L).next s r=if w.names.length+3<=s\/L.length<=r then w.names.length+3
  else if(w.wi L).attr r=ť then(if w.names.length+1<=s\/(w.row[r]?).getD 0=0\/((w.row[r]?).getD 0<=s/\¬((w.row[r]?).getD 0=s/\(w.wi L).many r=ť))\/(w.wi L).lacks s ((w.row[r]?).getD 0)=ť then w.names.length+3 else(w.row[r]?).getD 0)
  else if(w.wi L).ends s=ğ\/(w.st[r]?).getD ğ=ğ then w.names.length+3
  else if(w.wi L).text r=ğ then w.names.length+1
  else if s=w.names.length+2 then w.names.length+3 else w.names.length+2:=rfl
 have hrw:=hrow r;obtain⟨X,hX⟩:∃X,X=(w.wi L).next s r:=⟨_,rfl⟩;rw[<-hX]at hx⊢;clear hX;have hattr:∀b,L[r]?=ś b->(w.wi L).attr r=decide (b.kind=4)/\(w.wi L).many r=b.many/\(w.wi L).text r=decide (b.kind=1):=λb hb=>by simp[WD.wi,hb]
 generalize(w.wi L).ends s=en at *;have hlk:∀R:Nat,Fn ŷ jJ [.strct (w.c p L g),.int .i64 s,.int .i64 R] (.bool ((w.wi L).lacks s R)):=hlk;generalize(w.wi L).lacks s=lk at *;generalize(w.wi L).attr r=at' at *;generalize(w.wi L).many r=mn at *;generalize(w.wi L).text r=tx at *;simp only[WD.c,mkC,zAd,zAh]at hd hc ht he hlk⊢;refine yoA u3 ?_;simp;refine ae hd (by simp) λ_=>?_
 by_cases h1:w.names.length+3<=s
 ·have h1':(w.names.length:Int)+3<=s:=by omega
  rw[if_pos (.inl h1)]at hx;simp[h1'];refine ae hd (by simp) λ_=>?_
  simp[hx]
 ·have h1':¬(w.names.length:Int)+3<=s:=by omega
  by_cases h2:L.length<=r
  ·have h2':(L.length:Int)<=r:=by omega
   rw[if_pos (.inr h2)]at hx;simp[h1',h2'];refine ae hd (by simp) λ_=>?_
   simp[hx]
  ·have h2':¬(L.length:Int)<=r:=by omega
   rw[if_neg (by omega)]at hx
   obtain⟨b,hb⟩:=av (l:=L) (k:=r) (by omega)
   obtain⟨row,hrow2⟩:=av (l:=w.row) (k:=r) (by omega)
   obtain⟨st,hst⟩:=av (l:=w.st) (k:=r) (by omega)
   obtain⟨e1,e2,e3⟩:=hattr b hb;have hbv:b.v=.strct [.int .i64 b.kind,.str b.element,.str b.name,.bool b.many,.str b.value,.bool b.one,.bool b.two]:=rfl;rw[hrow2,hst,zCh,zCh]at hx;rw[hrow2,zCh]at hrw;have hl2:=hlk row;simp[h1',h2',hb,hbv];by_cases hk:b.kind=4
   ·rw[e1,if_pos (by simp[hk])]at hx
    simp[hk,hrow2]
    have hgoal:∀ag:Bool,ag=(decide (row=s)&&b.many)->(X=if w.names.length+1<=s\/row=0\/(row<=s/\ag=ğ)\/lk row=ť then w.names.length+3 else row):=λag hag=>by
     rw[hx,e2];subst hag;by_cases q:row=s<;>cases b.many<;>simp
    clear hx;by_cases hrs:row=s
    ·have hrs':(row:Int)=s:=by omega
     have hx:=hgoal b.many (by simp[hrs])
     clear hgoal;generalize b.many=ag at *;subst hrs;simp;refine ae hc (by simp) λ_=>?_
     by_cases h3:w.names.length+1<=row
     ·have h3':(w.names.length:Int)+1<=row:=by omega
      rw[if_pos (.inl h3)]at hx;simp[h3'];refine ae hd (by simp) λ_=>?_
      simp[hx]
     ·have h3':¬(w.names.length:Int)+1<=row:=by omega
      by_cases h4:row=0
      ·rw[if_pos (.inr (.inl h4))]at hx
       simp[h4];refine ae (by simpa[h4]using hd) (by simp) λ_=>?_
       simp[hx]
      ·have h4':¬(row:Int)=0:=by omega
       cases ag with
       |false=>
         rw[if_pos (.inr (.inr (.inl ⟨zGg _,rfl⟩)))]at hx;simp[h3',h4];refine ae hd (by simp) λ_=>?_
         simp[hx]
       |true=>
         simp[h3',h4];refine ae hl2 (by simp) λ_=>?_
         cases hlr:lk row with
         |true=>
           rw[if_pos (.inr (.inr (.inr hlr)))]at hx;simp;refine ae hd (by simp) λ_=>?_
           simp[hx]
         |false=>
           rw[if_neg (by simp[h3,h4,hlr])]at hx
           simp[hx]
    ·have hrs':¬(row:Int)=s:=by omega
     have hx:=hgoal ğ (by simp[hrs])
     clear hgoal;simp[hrs'];refine ae hc (by simp) λ_=>?_
     by_cases h3:w.names.length+1<=s
     ·have h3':(w.names.length:Int)+1<=s:=by omega
      rw[if_pos (.inl h3)]at hx;simp[h3'];refine ae hd (by simp) λ_=>?_
      simp[hx]
     ·have h3':¬(w.names.length:Int)+1<=s:=by omega
      by_cases h4:row=0
      ·rw[if_pos (.inr (.inl h4))]at hx
       simp[h3',h4];refine ae hd (by simp) λ_=>?_
       simp[hx]
      ·have h4':¬(row:Int)=0:=by omega
       by_cases h5:row<=s
       ·have h5':(row:Int)<=s:=by omega
        rw[if_pos (.inr (.inr (.inl ⟨h5,rfl⟩)))]at hx;simp[h3',h4,h5'];refine ae hd (by simp) λ_=>?_
        simp[hx]
       ·have h5':¬(row:Int)<=s:=by omega
        simp[h3',h4,h5'];refine ae hl2 (by simp) λ_=>?_
        cases hlr:lk row with
        |true=>
          rw[if_pos (.inr (.inr (.inr hlr)))]at hx;simp;refine ae hd (by simp) λ_=>?_
          simp[hx]
        |false=>
          rw[if_neg (by simp[h3,h4,h5,hlr])]at hx
          simp[hx]
   ·rw[e1,if_neg (by simp[hk])]at hx
    simp[hk];refine ae he (by simp) λ_=>?_
    cases hen:en with
    |false=>
      rw[if_pos (.inl hen)]at hx;simp;refine ae hd (by simp) λ_=>?_
      simp[hx]
    |true=>
      simp[hst];cases hst2:st with
      |false=>
        rw[if_pos (.inr hst2)]at hx;simp;refine ae hd (by simp) λ_=>?_
        simp[hx]
      |true=>
        rw[if_neg (by simp[hen,hst2]),e3]at hx
        by_cases hk1:b.kind=1
        ·rw[if_neg (by simp[hk1])]at hx
         simp[hk1];refine ae ht (by simp) λ_=>?_
         by_cases h6:s=w.names.length+2
         ·have h6':(s:Int)=(w.names.length:Int)+2:=by omega
          rw[if_pos h6]at hx;simp[h6'];refine ae hd (by simp) λ_=>?_
          simp[hx]
         ·have h6':¬(s:Int)=(w.names.length:Int)+2:=by omega
          rw[if_neg h6]at hx;simp[h6'];refine ae ht (by simp) λ_=>?_
          simp[hx]
        ·rw[if_pos (by simp[hk1])]at hx
         simp[hk1];refine ae hc (by simp) λ_=>?_
         simp[hx]
end
section
variable (p:Policy)(L:List Label)(g:Nat)
theorem K1(w:WD)(hw:w.few L)(s:Nat)(hs:s<=2000000):Fn ŷ eX [.strct (w.c p L g),.int .i64 s] (.int .i64 (if(w.wi L).ends s=ť then w.label else L.length)):=by
 have he:=qU p L g w hw s hs;have hl:=hw.ln;generalize(w.wi L).ends s=en at *;simp only[WD.c,mkC,zAd,zAh]at he⊢;refine yoA tf ?_;simp;refine ae he (by simp) λ_=>?_
 cases en<;>simp
theorem Fc(w:WD)(hw:w.few L)(s:Nat)(hs:s<=2000000):Fn ŷ d7 [.strct (w.c p L g),.int .i64 s] (.int .i64 (if(w.wi L).ends s=ť then 1 else 0)):=by
 have he:=qU p L g w hw s hs;generalize(w.wi L).ends s=en at *;simp only[WD.c,mkC,zAd,zAh]at he⊢;refine yoA qN ?_;simp;refine ae he (by simp) λ_=>?_
 cases en<;>simp
def CA(i:Nat):List V:=mkC p L g++[.int .i64 i]
theorem WY(i)(s r:Nat):Fn ŷ mV [.strct (CA p L g i),.int .i64 s,.int .i64 r] (.int .i64 1):=by
 refine yoA yN ?_;simp
theorem T4(al)(hg:∀b:Label,Fn ŷ g [b.v] (.bool (al b)))(hl:L.length<=1000000)(i)(b)(hb:L[i]?=ś b)(s:Nat):
 Fn ŷ lT [.strct (CA p L g i),.int .i64 s] (.int .i64 (if s=0/\qj al b=ť then i else L.length:Nat)):=by
 have hgb:=hg b;have hbv:b.v=.strct [.int .i64 b.kind,.str b.element,.str b.name,.bool b.many,.str b.value,.bool b.one,.bool b.two]:=rfl;rw[hbv]at hgb;obtain⟨X,hX⟩:∃X,X=(if s=0/\qj al b=ť then i else L.length:Nat):=⟨_,rfl⟩
 rw[<-hX];unfold qj at hX;generalize al b=ab at *;refine yoA wA ?_;have hlt:=(zAe.1 hb).1;simp[CA,mkC,hb,hbv];have hs0:(s:Int)=0↔s=0:=by omega
 by_cases h1:b.kind=1
 ·by_cases h0:s=0
  ·simp[h1,h0,hX]
  ·simp[h1,h0,hX]
 ·by_cases h2:b.kind=2
  ·by_cases h0:s=0
   ·simp[h2,h0,hX]
   ·simp[h2,h0,hX]
  ·by_cases h4:b.kind=4
   ·simp[h4]
    rw[h4]at hgb;refine aa hgb rfl λ_=>?_;by_cases h0:s=0
    ·cases ab<;>simp[h4,h0,hX]
    ·simp[h0,hX]
   ·by_cases h0:s=0
    ·simp[h1,h2,h4,h0,hX]
    ·simp[h1,h2,h4,h0,hX]
theorem ac6(b:Label):Fn ŷ qd [b.v] (.bool b.one):=by
 refine yoA CM ?_;simp[Label.v]
theorem ZH(b:Label):Fn ŷ oL [b.v] (.bool b.two):=by
 refine yoA A7 ?_;simp[Label.v]
def SideP.v(s:SideP):V:=.strct [.seq 1 (s.next.map λr=>.seq 1 (r.map nV)),.seq 1 (s.out.map nV)]
def aW{α:Type}(n i:Nat)(f:Nat->α)(z:α):List α:=(zAc n).map λj=>if j<i then f j else z
theorem fW{α n f}{z:α}:aW n 0 f z=zBf n z:=by
 simp[aW,List.map_const']
theorem nW{α n f}{z:α}:aW n n f z=(zAc n).map f:=
 zDi λj hj=>if_pos (zEa.1 hj)
theorem iV{α n i f}{z:α}:(aW n i f z).length=n:=by simp[aW]
theorem iU{α n i f}{z:α}(h:i<n):(aW n i f z).set i (f i)=aW n (i+1) f z:=by
 refine zCd λj=>?_;rw[zFg];simp only[aW,zBc,zDf,zFi];by_cases hij:i=j
 ·subst hij
  simp[h,zBe h]
 ·rw[if_neg hij]
  by_cases hj:j<n
  ·have:(j<i)=(j<i+1):=propext ⟨λh=>by omega,λh=>by omega⟩
   simp[zBe hj,this]
  ·simp[zAj (l:=zAc n) (i:=j) (by simp;omega)]
theorem iW{α n i k f}{z:α}(h:k<n):(aW n i f z)[k]?=ś (if k<i then f k else z):=by
 simp[aW,zBe h]
theorem pe{f:Nat->Int}:∀l:List Nat,dJ (l.map λk=>V.int .i64 (f k))=ť
 |[]=>rfl
 |x::l=>by
   have:=pe (f:=f) l;simp[this]
theorem ajr(n own)(next)(tells):(fM n own next tells).v=.strct [.seq 1 ((zAc own).map λj=>.seq 1 ((zAc (n+1)).map λk=>nV (next j k))),.seq 1 ((zAc own).map λj=>nV (tells j))]:=by
 simp[SideP.v,fM,zBg]
theorem Fj(i)(a b own:Nat)(hown:own<=1000000)(next)(tells)(hl:L.length<=1000000)
 (ha:∀s r,s<own->r<=L.length->Fn ŷ a [.strct (CA p L g i),.int .i64 s,.int .i64 r] (.int .i64 (next s r:Nat))) (hb:∀s,s<own->Fn ŷ b [.strct (CA p L g i),.int .i64 s] (.int .i64 (tells s:Nat))):
 FnN ŷ dQ [.strct (mkC p L g),.int .i64 own,.fn (.func a) [.strct (CA p L g i)] [],.fn (.func b) [.strct (CA p L g i)] []] (fM L.length own next tells).v:=by
 simp only[CA,mkC,zAd,zAh]at ha hb⊢;refine FnN.of_image mixed l5.1 l5.2 rfl λho=>?_;unfold gz;clear ho;simp;obtain⟨W,hW⟩:∃W,W=(fM L.length own next tells).v:=⟨_,rfl⟩
 rw[<-hW]
 refine cd ⟨[(1,.int .i64 own),(2,.fn (.func a) [.strct [.seq 1 (p.top.map .str),.seq 3 (p.elements.map Allowed.v),.seq 1 (p.unwrap.map .str),.seq 7 (L.map Label.v),.fn (.func g) [] [],.int .i64 i]] []),(3,.fn (.func b) [.strct [.seq 1 (p.top.map .str),.seq 3 (p.elements.map Allowed.v),.seq 1 (p.unwrap.map .str),.seq 7 (L.map Label.v),.fn (.func g) [] [],.int .i64 i]] []),(4,.ptr 0 0),(8,.ptr 1 0),(9,.ptr 2 0)],
  [ś (.box [.seq 1 (p.top.map .str),.seq 3 (p.elements.map Allowed.v),.seq 1 (p.unwrap.map .str),.seq 7 (L.map Label.v),.fn (.func g) [] []]),ś (.box [.nil 1,.nil 1]),ś (.box [.ref 3 own,.ref 4 own]),ś (.mat aN ap 1 (sm (aW own 0 (λj=>(zAc (L.length+1)).map λk=>nV (next j k)) []))),ś (.arr ap 1 (aW own 0 (λj=>nV (tells j)) (nV 0)))]⟩ (λF hF=>?_) ?_
 ·try simp at hF
  rw[fW,fW]at hF
  repeat' (first
   |with_reducible exact hF
   |refine QU.mk ?_ ?_
   |(simp(disch:=omega)))
 simp
 refine ah (λi':Nat=>⟨[(2,.fn (.func a) [.strct [.seq 1 (p.top.map .str),.seq 3 (p.elements.map Allowed.v),.seq 1 (p.unwrap.map .str),.seq 7 (L.map Label.v),.fn (.func g) [] [],.int .i64 i]] []),(3,.fn (.func b) [.strct [.seq 1 (p.top.map .str),.seq 3 (p.elements.map Allowed.v),.seq 1 (p.unwrap.map .str),.seq 7 (L.map Label.v),.fn (.func g) [] [],.int .i64 i]] []),(4,.ptr 0 0),(8,.ptr 1 0),(9,.ptr 2 0),(18,.int .i64 own),(19,.int .i64 i')],
  [ś (.box [.seq 1 (p.top.map .str),.seq 3 (p.elements.map Allowed.v),.seq 1 (p.unwrap.map .str),.seq 7 (L.map Label.v),.fn (.func g) [] []]),ś (.box [.nil 1,.nil 1]),ś (.box [.ref 3 own,.ref 4 own]),ś (.mat aN ap 1 (sm (aW own i' (λj=>(zAc (L.length+1)).map λk=>nV (next j k)) []))),ś (.arr ap 1 (aW own i' (λj=>nV (tells j)) (nV 0)))]⟩)
  (λi'=>i'<=own) (λi'=>own-i') [] _ 0 rfl (by simp) (by simp) ?_
 intro i' hi' N hN;rcases zAg i' own with hlt|hge
 ·have hbi:=hb i' hlt
  have hai:=ha i';simp(disch:=omega)
  refine ah (λk:Nat=>⟨[(2,.fn (.func a) [.strct [.seq 1 (p.top.map .str),.seq 3 (p.elements.map Allowed.v),.seq 1 (p.unwrap.map .str),.seq 7 (L.map Label.v),.fn (.func g) [] [],.int .i64 i]] []),(3,.fn (.func b) [.strct [.seq 1 (p.top.map .str),.seq 3 (p.elements.map Allowed.v),.seq 1 (p.unwrap.map .str),.seq 7 (L.map Label.v),.fn (.func g) [] [],.int .i64 i]] []),(4,.ptr 0 0),(8,.ptr 1 0),(9,.ptr 2 0),(10,.int .i64 i'),(11,.ref 3 (L.length+1)),(18,.int .i64 own),(19,.int .i64 i'),(28,.int .i64 (L.length+1:Nat)),(29,.int .i64 k)],
   [ś (.box [.seq 1 (p.top.map .str),.seq 3 (p.elements.map Allowed.v),.seq 1 (p.unwrap.map .str),.seq 7 (L.map Label.v),.fn (.func g) [] []]),ś (.box [.nil 1,.nil 1]),ś (.box [.ref 4 own,.ref 5 own]),ś (.arr ap 1 (aW (L.length+1) k (λk=>nV (next i' k)) (nV 0))),ś (.mat aN ap 1 (sm (aW own i' (λj=>(zAc (L.length+1)).map λk=>nV (next j k)) []))),ś (.arr ap 1 (aW own i' (λj=>nV (tells j)) (nV 0)))]⟩)
   (λk=>k<=L.length+1) (λk=>L.length+1-k) [] _ 0 rfl (by simp[fW]) (by simp) ?_
  intro k hk N' hN';rcases zAg k (L.length+1)with hlt2|hge2
  ·have hak:=hai k hlt (by omega)
   have hset:=iU (f:=λk=>nV (next i' k)) (z:=nV 0) hlt2
   have hl2:=iV (n:=L.length+1) (i:=k) (f:=λk=>nV (next i' k)) (z:=nV 0)
   have hxk:(aW (L.length+1) k (λk=>nV (next i' k)) (nV 0))[k]?=ś (.int .i64 0):=by rw[iW hlt2,if_neg (zBi _)];rfl
   generalize aW (L.length+1) k (λk=>nV (next i' k)) (nV 0)=X at *
   generalize aW own i' (λj=>(zAc (L.length+1)).map λk=>nV (next j k)) []=Y at *
   generalize aW own i' (λj=>nV (tells j)) (nV 0)=Z at *;simp(disch:=omega);refine ae hak (by simp) λ_=>?_
   simp(disch:=omega) [hxk];have hset2:X.set k (.int .i64 (next i' k))=aW (L.length+1) (k+1) (λk=>nV (next i' k)) (nV 0):=hset
   exact hN'.out _<|Nx.mk (k+1) (by simp[hset2]) (by omega) (by omega)
  ·obtain rfl:k=L.length+1:=by omega
   have hRall:aW (L.length+1) (L.length+1) (λk=>nV (next i' k)) (nV 0)=(zAc (L.length+1)).map λk=>nV (next i' k):=nW
   have hset:(aW own i' (λj=>(zAc (L.length+1)).map λk=>nV (next j k)) []).set i' ((zAc (L.length+1)).map λk=>nV (next i' k))=aW own (i'+1) (λj=>(zAc (L.length+1)).map λk=>nV (next j k)) []:=iU hlt
   have hset3:(aW own i' (λj=>nV (tells j)) (nV 0)).set i' (.int .i64 (tells i'))=aW own (i'+1) (λj=>nV (tells j)) (nV 0):=iU hlt;have hy1:=iV (n:=own) (i:=i') (f:=λj=>(zAc (L.length+1)).map λk=>nV (next j k)) (z:=([]:List V))
   have hz1:=iV (n:=own) (i:=i') (f:=λj=>nV (tells j)) (z:=nV 0);have hyg:(aW own i' (λj=>(zAc (L.length+1)).map λk=>nV (next j k)) [])[i']?=ś []:=by rw[iW hlt,if_neg (zBi _)]
   have hzg:(aW own i' (λj=>nV (tells j)) (nV 0))[i']?=ś (.int .i64 0):=by rw[iW hlt,if_neg (zBi _)];rfl
   rw[hRall];have hRl:((zAc (L.length+1)).map λk=>nV (next i' k)).length=L.length+1:=by simp
   generalize aW own i' (λj=>(zAc (L.length+1)).map λk=>nV (next j k)) []=Y at *
   generalize aW own i' (λj=>nV (tells j)) (nV 0)=Z at *;generalize((zAc (L.length+1)).map λk=>nV (next i' k))=R at *
   simp;refine az hbi (by simp) ?_
   simp(disch:=omega)
   refine cd ⟨[(2,.fn (.func a) [.strct [.seq 1 (p.top.map .str),.seq 3 (p.elements.map Allowed.v),.seq 1 (p.unwrap.map .str),.seq 7 (L.map Label.v),.fn (.func g) [] [],.int .i64 i]] []),(3,.fn (.func b) [.strct [.seq 1 (p.top.map .str),.seq 3 (p.elements.map Allowed.v),.seq 1 (p.unwrap.map .str),.seq 7 (L.map Label.v),.fn (.func g) [] [],.int .i64 i]] []),(4,.ptr 0 0),(8,.ptr 1 0),(9,.ptr 2 0),(18,.int .i64 own),(19,.int .i64 i')],
    [ś (.box [.seq 1 (p.top.map .str),.seq 3 (p.elements.map Allowed.v),.seq 1 (p.unwrap.map .str),.seq 7 (L.map Label.v),.fn (.func g) [] []]),ś (.box [.nil 1,.nil 1]),ś (.box [.ref 3 own,.ref 4 own]),ś (.mat aN ap 1 (sm (Y.set i' R))),ś (.arr ap 1 (Z.set i' (.int .i64 (tells i'))))]⟩ (λF hF=>?_) ?_
   ·try simp at hF
    repeat' (first
     |with_reducible exact hF
     |refine QU.mk ?_ ?_
     |(simp(disch:=omega) [hyg,hzg]))
   simp(disch:=omega);exact hN.out _<|Nx.mk (i'+1) (by simp[hset,hset3]) (by omega) (by omega)
 ·obtain rfl:i'=own:=by omega
  rw[nW,nW];simp;rw[hW,ajr,zBg];exact⟨⟨λ_ _=>pe _,pe _⟩,rfl⟩
theorem rY(w:WD)(a b own:Nat)(hown:own<=1000000)(next)(tells)(hl:L.length<=1000000)
 (ha:∀s r,s<own->r<=L.length->Fn ŷ a [.strct (w.c p L g),.int .i64 s,.int .i64 r] (.int .i64 (next s r:Nat))) (hb:∀s,s<own->Fn ŷ b [.strct (w.c p L g),.int .i64 s] (.int .i64 (tells s:Nat))):
 FnN ŷ dQ [.strct (mkC p L g),.int .i64 own,.fn (.func a) [.strct (w.c p L g)] [],.fn (.func b) [.strct (w.c p L g)] []] (fM L.length own next tells).v:=by
 simp only[WD.c,mkC,zAd,zAh]at ha hb⊢;refine FnN.of_image mixed l5.1 l5.2 rfl λho=>?_;unfold gz;clear ho;simp;obtain⟨W,hW⟩:∃W,W=(fM L.length own next tells).v:=⟨_,rfl⟩
 rw[<-hW]
 refine cd ⟨[(1,.int .i64 own),(2,.fn (.func a) [.strct [.seq 1 (p.top.map .str),.seq 3 (p.elements.map Allowed.v),.seq 1 (p.unwrap.map .str),.seq 7 (L.map Label.v),.fn (.func g) [] [],.int .i64 w.label,.seq 1 (w.names.map .str),.seq 1 (w.row.map nV),.seq 1 (w.st.map .bool),.seq 1 (w.nd.map nV)]] []),(3,.fn (.func b) [.strct [.seq 1 (p.top.map .str),.seq 3 (p.elements.map Allowed.v),.seq 1 (p.unwrap.map .str),.seq 7 (L.map Label.v),.fn (.func g) [] [],.int .i64 w.label,.seq 1 (w.names.map .str),.seq 1 (w.row.map nV),.seq 1 (w.st.map .bool),.seq 1 (w.nd.map nV)]] []),(4,.ptr 0 0),(8,.ptr 1 0),(9,.ptr 2 0)],
  [ś (.box [.seq 1 (p.top.map .str),.seq 3 (p.elements.map Allowed.v),.seq 1 (p.unwrap.map .str),.seq 7 (L.map Label.v),.fn (.func g) [] []]),ś (.box [.nil 1,.nil 1]),ś (.box [.ref 3 own,.ref 4 own]),ś (.mat aN ap 1 (sm (aW own 0 (λj=>(zAc (L.length+1)).map λk=>nV (next j k)) []))),ś (.arr ap 1 (aW own 0 (λj=>nV (tells j)) (nV 0)))]⟩ (λF hF=>?_) ?_
 ·try simp at hF
  rw[fW,fW]at hF
  repeat' (first
   |with_reducible exact hF
   |refine QU.mk ?_ ?_
   |(simp(disch:=omega)))
 simp
 refine ah (λi':Nat=>⟨[(2,.fn (.func a) [.strct [.seq 1 (p.top.map .str),.seq 3 (p.elements.map Allowed.v),.seq 1 (p.unwrap.map .str),.seq 7 (L.map Label.v),.fn (.func g) [] [],.int .i64 w.label,.seq 1 (w.names.map .str),.seq 1 (w.row.map nV),.seq 1 (w.st.map .bool),.seq 1 (w.nd.map nV)]] []),(3,.fn (.func b) [.strct [.seq 1 (p.top.map .str),.seq 3 (p.elements.map Allowed.v),.seq 1 (p.unwrap.map .str),.seq 7 (L.map Label.v),.fn (.func g) [] [],.int .i64 w.label,.seq 1 (w.names.map .str),.seq 1 (w.row.map nV),.seq 1 (w.st.map .bool),.seq 1 (w.nd.map nV)]] []),(4,.ptr 0 0),(8,.ptr 1 0),(9,.ptr 2 0),(18,.int .i64 own),(19,.int .i64 i')],
  [ś (.box [.seq 1 (p.top.map .str),.seq 3 (p.elements.map Allowed.v),.seq 1 (p.unwrap.map .str),.seq 7 (L.map Label.v),.fn (.func g) [] []]),ś (.box [.nil 1,.nil 1]),ś (.box [.ref 3 own,.ref 4 own]),ś (.mat aN ap 1 (sm (aW own i' (λj=>(zAc (L.length+1)).map λk=>nV (next j k)) []))),ś (.arr ap 1 (aW own i' (λj=>nV (tells j)) (nV 0)))]⟩)
  (λi'=>i'<=own) (λi'=>own-i') [] _ 0 rfl (by simp) (by simp) ?_
 intro i' hi' N hN;rcases zAg i' own with hlt|hge
 ·have hbi:=hb i' hlt
  have hai:=ha i';simp(disch:=omega)
  refine ah (λk:Nat=>⟨[(2,.fn (.func a) [.strct [.seq 1 (p.top.map .str),.seq 3 (p.elements.map Allowed.v),.seq 1 (p.unwrap.map .str),.seq 7 (L.map Label.v),.fn (.func g) [] [],.int .i64 w.label,.seq 1 (w.names.map .str),.seq 1 (w.row.map nV),.seq 1 (w.st.map .bool),.seq 1 (w.nd.map nV)]] []),(3,.fn (.func b) [.strct [.seq 1 (p.top.map .str),.seq 3 (p.elements.map Allowed.v),.seq 1 (p.unwrap.map .str),.seq 7 (L.map Label.v),.fn (.func g) [] [],.int .i64 w.label,.seq 1 (w.names.map .str),.seq 1 (w.row.map nV),.seq 1 (w.st.map .bool),.seq 1 (w.nd.map nV)]] []),(4,.ptr 0 0),(8,.ptr 1 0),(9,.ptr 2 0),(10,.int .i64 i'),(11,.ref 3 (L.length+1)),(18,.int .i64 own),(19,.int .i64 i'),(28,.int .i64 (L.length+1:Nat)),(29,.int .i64 k)],
   [ś (.box [.seq 1 (p.top.map .str),.seq 3 (p.elements.map Allowed.v),.seq 1 (p.unwrap.map .str),.seq 7 (L.map Label.v),.fn (.func g) [] []]),ś (.box [.nil 1,.nil 1]),ś (.box [.ref 4 own,.ref 5 own]),ś (.arr ap 1 (aW (L.length+1) k (λk=>nV (next i' k)) (nV 0))),ś (.mat aN ap 1 (sm (aW own i' (λj=>(zAc (L.length+1)).map λk=>nV (next j k)) []))),ś (.arr ap 1 (aW own i' (λj=>nV (tells j)) (nV 0)))]⟩)
   (λk=>k<=L.length+1) (λk=>L.length+1-k) [] _ 0 rfl (by simp[fW]) (by simp) ?_
  intro k hk N' hN';rcases zAg k (L.length+1)with hlt2|hge2
  ·have hak:=hai k hlt (by omega)
   have hset:=iU (f:=λk=>nV (next i' k)) (z:=nV 0) hlt2
   have hl2:=iV (n:=L.length+1) (i:=k) (f:=λk=>nV (next i' k)) (z:=nV 0)
   have hxk:(aW (L.length+1) k (λk=>nV (next i' k)) (nV 0))[k]?=ś (.int .i64 0):=by rw[iW hlt2,if_neg (zBi _)];rfl
   generalize aW (L.length+1) k (λk=>nV (next i' k)) (nV 0)=X at *
   generalize aW own i' (λj=>(zAc (L.length+1)).map λk=>nV (next j k)) []=Y at *
   generalize aW own i' (λj=>nV (tells j)) (nV 0)=Z at *;simp(disch:=omega);refine ae hak (by simp) λ_=>?_
   simp(disch:=omega) [hxk];have hset2:X.set k (.int .i64 (next i' k))=aW (L.length+1) (k+1) (λk=>nV (next i' k)) (nV 0):=hset
   exact hN'.out _<|Nx.mk (k+1) (by simp[hset2]) (by omega) (by omega)
  ·obtain rfl:k=L.length+1:=by omega
   have hRall:aW (L.length+1) (L.length+1) (λk=>nV (next i' k)) (nV 0)=(zAc (L.length+1)).map λk=>nV (next i' k):=nW
   have hset:(aW own i' (λj=>(zAc (L.length+1)).map λk=>nV (next j k)) []).set i' ((zAc (L.length+1)).map λk=>nV (next i' k))=aW own (i'+1) (λj=>(zAc (L.length+1)).map λk=>nV (next j k)) []:=iU hlt
   have hset3:(aW own i' (λj=>nV (tells j)) (nV 0)).set i' (.int .i64 (tells i'))=aW own (i'+1) (λj=>nV (tells j)) (nV 0):=iU hlt;have hy1:=iV (n:=own) (i:=i') (f:=λj=>(zAc (L.length+1)).map λk=>nV (next j k)) (z:=([]:List V))
   have hz1:=iV (n:=own) (i:=i') (f:=λj=>nV (tells j)) (z:=nV 0);have hyg:(aW own i' (λj=>(zAc (L.length+1)).map λk=>nV (next j k)) [])[i']?=ś []:=by rw[iW hlt,if_neg (zBi _)]
   have hzg:(aW own i' (λj=>nV (tells j)) (nV 0))[i']?=ś (.int .i64 0):=by rw[iW hlt,if_neg (zBi _)];rfl
   rw[hRall];have hRl:((zAc (L.length+1)).map λk=>nV (next i' k)).length=L.length+1:=by simp
   generalize aW own i' (λj=>(zAc (L.length+1)).map λk=>nV (next j k)) []=Y at *
   generalize aW own i' (λj=>nV (tells j)) (nV 0)=Z at *;generalize((zAc (L.length+1)).map λk=>nV (next i' k))=R at *
   simp;refine az hbi (by simp) ?_
   simp(disch:=omega)
   refine cd ⟨[(2,.fn (.func a) [.strct [.seq 1 (p.top.map .str),.seq 3 (p.elements.map Allowed.v),.seq 1 (p.unwrap.map .str),.seq 7 (L.map Label.v),.fn (.func g) [] [],.int .i64 w.label,.seq 1 (w.names.map .str),.seq 1 (w.row.map nV),.seq 1 (w.st.map .bool),.seq 1 (w.nd.map nV)]] []),(3,.fn (.func b) [.strct [.seq 1 (p.top.map .str),.seq 3 (p.elements.map Allowed.v),.seq 1 (p.unwrap.map .str),.seq 7 (L.map Label.v),.fn (.func g) [] [],.int .i64 w.label,.seq 1 (w.names.map .str),.seq 1 (w.row.map nV),.seq 1 (w.st.map .bool),.seq 1 (w.nd.map nV)]] []),(4,.ptr 0 0),(8,.ptr 1 0),(9,.ptr 2 0),(18,.int .i64 own),(19,.int .i64 i')],
    [ś (.box [.seq 1 (p.top.map .str),.seq 3 (p.elements.map Allowed.v),.seq 1 (p.unwrap.map .str),.seq 7 (L.map Label.v),.fn (.func g) [] []]),ś (.box [.nil 1,.nil 1]),ś (.box [.ref 3 own,.ref 4 own]),ś (.mat aN ap 1 (sm (Y.set i' R))),ś (.arr ap 1 (Z.set i' (.int .i64 (tells i'))))]⟩ (λF hF=>?_) ?_
   ·try simp at hF
    repeat' (first
     |with_reducible exact hF
     |refine QU.mk ?_ ?_
     |(simp(disch:=omega) [hyg,hzg]))
   simp(disch:=omega);exact hN.out _<|Nx.mk (i'+1) (by simp[hset,hset3]) (by omega) (by omega)
 ·obtain rfl:i'=own:=by omega
  rw[nW,nW];simp;rw[hW,ajr,zBg];exact⟨⟨λ_ _=>pe _,pe _⟩,rfl⟩
end
theorem aiM(l:List Str)(s):∀k,fdx (λx=>decide (s=x)) k l=match l.findIdx? (λx=>decide (x=s))with
 |some i=>((k+i:Nat):Int)
 |none=>-1:=by
 induction l with
 |nil=>intro k;rfl
 |cons x l ih=>
   intro k;simp only[fdx,List.findIdx?_cons];by_cases h:s=x
   ·subst h;simp
   ·have h2:¬x=s:=λe=>h e.symm
    simp only[h,h2,decide_false,Bool.false_eq_true,if_false,ih];cases l.findIdx? (λx=>decide (x=s))with
    |none=>rfl
    |some i=>simp only[zCi];congr 1;omega
theorem afZ(l)(s):(if fdx (λx=>decide (s=x)) 0 l<0 then(l.length:Int)else fdx (λx=>decide (s=x)) 0 l)=jj l s:=by
 rw[aiM];unfold jj;cases l.findIdx? (λx=>decide (x=s))with
 |none=>simp
 |some i=>
   have:¬((0+i:Nat):Int)<0:=by omega
   simp only[this,if_false];omega
theorem Heap.purV{P:Program}{J κ κ0 M w w' ca H'}(h:Heap κ M (dR κ0 [] w [] ca J) w' H')(hu:Und (dR κ0 [] w [] ca J) w w'){r r' c}
 (hp:purs H' [r]=ś [r']) (hr:rep M (XX κ H') r c):
 ∃M',(∀p v,M p=ś v->M' p=ś v)/\(∀p v,M' p=ś v->w'.cell? p=ś v)/\(∀p v,M' p=ś v->M p=ś v\/w.heap.size<=p.block)/\rep M' NX r' c:=by
 have H:Rel 0 M (dR κ0 [] w [] ca J) w κ M ⟨[],H'⟩ { tmps:=#[],defers:=[] } w':=
  { dfr:=rfl,jst:=h.jst,pin:=λi hi=>(by cases hi),size:=rfl,regs:=λt v ht=>(by simp at ht),heap:=h.heap,inj:=h.inj,snd:=h.snd,sep:=h.sep
    sub:=⟨λ_ _ h=>h,h.fmS,λ_ _ _=>zFj _,zFj _,h.gl⟩,new:=λ_ _ h=>.inl h,base:=rfl,blw:=hu }
 obtain⟨ids,yO⟩:∃ids,ids=ax [r]:=⟨_,rfl⟩
 obtain⟨H2,hM⟩:=H.kill ids (λi hi=>by
  rw[yO]at hi;exact eT hp i hi)
 have k3:af (ext M w' (rm κ ids)) NX [r'] [c]:=by
  refine cz H hM (λi hi g hg p hpb=>?_) (by simp only[af];exact⟨c,[],rfl,hr,rfl⟩) hp
  unfold ext;rw[if_pos (eC.2 ⟨i,by rw[yO];exact hi,by rw[hpb];exact hg⟩)]
 refine⟨ext M w' (rm κ ids),hM,H2.snd,λp v hv=>?_,?_⟩
 ·rcases H2.new p v hv with h|h|⟨i,ob,g1,_⟩
  ·exact .inl h
  ·exact .inr h
  ·simp at g1
 ·simp only[af]at k3
  obtain⟨c',cs',e,k,_⟩:=k3;cases e;exact k
theorem FnH.purV{P f us H' r r'}(h:FnH P f [] us [] r H')(hp:purs H' [r]=ś [r']):Fn P f us r':=by
 intro M w ca hM hus o a Nx Q hN;refine h M w _ ca noJ (rI rfl) (FnH.start hM ca) (bv (λ_ _ h=>h) (λ_ _ h=>h.elim) _ _ hus) o a Nx Q ?_;intro c M' w' κ' hr hu hh hM1 hM2 _;obtain⟨M2,k1,k2,k3,k4⟩:=Heap.purV (P:=P) hh hu hp hr;refine hN c M2 w' k4 ⟨hu.os,hu.tape,hu.output,hu.size,λk hk=>hu.block k hk (λ⟨i,ob,g1,_⟩=>by simp at g1)⟩ k2 (λp v h=>k1 p v (hM1 p v h)) (λp v h=>?_)
 rcases k3 p v h with h|h
 ·rcases hM2 p v h with h|h|⟨i,ob,g1,_⟩
  ·exact .inl h
  ·exact .inr h
  ·simp at g1
 ·exact .inr h
section
variable (p:Policy)(L:List Label)(g:Nat)
theorem acZ(w:WD)(hn:w.names.length<=1000000)(req:List Str)(hq:req.length<13):
 FnH ŷ gU [0] [.ptr 0 0,.seq 1 (req.map .str)]
  [ś (.box [.seq 1 (p.top.map .str),.seq 3 (p.elements.map Allowed.v),.seq 1 (p.unwrap.map .str),.seq 7 (L.map Label.v),.fn (.func g) [] [],.int .i64 w.label,.ref 1 w.names.length,.ref 2 w.row.length,.ref 3 w.st.length,.nil 1]),
   ś (.arr aA 1 (w.names.map .str)),ś (.arr ap 1 (w.row.map nV)),ś (.arr aH 1 (w.st.map .bool))] (.tup [])
  [ś (.box [.seq 1 (p.top.map .str),.seq 3 (p.elements.map Allowed.v),.seq 1 (p.unwrap.map .str),.seq 7 (L.map Label.v),.fn (.func g) [] [],.int .i64 w.label,.ref 1 w.names.length,.ref 2 w.row.length,.ref 3 w.st.length,.ref 4 req.length]),
   ś (.arr aA 1 (w.names.map .str)),ś (.arr ap 1 (w.row.map nV)),ś (.arr aH 1 (w.st.map .bool)),ś (.arr ap 1 ((dz (req.map λs=>jj w.names s+1)).map nV))]:=by
 have hs:=aiO (req.map λs=>jj w.names s+1) (by simpa using hq)
 have hsl:(dz (req.map λs=>jj w.names s+1)).length=req.length:=by rw[(bo _).length_eq];simp
 have hidx:=λs=>kx w.names s;have hle:=aaZ w.names;have hfi:=afZ w.names;refine yoH pP ?_;simp
 refine ah (λk:Nat=>⟨[(0,.ptr 0 0),(7,.seq 1 (req.map .str)),(8,.int .i64 req.length),(9,.int .i64 k)],
  [ś (.box [.seq 1 (p.top.map .str),.seq 3 (p.elements.map Allowed.v),.seq 1 (p.unwrap.map .str),.seq 7 (L.map Label.v),.fn (.func g) [] [],.int .i64 w.label,.ref 1 w.names.length,.ref 2 w.row.length,.ref 3 w.st.length,.ref 4 k]),
   ś (.arr aA 1 (w.names.map .str)),ś (.arr ap 1 (w.row.map nV)),ś (.arr aH 1 (w.st.map .bool)),ś (.arr ap 1 (((req.take k).map λs=>jj w.names s+1).map nV))]⟩)
  (λk=>k<=req.length) (λk=>req.length-k) [.b 0 9 ap 1] _ 0 rfl (by simp) (by simp) ?_
 intro k hk N hN;rcases zAg k req.length with hlt|hge
 ·obtain⟨x,hx⟩:=av hlt
  have hix:=hidx x;have hlx:=hle x;have hfx:=hfi x;have hst:(req.take (k+1)).map (λs=>jj w.names s+1)=(req.take k).map (λs=>jj w.names s+1)++[jj w.names x+1]:=by simp[zCe,hx]
  have hlen:((req.take k).map λs=>jj w.names s+1).length=k:=by simp;omega
  generalize(req.take k).map (λs=>jj w.names s+1)=X at *;generalize jj w.names x=ix at *;generalize fdx (λy=>decide (x=y)) 0 w.names=z at *;simp(disch:=omega) [hx];refine aa hix rfl λ_=>?_;simp;by_cases hz:z<0
  ·rw[if_pos hz]at hfx
   simp(disch:=omega);refine hN.out _<|Nx.mk (k+1) (by simp[hst,hfx]) (by omega) (by omega)
  ·rw[if_neg hz]at hfx
   subst hfx;simp(disch:=omega);refine hN.out _<|Nx.mk (k+1) (by simp[hst]) (by omega) (by omega)
 ·obtain rfl:k=req.length:=by omega
  rw[zEf];have hl0:(req.map λs=>jj w.names s+1).length=req.length:=by simp
  generalize req.map (λs=>jj w.names s+1)=X at *;rw[hl0]at hs;simp;refine am [0] 1 [4] (by simp[hl0]) (by simp) (by simp) (by simp) hs (by simp) λ_ _=>?_
  simp
end
theorem IP{α n i f}{z:α}(h:f i=z):aW n (i+1) f z=aW n i f z:=by
 refine zDi λj _=>?_;by_cases hj:j<i
 ·rw[if_pos hj,if_pos (by omega)]
 ·by_cases hij:j=i
  ·subst hij;rw[if_pos (by omega),if_neg hj,h]
  ·rw[if_neg hj,if_neg (by omega)]
theorem Rl{par l b ns}:ar par ns (l++[b])=aR par (ar par ns l) b:=by
 rw[eA];rfl
theorem I1{par}:∀(l:List Label)(ns:List Str)(k:Nat)(b:Label),l[k]?=ś b->(bp par ns l)[k]?=ś (if lP par b then(aR par (ar par ns (l.take k)) b).length else 0)
 |[],ns,k,b,h=>by simp at h
 |x::l,ns,0,b,h=>by
   simp only[zFa,zBd]at h;subst h;simp only[bp,zFa,List.take_zero,ar];rfl
 |x::l,ns,k+1,b,h=>by
   simp only[zFb]at h;simpa only[bp,zFb,List.take_succ_cons,ar]using I1 l (aR par ns x) k b h
theorem MT(p)(par)(b)(n)(h:F4 [b] (bP 0)=[n]):Ip p par n=cH p par b:=by
 have hb:fV [b] 0=b:=rfl;rw[im]at h;simp only[bP,Tr.label,Tr.kids,hb]at h;unfold cH mW Ip;by_cases h1:b.kind=1
 ·simp[h1]at h
  subst h;by_cases h0:par=[]
  ·simp[h0,h1]
  ·cases hf:aJ p.elements par<;>simp[h0,h1,Allowed.zero,hasS]
 ·by_cases h2:b.kind=2
  ·simp[h2]at h
   subst h;by_cases h0:par=[]
   ·simp[h0,h2]
   ·cases hf:aJ p.elements par<;>simp[h0,h2,Allowed.zero,hasS]
  ·by_cases h3:b.kind=3
   ·simp[h3]at h
    subst h;by_cases h0:par=[]
    ·simp[h0,h3]
    ·cases hf:aJ p.elements par<;>simp[h0,h3,Allowed.zero,hasS]
   ·simp[h1,h2,h3]at h
theorem Vj{L k b}(hb:L[k]?=ś b):br L [bP k]=F4 [b] (bP 0):=by
 have h1:fV L k=b:=BR hb;have h2:fV [b] 0=b:=rfl;simp only[br,zDg];rw[im,im];simp only[bP,Tr.label,Tr.kids,h1,h2];rfl
theorem Mc{par}(ns)(b):(aR par ns b).length<=ns.length+1:=by
 unfold aR
 repeat' split
 all_goals simp
theorem dO{par}:∀(l:List Label)(ns:List Str),(ar par ns l).length<=ns.length+l.length
 |[],ns=>by simp[ar]
 |b::l,ns=>by
   have h1:=dO (par:=par) l (aR par ns b);have h2:=Mc (par:=par) ns b;simp only[ar,zAi];omega
theorem Yr{p par b}(h:F4 [b] (bP 0)=[]):cH p par b=false:=by
 have hb:fV [b] 0=b:=rfl;rw[im]at h;simp only[bP,Tr.label,Tr.kids,hb]at h;unfold cH;by_cases h1:b.kind=1
 ·simp[h1]at h
 ·by_cases h2:b.kind=2
  ·simp[h2]at h
  ·by_cases h3:b.kind=3
   ·simp[h3]at h
   ·simp[h1,h2,h3]
section
variable (p:Policy)(L:List Label)(g:Nat)
theorem W2(par:Str)(hl:L.length<=1000000):
 FnH ŷ s6 [] [.strct (mkC p L g),.str par] [] (.strct [.seq 1 (p.top.map .str),.seq 3 (p.elements.map Allowed.v),.seq 1 (p.unwrap.map .str),.seq 7 (L.map Label.v),.fn (.func g) [] [],.int .i64 0,.ref 0 (ar par [] L).length,.ref 1 L.length,.ref 2 L.length,.nil 1])
  [ś (.arr aA 1 ((ar par [] L).map .str)),ś (.arr ap 1 ((bp par [] L).map nV)),ś (.arr aH 1 ((L.map (cH p par)).map .bool))]:=by
 have hRf:(zAc L.length).map (λj=>nV (((bp par [] L)[j]?).getD 0))=(bp par [] L).map nV:=by
  refine zCd λj=>?_;rw[zBc,zBc];by_cases hj:j<L.length
  ·obtain⟨r,hr⟩:=av (l:=bp par [] L) (k:=j) (by rw[fX];exact hj)
   simp[zBe hj,hr]
  ·rw[zAj (by simp;omega),zAj (by rw[fX];omega)];rfl
 have hSf:(zAc L.length).map (λj=>V.bool ((L[j]?.map (cH p par)).getD ğ))=(L.map (cH p par)).map .bool:=by
  refine zCd λj=>?_;rw[zBc,zBc,zBc];by_cases hj:j<L.length
  ·obtain⟨r,hr⟩:=av hj
   simp[zBe hj,hr]
  ·rw[zAj (by simp;omega),zAj (l:=L) (by omega)];rfl
 unfold mkC;refine yoH th ?_;unfold kh;simp
 refine cd ⟨[(1,.str par),(2,.ptr 0 0),(4,.ptr 1 0),(5,.ptr 2 0)],
  [ś (.box [.seq 1 (p.top.map .str),.seq 3 (p.elements.map Allowed.v),.seq 1 (p.unwrap.map .str),.seq 7 (L.map Label.v),.fn (.func g) [] []]),ś (.box [.nil 1,.nil 3,.nil 1,.nil 7,.nilfn,.int .i64 0,.nil 1,.nil 1,.nil 1,.nil 1]),
   ś (.box [.seq 1 (p.top.map .str),.seq 3 (p.elements.map Allowed.v),.seq 1 (p.unwrap.map .str),.seq 7 (L.map Label.v),.fn (.func g) [] [],.int .i64 0,.nil 1,.ref 3 L.length,.ref 4 L.length,.nil 1]),
   ś (.arr ap 1 (aW L.length 0 (λj=>nV (((bp par [] L)[j]?).getD 0)) (nV 0))),ś (.arr aH 1 (aW L.length 0 (λj=>V.bool ((L[j]?.map (cH p par)).getD ğ)) (.bool ğ)))]⟩ (λF hF=>?_) ?_
 ·try simp at hF
  rw[fW,fW]at hF;have e0:zBf L.length (V.bool ğ)=be L.length λ_=>false:=by simp
  rw[e0]at hF
  repeat' (first
   |with_reducible exact hF
   |refine QU.mk ?_ ?_
   |(simp(disch:=omega)))
 simp
 refine ah (λk:Nat=>⟨[(1,.str par),(2,.ptr 0 0),(4,.ptr 1 0),(5,.ptr 2 0),(21,.seq 7 (L.map Label.v)),(22,.int .i64 L.length),(23,.int .i64 k)],
  [ś (.box [.seq 1 (p.top.map .str),.seq 3 (p.elements.map Allowed.v),.seq 1 (p.unwrap.map .str),.seq 7 (L.map Label.v),.fn (.func g) [] []]),ś (.box [.nil 1,.nil 3,.nil 1,.nil 7,.nilfn,.int .i64 0,.nil 1,.nil 1,.nil 1,.nil 1]),
   ś (.box [.seq 1 (p.top.map .str),.seq 3 (p.elements.map Allowed.v),.seq 1 (p.unwrap.map .str),.seq 7 (L.map Label.v),.fn (.func g) [] [],.int .i64 0,.ref 3 (ar par [] (L.take k)).length,.ref 4 L.length,.ref 5 L.length,.nil 1]),ś (.arr aA 1 ((ar par [] (L.take k)).map .str)),
   ś (.arr ap 1 (aW L.length k (λj=>nV (((bp par [] L)[j]?).getD 0)) (nV 0))),ś (.arr aH 1 (aW L.length k (λj=>V.bool ((L[j]?.map (cH p par)).getD ğ)) (.bool ğ)))]⟩)
  (λk=>k<=L.length) (λk=>L.length-k) [.b 2 6 aA 1] _ 0 rfl (by simp[ar]) (by simp) ?_
 intro k hk N hN;rcases zAg k L.length with hlt|hge
 ·obtain⟨b,hb⟩:=av hlt
  have hbv:b.v=.strct [.int .i64 b.kind,.str b.element,.str b.name,.bool b.many,.str b.value,.bool b.one,.bool b.two]:=rfl;have htk:L.take (k+1)=L.take k++[b]:=by rw[zCe,hb];rfl
  have hrow:=I1 (par:=par) L [] k b hb;have hnm:ar par [] (L.take (k+1))=aR par (ar par [] (L.take k)) b:=by rw[htk,Rl]
  have hnl:(ar par [] (L.take k)).length<=k:=by have:=dO (par:=par) (L.take k) [];simp at this;omega
  have hr1:=iU (f:=λj=>nV (((bp par [] L)[j]?).getD 0)) (z:=nV 0) hlt;have hr2:=IP (n:=L.length) (i:=k) (f:=λj=>nV (((bp par [] L)[j]?).getD 0)) (z:=nV 0);have hs1:=iU (f:=λj=>V.bool ((L[j]?.map (cH p par)).getD ğ)) (z:=V.bool ğ) hlt;have hs2:=IP (n:=L.length) (i:=k) (f:=λj=>V.bool ((L[j]?.map (cH p par)).getD ğ)) (z:=V.bool ğ);simp only[hrow,hb,zCh,zCi]at hr1 hr2 hs1 hs2;have hrg:(aW L.length k (λj=>nV (((bp par [] L)[j]?).getD 0)) (nV 0))[k]?=ś (.int .i64 0):=by rw[iW hlt,if_neg (zBi _)];rfl
  have hsg:(aW L.length k (λj=>V.bool ((L[j]?.map (cH p par)).getD ğ)) (.bool ğ))[k]?=ś (.bool ğ):=by rw[iW hlt,if_neg (zBi _)]
  have hrl:=iV (n:=L.length) (i:=k) (f:=λj=>nV (((bp par [] L)[j]?).getD 0)) (z:=nV 0);have hsl:=iV (n:=L.length) (i:=k) (f:=λj=>V.bool ((L[j]?.map (cH p par)).getD ğ)) (z:=V.bool ğ);obtain⟨RR',hRR'⟩:∃R,R=aW L.length (k+1) (λj=>nV (((bp par [] L)[j]?).getD 0)) (nV 0):=⟨_,rfl⟩;obtain⟨SS',hSS'⟩:∃R,R=aW L.length (k+1) (λj=>V.bool ((L[j]?.map (cH p par)).getD ğ)) (.bool ğ):=⟨_,rfl⟩;rw[<-hRR']at hr1 hr2;rw[<-hSS']at hs1 hs2;have hRv:aW L.length (k+1) (λj=>V.int .i64 ((((bp par [] L)[j]?).getD 0:Nat):Int)) (V.int .i64 0)=RR':=hRR'.symm;have hSv:=hSS'.symm;clear hRR' hSS';generalize aW L.length k (λj=>nV (((bp par [] L)[j]?).getD 0)) (nV 0)=RR at *;generalize aW L.length k (λj=>V.bool ((L[j]?.map (cH p par)).getD ğ)) (.bool ğ)=SS at *;simp(disch:=omega) [hb,hbv];by_cases hk4:b.kind=4
  ·have hst0:cH p par b=false:=by simp[cH,hk4]
   have hSS:SS'=SS:=hs2 (by rw[hst0])
   have hno:¬lP par b->RR'=RR/\aR par (ar par [] (L.take k)) b=ar par [] (L.take k):=λh=>by
    rw[if_neg h]at hr2;exact⟨hr2 rfl,ip h⟩
   have hyes:lP par b->RR.set k (.int .i64 ((aR par (ar par [] (L.take k)) b).length:Nat))=RR'/\aR par (ar par [] (L.take k)) b=if(ar par [] (L.take k)).getLast?=ś b.name then ar par [] (L.take k)else ar par [] (L.take k)++[b.name]:=λh=>by
    rw[if_pos h]at hr1;exact⟨hr1,io h⟩
   clear hr1 hr2 hs1 hs2 hrow;have hnl2:(ar par [] (L.take (k+1))).length<=k+1:=by have:=dO (par:=par) (L.take (k+1)) [];simp at this;omega
   rw[hnm]at hnl2;generalize aR par (ar par [] (L.take k)) b=X' at *;generalize ar par [] (L.take k)=X at *;simp[hk4];by_cases hp0:par=[]
   ·obtain⟨e1,e2⟩:=hno λh=>h.2.1 hp0
    subst hp0;simp(disch:=omega);exact hN.out _<|Nx.mk (k+1) (by simp[hnm,e1,e2,hSS,hRv,hSv]) (by omega) (by omega)
   ·by_cases hel:b.element=par
    ·obtain⟨e1,e2⟩:=hyes ⟨hk4,hp0,hel⟩
     simp[hp0,hel];by_cases hX:X=[]
     ·subst hX
      rw[if_neg (by simp)]at e2
      rw[e2]at e1;simp only[zAh,zAi,zFc]at e1;simp(disch:=omega) [hrg];exact hN.out _<|Nx.mk (k+1) (by simp[hnm,e2,hSS,hRv,hSv];simpa using e1) (by omega) (by omega)
     ·have hXl:0<X.length:=List.length_pos_iff.2 hX
      have hXl':¬(X.length:Int)=0:=by omega
      have hX1:(1:Int)<=X.length:=by omega
      have hX2:((X.length:Int)-1).toNat=X.length-1:=by omega
      obtain⟨y,hy⟩:=av (l:=X) (k:=X.length-1) (by omega)
      rw[List.getLast?_eq_getElem?,hy]at e2;by_cases hyb:y=b.name
      ·rw[if_pos (by rw[hyb])]at e2
       rw[e2]at e1;simp(disch:=omega) [hy,hrg];exact hN.out _<|Nx.mk (k+1) (by simp[hnm,e2,e1,hSS,hRv,hSv]) (by omega) (by omega)
      ·rw[if_neg (by simpa using hyb)]at e2
       rw[e2]at e1;simp only[zBa,zAi,zFc]at e1;simp(disch:=omega) [hy,hrg];exact hN.out _<|Nx.mk (k+1) (by simp[hnm,e2,hSS,hRv,hSv];simpa using e1) (by omega) (by omega)
    ·obtain⟨e1,e2⟩:=hno λh=>hel h.2.2
     simp(disch:=omega);exact hN.out _<|Nx.mk (k+1) (by simp[hnm,e1,e2,hSS,hRv,hSv]) (by omega) (by omega)
  ·have hno:¬lP par b:=λh=>hk4 h.1
   rw[if_neg hno]at hr2;have hRR:RR'=RR:=hr2 rfl;rw[ip hno]at hnm;clear hr1 hr2 hrow;have hnodes:=uy L (by omega) [bP k] (by simp[dw,nR,bP,gO,Tr.kids]) (by simp)
   rw[Vj hb]at hnodes;have hns:=ab9 [b] (bP 0);have hin:=MT p par b;have hnn:=Yr (p:=p) (par:=par) (b:=b);generalize F4 [b] (bP 0)=ns at *;have hlv:[bP k].map Tr.v=[.strct [.int .i64 k,.seq 2 []]]:=by simp[R6,lfV]
   rw[hlv]at hnodes;generalize ar par [] (L.take k)=X at *;simp[hk4];refine ae hnodes (by simp) λ_=>?_
   match ns,hns,hin,hnn with
   |[],_,_,hnn=>
     have hSS:SS'=SS:=hs2 (by rw[hnn rfl])
     simp
     refine ah (λ_:Nat=>⟨[(1,.str par),(2,.ptr 0 0),(4,.ptr 1 0),(5,.ptr 2 0),(6,.int .i64 k),(21,.seq 7 (L.map Label.v)),(22,.int .i64 L.length),(23,.int .i64 k),(36,.seq 5 []),(37,.int .i64 0),(38,.int .i64 0)],
      [ś (.box [.seq 1 (p.top.map .str),.seq 3 (p.elements.map Allowed.v),.seq 1 (p.unwrap.map .str),.seq 7 (L.map Label.v),.fn (.func g) [] []]),ś (.box [.nil 1,.nil 3,.nil 1,.nil 7,.nilfn,.int .i64 0,.nil 1,.nil 1,.nil 1,.nil 1]),
       ś (.box [.seq 1 (p.top.map .str),.seq 3 (p.elements.map Allowed.v),.seq 1 (p.unwrap.map .str),.seq 7 (L.map Label.v),.fn (.func g) [] [],.int .i64 0,.ref 3 X.length,.ref 4 L.length,.ref 5 L.length,.nil 1]),ś (.arr aA 1 (X.map .str)),ś (.arr ap 1 RR),ś (.arr aH 1 SS)]⟩)
      (λ_=>True) (λ_=>0) [] _ 0 rfl (by simp) (by simp) ?_
     intro _ _ N' hN';simp(disch:=omega);exact hN.out _<|Nx.mk (k+1) (by simp[hnm,hRR,hSS,hRv,hSv]) (by omega) (by omega)
   |[n],_,hin,_=>
     have hi:=H7 p par n;rw[hin n rfl]at hi;have hSS:SS.set k (.bool (cH p par b))=SS':=hs1;generalize cH p par b=sb at *;simp
     refine ah (λj:Nat=>⟨[(1,.str par),(2,.ptr 0 0),(4,.ptr 1 0),(5,.ptr 2 0),(6,.int .i64 k),(21,.seq 7 (L.map Label.v)),(22,.int .i64 L.length),(23,.int .i64 k),(36,.seq 5 [n.v]),(37,.int .i64 1),(38,.int .i64 j)],
      [ś (.box [.seq 1 (p.top.map .str),.seq 3 (p.elements.map Allowed.v),.seq 1 (p.unwrap.map .str),.seq 7 (L.map Label.v),.fn (.func g) [] []]),ś (.box [.nil 1,.nil 3,.nil 1,.nil 7,.nilfn,.int .i64 0,.nil 1,.nil 1,.nil 1,.nil 1]),
       ś (.box [.seq 1 (p.top.map .str),.seq 3 (p.elements.map Allowed.v),.seq 1 (p.unwrap.map .str),.seq 7 (L.map Label.v),.fn (.func g) [] [],.int .i64 0,.ref 3 X.length,.ref 4 L.length,.ref 5 L.length,.nil 1]),ś (.arr aA 1 (X.map .str)),ś (.arr ap 1 RR),ś (.arr aH 1 (if j=0 then SS else SS'))]⟩)
      (λj=>j<=1) (λj=>1-j) [] _ 0 rfl (by simp) (by simp) ?_
     intro j hj N' hN';have hj2:j=0\/j=1:=by omega
     rcases hj2 with rfl|rfl
     ·simp
      refine aw (by simpa using hi) rfl ?_
      simp(disch:=omega) [hsg];exact hN'.out _<|Nx.mk 1 (by simp[hSS]) (by omega) (by omega)
     ·simp(disch:=omega)
      exact hN.out _<|Nx.mk (k+1) (by simp[hnm,hRR,hRv,hSv]) (by omega) (by omega)
   |_::_::_,h,_,_=>simp at h
 ·obtain rfl:k=L.length:=by omega
  rw[zEf];simp;exact⟨nW.trans hRf,nW.trans hSf⟩
end
theorem Wi.ext_next{a b:Wi}(h1:a.len=b.len)(h2:a.nl=b.nl)(h3:a.row=b.row)(h4:a.many=b.many)(h5:a.attr=b.attr)(h6:a.text=b.text)(h7:a.stands=b.stands)(h8:∀n,n∈a.needed↔n∈b.needed):a.next=b.next/\a.ends=b.ends:=by
 have hl:a.lacks=b.lacks:=by
  funext f t;unfold Wi.lacks;rw[Bool.eq_iff_iff,zGb,zGb];constructor<;>(rintro⟨n,hn,h⟩;exact⟨n,by first|exact(h8 n).1 hn|exact(h8 n).2 hn,h⟩)
 have he:a.ends=b.ends:=by
  funext s;unfold Wi.ends;rw[hl,h1]
 refine⟨?_,he⟩;funext s r;unfold Wi.next;rw[he,hl,h1,h2,h3,h4,h5,h6,h7]
def fI(p:Policy)(L:List Label)(i:Int)(par:Str)(req:List Str):WD:=⟨i,ar par [] L,bp par [] L,L.map (cH p par),dz (req.map λs=>jj (ar par [] L) s+1)⟩
theorem UE(p)(L)(i)(par)(req):((fI p L i par req).wi L).next=(au p L par req).next/\((fI p L i par req).wi L).ends=(au p L par req).ends:=by
 refine Wi.ext_next rfl rfl rfl rfl rfl rfl ?_ λn=>?_
 ·funext r
  simp only[fI,WD.wi,au,zBc];cases L[r]?<;>rfl
 ·simp only[fI,WD.wi,au]
  exact(bo _).mem_iff
theorem Pc{p L i par req}(hl:L.length<=190)(hq:req.length<=12):(fI p L i par req).few L where
 names:=by have:=dO (par:=par) L [];simp only[fI];simp at this;omega
 row:=fX L []
 st:=by simp[fI]
 nd:=by simp only[fI];rw[(bo _).length_eq];simp;omega
 ln:=by omega
theorem Pt(p)(L)(i)(par)(req)(hl:L.length<=190)(r:Nat):((fI p L i par req).row[r]?).getD 0<=2000000:=by
 have h:=En p L par req r;have h2:=dO (par:=par) L [];simp only[au,fI]at h⊢;simp at h2;omega
section
variable (p:Policy)(L:List Label)(g:Nat)
theorem ZB(al)(hg:∀b:Label,Fn ŷ g [b.v] (.bool (al b)))(hl:L.length<=190)(hr:∀e∈p.elements,e.rules.length<=12)(i:Nat)(b)(hb:L[i]?=ś b):
 Fn ŷ qK [.strct (mkC p L g),.int .i64 i] (eo p L al i b).v:=by
 have hlt:=(zAe.1 hb).1;have hbv:b.v=.strct [.int .i64 b.kind,.str b.element,.str b.name,.bool b.many,.str b.value,.bool b.one,.bool b.two]:=rfl;have hleaf:=Fj p L g i mV lT 2 (by omega) (λ_ _=>1) (λs=>if s=0/\qj al b=ť then i else L.length) (by omega) (λs r _ _=>WY p L g i s r) (λs _=>T4 p L g al hg (by omega) i b hb s)
 have hls:fM L.length 2 (λ_ _=>1) (λs=>if s=0/\qj al b=ť then i else L.length)=jM L al i b:=rfl
 rw[hls]at hleaf;have hfind:=d8 p b.element;have hins:=W2 p L g b.element (by omega)
 have hside:∀e,aJ p.elements b.element=ś e->FnN ŷ dQ [.strct (mkC p L g),.int .i64 ((ar b.element [] L).length+3+1:Nat),.fn (.func cG) [.strct ((fI p L i b.element (oB e)).c p L g)] [],.fn (.func eX) [.strct ((fI p L i b.element (oB e)).c p L g)] []]
  (sy L (au p L b.element (b6 e)) i).v/\FnH ŷ gU [0] [.ptr 0 0,.seq 1 ((oB e).map .str)]
  [ś (.box [.seq 1 (p.top.map .str),.seq 3 (p.elements.map Allowed.v),.seq 1 (p.unwrap.map .str),.seq 7 (L.map Label.v),.fn (.func g) [] [],.int .i64 i,.ref 1 (ar b.element [] L).length,.ref 2 L.length,.ref 3 L.length,.nil 1]),
   ś (.arr aA 1 ((ar b.element [] L).map .str)),ś (.arr ap 1 ((bp b.element [] L).map nV)),ś (.arr aH 1 ((L.map (cH p b.element)).map .bool))] (.tup [])
  [ś (.box [.seq 1 (p.top.map .str),.seq 3 (p.elements.map Allowed.v),.seq 1 (p.unwrap.map .str),.seq 7 (L.map Label.v),.fn (.func g) [] [],.int .i64 i,.ref 1 (ar b.element [] L).length,.ref 2 L.length,.ref 3 L.length,.ref 4 (oB e).length]),
   ś (.arr aA 1 ((ar b.element [] L).map .str)),ś (.arr ap 1 ((bp b.element [] L).map nV)),ś (.arr aH 1 ((L.map (cH p b.element)).map .bool)),ś (.arr ap 1 ((dz ((oB e).map λs=>jj (ar b.element [] L) s+1)).map nV))]/\
  Fn ŷ kq [.strct ((fI p L i b.element (oB e)).c p L g)] (.int .i64 ((ar b.element [] L).length+3:Nat))/\(oB e).length<=12/\Fn ŷ p8 [e.v] (.seq 1 ((oB e).map .str)):=λe he=>by
  have hel:=hr e (k8 he).1
  have hq:(oB e).length<=12:=by
   have:=zFd (λr:Rule=>r.req) e.rules;simp only[oB,zDf];omega
  have hfew:(fI p L i b.element (oB e)).few L:=Pc hl hq;obtain⟨w1,w2⟩:=UE p L i b.element (oB e);have hnl:(ar b.element [] L).length<=190:=by have:=dO (par:=b.element) L [];simp at this;omega
  refine⟨?_,?_,lB p L g _ hfew,hq,De e (by omega)⟩
  ·refine rY p L g (fI p L i b.element (oB e)) cG eX _ (by omega) (au p L b.element (b6 e)).next (λs=>if(au p L b.element (b6 e)).ends s=ť then i else L.length) (by omega) (λs r hs hr=>?_) (λs hs=>?_)
   ·have:=zx p L g _ hfew s r (by omega) (by omega) (Pt p L i b.element (oB e) hl)
    rw[w1]at this;exact this
   ·have:=K1 p L g _ hfew s (by omega)
    rw[w2]at this
    have e:(if(au p L b.element (oB e)).ends s=ť then(fI p L i b.element (oB e)).label else(L.length:Int))=((if(au p L b.element (b6 e)).ends s=ť then i else L.length:Nat):Int):=by
     show(if(au p L b.element (b6 e)).ends s=ť then(i:Int)else(L.length:Int))=_
     split<;>rfl
    rw[e]at this;exact this
  ·have:=acZ p L g ⟨i,ar b.element [] L,bp b.element [] L,L.map (cH p b.element),[]⟩ (by simp only;omega) (oB e) (by omega)
   simp only[fX,zDf]at this;exact this
 have hso:eo p L al i b=if b.kind=3 then(match aJ p.elements b.element with
  |some e=>sy L (au p L b.element (b6 e)) i
  |none=>jM L al i b)else jM L al i b:=rfl
 generalize eo p L al i b=S at *;generalize jM L al i b=LS at *;simp only[mkC,CA,WD.c,fI,zAd,zAh]at hleaf hins hside⊢;obtain⟨Z,hZ⟩:∃Z,Z=S.v:=⟨_,rfl⟩;rw[<-hZ];refine yoE qO ?_;simp[hb,hbv];by_cases hk:b.kind=3
 ·rw[if_pos hk]at hso
  simp[hk];refine ae hfind (by simp) λ_=>?_
  cases he:aJ p.elements b.element with
  |none=>
    rw[he]at hso;simp only at hso;subst hso;unfold SideP.v at hleaf hZ;simp;refine fD hleaf λ_=>?_;simp[hZ]
  |some e=>
    rw[he]at hso;simp only at hso;subst hso;obtain⟨s1,s2,s3,s4,s5⟩:=hside e he;simp;refine am [] 0 [] (by simp) (by simp) (by simp) (by simp) hins (by simp) λ_ _=>?_
    simp;refine ae s5 (by simp) λ_=>?_
    simp;have hRl:(bp b.element [] L).length=L.length:=fX L [];have hNM:(ar b.element [] L).length<=190:=by have:=dO (par:=b.element) L [];simp at this;omega
    have hnq:(dz ((oB e).map λs=>jj (ar b.element [] L) s+1)).length=(oB e).length:=by rw[(bo _).length_eq];simp
    unfold SideP.v at s1 hZ;generalize dz ((oB e).map λs=>jj (ar b.element [] L) s+1)=ND at *;generalize bp b.element [] L=RW at *;generalize ar b.element [] L=NM at *;refine am [0] 1 [7,4,5,6] (by simp) (by simp) (by simp) (by simp) s2 (by simp) λ_ _=>?_
    simp[hRl,hnq];refine aw s3 rfl ?_;simp(disch:=omega);refine ol s1 ?_;simp[hZ]
 ·rw[if_neg hk]at hso
  subst hso;unfold SideP.v at hleaf hZ;simp[hk];refine fD hleaf λ_=>?_;simp[hZ]
end
def HedgeP.v(h:HedgeP):V:=.strct [.int .i64 h.states,.seq 2 (h.labels.map SideP.v),.seq 1 (h.root.next.map λr=>.seq 1 (r.map nV)),.seq 1 (h.root.out.map nV)]
section
variable (p:Policy)(L:List Label)(g:Nat)
theorem aa4(al)(hg:∀b:Label,Fn ŷ g [b.v] (.bool (al b)))(hl:L.length<=190)(hr:∀e∈p.elements,e.rules.length<=12):
 Fn ŷ uY [.strct (mkC p L g)] (ba p L al).v:=by
 have hlab:=ZB p L g al hg hl hr;have hins:=FnH.purV (W2 p L g [] (by omega)) (r':=.strct ((fI p L 0 [] []).c p L g)) (by simp[fI,WD.c,mkC,dz,fX])
 have hfew:(fI p L 0 [] []).few L:=Pc hl (by simp)
 have hdead:=lB p L g _ hfew;obtain⟨w1,w2⟩:=UE p L 0 [] [];have hnl:(ar [] [] L).length<=190:=by have:=dO (par:=[]) L [];simp at this;omega
 have hside:FnN ŷ dQ [.strct (mkC p L g),.int .i64 ((ar [] [] L).length+3+1:Nat),.fn (.func cG) [.strct ((fI p L 0 [] []).c p L g)] [],.fn (.func d7) [.strct ((fI p L 0 [] []).c p L g)] []] (rD p L).v:=by
  refine rY p L g (fI p L 0 [] []) cG d7 _ (by omega) (au p L [] []).next (λs=>if(au p L [] []).ends s=ť then 1 else 0) (by omega) (λs r hs hr=>?_) (λs hs=>?_)
  ·have:=zx p L g _ hfew s r (by omega) (by omega) (Pt p L 0 [] [] hl)
   rw[w1]at this;exact this
  ·have:=Fc p L g _ hfew s (by omega)
   rw[w2]at this;have e:(if(au p L [] []).ends s=ť then(1:Int)else 0)=((if(au p L [] []).ends s=ť then 1 else 0:Nat):Int):=by split<;>rfl
   rw[e]at this;exact this
 obtain⟨Z,hZ⟩:∃Z,Z=(ba p L al).v:=⟨_,rfl⟩;rw[<-hZ];have hZ2:Z=.strct [.int .i64 (L.length+1:Nat),.seq 2 ((L.mapIdx λi b=>eo p L al i b).map SideP.v),.seq 1 ((rD p L).next.map λr=>.seq 1 (r.map nV)),.seq 1 ((rD p L).out.map nV)]:=hZ;clear hZ w1 w2 hfew;unfold SideP.v at hside;generalize(rD p L).next=RN at *;generalize(rD p L).out=RO at *;simp only[mkC,WD.c,fI,zAd,zAh]at hlab hins hside hdead⊢;generalize dz (([]:List Str).map λs=>jj (ar [] [] L) s+1)=ND at *;generalize ar [] [] L=NM at *;generalize bp [] [] L=RW at *;generalize L.map (cH p [])=ST at *;refine yoA u7 ?_;simp(disch:=omega)
 refine ah (λk:Nat=>⟨[(1,.ptr 0 0),(2,.ptr 1 0),(3,.ptr 2 0),(13,.int .i64 L.length),(14,.int .i64 k)],
  [ś (.box [.seq 1 (p.top.map .str),.seq 3 (p.elements.map Allowed.v),.seq 1 (p.unwrap.map .str),.seq 7 (L.map Label.v),.fn (.func g) [] []]),ś (.box [.int .i64 0,.nil 2,.nil 1,.nil 1]),ś (.box [.int .i64 (L.length+1:Nat),.ref 3 k,.nil 1,.nil 1]),
   ś (.arr vp 2 (((L.mapIdx λi b=>eo p L al i b).take k).map SideP.v))]⟩)
  (λk=>k<=L.length) (λk=>L.length-k) [.b 2 1 vp 2] _ 0 rfl (by simp) (by simp) ?_
 intro k hk N hN;rcases zAg k L.length with hlt|hge
 ·obtain⟨b,hb⟩:=av hlt
  have hlk:=hlab k b hb
  have hst:((L.mapIdx λi b=>eo p L al i b).take (k+1)).map SideP.v=((L.mapIdx λi b=>eo p L al i b).take k).map SideP.v++[(eo p L al k b).v]:=by
   rw[zCe,List.getElem?_mapIdx,hb];simp
  have hlen:(((L.mapIdx λi b=>eo p L al i b).take k).map SideP.v).length=k:=by simp;omega
  generalize((L.mapIdx λi b=>eo p L al i b).take k).map SideP.v=X at *;generalize eo p L al k b=S at *;have hSv:S.v=.strct [.seq 1 (S.next.map λr=>.seq 1 (r.map nV)),.seq 1 (S.out.map nV)]:=rfl;rw[hSv]at hlk hst;simp(disch:=omega);refine az hlk (by simp) ?_
  simp(disch:=omega);exact hN.out _<|Nx.mk (k+1) (by simp[hst]) (by omega) (by omega)
 ·obtain rfl:k=L.length:=by omega
  have htk:(L.mapIdx λi b=>eo p L al i b).take L.length=L.mapIdx λi b=>eo p L al i b:=zDc (by simp)
  rw[htk];have hll:(L.mapIdx λi b=>eo p L al i b).length=L.length:=by simp
  generalize(L.mapIdx λi b=>eo p L al i b)=LS at *;simp;refine ae hins (by simp) λ_=>?_
  simp;refine aw hdead rfl ?_;simp(disch:=omega);refine ol hside ?_;simp[hll];rw[hZ2];simp
theorem mL(hl:L.length<=190)(hr:∀e∈p.elements,e.rules.length<=12):Fn ŷ Hi [p.v,.seq 7 (L.map Label.v)] (ba p L Label.one).v:=by
 have h:=aa4 p L qd Label.one ac6 hl hr;unfold HedgeP.v at h⊢;unfold mkC at h;refine yoA HA ?_;simp;refine ae h (by simp) λ_=>?_
 simp
theorem rZ(hl:L.length<=190)(hr:∀e∈p.elements,e.rules.length<=12):Fn ŷ EB [p.v,.seq 7 (L.map Label.v)] (ba p L Label.two).v:=by
 have h:=aa4 p L oL Label.two ZH hl hr;unfold HedgeP.v at h⊢;unfold mkC at h;refine yoA EO ?_;simp;refine ae h (by simp) λ_=>?_
 simp
end
end Go.Abs.F
end
section
set_option maxHeartbeats 1000000
set_option maxRecDepth 100000
namespace Go.Abs.F
open Go.Proofs
attribute [-simp] getElem?_pos zDb zBg
end Go.Abs.F
end
section
set_option maxHeartbeats 4000000
set_option maxRecDepth 100000
namespace Go.Abs.F
open Go.Proofs Go.Aut
attribute [-simp] getElem?_pos zDb zBg
theorem VF(p q)(hp:p.elements.length<=1000)(hq:q.elements.length<=1000)(hpr:∀el,(aC p el).length<=1000)(hqr:∀el,(aC q el).length<=1000)(at')(hat:∀el nm,(at' el nm).length<=4):(fO p q at').length<=1000000000:=by
 have hEl:∀el,(bC p q at' el).length<=20000:=λel=>by
  have h1:=rU (at' el) 4 (aP p q el) λx _=>hat el x;have h2:=pt p q el;have h3:=hpr el;have h4:=hqr el;simp only[bC,zAi];omega
 have h1:=rU (bC p q at') 20000 (iL p q) λx _=>hEl x;have h2:=Jq p q;simp only[fO,zBa,zAi,zFc];omega
theorem CB(p q):(aY (ai p) (ai q)).length<=1000000000:=
 VF _ _ (j1 p) (j1 q) (iF p) (iF q) _ (Ur _ _)
theorem ra(p q):Fn ŷ we [(ai p).v,(ai q).v] (.seq 7 ((aY (ai p) (ai q)).map Label.v)):=
 xg _ _ (j1 p) (j1 q) (iF p) (iF q) _ (Ur _ _) (af2 _ _ (tr p) (tr q))
theorem j0(p):∀e∈(ai p).elements,e.rules.length<=12:=λe he=>by
 obtain⟨_,l,hl⟩:=tu p e he;rw[hl];have:=vE l;omega
end Go.Abs.F
end
