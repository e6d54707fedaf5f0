/- Plain: a walk through nodes, each ahead of its kids. No condition. -/
import Derived.Test.YtedmnakfknbabaaGreatDoorAF1
import Derived.Test.YtedmnakfknbabaaGreatDoorAP2
set_option linter.all false
set_option maxHeartbeats 0
set_option maxRecDepth 100000
open List renaming reduceReplicate→zAa,all_cons→zAb,mem_of_getElem?→zAc,all_append→zAd,length_pos_iff→zAe,all_nil→zAf,mem_singleton→zAg,cons_append→zAh,mem_append→zAi,drop_drop→zAj,mem_cons→zBb
open Bool renaming false_and→zBa,true_and→zBc,and_true→zBd
section
namespace Go.Abs.F
open Go.Proofs
mutual
def itK:Node->List (List Node×Nat)
 |⟨_,_,_,_,ks⟩=>itL ks ks 0
def itL:List Node->List Node->Nat->List (List Node×Nat)
 |_,[],_=>[]
 |row,n::l,i=>(row,i)::(itK n++itL row l (i+1))
end
theorem Bu(n:Node):itK n=itL n.kids n.kids 0:=by cases n;simp[itK]
def itV(x:List Node×Nat):V:=.tup [.seq 5 (x.1.map Node.v),.int .i64 x.2]
def dY{α:Type}(v:α->V)(t:α->Bool):List α->List (V×Bool)
 |[]=>[]
 |x::l=>if t x then(v x,true)::dY v t l else[(v x,false)]
theorem sA{α:Type}(v:α->V)(t:α->Bool):∀(l:List α)(i:Nat)(u:V),(dY v t l)[i]?=some (u,false)->i+1=(dY v t l).length
 |[],i,u,h=>by simp[dY]at h
 |x::l,i,u,h=>by
   unfold dY at h⊢;by_cases hx:t x=true
   ·rw[if_pos hx]at h⊢
    cases i with
    |zero=>simp at h
    |succ i=>simpa using sA v t l i u (by simpa using h)
   ·rw[if_neg hx]at h⊢
    cases i with
    |zero=>simp
    |succ i=>simp at h
theorem m9{α:Type}(v:α->V)(t:α->Bool):∀(l:List α)(i:Nat)(u:V)(b:Bool),(dY v t l)[i]?=some (u,b)->∃x,l[i]?=some x/\u=v x/\b=t x/\(l.take i).all t=true
 |[],i,u,b,h=>by simp[dY]at h
 |x::l,i,u,b,h=>by
   unfold dY at h;by_cases hx:t x=true
   ·rw[if_pos hx]at h
    cases i with
    |zero=>simp at h;exact⟨x,by simp,h.1.symm,by rw[h.2,hx],by simp⟩
    |succ i=>
      obtain⟨y,h1,h2,h3,h4⟩:=m9 v t l i u b (by simpa using h)
      exact⟨y,by simpa using h1,h2,h3,by simp[hx,h4]⟩
   ·rw[if_neg hx]at h
    cases i with
    |zero=>simp at h;exact⟨x,by simp,h.1.symm,by simp at hx;rw[h.2,hx],by simp⟩
    |succ i=>simp at h
theorem wP{α:Type}(v:α->V)(t:α->Bool):∀(l:List α),(∀p∈dY v t l,p.2=true)↔l.all t=true
 |[]=>by simp[dY]
 |x::l=>by
   unfold dY;by_cases hx:t x=true
   ·rw[if_pos hx,List.forall_mem_cons,wP v t l,zAb,hx]
    simp
   ·rw[if_neg hx,zAb]
    simp[hx]
def kw(x:List Node×Nat):Int:=match x.1[x.2]? with
 |some n=>qC n (fv x.1 x.2)
 |none=>0
def dI:List (List Node×Nat)->Int
 |[]=>0
 |x::l=>if kw x=0 then dI l else kw x
theorem jN:∀(a b:List (List Node×Nat)),dI (a++b)=if dI a=0 then dI b else dI a
 |[],b=>by simp[dI]
 |x::a,b=>by
   by_cases h:kw x=0
   ·simp[dI,jN a b,h]
   ·simp[dI,jN a b,h]
theorem wy:∀(l:List Node)(row:List Node)(i:Nat),row.drop i=l->dI (itL row l i)=sc (fv row i) l:=by
 refine aN (fun row i _=>by simp[itL,dI,sc]) ?_
 intro n l h1 h2 row i hd
 have hn:row[i]?=some n:=by
  have:=congrArg (fun m=>m[0]?) hd;simpa using this
 have hd2:row.drop (i+1)=l:=by rw[<-zAj,hd];rfl
 have e:fv row (i+1)=decide (n.kind=2):=by simp[fv,hn]
 simp only[itL,dI,sc,jN,Bu,Bn,kw,hn];rw[h1 n.kids 0 (by simp),h2 row (i+1) hd2,e]
 have:fv n.kids 0=false:=by simp[fv]
 rw[this]
theorem wz:∀l:List (List Node×Nat),(l.all fun x=>decide (kw x=0))=decide (dI l=0)
 |[]=>by simp[dI]
 |x::l=>by
   simp only[zAb,dI,wz l];by_cases h:kw x=0<;>simp[h]
theorem Aj:∀(l:List (List Node×Nat))(i:Nat)(x:List Node×Nat),l[i]?=some x->(l.take i).all (fun x=>decide (kw x=0))=true->¬kw x=0->dI l=kw x
 |[],i,x,h,_,_=>by simp at h
 |y::l,0,x,h,_,hx=>by
   simp at h;subst h;simp[dI,hx]
 |y::l,i+1,x,h,ha,hx=>by
   simp only[List.take_succ_cons,zAb,Bool.and_eq_true,decide_eq_true_eq]at ha;simp only[dI];rw[if_pos ha.1];exact Aj l i x (by simpa using h) ha.2 hx
theorem P8{P:Node->Prop}{m:Nat}:∀(l:List Node)(row:List Node)(i:Nat),row.drop i=l->ap P row->al row<=m->∀x∈itL row l i,∃n,x.1[x.2]?=some n/\P n/\x.1.length<=m:=by
 refine aN (fun row i _ _ _ x hx=>by simp[itL]at hx) ?_
 intro n l h1 h2 row i hd ha hc x hx
 have hn:row[i]?=some n:=by
  have:=congrArg (fun m=>m[0]?) hd;simpa using this
 have hd2:row.drop (i+1)=l:=by rw[<-zAj,hd];rfl
 have hm:=zAc hn;have hp:=fJ ha hm;have hcm:=uG hm;simp only[itL,Bu,zBb,zAi]at hx;rcases hx with rfl|hx|hx
 ·exact⟨n,hn,hp.1,by have:=lj row;simp only;omega⟩
 ·exact h1 n.kids 0 rfl hp.2 (by omega) x hx
 ·exact h2 row (i+1) hd2 ha hc x hx
end Go.Abs.F
end
section
namespace Go.Abs.F
open Go.Proofs
attribute [-simp] getElem?_pos Option.not_isSome List.map_map
theorem EI(n:Node)(b:Bool)(hf:ku n):Fn Tryz.prog DH [.sptr n.v 0,.bool b] (.int .i64 (qC n b)):=by
 refine Fn.of_image mixed El D7 rfl fun ho=>?_;unfold tE;simp only[oks,ok,and_true]at ho;clear ho;have hla:0<n.attrs.length↔¬n.attrs=[]:=by rw[zAe]
 have hlk:0<n.kids.length↔¬n.kids=[]:=by rw[zAe]
 have hf2:=hf.2.1;by_cases h1:n.kind=1
 ·by_cases ht:n.text=[]
  ·simp(disch:=omega) [-zAa,qC,h1,ht]
   refine ae (by simpa[ht,h1]using yZ n hf ht) rfl fun _=>?_
   simp(disch:=omega) [-zAa]
  ·simp(disch:=omega) [-zAa,qC,h1,ht,m8]
 ·have hU:=wC n.text (by omega)
  simp only[qC,if_neg h1];generalize right n.text=R at hU⊢;simp(disch:=omega) [-zAa,h1]
  cases R<;>repeat' (first
   |(refine BrKd.mk (fun h=>?_) (fun h=>?_)<;>simp(disch:=omega) [hla,hlk, *])
   |(refine BrK.mk (fun h=>?_) (fun h=>?_)<;>simp(disch:=omega) [hla,hlk, *])
   |(refine ae hU rfl (fun _=>?_)<;>simp(disch:=omega) [hla,hlk, *]))
theorem GH(t:List Node×Nat->Bool):∀(l:List Node)(more:List (List Node×Nat))(deep:Nat),al l+deep<1000->
 FnH Tryz.prog kV [2] [.seq 5 (l.map Node.v),.int .i64 deep,.ref 0 0] [some (.gh (dY itV t (itL l l 0++more)))] (.bool ((itL l l 0).all t)) [some (.gh (if(itL l l 0).all t then dY itV t more else[]))]:=by
 have key:∀l:List Node,(∀n∈l,∀(more:List (List Node×Nat))(deep:Nat),al n.kids+deep<1000->
  FnH Tryz.prog kV [2] [.seq 5 (n.kids.map Node.v),.int .i64 deep,.ref 0 0] [some (.gh (dY itV t (itL n.kids n.kids 0++more)))] (.bool ((itL n.kids n.kids 0).all t)) [some (.gh (if(itL n.kids n.kids 0).all t then dY itV t more else[]))])->
  ∀(more:List (List Node×Nat))(deep:Nat),al l+deep<1000->
  FnH Tryz.prog kV [2] [.seq 5 (l.map Node.v),.int .i64 deep,.ref 0 0] [some (.gh (dY itV t (itL l l 0++more)))] (.bool ((itL l l 0).all t)) [some (.gh (if(itL l l 0).all t then dY itV t more else[]))]:=by
  intro l hrec more deep hdeep;refine FnH.of_image mixed Gk Gc rfl fun ho hh=>?_;unfold w4;have hlen:l.length<=140737488355328:=by have:=ho.1.1;simpa using this
  clear ho hh;have hd0:¬deep=1000:=by omega
  simp(disch:=omega) [-zAa,hd0];generalize hR:(itL l l 0).all t=R
  refine an (fun(k:Nat)=>⟨[(0,.seq 5 (l.map Node.v)),(1,.int .i64 deep),(2,.ref 0 0),(14,.int .i64 l.length),(15,.int .i64 k)],[some (.gh (dY itV t (itL l (l.drop k) k++more)))]⟩)
   (fun k=>k<=l.length/\(itL l (l.drop k) k).all t=R) (fun k=>l.length-k) [] _ 0 rfl (by simp) (by simp[hR]) ?_
  rintro k ⟨hk,hi⟩ N hN;rcases place l k hk with⟨he,hd⟩|⟨hlt,x,hx,hd⟩<;>rw[hd]at hi
  ·simp only[itL,zAf]at hi
   subst hi;have e:l.drop k++[]=[]:=by simp[hd]
   simp(disch:=omega) [-zAa,he,itL]
  ·have hxm:=zAc hx
   have hcn:=uG hxm;have hrx:=hrec x hxm (itL l (l.drop (k+1)) (k+1)++more) (deep+1) (by omega)
   simp only[itL,zAb,zAd,Bu]at hi;replace hi:=hid hi;rw[hd];simp only[itL,Bu,zAh,List.append_assoc];by_cases ht:t (l,k)=true
   ·rw[dY,if_pos ht]
    generalize hG:dY itV t (itL x.kids x.kids 0++(itL l (l.drop (k+1)) (k+1)++more))=G at hrx⊢;simp(disch:=omega) [-zAa,itV,hx];rw[show((deep+1:Nat):Int)=(deep:Int)+1 by omega]at hrx
    refine aw [2] 1 [0] (by simp) (by simp) (by simp) (by simp) hrx (by simp) fun _ _=>?_
    by_cases ha:(itL x.kids x.kids 0).all t=true
    ·rw[ha]
     simp(disch:=omega) [-zAa,hx];have hi:=hi.out;rw[ht,ha]at hi;refine hN.out _<|Nx.mk (k+1) (by simp) ⟨by omega,by simpa using hi⟩ (by omega)
    ·have ha':(itL x.kids x.kids 0).all t=false:=by simpa using ha
     have hi:=hi.out;rw[ht,ha']at hi;simp only[zBc,zBa]at hi;subst hi;rw[ha'];simp(disch:=omega) [-zAa,hx]
   ·rw[dY,if_neg ht]
    have hi:=hi.out;have ht':t (l,k)=false:=by simpa using ht
    rw[ht']at hi;simp only[zBa]at hi;subst hi;simp(disch:=omega) [-zAa,itV]
 have all:∀l:List Node,∀n∈l,∀(more:List (List Node×Nat))(deep:Nat),al n.kids+deep<1000->
  FnH Tryz.prog kV [2] [.seq 5 (n.kids.map Node.v),.int .i64 deep,.ref 0 0] [some (.gh (dY itV t (itL n.kids n.kids 0++more)))] (.bool ((itL n.kids n.kids 0).all t)) [some (.gh (if(itL n.kids n.kids 0).all t then dY itV t more else[]))]:=by
  refine aN (fun x hx=>by cases hx) ?_
  intro n l h1 h2 x hx;rcases zBb.1 hx with rfl|hx
  ·exact key _ h1
  ·exact h2 x hx
 exact fun l=>key l (all l)
theorem Cw(t:List Node×Nat->Bool)(l:List Node)(hc:al l<1000):
 FnH Tryz.prog kW [0] [.ref 0 0,.ptr 1 0] [some (.gh (dY itV t (itL l l 0))),some (.box [.seq 5 (l.map Node.v)])] (.tup []) [some (.gh [])]:=by
 refine FnH.of_image mixed qW BR rfl fun ho hh=>?_;unfold rI;clear ho hh;have hw:=GH t l [] 0 (by omega)
 rw[List.append_nil]at hw;have e:(if(itL l l 0).all t=true then dY itV t []else[])=[]:=by split<;>rfl
 rw[e]at hw;generalize dY itV t (itL l l 0)=G at hw⊢;simp(disch:=omega) [-zAa];refine aw [2] 1 [0] (by simp) (by simp) (by simp) (by simp) hw (by simp) fun _ _=>?_
 simp(disch:=omega) [-zAa]
theorem GI(l:List Node):FnH Tryz.prog FW [] [.seq 5 (l.map Node.v)] [] (.fn (.func kW) [] [.ptr 0 0]) [some (.box [.seq 5 (l.map Node.v)])]:=by
 refine FnH.of_image mixed Gl Gd rfl fun ho hh=>?_;unfold w5;clear ho hh;simp(disch:=omega) [-zAa]
theorem ly{st:Nat->St}{stx:St}{ks:List Nat}{i:Nat}{b:Bool}{τ:St}(hb:b=true)(h:τ.nrm ks=st (i+1)):Fb st stx ks i b .norm τ:=⟨hb,[],τ,rfl,h⟩
theorem n6{st:Nat->St}{stx:St}{ks:List Nat}{i:Nat}{b:Bool}{τ:St}(hb:b=false)(h:τ.nrm ks=stx):Fb st stx ks i b .ret τ:=⟨hb,[],τ,rfl,h⟩
def Mp(x:List Node×Nat):Bool:=decide (kw x=0)
theorem JP(l:List Node)(hf:ap ku l)(hc:al l<1000):Fn Tryz.prog I7 [.seq 5 (l.map Node.v)] (.int .i64 (may l)):=by
 refine FnE.fn ?_;refine FnE.of_rng mixed JG Jz rfl (full:=dY itV Mp (itL l l 0)) (st:=fun _=>⟨[(2,.ptr 0 0)],[some (.box [.int .i64 0])]⟩) (stx:=⟨[(2,.ptr 0 0)],[some (.box [.int .i64 (may l)])]⟩) ?_ ?_ ?_ ?_ ?_ ?_
 ·intro i us b h
  obtain⟨x,h1,h2,h3,h4⟩:=m9 _ _ _ _ _ _ h;simp only[itV,V.tup.injEq]at h2;subst h2;rfl
 ·exact fun i v h=>sA _ _ _ _ _ h
 ·intro ho
  clear ho;unfold kC;simp only[tJ];simp(disch:=omega) [-zAa,ent];refine aw [] 0 [] (by simp) (by simp) (by simp) (by simp) (GI l) (by simp) fun _ _=>?_
  simp(disch:=omega) [-zAa,G9];exact⟨kW,1,⟨rfl,rfl⟩,_,rfl,_,by simp,rfl,enters_of qW (by kernel_rfl) rfl,Cw Mp l hc⟩
 ·intro i us b h
  obtain⟨x,h1,h2,h3,h4⟩:=m9 _ _ _ _ _ _ h;simp only[itV,V.tup.injEq]at h2;subst h2;unfold kC;obtain⟨n,hn,hfn,hrl⟩:=P8 (m:=1000) l l 0 rfl hf (by omega) x (zAc h1)
  obtain⟨row,j⟩:=x;simp only at hn hrl;have hj:j<row.length:=(List.getElem?_eq_some_iff.1 hn).1;have herr:kw (row,j)=qC n (fv row j):=by simp[kw,hn]
  have hmay:¬qC n (fv row j)=0->may l=qC n (fv row j):=by
   intro hx;rw[<-herr]at hx⊢;have:=Aj _ _ _ h1 h4 hx;rw[wy l l 0 rfl]at this;simpa[may,fv]using this
  have hb:b=decide (qC n (fv row j)=0):=by rw[h3,Mp,herr]
  have hck:=EI n (fv row j) hfn;clear h h3 h4 herr h1;by_cases hj0:0<j
  ·obtain⟨m,hm⟩:=a8 (l:=row) (k:=j-1) (by omega)
   have e:((j:Int)-1).toNat=j-1:=by omega
   have hpv:fv row j=decide (m.kind=2):=by simp[fv,hj0,hm]
   generalize fv row j=pv at *;simp(disch:=omega) [-zAa,tK,hj0,e,hm,hn,<-hpv];refine ae (by simpa using hck) rfl fun _=>?_
   simp(disch:=omega) [-zAa];refine BrKd.mk (fun h=>?_) (fun h=>?_)
   ·simp(disch:=omega) [-zAa,h]
    exact ly (by rw[hb,h];rfl) rfl
   ·simp(disch:=omega) [-zAa,h]
    exact n6 (by rw[hb];simp[h]) (by rw[hmay h];rfl)
  ·have hpv:fv row j=false:=by simp[fv,hj0]
   rw[hpv]at hck hb hmay;simp(disch:=omega) [-zAa,tK,hj0,hn];refine ae (by simpa using hck) rfl fun _=>?_
   simp(disch:=omega) [-zAa];refine BrKd.mk (fun h=>?_) (fun h=>?_)
   ·simp(disch:=omega) [-zAa,h]
    exact ly (by rw[hb,h];rfl) rfl
   ·simp(disch:=omega) [-zAa,h]
    exact n6 (by rw[hb];simp[h]) (by rw[hmay h];rfl)
 ·intro h
  unfold kC
  have h0:may l=0:=by
   have:=(wP itV Mp (itL l l 0)).1 h;rw[show(itL l l 0).all Mp=(itL l l 0).all fun x=>decide (kw x=0)from rfl,wz,wy l l 0 rfl]at this
   simpa[may,fv]using this
  rw[h0];simp only[tJ];simp(disch:=omega) [-zAa];exact⟨by simp(disch:=omega) [-zAa],rfl⟩
 ·intro h
  exact⟨by simp(disch:=omega) [-zAa,kC],rfl⟩
attribute [simp] DP zW Q2 TV CX a_trc Ix aS
def AV(l:List Str):V:=.seq 1 (l.map .str)
def clM:List (V×V):=[(.str [112],AV (bh [112])),(.str [108,105],AV (bh [108,105])),(.str [100,116],AV (bh [100,116])),(.str [100,100],AV (bh [100,100])),(.str [111,112,116,105,111,110],AV (bh [111,112,116,105,111,110])),(.str [116,100],AV (bh [116,100])),(.str [116,114],AV (bh [116,114]))]
theorem ui:FnH Tryz.prog tS [] [] [] (.ref 0 0) [some (.mp ktS1 clM)]:=by
 refine FnH.of_image mixed ud tZ rfl fun ho hh=>?_;unfold lW;clear ho hh;simp(disch:=omega) [-zAa,l5,uD,bn,kOf,aI,aY,eK];rfl
theorem Qu(o:Str):pN (.str o) clM=if bh o=[]then none else some (AV (bh o)):=by
 simp only[clM,pN,uD,decide_eq_true_eq];by_cases h1:o=[112]
 ·subst h1;rfl
 by_cases h2:o=[108,105]
 ·subst h2;rfl
 by_cases h3:o=[100,116]
 ·subst h3;rfl
 by_cases h4:o=[100,100]
 ·subst h4;rfl
 by_cases h5:o=[111,112,116,105,111,110]
 ·subst h5;rfl
 by_cases h6:o=[116,100]
 ·subst h6;rfl
 by_cases h7:o=[116,114]
 ·subst h7;rfl
 ·simp[bh,h1,h2,h3,h4,h5,h6,h7]
theorem wG(o b:Str):Fn Tryz.prog vA [.str o,.str b] (.bool (jT o b)):=by
 refine Fn.of_imageE mixed wk vV rfl fun ho=>?_;unfold np;simp only[oks,ok,and_true]at ho;clear ho;simp(disch:=omega) [-zAa];refine aw [] 0 [] (by simp) (by simp) (by simp) (by simp) ui (by simp) fun _ _=>?_
 have hg:=Qu o;by_cases he:bh o=[]
 ·rw[if_pos he]at hg
  simp(disch:=omega) [-zAa,hg,bn,kOf,aI,aY,eK];have hc:=f_slices_Contains_string [] b;refine ae (by simpa using hc) rfl fun _=>?_
  simp(disch:=omega) [-zAa,jT,he]
 ·rw[if_neg he]at hg
  simp(disch:=omega) [-zAa,hg,bn,kOf,aI,aY,eK,AV];refine ae (f_slices_Contains_string (bh o) b) rfl fun _=>?_;simp(disch:=omega) [-zAa,jT]
theorem Cv(par:Str)(n:Node)(hp:par.length<=1000000)(ht:n.text.length<=100000000):Fn Tryz.prog Bk [.str par,n.v] (.bool (fk par n)):=by
 refine Fn.of_image mixed Cb BQ rfl fun ho=>?_;unfold rH;simp only[oks,ok,and_true]at ho;clear ho;simp(disch:=omega) [-zAa,fk];refine ae (GJ par) rfl fun _=>?_;simp(disch:=omega) [-zAa];refine BrK.mk (fun h1=>?_) (fun h1=>?_)
 ·simp(disch:=omega) [-zAa,h1]
 ·simp(disch:=omega) [-zAa,h1]
  refine ae (An par) rfl fun _=>?_;simp(disch:=omega) [-zAa];refine BrK.mk (fun h2=>?_) (fun h2=>?_)
  ·simp(disch:=omega) [-zAa,h2]
   refine BrKd.mk (fun hk=>?_) (fun hk=>?_)
   ·simp(disch:=omega) [-zAa,hk]
    have e:n.text++[60,47]++par++[62]=n.text++60::47::(par++[62]):=by simp
    have hE:=Ci (n.text++[60,47]++par++[62]) par (by simp;omega) hp
    rw[e]at hE;refine aF hE rfl ?_;simp(disch:=omega) [-zAa,hk]
   ·simp(disch:=omega) [-zAa,hk]
  ·simp(disch:=omega) [-zAa,h2]
   refine BrKd.mk (fun h3=>?_) (fun h3=>?_)
   ·simp(disch:=omega) [-zAa,h3]
    refine ae (wG par n.name) rfl fun _=>?_;simp(disch:=omega) [-zAa,h3]
   ·simp(disch:=omega) [-zAa,h3]
def sV(par:Str)(n:Node):Bool:=fk par n&&(!decide (n.kind=3)|| !je kF n.text)
theorem yX(par:Str)(n:Node)(hp:par.length<=1000000)(ht:n.text.length<=100000000):Fn Tryz.prog oF [.str par,.sptr n.v 0] (.bool (sV par n)):=by
 refine Fn.of_image mixed yG yc rfl fun ho=>?_;unfold ph;simp only[oks,ok,and_true]at ho;clear ho;simp(disch:=omega) [-zAa,sV];refine ae (by simpa using Cv par n hp ht) rfl fun _=>?_
 simp(disch:=omega) [-zAa];refine BrK.mk (fun h1=>?_) (fun h1=>?_)
 ·simp(disch:=omega) [-zAa,h1]
  refine BrKd.mk (fun h2=>?_) (fun h2=>?_)
  ·simp(disch:=omega) [-zAa,h2]
   have hc:=p4 n.text kF (by omega)
   rw[<-v6 kF (by simp[kF])]at hc
   refine ae hc rfl fun _=>?_;simp(disch:=omega) [-zAa,h2]
  ·simp(disch:=omega) [-zAa,h2]
 ·simp(disch:=omega) [-zAa,h1]
def lF(x:Str×List Node):V:=.strct [.str x.1,.seq 5 (x.2.map Node.v)]
def qv(of:Str)(row:List Node):Bool:=!(raw of&&decide (1<row.length))&&row.all (sV of)
mutual
def Le:Node->Bool
 |⟨_,nm,_,_,ks⟩=>qv nm ks&&rU ks
def rU:List Node->Bool
 |[]=>true
 |n::l=>Le n&&rU l
end
theorem AR(n:Node):Le n=(qv n.name n.kids&&rU n.kids):=by cases n;simp[Le]
def ny(x:Str×List Node):Bool:=qv x.1 x.2&&rU x.2
def nC(l:List Node):Bool:=decide (may l=0)&&ny ([],l)
def kX:List (Str×List Node)->Nat
 |[]=>0
 |x::l=>1+al x.2+kX l
theorem mJ:∀(a b:List (Str×List Node)),kX (a++b)=kX a+kX b
 |[],b=>by simp[kX]
 |x::a,b=>by simp only[zAh,kX,mJ a b];omega
theorem vI:∀S:List (Str×List Node),S.length<=kX S
 |[]=>by simp
 |x::S=>by have:=vI S;simp only[List.length_cons,kX];omega
theorem wF(l:List Node)(hf:ap ku l)(hc:al l<1000):Fn Tryz.prog vz [.seq 5 (l.map Node.v)] (.bool (nC l)):=by
 refine Fn.of_imageE mixed wj vU rfl fun ho=>?_;unfold nn;simp only[oks,ok,and_true]at ho;clear ho;simp(disch:=omega) [-zAa,nC];refine ae (JP l hf hc) rfl fun _=>?_;simp(disch:=omega) [-zAa];refine BrKd.mk (fun h1=>?_) (fun h1=>?_)
 ·simp(disch:=omega) [-zAa,h1]
  generalize hR:ny ([],l)=R
  refine an (fun(S:List (Str×List Node))=>⟨[(3,.ref 0 S.length)],[some (.arr c8 2 (S.map lF))]⟩)
   (fun S=>S.all ny=R/\kX S<=1001/\∀x∈S,x.1.length<=1000000/\ap ku x.2) (fun S=>kX S) [] _ [([],l)] rfl (by simp[lF]) ?_ ?_
  ·refine⟨by simp[hR],by simp[kX];omega,?_⟩
   intro x hx;simp only[zAg]at hx;subst hx;exact⟨by simp,hf⟩
  rintro S ⟨hi,hm,hall⟩ N hN;rcases List.eq_nil_or_concat S with rfl|⟨S',x,rfl⟩
  ·simp at hi
   subst hi;simp(disch:=omega) [-zAa]
  ·obtain⟨of,row⟩:=x
   simp only[List.concat_eq_append]at *;have hsl:S'.length<=1001:=by have:=vI (S'++[(of,row)]);simp at this;omega
   have hget:((S'++[(of,row)]).map lF)[S'.length]?=some (lF (of,row)):=by simp[getElem?_pos]
   have htk:((S'++[(of,row)]).map lF).take S'.length=S'.map lF:=by simp[List.map_append,List.take_append]
   have hlm:((S'++[(of,row)]).map lF).length=S'.length+1:=by simp
   generalize hG:(S'++[(of,row)]).map lF=G at hget htk hlm;have hl2:(S'++[(of,row)]).length=S'.length+1:=by simp
   simp only[hl2,hG];have hx0:=hall (of,row) (by simp)
   have hS':∀x∈S',x.1.length<=1000000/\ap ku x.2:=fun x hx=>hall x (by simp[hx])
   have hms:kX (S'++[(of,row)])=kX S'+(1+al row):=by simp[mJ,kX]
   simp only[zAd,zAb,zAf,zBd]at hi;have hrl:=lj row;replace hi:=hid hi
   have inner:∀hnr:(raw of&&decide (1<row.length))=false,W (Cn Tryz.prog) (.loop [3,4,38,39] (Q [.reg [bt 40 .lss 39 38] [3,4,38,39,40],
    C 40 (.skip) (.exit 2),
    .block 3 (Q [.reg [m 41 39,m 5 41] [3,4,5,38,39],
     .reg [fa 42 4 1,l1 43 42,m 44 5,ia 45 43 44 5,m 6 45] [3,4,6,38,39],
     Q [.reg [fa 46 4 0,l1 47 46,m 48 6,ca 49 oF [47,48],nt' 50 49] [3,4,6,38,39,50],
      C 50 (Q [.reg [mb 2 false] [2],
        .ret]) (.skip)],
     .reg [m 51 6,o1 52 (.nlc (.t 51)),fa 53 52 4,l1 54 53,lq 55 54,bi 56 .gtr 55 0] [3,4,6,38,39,56],
     C 56 (.regD [m 57 3,m 58 6,o1 59 (.nlc (.t 58)),fa 60 59 1,l1 61 60,m 62 6,o1 63 (.nlc (.t 62)),fa 64 63 4,l1 65 64,o1 66 (.bld [.str [],.nil 5] [(0,1,(.t 61)),(1,1,(.t 65))]),o1 67 (.ltr c8 2 [.t 66]),o1 68 (.app (.t 57) (.t 67) c8 2 40),m 3 68] [3,4,38,39]) (.skip)]),
    .reg [bi 69 .add 39 1,m 39 69] [3,4,38,39]])) (Ex.inBlock 2 (Ex.inBlock 1 (Ex.then N (Ex.inBlock 0 (Ex.then (W (Cn Tryz.prog) (Q [.reg [mb 2 true] [2],.ret]) (Res [RV.t 2] fun x=>x=V.bool R)) (Res [RV.t 2] fun x=>x=V.bool R))))))
    ⟨[(3,.ref 2 S'.length),(4,.ptr 1 0),(38,.int .i64 row.length),(39,.int .i64 0)],[none,some (.box [.str of,.seq 5 (row.map Node.v)]),some (.arr c8 2 (S'.map lF))]⟩:=by
    intro hnr
    refine an (fun(q:Nat×List (Str×List Node))=>⟨[(3,.ref 0 q.2.length),(4,.ptr 1 0),(38,.int .i64 row.length),(39,.int .i64 q.1)],[some (.arr c8 2 (q.2.map lF)),some (.box [.str of,.seq 5 (row.map Node.v)])]⟩)
     (fun q=>q.1<=row.length/\(q.2.all ny&&((row.drop q.1).all (sV of)&&rU (row.drop q.1)))=R/\kX q.2+al (row.drop q.1)<=kX S'+al row/\∀x∈q.2,x.1.length<=1000000/\ap ku x.2)
     (fun q=>row.length-q.1) [] _ (0,S') rfl (by simp) ⟨by simp,by have hi:=hi.out;simpa[ny,qv,hnr]using hi,by simp,hS'⟩ ?_
    rintro⟨k,S2⟩ ⟨hk,hi2,hm2,hall2⟩ N2 hN2;simp only at hk hi2 hm2 hall2;rcases place row k hk with⟨he,hd⟩|⟨hlt,x,hx,hd⟩<;>rw[hd]at hi2 hm2
    ·simp[rU]at hi2
     simp only[al]at hm2;simp(disch:=omega) [-zAa,he];exact hN.out _<|Nx.mk S2 (by simp) ⟨hi2,by omega,hall2⟩ (by simp only[hms];omega)
    ·simp only[zAb,rU,al,dZ]at hi2 hm2
     have hfx:=fJ hx0.2 (zAc hx);have hs2l:=vI S2;replace hi2:=hid hi2;simp(disch:=omega) [-zAa,hx];refine ae (by simpa using yX of x hx0.1 (by have:=hfx.1.2.1;omega)) rfl fun _=>?_
     simp(disch:=omega) [-zAa];refine BrK.mk (fun h=>?_) (fun h=>?_)
     ·simp(disch:=omega) [-zAa,h]
      refine BrKd.mk (fun h3=>?_) (fun h3=>?_)
      ·simp(disch:=omega) [-zAa,h3]
       have hi2:=hi2.out;have hss:Le x=ny (x.name,x.kids):=by simp[AR,ny]
       have hms2:kX (S2++[(x.name,x.kids)])=kX S2+(1+al x.kids):=by simp[mJ,kX]
       refine hN2.out _<|Nx.mk (k+1,S2++[(x.name,x.kids)]) (by simp[lF]) ⟨by simp only;omega,?_,by simp only[hms2];omega,?_⟩ (by simp only;omega)
       ·rw[h,hss]at hi2
        rw[<-hi2];simp only[zAd,zAb,zAf,zBd,zBc];cases S2.all ny<;>cases ny (x.name,x.kids)<;>simp
       ·intro y hy
        rcases zAi.1 hy with hy|hy
        ·exact hall2 y hy
        ·simp only[zAg]at hy
         subst hy;exact⟨hfx.1.1,hfx.2⟩
      ·have hk0:x.kids=[]:=List.eq_nil_of_length_eq_zero (by omega)
       simp(disch:=omega) [-zAa,h3];have hi2:=hi2.out;have hss:Le x=true:=by simp[AR,qv,hk0,rU]
       rw[hss,h]at hi2;exact hN2.out _<|Nx.mk (k+1,S2) (by simp) ⟨by simp only;omega,by simpa using hi2,by simp only;omega,hall2⟩ (by simp only;omega)
     ·simp(disch:=omega) [-zAa,h]
      have hi2:=hi2.out;simp[h]at hi2;simp[<-hi2]
   simp(disch:=omega) [-zAa,lF,hget,htk,hlm];refine ae (An of) rfl fun _=>?_;simp(disch:=omega) [-zAa];refine BrK.mk (fun h=>?_) (fun h=>?_)
   ·simp(disch:=omega) [-zAa,h]
    refine BrKd.mk (fun h2=>?_) (fun h2=>?_)
    ·simp(disch:=omega) [-zAa,h2]
     have hi:=hi.out;simp[ny,qv,h,h2]at hi;simp[<-hi]
    ·simp(disch:=omega) [-zAa,h2]
     exact inner (by simp[h];omega)
   ·simp(disch:=omega) [-zAa,h]
    exact inner (by simp[h])
 ·simp(disch:=omega) [-zAa,h1]
end Go.Abs.F
end
