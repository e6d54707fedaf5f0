/- Plain: nodes with where they stand, each ahead of its kids; the first one that is not allowed. No condition. -/
import Derived.Test.YtedmnakfknbabaaGreatDoorAP3
set_option linter.all false
set_option maxHeartbeats 0
set_option maxRecDepth 100000
open List renaming reduceReplicate→zAa,length_cons→zAc,all_cons→zAe,map_map→zAf
open Option renaming not_isSome→zAb
open Bool renaming and_eq_true→zAd
section
namespace Go.Abs.F
open Go.Proofs
abbrev Pl:Type:=(Int×Str)×Node
mutual
def plK:Node->List Pl
 |⟨k,nm,_,_,ks⟩=>plL k nm ks
def plL:Int->Str->List Node->List Pl
 |_,_,[]=>[]
 |k,par,n::l=>((k,par),n)::(plK n++plL k par l)
end
theorem vg(n:Node):plK n=plL n.kind n.name n.kids:=by cases n;simp[plK]
def plV(x:Pl):V:=.tup [.strct [.int .i64 x.1.1,.str x.1.2],x.2.v]
abbrev Lv:Type:=(Int×Str)×List Node
def oe(x:Lv):V:=.strct [.int .i64 x.1.1,.str x.1.2,.seq 5 (x.2.map Node.v)]
def vc:List Lv->List Pl
 |[]=>[]
 |x::S=>vc S++plL x.1.1 x.1.2 x.2
theorem nM:∀(S:List Lv)(x:Lv),vc (S++[x])=plL x.1.1 x.1.2 x.2++vc S
 |[],x=>by simp[vc]
 |y::S,x=>by simp[vc,nM S x]
def wS:List Lv->Nat
 |[]=>0
 |x::S=>1+2*al x.2+wS S
theorem rT:∀(a b:List Lv),wS (a++b)=wS a+wS b
 |[],b=>by simp[wS]
 |x::a,b=>by simp only[List.cons_append,wS,rT a b];omega
theorem Mz:∀S:List Lv,S.length<=wS S
 |[]=>by simp
 |x::S=>by have:=Mz S;simp only[zAc,wS];omega
theorem Py:∀(l:List Node)(k:Int)(par:Str),(plL k par l).length=al l:=by
 refine aN (fun k par=>by simp[plL,al]) ?_
 intro n l h1 h2 k par;simp only[plL,zAc,List.length_append,vg,al,dZ,h1,h2];omega
def r7{α:Type}(t:α->Bool):Nat->List α->Int
 |_,[]=>-1
 |i,x::l=>if t x then r7 t (i+1) l else i
theorem HD{α:Type}(t:α->Bool):∀(l:List α)(i k:Nat)(x:α),l[i]?=some x->(l.take i).all t=true->t x=false->r7 t k l=(k+i:Nat)
 |[],i,k,x,h,_,_=>by simp at h
 |y::l,0,k,x,h,_,hx=>by
   simp at h;subst h;simp[r7,hx]
 |y::l,i+1,k,x,h,ha,hx=>by
   simp only[List.take_succ_cons,zAe,zAd]at ha;simp only[r7];rw[if_pos ha.1,HD t l i (k+1) x (by simpa using h) ha.2 hx]
   congr 1;omega
theorem Dv{α:Type}(t:α->Bool):∀(l:List α)(k:Nat),l.all t=true->r7 t k l=-1
 |[],k,_=>rfl
 |y::l,k,ha=>by
   simp only[zAe,zAd]at ha;simp only[r7];rw[if_pos ha.1,Dv t l (k+1) ha.2]
end Go.Abs.F
end
section
namespace Go.Abs.F
open Go.Proofs
attribute [-simp] getElem?_pos zAb zAf
theorem j4{Φ:Ctr}{σ:St}{ks:List Nat}{a b:OT}{Q:Ex->St->Prop}(S:St)(h:∀Q:Ex->St->Prop,Q .norm S->rS Φ a b (I4 Q ks) σ)(k:Q .norm S):rS Φ a b (I4 Q ks) σ:=h Q k
theorem wJ(t:Pl->Bool)(l:List Node)(hc:al l<1000):
 FnH Tryz.prog iM [0] [.ref 0 0,.ptr 1 0] [some (.gh (dY plV t (plL 0 [] l))),some (.box [.seq 5 (l.map Node.v)])] (.tup []) [some (.gh [])]:=by
 refine FnH.of_image mixed mW vY rfl fun ho hh=>?_;unfold ns;clear ho hh;simp(disch:=omega) [-zAa]
 refine an (fun(S:List Lv)=>⟨[(0,.ref 0 0),(3,.ref 1 S.length)],[some (.gh (dY plV t (vc S))),some (.arr iC 3 (S.map oe))]⟩)
  (fun S=>wS S<=2001) (fun S=>wS S) [] _ [((0,[]),l)] rfl (by simp[oe,vc]) (by simp[wS];omega) ?_
 rintro S hw N hN;rcases List.eq_nil_or_concat S with rfl|⟨S',x,rfl⟩
 ·simp(disch:=omega) [-zAa,vc,dY]
 ·obtain⟨⟨k,par⟩,left⟩:=x
  simp only[List.concat_eq_append]at *;have hsl:S'.length<=2001:=by have:=Mz (S'++[((k,par),left)]);simp at this;omega
  have hws:wS (S'++[((k,par),left)])=wS S'+(1+2*al left):=by simp[rT,wS]
  have hget:((S'++[((k,par),left)]).map oe)[S'.length]?=some (oe ((k,par),left)):=by simp[getElem?_pos]
  have htk:((S'++[((k,par),left)]).map oe).take S'.length=S'.map oe:=by simp[List.map_append,List.take_append]
  have hlm:((S'++[((k,par),left)]).map oe).length=S'.length+1:=by simp
  have hl2:(S'++[((k,par),left)]).length=S'.length+1:=by simp
  rw[nM];simp only[hl2];cases left with
  |nil=>
    generalize hG:(S'++[((k,par),([]:List Node))]).map oe=G at hget htk hlm;simp(disch:=omega) [-zAa,oe,hget,htk,hlm,plL];exact hN.out _<|Nx.mk S' (by simp) (by omega) (by simp only[hws];omega)
  |cons n left=>
    generalize hG:(S'++[((k,par),n::left)]).map oe=G at hget htk hlm;simp(disch:=omega) [-zAa,oe,hget,htk,hlm,plL];generalize hY:dY plV t (((k,par),n)::(plK n++(plL k par left++vc S')))=Y
    refine j4 ⟨[(0,.ref 0 0),(3,.ref 1 (S'.length+1)),(4,.eptr 1 (S'.length+1) S'.length 0),(5,.ptr 2 0),(6,.ptr 3 0)],
     [some (.gh Y),some (.arr iC 3 G),some (.box [.int .i64 k,.str par]),some (.box [.int .i64 n.kind,.str n.name,.seq 2 (n.attrs.map Attr.v),.str n.text,.seq 5 (n.kids.map Node.v)])]⟩ (fun F hF=>?_) ?_
    ·clear hN
     repeat' first|(with_reducible exact hF)|(with_reducible refine rS.mk ?_ ?_)|simp(disch:=omega) [-zAa,oe,hget,hlm]
    have tk:(left.map Node.v).take left.length=left.map Node.v:=List.take_of_length_le (by simp)
    have hset:G.set S'.length (.strct [.int .i64 k,.str par,.seq 5 (left.map Node.v)])=S'.map oe++[.strct [.int .i64 k,.str par,.seq 5 (left.map Node.v)]]:=by
     rw[<-hG];simp[oe]
    have hrem:vc (S'++[((k,par),left),((n.kind,n.name),n.kids)])=plK n++(plL k par left++vc S'):=by
     rw[show S'++[((k,par),left),((n.kind,n.name),n.kids)]=(S'++[((k,par),left)])++[((n.kind,n.name),n.kids)] by simp,nM,nM,vg]
    have hw2:wS (S'++[((k,par),left),((n.kind,n.name),n.kids)])+1<=wS (S'++[((k,par),n::left)]):=by
     simp only[rT,wS,al,dZ];omega
    simp(disch:=omega) [-zAa,oe,hget,hlm];by_cases ht:t ((k,par),n)=true
    ·rw[dY,if_pos ht]at hY
     subst hY;simp(disch:=omega) [-zAa,plV,hset,tk];refine hN.out _<|Nx.mk (S'++[((k,par),left),((n.kind,n.name),n.kids)]) (by simp[hrem,oe]) (by omega) (by omega)
    ·rw[dY,if_neg ht]at hY
     subst hY;simp(disch:=omega) [-zAa,plV,hset,tk]
theorem Cx(l:List Node):FnH Tryz.prog Bl [] [.seq 5 (l.map Node.v)] [] (.fn (.func iM) [] [.ptr 0 0]) [some (.box [.seq 5 (l.map Node.v)])]:=by
 refine FnH.of_image mixed Cc BS rfl fun ho hh=>?_;unfold rJ;clear ho hh;simp(disch:=omega) [-zAa]
def okQ(H:Allowed->List Attr->Bool)(p:Policy)(x:Pl):Bool:=nB p x.1.1 x.1.2 x.2&&(!decide (x.2.kind=1)||H ((aU p.elements x.2.name).getD .zero) x.2.attrs)
def xn(H:Allowed->List Attr->Bool)(p:Policy)(l:List Node):Int:=r7 (okQ H p) 0 (plL 0 [] l)
abbrev polC(p:Policy):List V:=[.seq 1 (p.top.map .str),.seq 3 (p.elements.map Allowed.v),.seq 1 (p.unwrap.map .str)]
def rP(H:Allowed->List Attr->Bool)(p:Policy)(l:List Node):Prop:=∀(i:Nat)(x:Pl),(plL 0 [] l)[i]?=some x->((plL 0 [] l).take i).all (okQ H p)=true->nB p x.1.1 x.1.2 x.2=true->x.2.kind=1->
 Fn Tryz.prog oG [((aU p.elements x.2.name).getD .zero).v,.seq 2 (x.2.attrs.map Attr.v)] (.bool (H ((aU p.elements x.2.name).getD .zero) x.2.attrs))
theorem tm(H:Allowed->List Attr->Bool)(p:Policy)(l:List Node)(hc:al l<1000)(hH:rP H p l):Fn Tryz.prog DJ [p.v,.seq 5 (l.map Node.v)] (.int .i64 (xn H p l)):=by
 refine FnE.fn ?_
 refine FnE.of_rng mixed En D9 rfl (full:=dY plV (okQ H p) (plL 0 [] l))
  (st:=fun i=>⟨[(2,.ptr 0 0),(4,.ptr 1 0),(5,.ptr 2 0)],[some (.box (polC p)),some (.box [.int .i64 0]),some (.box [.int .i64 i])]⟩)
  (stx:=⟨[(2,.ptr 0 0),(4,.ptr 1 0),(5,.ptr 2 0)],[some (.box (polC p)),some (.box [.int .i64 (xn H p l)]),some (.box [.int .i64 (xn H p l)])]⟩) ?_ ?_ ?_ ?_ ?_ ?_
 ·intro i us b h
  obtain⟨x,h1,h2,h3,h4⟩:=m9 _ _ _ _ _ _ h;simp only[plV,V.tup.injEq]at h2;subst h2;rfl
 ·exact fun i v h=>sA _ _ _ _ _ h
 ·intro ho
  clear ho;unfold gD;simp only[tJ];simp(disch:=omega) [-zAa,ent];refine aw [] 0 [] (by simp) (by simp) (by simp) (by simp) (Cx l) (by simp) fun _ _=>?_
  simp(disch:=omega) [-zAa,G9];exact⟨iM,3,⟨rfl,rfl⟩,_,rfl,_,by simp,rfl,enters_of mW (by kernel_rfl) rfl,wJ (okQ H p) l hc⟩
 ·intro i us b h
  obtain⟨x,h1,h2,h3,h4⟩:=m9 _ _ _ _ _ _ h;simp only[plV,V.tup.injEq]at h2;subst h2;have hil:i<1000:=by have:=(List.getElem?_eq_some_iff.1 h1).1;rw[Py]at this;omega
  have hHx:=hH i x h1 h4
  have hodd:okQ H p x=false->xn H p l=i:=fun hx=>by
   have:=HD _ _ _ 0 _ h1 h4 hx;simpa[xn]using this
  obtain⟨⟨k,par⟩,n⟩:=x;have hst:=wI p k par n;simp only at hHx;simp only[okQ]at h3 hodd;clear h h1 h4;unfold gD;simp(disch:=omega) [-zAa,tK];refine ae (by simpa using hst) rfl fun _=>?_
  simp(disch:=omega) [-zAa];refine BrK.mk (fun h=>?_) (fun h=>?_)
  ·simp(disch:=omega) [-zAa,h]
   rw[h]at h3 hodd;simp only[Bool.true_and]at h3 hodd;refine BrKd.mk (fun h2=>?_) (fun h2=>?_)
   ·have hHx:=hHx h h2
    simp only[h2,decide_true,Bool.not_true,Bool.false_or]at h3 hodd;simp(disch:=omega) [-zAa,h2];refine aP (fO p n.name) (by simp) fun _=>?_
    generalize(aU p.elements n.name).getD .zero=e at *;simp(disch:=omega) [-zAa];refine ae (by simpa using hHx) rfl fun _=>?_
    simp(disch:=omega) [-zAa];refine BrK.mk (fun h4=>?_) (fun h4=>?_)
    ·simp(disch:=omega) [-zAa,h4]
     exact ly (by rw[h3,h4]) rfl
    ·simp(disch:=omega) [-zAa,h4]
     exact n6 (by rw[h3,h4]) (by rw[hodd h4];rfl)
   ·simp only[h2,decide_false,Bool.not_false,Bool.true_or]at h3 hodd
    simp(disch:=omega) [-zAa,h2];exact ly h3 rfl
  ·rw[h]at h3 hodd
   simp only[Bool.false_and,true_implies]at h3 hodd;simp(disch:=omega) [-zAa,h];exact n6 h3 (by rw[hodd];rfl)
 ·intro h
  unfold gD;have h0:xn H p l=-1:=Dv _ _ _ ((wP plV (okQ H p) (plL 0 [] l)).1 h);rw[h0];simp only[tJ];simp(disch:=omega) [-zAa];exact⟨by simp(disch:=omega) [-zAa],rfl⟩
 ·intro h
  exact⟨by simp(disch:=omega) [-zAa,gD],rfl⟩
def pH(H:Allowed->List Attr->Bool)(p:Policy)(l:List Node):Bool:=nC l&&decide (xn H p l<0)
theorem eh(H:Allowed->List Attr->Bool)(p:Policy)(l:List Node)(hf:ap ku l)(hc:al l<1000)(hH:nC l=true->rP H p l):Fn Tryz.prog jJ [p.v,.seq 5 (l.map Node.v)] (.bool (pH H p l)):=by
 refine Fn.of_image mixed yL yh rfl fun ho=>?_;unfold pq;simp only[oks,ok,and_true]at ho;clear ho;simp(disch:=omega) [-zAa,pH];refine ae (wF l hf hc) rfl fun _=>?_;simp(disch:=omega) [-zAa];refine BrK.mk (fun h=>?_) (fun h=>?_)
 ·simp(disch:=omega) [-zAa,h]
  refine ae (by simpa using tm H p l hc (hH h)) rfl fun _=>?_
  simp(disch:=omega) [-zAa]
 ·simp(disch:=omega) [-zAa,h]
def H0:Allowed->List Attr->Bool:=fun _ _=>true
def A0:Policy:=⟨[],[],[]⟩
def Su:Policy:=⟨[eD],[],[]⟩
def mG:List Node:=[⟨2,[],[],[120],[]⟩]
theorem Tk(H:Allowed->List Attr->Bool)(p:Policy):rP H p []:=fun i x h=>by simp[plL]at h
theorem CE(H:Allowed->List Attr->Bool)(p:Policy):rP H p mG:=by
 intro i x h1 h2 h3 h4;cases i with
 |zero=>simp[plL,mG]at h1;subst h1;simp at h4
 |succ i=>simp[plL,mG,vg]at h1
theorem MY:ap ku mG:=by simp[mG,ap,d2,ku]
theorem oS:Fn Tryz.prog xH [] (.bool true):=by
 refine Fn.of_image mixed yH yd rfl fun ho=>?_;unfold pi;simp only[oks,ok,and_true]at ho;clear ho;have n1:pH H0 A0 []=true:=by decide
 have n2:pH H0 A0 mG=false:=by decide
 have n3:pH H0 Su mG=true:=by decide
 have n4:xn H0 A0 mG=0:=by decide
 have c1:=eh H0 A0 [] (by simp[ap]) (by simp[al]) (fun _=>Tk _ _)
 have c2:=eh H0 A0 mG MY (by simp[mG,al,dZ]) (fun _=>CE _ _)
 have c3:=eh H0 Su mG MY (by simp[mG,al,dZ]) (fun _=>CE _ _)
 have c4:=tm H0 A0 mG (by simp[mG,al,dZ]) (CE _ _)
 rw[n1]at c1;rw[n2]at c2;rw[n3]at c3;rw[n4]at c4;simp(disch:=omega) [-zAa];refine ae (by simpa[A0]using c1) rfl fun _=>?_
 simp(disch:=omega) [-zAa];refine ae (by simpa[A0,mG]using c2) rfl fun _=>?_
 simp(disch:=omega) [-zAa];refine ae (by simpa[Su,mG,eD]using c3) rfl fun _=>?_
 simp(disch:=omega) [-zAa];refine ae (by simpa[A0,mG]using c4) rfl fun _=>?_
 simp(disch:=omega) [-zAa]
end Go.Abs.F
end
section
namespace Go.Abs.F
open Go.Proofs
attribute [-simp] getElem?_pos zAb zAf
end Go.Abs.F
end
