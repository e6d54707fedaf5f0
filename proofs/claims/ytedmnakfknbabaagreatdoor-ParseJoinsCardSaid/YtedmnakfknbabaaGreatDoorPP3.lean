/- Plain: a walk through nodes, each ahead of its kid. -/
import Derived.Test.YtedmnakfknbabaaGreatDoorPF1
import Derived.Test.YtedmnakfknbabaaGreatDoorPW4
import Derived.Test.YtedmnakfknbabaaGreatDoorPP1
import Derived.Test.YtedmnakfknbabaaGreatDoorPB0
import Derived.Lib.IndexLaws
import Derived.Test.YtedmnakfknbabaaGreatDoorPP2
import Derived.Lib.IndexMore
import Derived.Test.YtedmnakfknbabaaGreatDoorPCodeQ
set_option linter.all false
set_option maxHeartbeats 0
set_option maxRecDepth 100000
open List renaming reduceReplicate→zAa,getElem?_eq_some_iff→zAb,length_drop→zAc,getElem?_append_left→zAd,take_of_length_le→zAe,getElem?_append_right→zAf,mem_cons→zAg,length_cons→zAh,getElem?_set_ne→zAi,map_cons→zAj,getElem?_set_self→zBa,length_nil→zBb,length_append→zBc,getElem?_concat_length→zBd,not_mem_nil→zBe,mem_of_getElem?→zBf,length_pos_iff→zBg,append_assoc→zBi,drop_eq_getElem_cons→zBj,mem_append→zCa,nodup_cons→zCb,eq_nil_of_length_eq_zero→zCc,getElem?_eq_getElem→zCf,append_nil→zCg,drop_drop→zCh,getElem?_eq_none→zCi,replicate→zCj,mem_map_of_mem→zDa,length_set→zDb,getElem?_cons_zero→zDd,all_cons→zDf,length_singleton→zDg,drop_zero→zDi,getLast?_eq_none_iff→zEa,getLast?_eq_some_iff→zEb,map_map→zEd,map_nil→zEe,getElem?_modify→zEj,mem_cons_of_mem→zFa,dropLast_concat→zFb,drop_succ_cons→zFd,getElem?_drop→zFe,length→zFf,cons_append→zFg,length_take→zFh,reverse_nil→zFj,take_left→zGb,mem_map→zGc
open Nat renaming le_refl→zBh,sub_self→zCd,lt_or_ge→zDc,zero_le→zDj,mul_le_mul_right→zEi,mod_eq_of_lt→zFi,succ_mul→zGd
open Option.some renaming injEq→zCe
open Option renaming not_isSome→zDe,map_some→zEf,some→zEg
open UInt8 renaming toNat_inj→zDh,ofNat→zGe
open Bool renaming and_eq_true→zEc,or_eq_false_iff→zEh,false_and→zGa
open Prod.mk renaming injEq→zFc
section
namespace Go.Abs.F
open Go.Proofs
mutual
def itK:Node->List (List Node×Nat)
 |⟨_,_,_,_,ks⟩=>itL ks ks 0
def itL:List Node->List Node->Nat->List (List Node×Nat)
 |_,[],_=>[]
 |row,n::l,i=>(row,i)::(itK n++itL row l (i+1))
end
theorem Du(n:Node):itK n=itL n.kids n.kids 0:=by cases n;simp[itK]
def itV(x:List Node×Nat):V:=.tup [.seq 5 (x.1.map Node.v),.int .i64 x.2]
def iA{α:Type}(v:α->V)(t:α->Bool):List α->List (V×Bool)
 |[]=>[]
 |x::l=>if t x then(v x,true)::iA v t l else[(v x,false)]
theorem Cm{α:Type}(v:α->V)(t:α->Bool):∀(l:List α)(i:Nat)(u:V),(iA v t l)[i]?=some (u,false)->i+1=(iA v t l).length
 |[],i,u,h=>by simp[iA]at h
 |x::l,i,u,h=>by
   unfold iA at h⊢;by_cases hx:t x=true
   ·rw[if_pos hx]at h⊢
    cases i with
    |zero=>simp at h
    |succ i=>simpa using Cm v t l i u (by simpa using h)
   ·rw[if_neg hx]at h⊢
    cases i with
    |zero=>simp
    |succ i=>simp at h
theorem y9{α:Type}(v:α->V)(t:α->Bool):∀(l:List α)(i:Nat)(u:V)(b:Bool),(iA v t l)[i]?=some (u,b)->∃x,l[i]?=some x/\u=v x/\b=t x/\(l.take i).all t=true
 |[],i,u,b,h=>by simp[iA]at h
 |x::l,i,u,b,h=>by
   unfold iA at h;by_cases hx:t x=true
   ·rw[if_pos hx]at h
    cases i with
    |zero=>simp at h;exact⟨x,by simp,h.1.symm,by rw[h.2,hx],by simp⟩
    |succ i=>
      obtain⟨y,h1,h2,h3,h4⟩:=y9 v t l i u b (by simpa using h)
      exact⟨y,by simpa using h1,h2,h3,by simp[hx,h4]⟩
   ·rw[if_neg hx]at h
    cases i with
    |zero=>simp at h;exact⟨x,by simp,h.1.symm,by simp at hx;rw[h.2,hx],by simp⟩
    |succ i=>simp at h
theorem HH{α:Type}(v:α->V)(t:α->Bool):∀(l:List α),(∀p∈iA v t l,p.2=true)↔l.all t=true
 |[]=>by simp[iA]
 |x::l=>by
   unfold iA;by_cases hx:t x=true
   ·rw[if_pos hx,List.forall_mem_cons,HH v t l,zDf,hx]
    simp
   ·rw[if_neg hx,zDf]
    simp[hx]
def mj(x:List Node×Nat):Int:=match x.1[x.2]? with
 |some n=>b5 n (bQ x.1 x.2)
 |none=>0
def eK:List (List Node×Nat)->Int
 |[]=>0
 |x::l=>if mj x=0 then eK l else mj x
theorem lK:∀(a b:List (List Node×Nat)),eK (a++b)=if eK a=0 then eK b else eK a
 |[],b=>by simp[eK]
 |x::a,b=>by
   by_cases h:mj x=0
   ·simp[eK,lK a b,h]
   ·simp[eK,lK a b,h]
theorem yR:∀(l:List Node)(row:List Node)(i:Nat),row.drop i=l->eK (itL row l i)=cK (bQ row i) l:=by
 refine aC (fun row i _=>by simp[itL,eK,cK]) ?_
 intro n l h1 h2 row i hd
 have hn:row[i]?=some n:=by
  have:=congrArg (fun m=>m[0]?) hd;simpa using this
 have hd2:row.drop (i+1)=l:=by rw[<-zCh,hd];rfl
 have e:bQ row (i+1)=decide (n.kind=2):=by simp[bQ,hn]
 simp only[itL,eK,cK,lK,Du,xh,mj,hn];rw[h1 n.kids 0 (by simp),h2 row (i+1) hd2,e]
 have:bQ n.kids 0=false:=by simp[bQ]
 rw[this]
theorem yS:∀l:List (List Node×Nat),(l.all fun x=>decide (mj x=0))=decide (eK l=0)
 |[]=>by simp[eK]
 |x::l=>by
   simp only[zDf,eK,yS l];by_cases h:mj x=0<;>simp[h]
theorem Ce:∀(l:List (List Node×Nat))(i:Nat)(x:List Node×Nat),l[i]?=some x->(l.take i).all (fun x=>decide (mj x=0))=true->¬mj x=0->eK l=mj x
 |[],i,x,h,_,_=>by simp at h
 |y::l,0,x,h,_,hx=>by
   simp at h;subst h;simp[eK,hx]
 |y::l,i+1,x,h,ha,hx=>by
   simp only[List.take_succ_cons,zDf,zEc,decide_eq_true_eq]at ha;simp only[eK];rw[if_pos ha.1];exact Ce l i x (by simpa using h) ha.2 hx
theorem Sn{P:Node->Prop}{m:Nat}:∀(l:List Node)(row:List Node)(i:Nat),row.drop i=l->ar P row->aj row<=m->∀x∈itL row l i,∃n,x.1[x.2]?=some n/\P n/\x.1.length<=m:=by
 refine aC (fun row i _ _ _ x hx=>by simp[itL]at hx) ?_
 intro n l h1 h2 row i hd ha hc x hx
 have hn:row[i]?=some n:=by
  have:=congrArg (fun m=>m[0]?) hd;simpa using this
 have hd2:row.drop (i+1)=l:=by rw[<-zCh,hd];rfl
 have hm:=zBf hn;have hp:=eZ ha hm;have hcm:=xl hm;simp only[itL,Du,zAg,zCa]at hx;rcases hx with rfl|hx|hx
 ·exact⟨n,hn,hp.1,by have:=c6 row;simp only;omega⟩
 ·exact h1 n.kids 0 rfl hp.2 (by omega) x hx
 ·exact h2 row (i+1) hd2 ha hc x hx
end Go.Abs.F
end
section
namespace Go.Abs.F
open Go.Proofs
attribute [-simp] getElem?_pos zDe zEd
theorem Hu(n:Node)(b:Bool)(hf:kx n):Fn Tryz.prog F3 [.sptr n.v 0,.bool b] (.int .i64 (b5 n b)):=by
 refine Fn.of_image mixed GX GB rfl fun ho=>?_;unfold wg;simp only[oks,ok,and_true]at ho;clear ho;have hla:0<n.attrs.length↔¬n.attrs=[]:=by rw[zBg]
 have hlk:0<n.kids.length↔¬n.kids=[]:=by rw[zBg]
 have hf2:=hf.2.1;by_cases h1:n.kind=1
 ·by_cases ht:n.text=[]
  ·simp(disch:=omega) [-zAa,b5,h1,ht]
   refine ac (by simpa[ht,h1]using A5 n hf ht) rfl fun _=>?_
   simp(disch:=omega) [-zAa]
  ·simp(disch:=omega) [-zAa,b5,h1,ht,gL]
 ·have hU:=yT n.text (by omega)
  simp only[b5,if_neg h1];generalize right n.text=R at hU⊢;simp(disch:=omega) [-zAa,h1]
  cases R<;>repeat' (first
   |(refine BrKd.mk (fun h=>?_) (fun h=>?_)<;>simp(disch:=omega) [hla,hlk, *])
   |(refine BrK.mk (fun h=>?_) (fun h=>?_)<;>simp(disch:=omega) [hla,hlk, *])
   |(refine ac hU rfl (fun _=>?_)<;>simp(disch:=omega) [hla,hlk, *]))
theorem Jq(t:List Node×Nat->Bool):∀(l:List Node)(more:List (List Node×Nat))(deep:Nat),aj l+deep<1000->
 FnH Tryz.prog mR [2] [.seq 5 (l.map Node.v),.int .i64 deep,.ref 0 0] [some (.gh (iA itV t (itL l l 0++more)))] (.bool ((itL l l 0).all t)) [some (.gh (if(itL l l 0).all t then iA itV t more else[]))]:=by
 have key:∀l:List Node,(∀n∈l,∀(more:List (List Node×Nat))(deep:Nat),aj n.kids+deep<1000->
  FnH Tryz.prog mR [2] [.seq 5 (n.kids.map Node.v),.int .i64 deep,.ref 0 0] [some (.gh (iA itV t (itL n.kids n.kids 0++more)))] (.bool ((itL n.kids n.kids 0).all t)) [some (.gh (if(itL n.kids n.kids 0).all t then iA itV t more else[]))])->
  ∀(more:List (List Node×Nat))(deep:Nat),aj l+deep<1000->
  FnH Tryz.prog mR [2] [.seq 5 (l.map Node.v),.int .i64 deep,.ref 0 0] [some (.gh (iA itV t (itL l l 0++more)))] (.bool ((itL l l 0).all t)) [some (.gh (if(itL l l 0).all t then iA itV t more else[]))]:=by
  intro l hrec more deep hdeep;refine FnH.of_image mixed Je I7 rfl fun ho hh=>?_;unfold zn;have hlen:l.length<=140737488355328:=by have:=ho.1.1;simpa using this
  clear ho hh;have hd0:¬deep=1000:=by omega
  simp(disch:=omega) [-zAa,hd0];generalize hR:(itL l l 0).all t=R
  refine ay (fun(k:Nat)=>⟨[(0,.seq 5 (l.map Node.v)),(1,.int .i64 deep),(2,.ref 0 0),(14,.int .i64 l.length),(15,.int .i64 k)],[some (.gh (iA itV t (itL l (l.drop k) k++more)))]⟩)
   (fun k=>k<=l.length/\(itL l (l.drop k) k).all t=R) (fun k=>l.length-k) [] _ 0 rfl (by simp) (by simp[hR]) ?_
  rintro k ⟨hk,hi⟩ N hN;rcases place l k hk with⟨he,hd⟩|⟨hlt,x,hx,hd⟩<;>rw[hd]at hi
  ·simp only[itL,List.all_nil]at hi
   subst hi;have e:l.drop k++[]=[]:=by simp[hd]
   simp(disch:=omega) [-zAa,he,itL]
  ·have hxm:=zBf hx
   have hcn:=xl hxm;have hrx:=hrec x hxm (itL l (l.drop (k+1)) (k+1)++more) (deep+1) (by omega)
   simp only[itL,zDf,List.all_append,Du]at hi;replace hi:=hid hi;rw[hd];simp only[itL,Du,zFg,zBi];by_cases ht:t (l,k)=true
   ·rw[iA,if_pos ht]
    generalize hG:iA itV t (itL x.kids x.kids 0++(itL l (l.drop (k+1)) (k+1)++more))=G at hrx⊢;simp(disch:=omega) [-zAa,itV,hx];rw[show((deep+1:Nat):Int)=(deep:Int)+1 by omega]at hrx
    refine ah [2] 1 [0] (by simp) (by simp) (by simp) (by simp) hrx (by simp) fun _ _=>?_
    by_cases ha:(itL x.kids x.kids 0).all t=true
    ·rw[ha]
     simp(disch:=omega) [-zAa,hx];have hi:=hi.out;rw[ht,ha]at hi;refine hN.out _<|Nx.mk (k+1) (by simp) ⟨by omega,by simpa using hi⟩ (by omega)
    ·have ha':(itL x.kids x.kids 0).all t=false:=by simpa using ha
     have hi:=hi.out;rw[ht,ha']at hi;simp only[Bool.true_and,zGa]at hi;subst hi;rw[ha'];simp(disch:=omega) [-zAa,hx]
   ·rw[iA,if_neg ht]
    have hi:=hi.out;have ht':t (l,k)=false:=by simpa using ht
    rw[ht']at hi;simp only[zGa]at hi;subst hi;simp(disch:=omega) [-zAa,itV]
 have all:∀l:List Node,∀n∈l,∀(more:List (List Node×Nat))(deep:Nat),aj n.kids+deep<1000->
  FnH Tryz.prog mR [2] [.seq 5 (n.kids.map Node.v),.int .i64 deep,.ref 0 0] [some (.gh (iA itV t (itL n.kids n.kids 0++more)))] (.bool ((itL n.kids n.kids 0).all t)) [some (.gh (if(itL n.kids n.kids 0).all t then iA itV t more else[]))]:=by
  refine aC (fun x hx=>by cases hx) ?_
  intro n l h1 h2 x hx;rcases zAg.1 hx with rfl|hx
  ·exact key _ h1
  ·exact h2 x hx
 exact fun l=>key l (all l)
theorem EC(t:List Node×Nat->Bool)(l:List Node)(hc:aj l<1000):
 FnH Tryz.prog mS [0] [.ref 0 0,.ptr 1 0] [some (.gh (iA itV t (itL l l 0))),some (.box [.seq 5 (l.map Node.v)])] (.tup []) [some (.gh [])]:=by
 refine FnH.of_image mixed sV DU rfl fun ho hh=>?_;unfold tS;clear ho hh;have hw:=Jq t l [] 0 (by omega)
 rw[zCg]at hw;have e:(if(itL l l 0).all t=true then iA itV t []else[])=[]:=by split<;>rfl
 rw[e]at hw;generalize iA itV t (itL l l 0)=G at hw⊢;simp(disch:=omega) [-zAa];refine ah [2] 1 [0] (by simp) (by simp) (by simp) (by simp) hw (by simp) fun _ _=>?_
 simp(disch:=omega) [-zAa]
theorem Jr(l:List Node):FnH Tryz.prog IH [] [.seq 5 (l.map Node.v)] [] (.fn (.func mS) [] [.ptr 0 0]) [some (.box [.seq 5 (l.map Node.v)])]:=by
 refine FnH.of_image mixed Jf I8 rfl fun ho hh=>?_;unfold zp;clear ho hh;simp(disch:=omega) [-zAa]
theorem zD{st:Nat->St}{stx:St}{ks:List Nat}{i:Nat}{b:Bool}{τ:St}(hb:b=true)(h:τ.nrm ks=st (i+1)):HY st stx ks i b .norm τ:=⟨hb,[],τ,rfl,h⟩
theorem CA{st:Nat->St}{stx:St}{ks:List Nat}{i:Nat}{b:Bool}{τ:St}(hb:b=false)(h:τ.nrm ks=stx):HY st stx ks i b .ret τ:=⟨hb,[],τ,rfl,h⟩
def OJ(x:List Node×Nat):Bool:=decide (mj x=0)
theorem Ch(l:List Node)(hf:ar kx l)(hc:aj l<1000):Fn Tryz.prog LJ [.seq 5 (l.map Node.v)] (.int .i64 (may l)):=by
 refine FnE.fn ?_;refine FnE.of_rng mixed Mj Me rfl (full:=iA itV OJ (itL l l 0)) (st:=fun _=>⟨[(2,.ptr 0 0)],[some (.box [.int .i64 0])]⟩) (stx:=⟨[(2,.ptr 0 0)],[some (.box [.int .i64 (may l)])]⟩) ?_ ?_ ?_ ?_ ?_ ?_
 ·intro i us b h
  obtain⟨x,h1,h2,h3,h4⟩:=y9 _ _ _ _ _ _ h;simp only[itV,V.tup.injEq]at h2;subst h2;rfl
 ·exact fun i v h=>Cm _ _ _ _ _ h
 ·intro ho
  clear ho;unfold mt;simp only[Cx];simp(disch:=omega) [-zAa,ent];refine ah [] 0 [] (by simp) (by simp) (by simp) (by simp) (Jr l) (by simp) fun _ _=>?_
  simp(disch:=omega) [-zAa,Qk];exact⟨mS,1,⟨rfl,rfl⟩,_,rfl,_,by simp,rfl,enters_of sV (by kernel_rfl) rfl,EC OJ l hc⟩
 ·intro i us b h
  obtain⟨x,h1,h2,h3,h4⟩:=y9 _ _ _ _ _ _ h;simp only[itV,V.tup.injEq]at h2;subst h2;unfold mt;obtain⟨n,hn,hfn,hrl⟩:=Sn (m:=1000) l l 0 rfl hf (by omega) x (zBf h1)
  obtain⟨row,j⟩:=x;simp only at hn hrl;have hj:j<row.length:=(zAb.1 hn).1;have herr:mj (row,j)=b5 n (bQ row j):=by simp[mj,hn]
  have hmay:¬b5 n (bQ row j)=0->may l=b5 n (bQ row j):=by
   intro hx;rw[<-herr]at hx⊢;have:=Ce _ _ _ h1 h4 hx;rw[yR l l 0 rfl]at this;simpa[may,bQ]using this
  have hb:b=decide (b5 n (bQ row j)=0):=by rw[h3,OJ,herr]
  have hck:=Hu n (bQ row j) hfn;clear h h3 h4 herr h1;by_cases hj0:0<j
  ·obtain⟨m,hm⟩:=bH (l:=row) (k:=j-1) (by omega)
   have e:((j:Int)-1).toNat=j-1:=by omega
   have hpv:bQ row j=decide (m.kind=2):=by simp[bQ,hj0,hm]
   generalize bQ row j=pv at *;simp(disch:=omega) [-zAa,xo,hj0,e,hm,hn,<-hpv];refine ac (by simpa using hck) rfl fun _=>?_
   simp(disch:=omega) [-zAa];refine BrKd.mk (fun h=>?_) (fun h=>?_)
   ·simp(disch:=omega) [-zAa,h]
    exact zD (by rw[hb,h];rfl) rfl
   ·simp(disch:=omega) [-zAa,h]
    exact CA (by rw[hb];simp[h]) (by rw[hmay h];rfl)
  ·have hpv:bQ row j=false:=by simp[bQ,hj0]
   rw[hpv]at hck hb hmay;simp(disch:=omega) [-zAa,xo,hj0,hn];refine ac (by simpa using hck) rfl fun _=>?_
   simp(disch:=omega) [-zAa];refine BrKd.mk (fun h=>?_) (fun h=>?_)
   ·simp(disch:=omega) [-zAa,h]
    exact zD (by rw[hb,h];rfl) rfl
   ·simp(disch:=omega) [-zAa,h]
    exact CA (by rw[hb];simp[h]) (by rw[hmay h];rfl)
 ·intro h
  unfold mt
  have h0:may l=0:=by
   have:=(HH itV OJ (itL l l 0)).1 h;rw[show(itL l l 0).all OJ=(itL l l 0).all fun x=>decide (mj x=0)from rfl,yS,yR l l 0 rfl]at this
   simpa[may,bQ]using this
  rw[h0];simp only[Cx];simp(disch:=omega) [-zAa];exact⟨by simp(disch:=omega) [-zAa],rfl⟩
 ·intro h
  exact⟨by simp(disch:=omega) [-zAa,mt],rfl⟩
attribute [simp] ON LS a_ltr VN E4 a_trc La bv
def CS(l:List Str):V:=.seq 1 (l.map .str)
def clM:List (V×V):=[(.str [112],CS (bF [112])),(.str [108,105],CS (bF [108,105])),(.str [100,116],CS (bF [100,116])),(.str [100,100],CS (bF [100,100])),(.str [111,112,116,105,111,110],CS (bF [111,112,116,105,111,110])),(.str [116,100],CS (bF [116,100])),(.str [116,114],CS (bF [116,114]))]
theorem wW:FnH Tryz.prog wA [] [] [] (.ref 0 0) [some (.mp rk clM)]:=by
 refine FnH.of_image mixed wR wJ rfl fun ho hh=>?_;unfold nF;clear ho hh;simp(disch:=omega) [-zAa,mc,fE,bG,kOf,aS,be,fB];rfl
theorem SM(o:Str):ir (.str o) clM=if bF o=[]then none else some (CS (bF o)):=by
 simp only[clM,ir,fE,decide_eq_true_eq];by_cases h1:o=[112]
 ·subst h1;rfl
 by_cases h2:o=[108,105]
 ·subst h2;rfl
 by_cases h3:o=[100,116]
 ·subst h3;rfl
 by_cases h4:o=[100,100]
 ·subst h4;rfl
 by_cases h5:o=[111,112,116,105,111,110]
 ·subst h5;rfl
 by_cases h6:o=[116,100]
 ·subst h6;rfl
 by_cases h7:o=[116,114]
 ·subst h7;rfl
 ·simp[bF,h1,h2,h3,h4,h5,h6,h7]
theorem oE(o b:Str):Fn Tryz.prog ye [.str o,.str b] (.bool (dk o b)):=by
 refine Fn.of_imageE mixed yI yw rfl fun ho=>?_;unfold pe;simp only[oks,ok,and_true]at ho;clear ho;simp(disch:=omega) [-zAa];refine ah [] 0 [] (by simp) (by simp) (by simp) (by simp) wW (by simp) fun _ _=>?_
 have hg:=SM o;by_cases he:bF o=[]
 ·rw[if_pos he]at hg
  simp(disch:=omega) [-zAa,hg,bG,kOf,aS,be,fB];have hc:=fA [] b;refine ac (by simpa using hc) rfl fun _=>?_
  simp(disch:=omega) [-zAa,dk,he]
 ·rw[if_neg he]at hg
  simp(disch:=omega) [-zAa,hg,bG,kOf,aS,be,fB,CS];refine ac (fA (bF o) b) rfl fun _=>?_;simp(disch:=omega) [-zAa,dk]
end Go.Abs.F
end
section
namespace Go.Abs.F
open Go.Proofs Go.RowKit
attribute [-simp] getElem?_pos zDe zEd
def ns:List (Str×Nat):=[([97,109,112],38),([108,116],60),([103,116],62),([113,117,111,116],34),([97,112,111,115],39),([110,98,115,112],160),([99,111,112,121],169),([114,101,103],174),([100,101,103],176),([109,105,100,100,111,116],183),([116,105,109,101,115],215),([110,100,97,115,104],8211),([109,100,97,115,104],8212),([104,101,108,108,105,112],8230),([101,117,114,111],8364)]
def gV(s:Str):List (Str×Nat)->Option Nat
 |[]=>none
 |e::l=>if s=e.1 then some e.2 else gV s l
def Th:List (V×V):=ns.map fun e=>(.str e.1,rV e.2)
theorem Eu:FnH Tryz.prog C8 [] [] [] (.ref 0 0) [some (.mp rk Th)]:=by
 refine FnH.of_image mixed D1 DF rfl fun ho hh=>?_;unfold tE;clear ho hh;simp(disch:=omega) [-zAa,mc,fE,bG,kOf,aS,be,fB];rfl
theorem BQ(s:Str):∀l:List (Str×Nat),ir (.str s) (l.map fun e=>(V.str e.1,rV e.2))=(gV s l).map rV
 |[]=>rfl
 |e::l=>by
   simp only[zAj,ir,fE,decide_eq_true_eq,gV,BQ s l];split<;>rfl
def FO(s:Str):Nat:=(gV s ns).getD 0
theorem Hl(s:Str):Fn Tryz.prog FV [.str s] (.tup [rV (FO s),.bool (gV s ns).isSome]):=by
 refine Fn.of_imageE mixed GJ Gn rfl fun ho=>?_;unfold vW;simp only[oks,ok,and_true]at ho;clear ho;simp(disch:=omega) [-zAa];refine ah [] 0 [] (by simp) (by simp) (by simp) (by simp) Eu (by simp) fun _ _=>?_
 have hg:=BQ s ns;rw[show ns.map (fun e=>(V.str e.1,rV e.2))=Th from rfl]at hg
 cases he:gV s ns with
 |none=>
   rw[he]at hg;simp(disch:=omega) [-zAa,hg,bG,kOf,aS,be,fB,FO,he,rV]
 |some r=>
   rw[he]at hg;simp(disch:=omega) [-zAa,hg,bG,kOf,aS,be,fB,FO,he,rV]
def goN(s:Str):Nat->Str->Nat×Nat
 |_,[]=>(0,0)
 |i,b::t=>if 7<i then(0,0)else if b.toNat=59 then(match gV (s.tail.take (i-1)) ns with
   |some r=>(r,i+1)
   |none=>(0,0))else goN s (i+1) t
def ic(s:Str):Nat×Nat:=
 if bq s [38,35,120]=true\/bq s [38,35,88]=true then kN 3 (lH 16 6 (s.drop 3) 0 0)
 else if bq s [38,35]=true then kN 2 (lH 10 7 (s.drop 2) 0 0)
 else if bq s [38]=true then goN s 1 (s.drop 1)else(0,0)
theorem cu{s p:Str}(h:bq s p=true):p.length<=s.length:=by
 simp only[bq,zEc,decide_eq_true_eq]at h;exact h.1
theorem Jp(s:Str)(hs:s.length<=1000000000):Fn Tryz.prog IF [.str s] (.tup [rV (ic s).1,.int .i64 (ic s).2]):=by
 refine Fn.of_image mixed Jc I5 rfl fun ho=>?_;unfold zl;simp only[oks,ok,and_true]at ho;clear ho;generalize hR:ic s=R;unfold ic at hR;have hn16:3<=s.length->_:=fun h=>qn s 3 16 6 hs h (.inr rfl) (by decide)
 have hn10:2<=s.length->_:=fun h=>qn s 2 10 7 hs h (.inl rfl) (by decide)
 simp(disch:=omega) [-zAa];refine ac (bO s [38,35,120]) rfl fun _=>?_;simp(disch:=omega) [-zAa];by_cases h1:bq s [38,35,120]=true
 ·rw[if_pos (.inl h1)]at hR
  subst hR;simp(disch:=omega) [-zAa,h1];refine ac (hn16 (by have:=cu h1;simpa using this)) rfl fun _=>?_
  simp(disch:=omega) [-zAa,rV]
 ·simp(disch:=omega) [-zAa,h1]
  refine ac (bO s [38,35,88]) rfl fun _=>?_;by_cases h2:bq s [38,35,88]=true
  ·rw[if_pos (.inr h2)]at hR
   subst hR;simp(disch:=omega) [-zAa,h2];refine ac (hn16 (by have:=cu h2;simpa using this)) rfl fun _=>?_
   simp(disch:=omega) [-zAa,rV]
  ·rw[if_neg (by simp[h1,h2])]at hR
   simp(disch:=omega) [-zAa,h2];refine ac (bO s [38,35]) rfl fun _=>?_;by_cases h3:bq s [38,35]=true
   ·rw[if_pos h3]at hR
    subst hR;simp(disch:=omega) [-zAa,h3];refine ac (hn10 (by have:=cu h3;simpa using this)) rfl fun _=>?_
    simp(disch:=omega) [-zAa,rV]
   ·rw[if_neg h3]at hR
    simp(disch:=omega) [-zAa,h3];refine ac (bO s [38]) rfl fun _=>?_;by_cases h4:bq s [38]=true
    ·rw[if_pos h4]at hR
     simp(disch:=omega) [-zAa,h4];have hl:=cu h4;simp only[zAh,zBb]at hl;refine ay (fun(k:Nat)=>⟨[(0,.str s),(4,.int .i64 k)],[]⟩) (fun k=>1<=k/\k<=s.length/\goN s k (s.drop k)=R) (fun k=>s.length-k) [] _ 1 rfl (by simp) ⟨by omega,by omega,hR⟩ ?_
     rintro k ⟨hk1,hk,hi⟩ N hN;rcases place s k hk with⟨he,hd⟩|⟨hlt,b,hx,hd⟩
     ·rw[hd]at hi
      simp only[goN]at hi;subst hi;simp(disch:=omega) [-zAa,he]
     ·rw[hd]at hi
      simp only[goN]at hi;replace hi:=hid hi;by_cases h7:7<k
      ·have hi:=hi.out
       rw[if_pos h7]at hi;subst hi;simp(disch:=omega) [-zAa,hlt,h7]
      ·simp(disch:=omega) [-zAa,hlt,show(k:Int)<=7 by omega,hx]
       refine BrK.mk (fun h=>?_) (fun h=>?_)
       ·simp only[decide_eq_true_eq]at h
        have hi:=hi.out;rw[if_neg h7,if_pos h]at hi;have hkt:((k:Int)-1).toNat=k-1:=by omega
        simp(disch:=omega) [-zAa];have hN:=Hl (s.tail.take (k-1));refine ac (by simpa[hkt]using hN) rfl fun _=>?_
        cases hg:gV (s.tail.take (k-1)) ns with
        |none=>
          rw[hg]at hi;simp only at hi;subst hi;simp(disch:=omega) [-zAa,hg,FO,rV]
        |some r=>
          rw[hg]at hi;simp only at hi;subst hi;simp(disch:=omega) [-zAa,hg,FO,rV]
       ·simp only[decide_eq_false_iff_not]at h
        have hi:=hi.out;rw[if_neg h7,if_neg h]at hi;simp(disch:=omega) [-zAa];exact hN.out _<|Nx.mk (k+1) (by simp) ⟨by omega,by omega,hi⟩ (by omega)
    ·rw[if_neg h4]at hR
     subst hR;simp(disch:=omega) [-zAa,h4]
attribute [local simp] sbP
def Bb:Nat->Str->Str
 |0,_=>[]
 |_,[]=>[]
 |f+1,b::t=>if b.toNat=38 then(if(ic (b::t)).2=0 then 38::Bb f t else aw (ic (b::t)).1++Bb f ((b::t).drop (ic (b::t)).2))else b::Bb f t
def i7(s:Str):Str:=Bb s.length s
theorem HF:∀(f:Nat)(s:Str),s.length<=f->Bb f s=i7 s:=by
 have key:∀(n f g:Nat)(s:Str),s.length<=n->s.length<=f->s.length<=g->Bb f s=Bb g s:=by
  intro n
  induction n with
  |zero=>intro f g s h1 _ _;have:s=[]:=zCc (by omega);subst this;cases f<;>cases g<;>rfl
  |succ n ih=>
    intro f g s h1 h2 h3;cases s with
    |nil=>cases f<;>cases g<;>rfl
    |cons b t=>
      cases f with
      |zero=>simp at h2
      |succ f=>cases g with
        |zero=>simp at h3
        |succ g=>
          simp only[zAh]at h1 h2 h3;simp only[Bb];rw[ih f g t (by omega) (by omega) (by omega)]
          split
          ·split
           ·rfl
           ·rename_i hz
            rw[ih f g _ (by simp;omega) (by simp;omega) (by simp;omega)]
          ·rfl
 intro f s h;exact key s.length f s.length s (zBh _) h (zBh _)
theorem tq:i7 []=[]:=rfl
theorem fV(b:UInt8)(t:Str):i7 (b::t)=if b.toNat=38 then(if(ic (b::t)).2=0 then 38::i7 t else aw (ic (b::t)).1++i7 ((b::t).drop (ic (b::t)).2))else b::i7 t:=by
 show Bb (t.length+1) (b::t)=_
 simp only[Bb,HF t.length t (zBh _)];split
 ·split
  ·rfl
  ·rw[HF t.length _ (by simp;omega)]
 ·rfl
theorem pF:∀(n:Nat)(s:Str),(∀i b,i<n->s[i]?=some b->¬b.toNat=38)->i7 s=s.take n++i7 (s.drop n)
 |0,s,_=>by simp
 |n+1,[],_=>by simp[tq]
 |n+1,b::t,h=>by
   rw[fV,if_neg (h 0 b (by omega) rfl),pF n t (fun i c hi hc=>h (i+1) c (by omega) (by simpa using hc))]
   simp
theorem fu(s:Str)(c:UInt8):Fn Tryz.prog pN [.str s,.int .u8 c.toNat] (.int .i64 (Lib.indexByte s c)):=by
 refine Fn.of_image mixed pZ pT rfl fun ho=>?_;unfold jB;simp only[oks,ok,and_true]at ho;simp(disch:=omega) [-zAa];refine ac (mh s c) rfl fun _=>?_;simp(disch:=omega) [-zAa]
theorem PJ(n:Nat):vR n<=1114111:=by
 unfold vR;split<;>omega
theorem FP{s:Str}:∀{l:List (Str×Nat)},(∀e∈l,e.2<=1114111)->∀{r},gV s l=some r->r<=1114111
 |[],_,r,h=>by simp[gV]at h
 |e::l,hl,r,h=>by
   simp only[gV]at h;split at h
   ·cases h;exact hl e (by simp)
   ·exact FP (fun e he=>hl e (by simp[he])) h
theorem FK{base most:Nat}:∀{t:Str}{n d:Nat}{p:Nat×Nat},lH base most t n d=some p->p.2<=t.length
 |[],_,_,p,h=>by simp[lH]at h
 |b::t,n,d,p,h=>by
   simp only[lH]at h;split at h
   ·split at h
    ·cases h
    ·cases h;simp
   ·split at h
    ·cases h
    ·split at h
     ·cases h
     ·simp only[Option.map_eq_some_iff]at h
      obtain⟨q,h1,rfl⟩:=h;have:=FK h1;simp only[zAh];omega
theorem x0{base most at':Nat}{s:Str}(h:at'<=s.length){n d:Nat}:(kN at' (lH base most (s.drop at') n d)).1<=1114111/\(kN at' (lH base most (s.drop at') n d)).2<=s.length:=by
 cases hp:lH base most (s.drop at') n d with
 |none=>simp[kN]
 |some p=>
   have:=FK hp;simp only[zAc]at this;simp only[kN];exact⟨PJ _,by omega⟩
theorem Cb(s:Str):∀(t:Str)(i:Nat),i+t.length=s.length->(goN s i t).1<=1114111/\(goN s i t).2<=s.length
 |[],i,h=>by simp[goN]
 |b::t,i,h=>by
   simp only[goN];simp only[zAh]at h;split
   ·simp
   ·split
    ·split
     ·rename_i r hr
      exact⟨FP (by decide) hr,by simp only;omega⟩
     ·simp
    ·exact Cb s t (i+1) (by omega)
theorem xT(s:Str):(ic s).1<=1114111/\(ic s).2<=s.length:=by
 unfold ic;split
 ·rename_i h
  have:3<=s.length:=by
   rcases h with h|h<;>(have:=cu h;simpa using this)
  exact x0 this
 ·split
  ·rename_i h
   have:=cu h;exact x0 (by simpa using this)
  ·split
   ·rename_i h
    have:=cu h;simp at this;exact Cb s _ 1 (by simp;omega)
   ·simp
theorem lM(s:Str)(hs:s.length<=1000000000):Fn Tryz.prog zQ [.str s] (.str (i7 s)):=by
 refine FnE.fn ?_;refine FnE.of_imageQ mixed AG Al rfl fun ho=>?_;unfold qz;clear ho;simp(disch:=omega) [-zAa];generalize hw:i7 s=w
 refine ay (fun(q:Str×Str×V)=>⟨[(0,.str q.1),(3,.q 0 1 0 0 0)],[some (.pool [.byt 5 q.2.1,.bx 99 [q.2.2,.q 1 0 q.2.1.length 0 0]])]⟩)
  (fun q=>q.2.1.length+4*q.1.length<=4*s.length/\sbA q.2.2/\q.2.1++i7 q.1=w) (fun q=>q.1.length) [] _ (s,[],.nilptr) rfl (by simp) (by simp[hw,xc]) ?_
 rintro⟨t,out,a⟩ ⟨hol,ha,hi⟩ N hN;simp only at hol ha hi;simp(disch:=omega) [-zAa];refine ac (fu t 38) rfl fun _=>?_;obtain⟨i,hix⟩:∃i,i=Lib.indexByte t 38:=⟨_,rfl⟩;have hge:=Lib.indexByte_ge t 38;have hlt:=eV 38 t;rw[<-hix]at hge hlt;have h38:∀b:UInt8,b.toNat=38->b=38:=fun b hb=>zDh.1 (by simpa using hb)
 by_cases hneg:i<0
 ·have hno:=Lib.indexByte_none (l:=t) (c:=38) (by omega)
  have hd:i7 t=t:=by
   have:=pF t.length t (fun k b hk hb h=>hno k (by rw[hb,h38 b h]))
   simpa[tq]using this
  rw[hd]at hi;simp(disch:=omega) [-zAa,<-hix,hneg];refine ah [] 1 [0] (by simp) (by simp) (by simp) (by simp) (dj (s:=out) (t:=t) ha (by omega)) (by simp) fun _ _=>?_
  simp(disch:=omega) [-zAa];refine ah [] 1 [0] (by simp) (by simp) (by simp) (by simp) (th (a:=.q 0 1 0 0 0) (s:=out++t)) (by simp) fun _ _=>?_
  simp(disch:=omega) [-zAa,hi];exact⟨_,1,_,rfl,rfl,rfl⟩
 ·obtain⟨k,rfl⟩:∃k:Nat,i=k:=⟨i.toNat,by omega⟩
  have hk:k<t.length:=by have:=hlt.2 (by omega);omega
  obtain⟨hget,hno⟩:=Lib.indexByte_some hix.symm;have hd:=pF k t (fun j b hj hb h=>hno j hj (by rw[hb,h38 b h]))
  have hdr:t.drop k=38::t.drop (k+1):=by
   rw[zBj hk];congr 1;rw[zCf hk]at hget;exact zEg.inj hget
  rw[hd,<-zBi]at hi;have hdc:=fV 38 (t.drop (k+1));rw[<-hdr,if_pos (by decide)]at hdc
  have hr:=xT (t.drop k);simp only[zAc]at hr;have hon:=Jp (t.drop k) (by simp;omega)
  obtain⟨r,n,hrn⟩:∃r n,ic (t.drop k)=(r,n):=⟨_,_,rfl⟩;rw[hrn]at hdc hr hon;simp only at hdc hr hon;have htk:(t.drop k).take (t.length-k)=t.drop k:=zAe (by simp)
  have hol2:(t.take k).length=k:=by simp;omega
  have hb4:=eO r;simp(disch:=omega) [-zAa,<-hix,hneg];refine ah [] 1 [0] (by simp) (by simp) (by simp) (by simp) (dj (s:=out) (t:=t.take k) ha (by omega)) (by simp) fun _ _=>?_
  simp(disch:=omega) [-zAa,htk];refine ac hon rfl fun _=>?_;simp(disch:=omega) [-zAa,rV];by_cases hz:n=0
  ·rw[if_pos hz]at hdc
   rw[hdc]at hi;simp(disch:=omega) [-zAa,hz];refine ah [] 1 [0] (by simp) (by simp) (by simp[bV]) (by simp[hol2]) (oI (a:=.q 0 1 0 0 0) (s:=out++t.take k) 38 dS (by simp;omega)) (by simp) fun _ _=>?_
   simp(disch:=omega) [-zAa];have ht1:(t.drop (k+1)).take (t.length-k-1)=t.drop (k+1):=zAe (by simp;omega)
   rw[ht1];have e1:out.length+(k+1)=(out++(t.take k++[38])).length:=by simp;omega
   exact hN.out _<|Nx.mk (t.drop (k+1),out++(t.take k++[38]),.q 0 1 0 0 0) (by simp[hol2]) ⟨by simp only[<-e1,zAc];omega,dS,by simpa using hi⟩ (by simp only[zAc];omega)
  ·rw[if_neg hz]at hdc
   rw[hdc]at hi;simp(disch:=omega) [-zAa,show(0:Int)<n by omega]
   refine ah [] 1 [0] (by simp) (by simp) (by simp[rV]) (by simp[hol2]) (ly (a:=.q 0 1 0 0 0) (s:=out++t.take k) r (by omega) dS (by simp;omega)) (by simp) fun _ _=>?_
   simp(disch:=omega) [-zAa];have ht1:(t.drop (k+n)).take (t.length-k-n)=t.drop (k+n):=zAe (by simp;omega)
   rw[ht1];have e1:out.length+(k+(aw r).length)=(out++(t.take k++aw r)).length:=by simp;omega
   exact hN.out _<|Nx.mk (t.drop (k+n),out++(t.take k++aw r),.q 0 1 0 0 0) (by simp[hol2]) ⟨by simp only[<-e1,zAc];omega,dS,by simpa[zCh]using hi⟩ (by simp only[zAc];omega)
theorem IU{r:Nat}(h:128<=r):bB r=false:=by
 simp[bB];omega
theorem pn{r:Nat}(h:128<=r):bU r=false:=by
 simp[bU,IU h];omega
theorem eY{r:Nat}(h:128<=r):bd r=false:=by
 simp[bd];omega
theorem si{r:Nat}(h:128<=r):bZ r=false:=by
 simp[bZ,eY h];omega
theorem tX{r:Nat}(h:128<=r):aQ r=true:=by
 simp[aQ,eY h];omega
theorem tV{r:Nat}(h:128<=r):mA r=true:=by
 simp[mA,eY h];omega
def br:Str->Nat
 |[]=>0
 |b::t=>if bB b.toNat=true then ai bU (b::t)else 0
theorem qm(s:Str)(hs:s.length<=1000000000):Fn Tryz.prog zN [.str s] (.int .i64 (br s)):=by
 refine Fn.of_image mixed AB Ah rfl fun ho=>?_;unfold qv;simp only[oks,ok,and_true]at ho;clear ho;cases s with
 |nil=>simp(disch:=omega) [-zAa,br]
 |cons b t=>
   unfold br;have hsp:=gJ (b::t) hs nu [] bU (fun r hr=>Mv r) (fun r r' h h'=>by rw[pn h,pn h']) (fun h=>rfl) rfl (fun m=>rfl)
   have hb:=b.toNat_lt;simp(disch:=omega) [-zAa];refine ac (ky b.toNat) rfl fun _=>?_;by_cases h:bB b.toNat=true
   ·simp(disch:=omega) [-zAa,h]
    refine ac hsp rfl fun _=>?_;simp(disch:=omega) [-zAa]
   ·simp(disch:=omega) [-zAa,h]
def aA:Str->Bool
 |a::b::_=>decide (a.toNat=60)&&(decide (b.toNat=47)||(decide (b.toNat=33)||(decide (b.toNat=63)||bB b.toNat)))
 |_=>false
theorem oB(s:Str):Fn Tryz.prog ya [.str s] (.bool (aA s)):=by
 refine Fn.of_image mixed yD yp rfl fun ho=>?_;unfold oZ;simp only[oks,ok,and_true]at ho;clear ho
 match s with
 |[]=>simp(disch:=omega) [-zAa,aA]
 |[a]=>simp(disch:=omega) [-zAa,aA]
 |a::b::t=>
   have hb:=b.toNat_lt;simp(disch:=omega) [-zAa,aA];refine BrKd.mk (fun h=>?_) (fun h=>?_)
   ·simp(disch:=omega) [-zAa,h]
    by_cases h1:b.toNat=47
    ·simp(disch:=omega) [-zAa,h1]
    ·simp(disch:=omega) [-zAa,h1]
     by_cases h2:b.toNat=33
     ·simp(disch:=omega) [-zAa,h2]
     ·simp(disch:=omega) [-zAa,h2]
      by_cases h3:b.toNat=63
      ·simp(disch:=omega) [-zAa,h3]
      ·simp(disch:=omega) [-zAa,h3]
       refine ac (ky b.toNat) rfl fun _=>?_;simp(disch:=omega) [-zAa]
   ·simp(disch:=omega) [-zAa,h]
def aZ:Str->Nat
 |[]=>0
 |b::t=>if aA (b::t)=true then 0 else aZ t+1
theorem pH:∀s:Str,aZ s<=s.length
 |[]=>zBh _
 |b::t=>by
   simp only[aZ,zAh];have:=pH t;split<;>omega
theorem j5{b:UInt8}{t:Str}(h:aA (b::t)=true):b=60:=by
 cases t with
 |nil=>simp[aA]at h
 |cons c t=>
   simp only[aA,zEc,decide_eq_true_eq]at h;exact zDh.1 (by simpa using h.1)
theorem lz:∀(n:Nat)(s:Str),n<=s.length->(∀i,i<n->s[i]?≠some 60)->aZ s=n+aZ (s.drop n)
 |0,s,_,_=>by simp
 |n+1,[],h,_=>by simp at h
 |n+1,b::t,h,hp=>by
   have hb:¬aA (b::t)=true:=fun hs=>hp 0 (by omega) (by rw[j5 hs];rfl)
   rw[aZ,if_neg hb,lz n t (by simpa using h) (fun i hi=>by simpa using hp (i+1) (by omega))]
   simp only[zFd];omega
theorem rJ(s:Str)(hs:s.length<=1000000000):Fn Tryz.prog rb [.str s] (.int .i64 (aZ s)):=by
 refine Fn.of_image mixed ry rl rfl fun ho=>?_;unfold kF;simp only[oks,ok,and_true]at ho;clear ho;simp(disch:=omega) [-zAa];generalize hR:aZ s=R;have hRl:R<=s.length:=by rw[<-hR];exact pH s
 refine ay (fun(k:Nat)=>⟨[(0,.str s),(3,.int .i64 k)],[]⟩) (fun k=>k<=s.length/\k+aZ (s.drop k)=R) (fun k=>s.length-k) [] _ 0 rfl (by simp) (by simp[hR]) ?_
 rintro k ⟨hk,hi⟩ N hN;by_cases hlt:k<s.length
 ·have hge:=Lib.indexByte_ge (s.drop k) 60
  have hlt2:=eV 60 (s.drop k);obtain⟨i,hix⟩:∃i,i=Lib.indexByte (s.drop k) 60:=⟨_,rfl⟩;rw[<-hix]at hge hlt2;have htk:(s.drop k).take (s.length-k)=s.drop k:=zAe (by simp)
  simp(disch:=omega) [-zAa,hlt,htk];refine ac (fu (s.drop k) 60) rfl fun _=>?_;by_cases hneg:i<0
  ·have hno:=Lib.indexByte_none (l:=s.drop k) (c:=60) (by omega)
   rw[lz (s.drop k).length (s.drop k) (zBh _) (fun j hj=>hno j)]at hi;simp[aZ]at hi;simp(disch:=omega) [-zAa,<-hix,hneg];omega
  ·obtain⟨j,rfl⟩:∃j:Nat,i=j:=⟨i.toNat,by omega⟩
   have hj:j<(s.drop k).length:=by have:=hlt2.2 (by omega);omega
   obtain⟨hget,hno⟩:=Lib.indexByte_some hix.symm;rw[lz j (s.drop k) (by omega) (fun q hq=>hno q hq),zCh]at hi
   simp only[zAc]at hj
   have hdr:s.drop (k+j)=60::s.drop (k+j+1):=by
    rw[zBj (by omega)]
    congr 1;rw[zFe,zCf (by omega)]at hget
    exact zEg.inj hget
   have htk2:(s.drop (k+j)).take (s.length-(k+j))=s.drop (k+j):=zAe (by simp)
   have hkt:((k:Int)+(j:Int)).toNat=k+j:=by omega
   simp(disch:=omega) [-zAa,<-hix,hneg,hkt,htk2];refine ac (oB (s.drop (k+j))) rfl fun _=>?_;rw[hdr,aZ]at hi;by_cases hst:aA (s.drop (k+j))=true
   ·rw[hdr]at hst
    rw[if_pos hst]at hi;simp(disch:=omega) [-zAa,hdr,hst];omega
   ·rw[hdr]at hst
    rw[if_neg hst]at hi;simp(disch:=omega) [-zAa,hdr,hst];refine hN.out _<|Nx.mk (k+j+1) (by simp) ⟨by omega,by omega⟩ (by omega)
 ·have:k=s.length:=by omega
  subst this;simp[aZ]at hi;simp(disch:=omega) [-zAa,hi]
structure Tok where
 kind:Nat
 name:Str
 attrs:List Attr
 text:Str
def aM(l:List Attr):V:=.seq 2 (l.map Attr.v)
def Tok.c(t:Tok):List V:=[.int .i64 t.kind,.str t.name,aM t.attrs,.str t.text]
def Tok.v(t:Tok):V:=.strct t.c
def jY(p:Tok×Nat):V:=.tup [p.1.v,.int .i64 p.2]
def rT(s:Str)(from':Nat)(mark:Str):Tok×Nat:=
 if Lib.index (s.drop from') mark<0 then(⟨4,[],[],s.drop from'⟩,s.length)else(⟨4,[],[],(s.drop from').take (Lib.index (s.drop from') mark).toNat⟩,from'+(Lib.index (s.drop from') mark).toNat+mark.length)
def oT(s:Str):Tok×Nat:=if bq s [60,33,45,45]=true then rT s 4 [45,45,62]else rT s 2 [62]
theorem uD(s t:Str)(h:0<=Lib.index s t):(Lib.index s t).toNat+t.length<=s.length:=by
 rcases Lib.index_spec s t with⟨e,_⟩|⟨j,e,hj,hocc,_⟩
 ·omega
 ·have hp:t<+:s.drop j:=List.isPrefixOf_iff_prefix.1 (by simpa[Lib.occAt]using hocc)
  have:=hp.length_le;simp only[zAc]at this;omega
theorem nx(s:Str)(hs:s.length<=1000000000)(h2:2<=s.length):Fn Tryz.prog wv [.str s] (jY (oT s)):=by
 refine Fn.of_image mixed wL wD rfl fun ho=>?_;unfold nA;simp only[oks,ok,and_true]at ho;clear ho;simp(disch:=omega) [-zAa];refine ac (bO s [60,33,45,45]) rfl fun _=>?_;unfold oT;by_cases h:bq s [60,33,45,45]=true
 ·have h4:=cu h
  simp only[zAh,zBb]at h4;have htk:(s.drop 4).take (s.length-4)=s.drop 4:=zAe (by simp)
  have hix:=jn (s.drop 4) [45,45,62] (by simp;omega)
  rw[if_pos h];unfold rT;simp(disch:=omega) [-zAa,h,htk];refine ac hix rfl fun _=>?_;have hge:=Lib.index_ge (s.drop 4) [45,45,62];have hend:=uD (s.drop 4) [45,45,62];simp only[zAc,zAh,zBb]at hend;generalize hi:Lib.index (s.drop 4) [45,45,62]=i at *;simp(disch:=omega) [-zAa];refine BrK.mk (fun h0=>?_) (fun h0=>?_)
  ·simp only[decide_eq_true_eq]at h0
   simp(disch:=omega) [-zAa,h0,htk,jY,Tok.v,Tok.c,aM]
  ·simp only[decide_eq_false_iff_not]at h0
   obtain⟨j,rfl⟩:∃j:Nat,i=j:=⟨i.toNat,by omega⟩
   have hend:=hend (by omega)
   have e1:((4:Int)+(j:Int)-4).toNat=j:=by omega
   simp(disch:=omega) [-zAa,h0,e1,jY,Tok.v,Tok.c,aM];omega
 ·have htk:(s.drop 2).take (s.length-2)=s.drop 2:=zAe (by simp)
  have hix:=jn (s.drop 2) [62] (by simp;omega)
  rw[if_neg h];unfold rT;simp(disch:=omega) [-zAa,h,htk];refine ac hix rfl fun _=>?_;have hge:=Lib.index_ge (s.drop 2) [62];have hend:=uD (s.drop 2) [62];simp only[zAc,zAh,zBb]at hend;generalize hi:Lib.index (s.drop 2) [62]=i at *;simp(disch:=omega) [-zAa];refine BrK.mk (fun h0=>?_) (fun h0=>?_)
  ·simp only[decide_eq_true_eq]at h0
   simp(disch:=omega) [-zAa,h0,htk,jY,Tok.v,Tok.c,aM]
  ·simp only[decide_eq_false_iff_not]at h0
   obtain⟨j,rfl⟩:∃j:Nat,i=j:=⟨i.toNat,by omega⟩
   have hend:=hend (by omega)
   have e1:((2:Int)+(j:Int)-2).toNat=j:=by omega
   simp(disch:=omega) [-zAa,h0,e1,jY,Tok.v,Tok.c,aM];omega
theorem rH(s:Str)(hs:s.length<=1000000000)(hne:s≠[]):Fn Tryz.prog IE [.str s] (.str (s.map aH)):=by
 refine FnE.fn ?_;refine FnE.of_imageQ mixed Jb I4 rfl fun ho=>?_;unfold zk;clear ho;have hl0:=zBg.2 hne;simp(disch:=omega) [-zAa,hne];refine ay (fun(k:Nat)=>⟨[(3,.q 1 0 s.length 0 0),(8,.q 1 0 s.length 0 0),(9,.int .i64 s.length),(10,.int .i64 k)],[some (.pool [.byt 0 ((s.take k).map aH++s.drop k)])]⟩) (fun k=>k<=s.length) (fun k=>s.length-k) [] _ 0 rfl (by simp) (by simp) ?_
 rintro k hk N hN;have hlen:((s.take k).map aH++s.drop k).length=s.length:=by simp;omega
 rcases place s k hk with⟨he,hd⟩|⟨hlt,x,hx,hd⟩
 ·subst he
  simp only[List.take_length,List.drop_length,zCg]at hlen⊢;simp(disch:=omega) [-zAa];exact⟨_,1,_,rfl,rfl,rfl⟩
 ·have hz:k-((s.take k).map aH).length=0:=by simp;omega
  have hget:((s.take k).map aH++s.drop k)[k]?=some x:=by
   rw[zAf (by simp;omega),hz,hd]
   rfl
  have hnext:((s.take k).map aH++s.drop k).set k (aH x)=(s.take (k+1)).map aH++s.drop (k+1):=by
   rw[List.set_append_right _ _ (by simp;omega),hz,hd,fP hx]
   simp
  generalize hb:(s.take k).map aH++s.drop k=b at *;have hxb:=x.toNat_lt;simp(disch:=omega) [-zAa,hlen,hlt,hget];refine ac (vL x) rfl fun _=>?_;have hof:zGe (aH x).toNat=aH x:=by simp
  simp(disch:=omega) [-zAa,hlen,hlt,hget,hnext,hof];refine hN.out _<|Nx.mk (k+1) (by simp) (by omega) (by omega)
def lX:Tok:=⟨0,[],[],[]⟩
theorem ug(s:Str):br s<=s.length:=by
 unfold br;split
 ·simp
 ·split
  ·exact b7 _ _
  ·simp
def tp(s:Str):Tok×Nat:=
 if br (s.drop 2)=0 then(if bq s [60,47,62]=true then(lX,3)else oT s)
 else if Lib.indexByte s 62<0 then(lX,s.length)
 else(⟨2,((s.drop 2).take (br (s.drop 2))).map aH,[],[]⟩,(Lib.indexByte s 62).toNat+1)
theorem yU(s:Str)(hs:s.length<=1000000000)(h2:2<=s.length):Fn Tryz.prog x8 [.str s] (jY (tp s)):=by
 refine Fn.of_image mixed yB yn rfl fun ho=>?_;unfold oX;simp only[oks,ok,and_true]at ho;clear ho;have htk:(s.drop 2).take (s.length-2)=s.drop 2:=zAe (by simp)
 have htl:=ug (s.drop 2);have hti:=qm (s.drop 2) (by simp;omega)
 simp only[zAc]at htl;have hcm:=nx s hs h2;unfold tp;simp(disch:=omega) [-zAa,htk];refine ac hti rfl fun _=>?_;by_cases h0:br (s.drop 2)=0
 ·rw[if_pos h0]
  simp(disch:=omega) [-zAa,h0];refine ac (bO s [60,47,62]) rfl fun _=>?_;by_cases h3:bq s [60,47,62]=true
  ·rw[if_pos h3]
   simp(disch:=omega) [-zAa,h3,jY,lX,Tok.v,Tok.c,aM]
  ·rw[if_neg h3]
   simp(disch:=omega) [-zAa,h3];refine aq hcm (by simp) fun _=>?_
   obtain⟨c,n⟩:=oT s;simp(disch:=omega) [-zAa,jY,Tok.v,Tok.c,aM]
 ·rw[if_neg h0]
  have hix:=fu s 62;have hge:=Lib.indexByte_ge s 62;have hlt:=eV 62 s;simp(disch:=omega) [-zAa,h0];refine ac hix rfl fun _=>?_;generalize Lib.indexByte s 62=i at *;simp(disch:=omega) [-zAa];refine BrK.mk (fun hn=>?_) (fun hn=>?_)
  ·simp only[decide_eq_true_eq]at hn
   simp(disch:=omega) [-zAa,hn,jY,lX,Tok.v,Tok.c,aM]
  ·simp only[decide_eq_false_iff_not]at hn
   have hfo:=rH ((s.drop 2).take (br (s.drop 2))) (by simp;omega) (by
    intro h;have:=congrArg zFf h;simp at this;omega)
   have e1:((2:Int)+(br (s.drop 2):Int)).toNat-2=br (s.drop 2):=by omega
   obtain⟨j,rfl⟩:∃j:Nat,i=j:=⟨i.toNat,by omega⟩
   simp(disch:=omega) [-zAa,hn,e1];refine ac hfo rfl fun _=>?_;simp(disch:=omega) [-zAa,jY,Tok.v,Tok.c,aM]
def xv(s nm:Str)(i:Nat):Attr×Nat:=
 match s[i]? with
 |none=>(⟨nm,[]⟩,i)
 |some q=>if q.toNat=34\/q.toNat=39 then
    (if i+1+ai (cJ q.toNat) (s.drop (i+1))=s.length then(⟨nm,[]⟩,s.length)
    else(⟨nm,i7 ((s.drop (i+1)).take (ai (cJ q.toNat) (s.drop (i+1))))⟩,i+1+ai (cJ q.toNat) (s.drop (i+1))+1))
   else(⟨nm,i7 ((s.drop i).take (ai mA (s.drop i)))⟩,i+ai mA (s.drop i))
def eP(s:Str):Attr×Nat:=
 if s[ai aQ s+ai bd (s.drop (ai aQ s))]?=some 61 then
  xv s ((s.take (ai aQ s)).map aH) (ai aQ s+ai bd (s.drop (ai aQ s))+1+ai bd (s.drop (ai aQ s+ai bd (s.drop (ai aQ s))+1)))
 else(⟨(s.take (ai aQ s)).map aH,[]⟩,ai aQ s+ai bd (s.drop (ai aQ s)))
def ph(p:Attr×Nat):V:=.tup [p.1.v,.int .i64 p.2]
theorem Sz(s:Str)(hs:s.length<=1000000000):Fn Tryz.prog eU [.str s,.fn (.func fq) [] []] (.int .i64 (ai aQ s)):=
 gJ s hs fq [] aQ (fun r _=>A9 r) (fun r r' h h'=>by rw[tX h,tX h']) (fun h=>rfl) rfl (fun m=>rfl)
theorem KB(s:Str)(hs:s.length<=1000000000):Fn Tryz.prog eU [.str s,.fn (.func iE) [] []] (.int .i64 (ai bd s)):=
 gJ s hs iE [] bd (fun r _=>gK r) (fun r r' h h'=>by rw[eY h,eY h']) (fun h=>rfl) rfl (fun m=>rfl)
theorem Sx(s:Str)(hs:s.length<=1000000000):Fn Tryz.prog eU [.str s,.fn (.func fo) [] []] (.int .i64 (ai mA s)):=
 gJ s hs fo [] mA (fun r _=>A8 r) (fun r r' h h'=>by rw[tV h,tV h']) (fun h=>rfl) rfl (fun m=>rfl)
theorem Sw(s:Str)(hs:s.length<=1000000000):Fn Tryz.prog eU [.str s,.fn (.func fk) [] []] (.int .i64 (ai bZ s)):=
 gJ s hs fk [] bZ (fun r _=>A7 r) (fun r r' h h'=>by rw[si h,si h']) (fun h=>rfl) rfl (fun m=>rfl)
theorem lu(s:Str)(hs:s.length<=1000000000)(hne:0<ai aQ s):Fn Tryz.prog sC [.str s] (ph (eP s)):=by
 refine Fn.of_imageE mixed sT sO rfl fun ho=>?_;unfold lB;simp only[oks,ok,and_true]at ho;clear ho;unfold eP;have hA:=Sz s hs;have hAl:=b7 aQ s;generalize ai aQ s=i at *
 have hfo:=rH (s.take i) (by simp;omega) (by
  intro h;have h2:=congrArg zFf h;rw[zFh,zBb]at h2;omega)
 generalize(s.take i).map aH=nm at *;have hB:=KB (s.drop i) (by simp;omega)
 have hBl:=b7 bd (s.drop i);simp only[zAc]at hBl;generalize ai bd (s.drop i)=j at *;have htk:(s.drop i).take (s.length-i)=s.drop i:=zAe (by simp)
 obtain⟨m,hm⟩:∃m,m=i+j:=⟨_,rfl⟩;have hcast:(i:Int)+(j:Int)=(m:Int):=by omega
 rw[<-hm];simp(disch:=omega) [-zAa];refine ac hA rfl fun _=>?_;simp(disch:=omega) [-zAa];refine ac hfo rfl fun _=>?_;simp(disch:=omega) [-zAa,htk];refine ac hB rfl fun _=>?_;simp(disch:=omega) [-zAa,hcast];by_cases hl:m=s.length
 ·have hn:s[m]?=none:=zCi (by omega)
  rw[if_neg (by rw[hn];simp)]
  simp(disch:=omega) [-zAa,hl,ph]
 ·obtain⟨c,hc⟩:=bH (l:=s) (k:=m) (by omega)
  have hl':¬(m:Int)=(s.length:Int):=by omega
  simp(disch:=omega) [-zAa,hl,hl',hc];refine BrK.mk (fun h=>?_) (fun h=>?_)
  ·simp only[decide_eq_true_eq]at h
   have hc61:c=61:=zDh.1 (by simpa using h)
   rw[if_pos hc61];have hml:m<s.length:=by omega
   have hB2:=KB (s.drop (m+1)) (by simp;omega)
   have hB2l:=b7 bd (s.drop (m+1));simp only[zAc]at hB2l;generalize ai bd (s.drop (m+1))=j2 at *;have htk2:(s.drop (m+1)).take (s.length-(m+1))=s.drop (m+1):=zAe (by simp)
   obtain⟨p,hp⟩:∃p,p=m+1+j2:=⟨_,rfl⟩;have hcast2:(m:Int)+1+(j2:Int)=(p:Int):=by omega
   rw[<-hp];simp(disch:=omega) [-zAa,htk2];refine ac hB2 rfl fun _=>?_;simp(disch:=omega) [-zAa,hcast2];unfold xv;by_cases hpl:p=s.length
   ·have hn:s[p]?=none:=zCi (by omega)
    rw[hn];simp(disch:=omega) [-zAa,hpl,ph]
   ·obtain⟨q,hq⟩:=bH (l:=s) (k:=p) (by omega)
    have hpl':¬(p:Int)=(s.length:Int):=by omega
    have hqb:=q.toNat_lt;rw[hq];have hplt:p<s.length:=by omega
    by_cases hqq:q.toNat=34\/q.toNat=39
    ·simp only[if_pos hqq]
     have hS:=Sy (s.drop (p+1)) q.toNat (by simp;omega) (by omega)
     have hSl:=b7 (cJ q.toNat) (s.drop (p+1));simp only[zAc]at hSl;generalize ai (cJ q.toNat) (s.drop (p+1))=n at *;have htk3:(s.drop (p+1)).take (s.length-(p+1))=s.drop (p+1):=zAe (by simp)
     have hD:=lM ((s.drop (p+1)).take n) (by simp;omega)
     have e3:((p:Int)+1+(n:Int)).toNat-(p+1)=n:=by omega
     have go:(p+1+n=s.length/\(p:Int)+1+(n:Int)=(s.length:Int))\/(¬p+1+n=s.length/\¬(p:Int)+1+(n:Int)=(s.length:Int)):=by omega
     rcases hqq with h34|h39
     ·rw[h34]at hS
      simp(disch:=omega) [-zAa,hpl,hpl',hq,h34,htk3];refine ah [1] 1 [2] (by simp) (by simp) (by simp) (by simp[rV]) hS (by simp) fun _ _=>?_
      simp(disch:=omega) [-zAa,rV];rcases go with⟨g1,g2⟩|⟨g1,g2⟩
      ·simp(disch:=omega) [-zAa,g1,g2,ph]
      ·simp(disch:=omega) [-zAa,g1,g2,e3]
       refine ac hD rfl fun _=>?_;simp(disch:=omega) [-zAa,ph]
     ·rw[h39]at hS
      simp(disch:=omega) [-zAa,hpl,hpl',hq,h39,htk3];refine ah [1] 1 [2] (by simp) (by simp) (by simp) (by simp[rV]) hS (by simp) fun _ _=>?_
      simp(disch:=omega) [-zAa,rV];rcases go with⟨g1,g2⟩|⟨g1,g2⟩
      ·simp(disch:=omega) [-zAa,g1,g2,ph]
      ·simp(disch:=omega) [-zAa,g1,g2,e3]
       refine ac hD rfl fun _=>?_;simp(disch:=omega) [-zAa,ph]
    ·simp only[if_neg hqq]
     have hR:=Sx (s.drop p) (by simp;omega)
     have hRl:=b7 mA (s.drop p);simp only[zAc]at hRl;generalize ai mA (s.drop p)=n at *;have htk3:(s.drop p).take (s.length-p)=s.drop p:=zAe (by simp)
     have hD:=lM ((s.drop p).take n) (by simp;omega)
     have e3:((p:Int)+(n:Int)).toNat-p=n:=by omega
     have h34:¬q.toNat=34:=by omega
     have h39:¬q.toNat=39:=by omega
     simp(disch:=omega) [-zAa,hpl,hpl',hq,h34,h39,htk3];refine ac hR rfl fun _=>?_;simp(disch:=omega) [-zAa,e3];refine ac hD rfl fun _=>?_;simp(disch:=omega) [-zAa,ph]
  ·simp only[decide_eq_false_iff_not]at h
   have hc61:¬c=61:=fun e=>h (by rw[e];rfl)
   rw[if_neg hc61];simp(disch:=omega) [-zAa,ph]
theorem Ie{s nm:Str}{i:Nat}(hi:i<=s.length):i<=(xv s nm i).2/\(xv s nm i).2<=s.length:=by
 unfold xv;cases hq:s[i]? with
 |none=>simp only;omega
 |some q=>
   have hlt:i<s.length:=(zAb.1 hq).1;simp only;split
   ·have hS:=b7 (cJ q.toNat) (s.drop (i+1))
    simp only[zAc]at hS;split
    ·simp only;omega
    ·simp only;omega
   ·have hS:=b7 mA (s.drop i)
    simp only[zAc]at hS;simp only;omega
theorem lD(s:Str):ai aQ s<=(eP s).2/\(eP s).2<=s.length:=by
 have hA:=b7 aQ s;have hB:=b7 bd (s.drop (ai aQ s));simp only[zAc]at hB;unfold eP;split
 ·rename_i hq
  have hlt:ai aQ s+ai bd (s.drop (ai aQ s))<s.length:=(zAb.1 hq).1;have hC:=b7 bd (s.drop (ai aQ s+ai bd (s.drop (ai aQ s))+1));simp only[zAc]at hC;have:=Ie (s:=s) (nm:=(s.take (ai aQ s)).map aH) (i:=ai aQ s+ai bd (s.drop (ai aQ s))+1+ai bd (s.drop (ai aQ s+ai bd (s.drop (ai aQ s))+1))) (by omega)
  omega
 ·simp only;omega
theorem j7{p:Nat->Bool}:∀{s:Str}{b:UInt8},s[ai p s]?=some b->p b.toNat=false
 |[],b,h=>by simp at h
 |c::t,b,h=>by
   rw[bJ]at h;split at h
   ·exact j7 (s:=t) (by simpa using h)
   ·rename_i hc
    simp at h;subst h;simpa using hc
def my:Nat->Str->Nat->List Attr->Option (List Attr×Nat)
 |0,_,_,_=>none
 |f+1,s,i,l=>match s[i+ai bZ (s.drop i)]? with
   |none=>none
   |some b=>if b.toNat=62 then some (l,i+ai bZ (s.drop i)+1)
     else my f s (i+ai bZ (s.drop i)+(eP (s.drop (i+ai bZ (s.drop i)))).2)
      (if kq l (eP (s.drop (i+ai bZ (s.drop i)))).1.name=true then l else l++[(eP (s.drop (i+ai bZ (s.drop i)))).1])
def u5(s:Str):Tok×Nat:=
 match my (s.length+1) s (1+br (s.drop 1)) []with
 |none=>(lX,s.length)
 |some p=>(⟨1,((s.drop 1).take (br (s.drop 1))).map aH,p.1,[]⟩,p.2)
end Go.Abs.F
end
section
namespace Go.Abs.F
open Go.Proofs Go.RowKit
attribute [-simp] getElem?_pos zDe zEd List.drop_one
def gE(e:Str×Nat):V×V:=(.str e.1,.int .i64 e.2)
theorem Kk(x:Str):∀L:List (Str×Nat),(ir (.str x) (L.map gE)).isSome=decide (x∈L.map (·.1))
 |[]=>rfl
 |e::L=>by
   simp only[zAj,gE,ir,fE,decide_eq_true_eq,zAg];by_cases h:x=e.1
   ·simp[h]
   ·rw[if_neg h]
    have:=Kk x L;simp only[h,false_or];exact this
theorem Dl(x:Str)(v:Nat):∀L:List (Str×Nat),¬x∈L.map (·.1)->mc (.str x) (.int .i64 v) (L.map gE)=(L++[(x,v)]).map gE
 |[],_=>rfl
 |e::L,h=>by
   simp only[zAj,zAg,not_or]at h;have:=Dl x v L h.2;simp only[zAj,zFg,gE,mc,fE,decide_eq_true_eq]at this⊢;rw[if_neg h.1];rw[<-this]
theorem yy(x:Str):∀l:List Attr,kq l x=decide (x∈l.map (·.name))
 |[]=>rfl
 |a::l=>by
   simp only[kq,zAj,zAg,yy x l];by_cases h:a.name=x
   ·simp[h]
   ·have h2:¬x=a.name:=fun e=>h e.symm
    simp[h,h2]
def JG(s nm:Str)(i:Nat):List Attr->List (V×V)->St
 |[],_=>⟨[(0,.str s),(2,.ptr 0 0),(4,.int .i64 i),(5,.ptr 1 0),(6,.nilmp)],[some (.box [.int .i64 0,.str [],.nil 2,.str []]),some (.box [.int .i64 1,.str nm,.ref 2 0,.str []]),some (.arr 59 2 [])]⟩
 |a::l,es=>⟨[(0,.str s),(2,.ptr 0 0),(4,.int .i64 i),(5,.ptr 1 0),(6,.ref 2 0)],[some (.box [.int .i64 0,.str [],.nil 2,.str []]),some (.box [.int .i64 1,.str nm,.ref 3 (l.length+1),.str []]),some (.mp ⟨false,[.s]⟩ es),some (.arr 59 2 ((a::l).map Attr.v))]⟩
theorem s6(s:Str)(hs:s.length<=1000000000)(hne:0<s.length)(hti:0<br (s.drop 1)):Fn Tryz.prog lg [.str s] (jY (u5 s)):=by
 refine Fn.of_imageE mixed sS sN rfl fun ho=>?_;unfold lA;simp only[oks,ok,and_true]at ho;clear ho;unfold u5;have htl:=ug (s.drop 1);have hT:=qm (s.drop 1) (by simp;omega)
 simp only[zAc]at htl;generalize br (s.drop 1)=n0 at *
 have hfo:=rH ((s.drop 1).take n0) (by simp;omega) (by
  intro h;have h2:=congrArg zFf h;rw[zFh,zAc,zBb]at h2;omega)
 generalize((s.drop 1).take n0).map aH=nm at *;have htk:(s.drop 1).take (s.length-1)=s.drop 1:=zAe (by simp)
 have e1:((1:Int)+(n0:Int)).toNat-1=n0:=by omega
 have hc1:(1:Int)+(n0:Int)=((1+n0:Nat):Int):=by omega
 simp(disch:=omega) [-zAa,htk];refine ac hT rfl fun _=>?_;simp(disch:=omega) [-zAa,e1];refine ac hfo rfl fun _=>?_;simp(disch:=omega) [-zAa];generalize hR:my (s.length+1) s (1+n0) []=R
 refine ay (fun(q:Nat×List Attr×List (Str×Nat))=>JG s nm q.1 q.2.1 (q.2.2.map gE))
  (fun q=>q.1<=s.length/\q.2.1.length<=q.1/\q.2.2.map (·.1)=q.2.1.map (·.name)/\∃f,s.length-q.1<f/\my f s q.1 q.2.1=R) (fun q=>s.length-q.1) [.b 1 2 59 2] _ (1+n0,[],[]) rfl (by simp[JG]) ⟨by simp only;omega,by simp,rfl,_,by simp only;omega,hR⟩ ?_
 rintro⟨i,l,es⟩ ⟨hi,hll,hes,f,hf,hr⟩ N hN;simp only at hi hll hes hf hr;cases f with
 |zero=>omega
 |succ f=>
 simp only[my]at hr;have hS:=Sw (s.drop i) (by simp;omega)
 have hSl:=b7 bZ (s.drop i);have hst0:∀b,(s.drop i)[ai bZ (s.drop i)]?=some b->bZ b.toNat=false:=fun b hb=>j7 hb;simp only[zAc]at hSl;generalize ai bZ (s.drop i)=j at *;have htk2:(s.drop i).take (s.length-i)=s.drop i:=zAe (by simp)
 obtain⟨m,hm⟩:∃m,m=i+j:=⟨_,rfl⟩;have hcast:(i:Int)+(j:Int)=(m:Int):=by omega
 rw[<-hm]at hr;have hst:∀b,s[m]?=some b->bZ b.toNat=false:=fun b hb=>hst0 b (by rw[zFe,<-hm];exact hb)
 cases l with
 |nil=>
   simp(disch:=omega) [-zAa,JG,htk2];refine ac hS rfl fun _=>?_;simp(disch:=omega) [-zAa,hcast];by_cases hl:m=s.length
   ·have hn:s[m]?=none:=zCi (by omega)
    rw[hn]at hr;simp only at hr;subst hr;simp(disch:=omega) [-zAa,hl,jY,lX,Tok.v,Tok.c,aM]
   ·obtain⟨b,hb⟩:=bH (l:=s) (k:=m) (by omega)
    have hl':¬(m:Int)=(s.length:Int):=by omega
    have hml:m<s.length:=by omega
    rw[hb]at hr;simp only at hr;simp(disch:=omega) [-zAa,hl,hl',hb];refine BrK.mk (fun h=>?_) (fun h=>?_)
    ·simp only[decide_eq_true_eq]at h
     rw[if_pos h]at hr;subst hr;simp(disch:=omega) [-zAa,jY,Tok.v,Tok.c,aM]
    ·simp only[decide_eq_false_iff_not]at h
     rw[if_neg h]at hr
     have hat:0<ai aQ (s.drop m):=by
      rw[zBj hml,bJ];have hbe:s[m]=b:=by rw[zCf hml]at hb;exact zEg.inj hb
      rw[hbe,if_pos]
      ·omega
      ·have:=hst b hb
       simp only[bZ,zEh,decide_eq_false_iff_not]at this;simp[aQ,this.1.1,this.1.2,this.2,h]
     have hAt:=lu (s.drop m) (by simp;omega) hat
     have hAr:=lD (s.drop m);simp only[zAc]at hAr;generalize eP (s.drop m)=pa at *;obtain⟨at',an⟩:=pa;simp only[ph]at hr hAr hAt;have htk3:(s.drop m).take (s.length-m)=s.drop m:=zAe (by simp)
     simp(disch:=omega) [-zAa,htk3];refine ac hAt rfl fun _=>?_;simp(disch:=omega) [-zAa];have hmp:=Dl at'.name (m+an) [] (by simp)
     simp only[kq,List.nil_append]at hr;have hca:(m:Int)+(an:Int)=((m+an:Nat):Int):=by omega
     rw[hca];simp only[zEe]at hmp;rw[hmp];exact hN.out _<|Nx.mk (m+an,[at'],[(at'.name,m+an)]) (by simp[JG,gE]) ⟨by simp only;omega,by simp only[zAh,zBb];omega,rfl,f,by simp only;omega,by simpa using hr⟩ (by simp only;omega)
 |cons a0 l0=>
   simp(disch:=omega) [-zAa,JG,htk2];refine ac hS rfl fun _=>?_;simp(disch:=omega) [-zAa,hcast];by_cases hl:m=s.length
   ·have hn:s[m]?=none:=zCi (by omega)
    rw[hn]at hr;simp only at hr;subst hr;simp(disch:=omega) [-zAa,hl,jY,lX,Tok.v,Tok.c,aM]
   ·obtain⟨b,hb⟩:=bH (l:=s) (k:=m) (by omega)
    have hl':¬(m:Int)=(s.length:Int):=by omega
    have hml:m<s.length:=by omega
    rw[hb]at hr;simp only at hr;simp(disch:=omega) [-zAa,hl,hl',hb];refine BrK.mk (fun h=>?_) (fun h=>?_)
    ·simp only[decide_eq_true_eq]at h
     rw[if_pos h]at hr;subst hr;simp(disch:=omega) [-zAa,jY,Tok.v,Tok.c,aM]
    ·simp only[decide_eq_false_iff_not]at h
     rw[if_neg h]at hr
     have hat:0<ai aQ (s.drop m):=by
      rw[zBj hml,bJ];have hbe:s[m]=b:=by rw[zCf hml]at hb;exact zEg.inj hb
      rw[hbe,if_pos]
      ·omega
      ·have:=hst b hb
       simp only[bZ,zEh,decide_eq_false_iff_not]at this;simp[aQ,this.1.1,this.1.2,this.2,h]
     have hAt:=lu (s.drop m) (by simp;omega) hat
     have hAr:=lD (s.drop m);simp only[zAc]at hAr;generalize eP (s.drop m)=pa at *;obtain⟨at',an⟩:=pa;simp only[ph]at hr hAr hAt;have htk3:(s.drop m).take (s.length-m)=s.drop m:=zAe (by simp)
     simp(disch:=omega) [-zAa,htk3];refine ac hAt rfl fun _=>?_;have hmg:=Kk at'.name es;rw[hes,<-yy]at hmg;have hca:(m:Int)+(an:Int)=((m+an:Nat):Int):=by omega
     by_cases hh:kq (a0::l0) at'.name=true
     ·rw[if_pos hh]at hr
      rw[hh]at hmg;obtain⟨u,hu⟩:=Option.isSome_iff_exists.1 hmg;simp(disch:=omega) [-zAa,hu];rw[hca];exact hN.out _<|Nx.mk (m+an,a0::l0,es) (by simp[JG]) ⟨by simp only;omega,by simp only at hll⊢;omega,hes,f,by simp only;omega,hr⟩ (by simp only;omega)
     ·rw[if_neg hh]at hr
      have hmn:ir (V.str at'.name) (es.map gE)=none:=by
       cases hq:ir (V.str at'.name) (es.map gE)with
       |none=>rfl
       |some u=>rw[hq]at hmg;exact absurd hmg.symm hh
      have hmp:=Dl at'.name (m+an) es (by rw[hes];rw[yy]at hh;simpa using hh)
      have hll2:l0.length+1<=i:=by simpa using hll
      simp(disch:=omega) [-zAa,hmn];rw[hca,hmp];exact hN.out _<|Nx.mk (m+an,a0::(l0++[at']),es++[(at'.name,m+an)]) (by simp[JG]) ⟨by simp only;omega,by simp only[zAh,zBc,zBb];omega,by simp[hes],f,by simp only;omega,by simpa using hr⟩ (by simp only;omega)
end Go.Abs.F
end
section
namespace Go.Abs.F
open Go.Proofs Go.RowKit
attribute [-simp] getElem?_pos zDe zEd
def cm(s:Str):Tok×Nat:=
 if aA s=false then(lX,0)
 else if s[1]?=some 47 then tp s
 else if s[1]?=some 33\/s[1]?=some 63 then oT s
 else u5 s
theorem Hk(s:Str)(hs:s.length<=1000000000):Fn Tryz.prog FU [.str s] (jY (cm s)):=by
 refine Fn.of_image mixed GI Gm rfl fun ho=>?_;unfold vV;simp only[oks,ok,and_true]at ho;clear ho;unfold cm;simp(disch:=omega) [-zAa];refine ac (oB s) rfl fun _=>?_;by_cases h:aA s=false
 ·simp(disch:=omega) [-zAa,h,jY,lX,Tok.v,Tok.c,aM]
 ·match s,h with
  |[],h=>simp[aA]at h
  |[a],h=>simp[aA]at h
  |a::b::t,h=>
    have hst:aA (a::b::t)=true:=by simpa using h
    have hb:=b.toNat_lt;have hE:=yU (a::b::t) hs (by simp)
    have hC:=nx (a::b::t) hs (by simp)
    have hB:¬b.toNat=47->¬b.toNat=33->¬b.toNat=63->Fn Tryz.prog lg [.str (a::b::t)] (jY (u5 (a::b::t))):=fun h1 h2 h3=>s6 (a::b::t) hs (by simp) (by
     have hl:bB b.toNat=true:=by
      simp[aA,h1,h2,h3]at hst;exact hst.2
     have ht:bU b.toNat=true:=by simp[bU,hl]
     simp only[zFd,zDi,br,if_pos hl];rw[bJ,if_pos ht];omega)
    rw[if_neg h];generalize u5 (a::b::t)=bp at *;generalize oT (a::b::t)=cp at *;generalize tp (a::b::t)=ep at *;obtain⟨bt,bn⟩:=bp;obtain⟨ct,cn⟩:=cp;obtain⟨et,en⟩:=ep;have u8:∀k:Nat,k<256->(b=zGe k↔b.toNat=k):=fun k hk=>⟨fun e=>by rw[e];simp[zFi hk],fun e=>zDh.1 (by simp[zFi hk,e])⟩
    have q47:=u8 47 (by decide)
    have q33:=u8 33 (by decide)
    have q63:=u8 63 (by decide)
    by_cases h47:b.toNat=47
    ·have e47:b=47:=q47.2 h47
     subst e47;simp(disch:=omega) [-zAa,hst];refine aq hE (by simp) fun _=>?_
     simp(disch:=omega) [-zAa,jY,Tok.v,Tok.c,aM]
    ·by_cases h33:b.toNat=33
     ·have e33:b=33:=q33.2 h33
      subst e33;simp(disch:=omega) [-zAa,hst];refine aq hC (by simp) fun _=>?_
      simp(disch:=omega) [-zAa,jY,Tok.v,Tok.c,aM]
     ·by_cases h63:b.toNat=63
      ·have e63:b=63:=q63.2 h63
       subst e63;simp(disch:=omega) [-zAa,hst];refine aq hC (by simp) fun _=>?_
       simp(disch:=omega) [-zAa,jY,Tok.v,Tok.c,aM]
      ·have n47:¬b=47:=fun e=>h47 (q47.1 e)
       have n33:¬b=33:=fun e=>h33 (q33.1 e);have n63:¬b=63:=fun e=>h63 (q63.1 e);simp(disch:=omega) [-zAa,hst,h47,h33,h63,n47,n33,n63];refine aq (hB h47 h33 h63) (by simp) fun _=>?_
       simp(disch:=omega) [-zAa,jY,Tok.v,Tok.c,aM]
def eo(s nm:Str):Nat:=if ends s nm<0 then s.length else(ends s nm).toNat
def fd:Nat->Str->List Tok
 |0,_=>[]
 |f+1,s=>if s=[]then[]else
   if(cm s).2=0 then⟨3,[],[],i7 (s.take (aZ s))⟩::fd f (s.drop (aZ s))
   else if(cm s).1.kind=0 then fd f (s.drop (cm s).2)
   else if(cm s).1.kind=1/\raw (cm s).1.name=true then
    (cm s).1::(if eo (s.drop (cm s).2) (cm s).1.name=0 then fd f (s.drop (cm s).2)else
      ⟨3,[],[],(s.drop (cm s).2).take (eo (s.drop (cm s).2) (cm s).1.name)⟩::fd f ((s.drop (cm s).2).drop (eo (s.drop (cm s).2) (cm s).1.name)))
   else(cm s).1::fd f (s.drop (cm s).2)
def aO(s:Str):List Tok:=fd (s.length+1) s
theorem ze{s mark:Str}{k:Nat}(h:k<=s.length):(rT s k mark).2<=s.length:=by
 unfold rT;split
 ·simp
 ·rename_i h0
  have:=uD (s.drop k) mark (by omega)
  simp only[zAc]at this;simp only;omega
theorem zd{s:Str}(h2:2<=s.length):(oT s).2<=s.length:=by
 unfold oT;split
 ·rename_i h
  have h4:=cu h;exact ze (by simpa using h4)
 ·exact ze h2
theorem Ju{s:Str}(h2:2<=s.length):(tp s).2<=s.length:=by
 unfold tp;split
 ·split
  ·rename_i h
   have h3:=cu h;simpa using h3
  ·exact zd h2
 ·have hlt:=eV 62 s
  split
  ·simp
  ·simp only;omega
theorem zw{s:Str}:∀{f i:Nat}{l:List Attr}{p:List Attr×Nat},my f s i l=some p->p.2<=s.length
 |0,_,_,_,h=>by simp[my]at h
 |f+1,i,l,p,h=>by
   simp only[my]at h;split at h
   ·cases h
   ·rename_i b hb
    have hlt:=(zAb.1 hb).1;split at h
    ·cases h;simp only;omega
    ·exact zw h
theorem JH(s:Str):(u5 s).2<=s.length:=by
 unfold u5;split
 ·simp
 ·rename_i p hp
  exact zw hp
theorem qT(s:Str):(cm s).2<=s.length:=by
 unfold cm;split
 ·simp
 ·rename_i h
  have h2:2<=s.length:=by
   match s,h with
   |[],h=>simp[aA]at h
   |[a],h=>simp[aA]at h
   |a::b::t,h=>simp
  split
  ·exact Ju h2
  ·split
   ·exact zd h2
   ·exact JH s
theorem kE{s:Str}(hne:s≠[])(h:aA s=false):0<aZ s:=by
 cases s with
 |nil=>exact(hne rfl).elim
 |cons b t=>simp only[aZ,h];simp
theorem uQ(nm:Str):∀(s:Str)(i:Nat),a8 nm i s<=(i+s.length:Nat)
 |[],i=>by simp only[a8];omega
 |b::t,i=>by
   simp only[a8,zAh];split
   ·omega
   ·have:=uQ nm t (i+1)
    omega
theorem HK{s mark:Str}{k:Nat}(h:0<k)(hk:k<=s.length):0<(rT s k mark).2:=by
 unfold rT;split<;>simp only<;>omega
theorem HJ{s:Str}(h2:2<=s.length):0<(oT s).2:=by
 unfold oT;split
 ·rename_i h
  have h4:=cu h;exact HK (by decide) (by simpa using h4)
 ·exact HK (by decide) h2
theorem Pt{s:Str}(h2:2<=s.length):0<(tp s).2:=by
 unfold tp;split
 ·split
  ·decide
  ·exact HJ h2
 ·split<;>simp only<;>omega
theorem HM{s:Str}:∀{f i:Nat}{l:List Attr}{p:List Attr×Nat},my f s i l=some p->0<p.2
 |0,_,_,_,h=>by simp[my]at h
 |f+1,i,l,p,h=>by
   simp only[my]at h;split at h
   ·cases h
   ·split at h
    ·cases h;simp only;omega
    ·exact HM h
theorem uh{s:Str}(h:(cm s).2=0):aA s=false:=by
 cases hs:aA s with
 |false=>rfl
 |true=>
   have h2:2<=s.length:=by
    match s,hs with
    |[],hs=>simp[aA]at hs
    |[a],hs=>simp[aA]at hs
    |a::b::t,hs=>simp
   have h1:=Pt h2;have h3:=HJ h2;unfold cm at h;rw[if_neg (by simp[hs])]at h
   split at h
   ·omega
   ·split at h
    ·omega
    ·unfold u5 at h
     split at h
     ·simp only at h;omega
     ·rename_i p hp
      have:=HM hp;simp only at h;omega
theorem yV(s:Str)(hs:s.length<=1000000):Fn Tryz.prog x9 [.str s] (.seq 4 ((aO s).map Tok.v)):=by
 refine Fn.of_imageE mixed yC yo rfl fun ho=>?_;unfold oY;simp only[oks,ok,and_true]at ho;clear ho;unfold aO;simp(disch:=omega) [-zAa];generalize hR:fd (s.length+1) s=R
 refine ay (fun(q:Str×List Tok)=>⟨[(0,.str q.1),(3,.ref 0 q.2.length)],[some (.arr 241 4 (q.2.map Tok.v))]⟩)
  (fun q=>q.2.length+2*q.1.length<=2*s.length/\∃f,q.1.length<f/\q.2++fd f q.1=R) (fun q=>q.1.length) [.r 3 241 4] _ (s,[]) rfl (by simp) ⟨by simp,_,Nat.lt_succ_self _,by simpa using hR⟩ ?_
 rintro⟨t,out⟩ ⟨hl,f,hf,hr⟩ N hN;simp only at hl hf hr;cases f with
 |zero=>omega
 |succ f=>
 simp only[fd]at hr;by_cases hne:t=[]
 ·rw[if_pos hne]at hr
  simp only[zCg]at hr;subst hr;simp(disch:=omega) [-zAa,hne]
 ·rw[if_neg hne]at hr
  have hT:=Hk t (by omega)
  have hTr:=qT t;simp(disch:=omega) [-zAa,hne];refine aq hT (by simp) fun _=>?_
  have hTz:=uh (s:=t);generalize cm t=p at *;obtain⟨tk,n⟩:=p;simp only at hr hTr hTz;simp(disch:=omega) [-zAa,jY,Tok.v,Tok.c,aM];refine BrKd.mk (fun h0=>?_) (fun h0=>?_)
  ·rw[if_pos h0]at hr
   have hcp:=kE hne (hTz h0);have hcl:=pH t;have hC:=rJ t (by omega)
   have hD:=lM (t.take (aZ t)) (by simp;omega)
   generalize aZ t=c at *;have htk:(t.drop c).take (t.length-c)=t.drop c:=zAe (by simp)
   simp(disch:=omega) [-zAa,h0];refine ac hC rfl fun _=>?_;simp(disch:=omega) [-zAa];refine ac hD rfl fun _=>?_;simp(disch:=omega) [-zAa,htk];exact hN.out _<|Nx.mk (t.drop c,out++[⟨3,[],[],i7 (t.take c)⟩]) (by simp[Tok.v,Tok.c,aM]) ⟨by simp only[zBc,zAh,zBb,zAc];omega,f,by simp only[zAc];omega,by simpa using hr⟩ (by simp only[zAc];omega)
  ·rw[if_neg h0]at hr
   have htk:(t.drop n).take (t.length-n)=t.drop n:=zAe (by simp)
   simp(disch:=omega) [-zAa,h0,htk];refine BrK.mk (fun h1=>?_) (fun h1=>?_)
   ·simp only[decide_eq_true_eq]at h1
    rw[if_pos h1]at hr;simp(disch:=omega) [-zAa];exact hN.out _<|Nx.mk (t.drop n,out) (by simp) ⟨by simp only[zAc];omega,f,by simp only[zAc];omega,hr⟩ (by simp only[zAc];omega)
   ·simp only[decide_eq_false_iff_not]at h1
    rw[if_neg h1]at hr
    have plain:∀τ:St,τ.nrm [0,3]=⟨[(0,.str (t.drop n)),(3,.ref 0 (out++[tk]).length)],[some (.arr 241 4 ((out++[tk]).map Tok.v))]⟩->out++tk::fd f (t.drop n)=R->N τ:=by
     intro τ h2 h3;exact hN.out _<|Nx.mk (t.drop n,out++[tk]) h2 ⟨by simp only[zBc,zAh,zBb,zAc];omega,f,by simp only[zAc];omega,by simpa using h3⟩ (by simp only[zAc];omega)
    simp(disch:=omega) [-zAa];refine BrKd.mk (fun h2=>?_) (fun h2=>?_)
    ·simp(disch:=omega) [-zAa,h2]
     refine ac (uO tk.name) rfl fun _=>?_;by_cases hraw:raw tk.name=true
     ·rw[if_pos ⟨h2,hraw⟩]at hr
      have hnl:tk.name.length<=6:=by
       simp only[raw,Bool.or_eq_true,decide_eq_true_eq]at hraw;rcases hraw with e|e<;>rw[e]<;>decide
      have hE:=Es (t.drop n) tk.name (by simp;omega) (by omega)
      have hle:=uQ tk.name (t.drop n) 0;rw[show a8 tk.name 0 (t.drop n)=ends (t.drop n) tk.name from rfl]at hle
      simp only[zAc,Nat.zero_add]at hle;unfold eo at hr;generalize ends (t.drop n) tk.name=e at *;have hnt:n<=t.length:=hTr;simp(disch:=omega) [-zAa,hraw];refine ac hE rfl fun _=>?_;simp(disch:=omega) [-zAa]
      obtain⟨m,hm,hmr,hml⟩:∃m:Nat,(if e<0 then((t.length-n:Nat):Int)else e)=m/\(if e<0 then(t.drop n).length else e.toNat)=m/\m<=t.length-n:=by
       by_cases he:e<0
       ·exact⟨t.length-n,by rw[if_pos he],by rw[if_pos he];simp,zBh _⟩
       ·exact⟨e.toNat,by rw[if_neg he];omega,by rw[if_neg he],by omega⟩
      rw[hmr]at hr;by_cases he:e<0
      ·rw[if_pos he]at hm
       have hm2:t.length-n=m:=by omega
       simp(disch:=omega) [-zAa,he,hm2];by_cases hz:m=0
       ·rw[if_pos hz]at hr
        simp(disch:=omega) [-zAa,hz,htk];exact plain _ (by simp[Tok.v,Tok.c,aM,h2];omega) hr
       ·rw[if_neg hz]at hr
        have hz2:(0:Int)<(m:Int):=by omega
        have htk2:(t.drop (n+m)).take (t.length-n-m)=t.drop (n+m):=zAe (by simp;omega)
        simp(disch:=omega) [-zAa,hz,hz2,htk2];exact hN.out _<|Nx.mk (t.drop (n+m),out++[tk,⟨3,[],[],(t.drop n).take m⟩]) (by simp[Tok.v,Tok.c,aM,h2];omega) ⟨by simp only[zBc,zAh,zBb,zAc];omega,f,by simp only[zAc];omega,by simpa[zCh]using hr⟩ (by simp only[zAc];omega)
      ·rw[if_neg he]at hm
       subst hm;simp(disch:=omega) [-zAa,he];by_cases hz:m=0
       ·rw[if_pos hz]at hr
        simp(disch:=omega) [-zAa,hz,htk];exact plain _ (by simp[Tok.v,Tok.c,aM,h2]) hr
       ·rw[if_neg hz]at hr
        have hz2:(0:Int)<(m:Int):=by omega
        have htk2:(t.drop (n+m)).take (t.length-n-m)=t.drop (n+m):=zAe (by simp;omega)
        simp(disch:=omega) [-zAa,hz,hz2,htk2];exact hN.out _<|Nx.mk (t.drop (n+m),out++[tk,⟨3,[],[],(t.drop n).take m⟩]) (by simp[Tok.v,Tok.c,aM,h2]) ⟨by simp only[zBc,zAh,zBb,zAc];omega,f,by simp only[zAc];omega,by simpa[zCh]using hr⟩ (by simp only[zAc];omega)
     ·rw[if_neg (fun e=>hraw e.2)]at hr
      simp(disch:=omega) [-zAa,hraw];exact plain _ (by simp[Tok.v,Tok.c,aM,h2]) hr
    ·rw[if_neg (fun e=>h2 e.1)]at hr
     simp(disch:=omega) [-zAa,h2];exact plain _ (by simp[Tok.v,Tok.c,aM]) hr
structure Rec where
 kind:Nat
 name:Str
 attrs:List Attr
 text:Str
 body:Str
 kids:List Nat
structure BS where
 recs:List Rec
 out:List Nat
 opn:List (Nat×Str)
def Rec.kid(x:Rec)(i:Nat):Rec:=⟨x.kind,x.name,x.attrs,x.text,x.body,x.kids++[i]⟩
def Rec.more(x:Rec)(t:Str):Rec:=⟨x.kind,x.name,x.attrs,x.text,x.body++t,x.kids⟩
def BS.link(b:BS)(i:Nat):BS:=match b.opn with
 |[]=>⟨b.recs,b.out++[i],[]⟩
 |o::_=>⟨b.recs.modify o.1 (·.kid i),b.out,b.opn⟩
def BS.new(b:BS)(x:Rec):BS:=⟨b.recs++[x],b.out,b.opn⟩
def BS.add(b:BS)(x:Rec):BS:=(b.new x).link b.recs.length
def BS.shut(b:BS):BS:=⟨b.recs,b.out,b.opn.tail⟩
def nc(nm:Str):List (Nat×Str)->List (Nat×Str)
 |[]=>[]
 |o::l=>if dk o.2 nm then nc nm l else o::l
def HA(nm:Str):List (Nat×Str)->List (Nat×Str)
 |[]=>[]
 |o::l=>if o.2=nm then l else HA nm l
def BS.row(b:BS):List Nat:=match b.opn with
 |[]=>b.out
 |o::_=>match b.recs[o.1]? with
   |some x=>x.kids
   |none=>[]
def BS.open'(b:BS)(i:Nat)(nm:Str):BS:=⟨b.recs,b.out,(i,nm)::b.opn⟩
def BS.begin'(b:BS)(t:Tok):BS:=
 let b1:=BS.add ⟨b.recs,b.out,nc t.name b.opn⟩ ⟨1,t.name,t.attrs,[],[],[]⟩
 if ew t.name then b1 else b1.open' b.recs.length t.name
def BS.chars'(b:BS)(t:Str):BS:=if t=[]then b else match b.row.getLast? with
 |some i=>match b.recs[i]? with
   |some x=>if x.kind=2 then⟨b.recs.modify i (·.more t),b.out,b.opn⟩else b.add ⟨2,[],[],[],t,[]⟩
   |none=>b
 |none=>b.add ⟨2,[],[],[],t,[]⟩
def mM(b:BS)(t:Tok):BS:=
 if t.kind=1 then b.begin' t
 else if t.kind=2 then(if b.opn.any (fun o=>decide (o.2=t.name))then⟨b.recs,b.out,HA t.name b.opn⟩else b)
 else if t.kind=3 then b.chars' t.text
 else if t.kind=4 then b.add ⟨3,[],[],t.text,[],[]⟩
 else b
abbrev tyB:Nat:=np
def at0(a:Nat->Nat)(r:Nat):V:=.q 0 (a r) 0 0 0
def ja(ms:List Po)(a own:Nat->Nat)(code:Nat)(l:List Nat)(c:V):Prop:=
 (l=[]/\c=.nil 1)\/∃j,c=.q 1 j l.length 0 0/\own j=code/\ms[j]?=some (.rw tyB 1 (l.map (at0 a)))
def zG(ms:List Po)(own:Nat->Nat)(code:Nat)(s:Str)(c:V):Prop:=
 (s=[]/\c=.nil 1)\/∃j,c=.q 1 j s.length 0 0/\own j=code/\ms[j]?=some (.byt 0 s)
def AtV(x:Rec)(c:V):Prop:=c=aM x.attrs\/(c=.nil 2/\x.attrs=[])
def iB(x:Rec)(ca ct ck:V):Po:=.bx 0 [.int .i64 x.kind,.str x.name,ca,.str x.text,.nil 5,ct,ck]
structure Lay (ms:List Po) (c0 c1:V) (b:BS) (a own:Nat->Nat):Prop where
 recs:∀(r:Nat)(x:Rec),b.recs[r]?=some x->own (a r)=3*r+2/\∃ca ct ck,ms[a r]?=some (iB x ca ct ck)/\AtV x ca/\zG ms own (3*r+4) x.body ct/\ja ms a own (3*r+3) x.kids ck
 out:ja ms a own 0 b.out c0
 opn:ja ms a own 1 (b.opn.reverse.map (·.1)) c1
def lS(S:Nat->Prop)(ms ms':List Po)(own own':Nat->Nat):Prop:=∀i p,ms[i]?=some p->¬S (own i)->ms'[i]?=some p/\own' i=own i
theorem ja.keep{ms ms':List Po}{a a' own own':Nat->Nat}{S:Nat->Prop}{code:Nat}{l:List Nat}{c:V}(h:ja ms a own code l c)(hk:lS S ms ms' own own')(hc:¬S code)(ha:∀r∈l,a' r=a r):ja ms' a' own' code l c:=by
 rcases h with h|⟨j,h1,h2,h3⟩
 ·exact .inl h
 ·obtain⟨k1,k2⟩:=hk j _ h3 (by rw[h2];exact hc)
  refine .inr ⟨j,h1,by rw[k2,h2],?_⟩
  rw[k1];have:l.map (at0 a')=l.map (at0 a):=List.map_congr_left fun r hr=>by simp[at0,ha r hr]
  rw[this]
theorem zG.keep{ms ms':List Po}{own own':Nat->Nat}{S:Nat->Prop}{code:Nat}{s:Str}{c:V}(h:zG ms own code s c)(hk:lS S ms ms' own own')(hc:¬S code):zG ms' own' code s c:=by
 rcases h with h|⟨j,h1,h2,h3⟩
 ·exact .inl h
 ·obtain⟨k1,k2⟩:=hk j _ h3 (by rw[h2];exact hc)
  exact .inr ⟨j,h1,by rw[k2,h2],k1⟩
theorem lS.append(S:Nat->Prop){ms l:List Po}{own own':Nat->Nat}(h:∀i,i<ms.length->own' i=own i):lS S ms (ms++l) own own':=fun i p hp _=>by
 have hlt:=(zAb.1 hp).1;exact⟨by rw[zAd hlt];exact hp,h i hlt⟩
theorem lS.set{S:Nat->Prop}{ms:List Po}{own:Nat->Nat}{j:Nat}{p:Po}(h:S (own j)):lS S ms (ms.set j p) own own:=fun i q hq hS=>by
 have:j≠i:=fun e=>hS (by rw[<-e];exact h)
 exact⟨by rw[zAi this];exact hq,rfl⟩
theorem lS.trans{S:Nat->Prop}{ms ms1 ms2:List Po}{own own1 own2:Nat->Nat}(h:lS S ms ms1 own own1)(h':lS S ms1 ms2 own1 own2):lS S ms ms2 own own2:=fun i p hp hS=>by
 obtain⟨k1,k2⟩:=h i p hp hS;obtain⟨k3,k4⟩:=h' i p k1 (by rw[k2];exact hS)
 exact⟨k3,by rw[k4,k2]⟩
theorem lS.mono{S S':Nat->Prop}{ms ms':List Po}{own own':Nat->Nat}(h:lS S ms ms' own own')(hs:∀n,S n->S' n):lS S' ms ms' own own':=fun i p hp hS=>h i p hp fun e=>hS (hs _ e)
structure WF (N M:Nat) (b:BS):Prop where
 recs:∀(r:Nat)(x:Rec),b.recs[r]?=some x->(∀i∈x.kids,i<b.recs.length)/\x.kids.length<=N/\x.body.length<=N*M
 out:∀i∈b.out,i<b.recs.length
 opn:∀o∈b.opn,∃x,b.recs[o.1]?=some x/\x.name=o.2
 n1:b.recs.length<=N
 n2:b.out.length<=N
 n3:b.opn.length<=N
theorem Lay.recs_keep{ms ms':List Po}{c0 c1:V}{b:BS}{a own a' own':Nat->Nat}{S:Nat->Prop}{N M:Nat}(h:Lay ms c0 c1 b a own)(hw:WF N M b)(hk:lS S ms ms' own own')(ha:∀r,r<b.recs.length->a' r=a r){r:Nat}{x:Rec}(hr:b.recs[r]?=some x)
 (h2:¬S (3*r+2)) (h3:¬S (3*r+3)) (h4:¬S (3*r+4)):own' (a' r)=3*r+2/\∃ca ct ck,ms'[a' r]?=some (iB x ca ct ck)/\AtV x ca/\zG ms' own' (3*r+4) x.body ct/\ja ms' a' own' (3*r+3) x.kids ck:=by
 have hlt:=(zAb.1 hr).1;obtain⟨k1,ca,ct,ck,k2,k3,k4,k5⟩:=h.recs r x hr;obtain⟨e1,e2⟩:=hk _ _ k2 (by rw[k1];exact h2)
 rw[ha r hlt];exact⟨by rw[e2,k1],ca,ct,ck,e1,k3,k4.keep hk h4,k5.keep hk h3 fun i hi=>ha i ((hw.recs r x hr).1 i hi)⟩
theorem Ou {N M:Nat} {b:BS} (hw:WF N M b):∀ i∈b.opn.reverse.map (·.1),i < b.recs.length:=by
 intro i hi
 obtain ⟨o,ho,rfl⟩:=zGc.1 hi
 obtain ⟨x,hx,_⟩:=hw.opn o (List.mem_reverse.1 ho)
 exact (zAb.1 hx).1
def upd(f:Nat->Nat)(i j:Nat):Nat->Nat:=fun k=>if k=i then j else f k
theorem fw(f:Nat->Nat)(i j:Nat):upd f i j i=j:=by simp[upd]
theorem kU{f:Nat->Nat}{i j k:Nat}(h:k≠i):upd f i j k=f k:=by simp[upd,h]
theorem Lay.new {ms:List Po} {c0 c1 ca:V} {b:BS} {a own:Nat→Nat} {N M:Nat} (h:Lay ms c0 c1 b a own) (hw:WF N M b) {x:Rec} (hb:x.body=[]) (hki:x.kids=[]) (hca:AtV x ca):
 Lay (ms++[iB x ca (.nil 1) (.nil 1)]) c0 c1 (b.new x) (upd a b.recs.length ms.length) (upd own ms.length (3 * b.recs.length + 2)):=by
 have hk:lS (fun _=>False) ms (ms++[iB x ca (.nil 1) (.nil 1)]) own (upd own ms.length (3 * b.recs.length + 2)):=lS.append _ fun i hi=>kU (by omega)
 have ha:∀ r,r < b.recs.length→upd a b.recs.length ms.length r=a r:=fun r hr=>kU (by omega)
 refine ⟨fun r y hr=>?_,h.out.keep hk id fun i hi=>ha i (hw.out i hi),h.opn.keep hk id fun i hi=>ha i (Ou hw i hi)⟩
 simp only [BS.new] at hr
 rcases zDc r b.recs.length with hlt | hge
 · rw [zAd hlt] at hr
   exact h.recs_keep hw hk ha hr id id id
 · have hr0:r=b.recs.length:=by
    have:=(zAb.1 hr).1
    rw [zBc,zDg] at this
    omega
   subst hr0
   rw [zAf (zBh _),zCd] at hr
   simp only [zDd,zCe] at hr
   subst hr
   rw [fw,fw]
   refine ⟨rfl,ca,.nil 1,.nil 1,?_,hca,.inl ⟨hb,rfl⟩,.inl ⟨hki,rfl⟩⟩
   rw [zAf (zBh _),zCd]
   rfl
theorem Lay.newB {ms:List Po} {c0 c1 ca:V} {b:BS} {a own:Nat→Nat} {N M:Nat} (h:Lay ms c0 c1 b a own) (hw:WF N M b) {x:Rec} (hki:x.kids=[]) (hca:AtV x ca):
 Lay (ms++[.byt 0 x.body]++[iB x ca (.q 1 ms.length x.body.length 0 0) (.nil 1)]) c0 c1 (b.new x) (upd a b.recs.length (ms.length + 1)) (upd (upd own ms.length (3 * b.recs.length + 4)) (ms.length + 1) (3 * b.recs.length + 2)):=by
 have e0:ms++[.byt 0 x.body]++[iB x ca (.q 1 ms.length x.body.length 0 0) (.nil 1)]=ms++[.byt 0 x.body,iB x ca (.q 1 ms.length x.body.length 0 0) (.nil 1)]:=by simp
 rw [e0]
 have hk:lS (fun _=>False) ms (ms++[.byt 0 x.body,iB x ca (.q 1 ms.length x.body.length 0 0) (.nil 1)]) own (upd (upd own ms.length (3 * b.recs.length + 4)) (ms.length + 1) (3 * b.recs.length + 2)):=lS.append _ fun i hi=>by rw [kU (by omega),kU (by omega)]
 have ha:∀ r,r < b.recs.length→upd a b.recs.length (ms.length + 1) r=a r:=fun r hr=>kU (by omega)
 refine ⟨fun r y hr=>?_,h.out.keep hk id fun i hi=>ha i (hw.out i hi),h.opn.keep hk id fun i hi=>ha i (Ou hw i hi)⟩
 simp only [BS.new] at hr
 rcases zDc r b.recs.length with hlt | hge
 · rw [zAd hlt] at hr
   exact h.recs_keep hw hk ha hr id id id
 · have hr0:r=b.recs.length:=by
    have:=(zAb.1 hr).1
    rw [zBc,zDg] at this
    omega
   subst hr0
   rw [zAf (zBh _),zCd] at hr
   simp only [zDd,zCe] at hr
   subst hr
   rw [fw,fw]
   refine ⟨rfl,ca,_,.nil 1,?_,hca,.inr ⟨ms.length,rfl,?_,?_⟩,.inl ⟨hki,rfl⟩⟩
   · rw [zAf (by omega),show ms.length + 1 - ms.length=1 by omega]
     rfl
   · rw [kU (by omega),fw]
   · rw [zAf (zBh _),zCd]
     rfl
theorem ja.grow0{ms:List Po}{a own:Nat->Nat}{code n:Nat}{t:Po}:ja (ms++[t]++[.rw tyB 1 [at0 a n]]) a (upd own (ms.length+1) code) code [n] (.q 1 (ms.length+1) 1 0 0)/\lS (·=code) ms (ms++[t]++[.rw tyB 1 [at0 a n]]) own (upd own (ms.length+1) code):=by
 refine⟨.inr ⟨ms.length+1,rfl,fw _ _ _,?_⟩,?_⟩
 ·rw[zAf (by simp),zBc,zDg,zCd]
  rfl
 ·rw[zBi]
  exact lS.append _ fun i hi=>kU (by omega)
theorem ja.grow1{ms:List Po}{a own:Nat->Nat}{code n j:Nat}{t:Po}{l:List Nat}(h:own j=code)(hm:ms[j]?=some (.rw tyB 1 (l.map (at0 a)))):
 ja ((ms++[t]).set j (.rw tyB 1 (l.map (at0 a)++[at0 a n]))) a own code (l++[n]) (.q 1 j (l.length+1) 0 0)/\lS (·=code) ms ((ms++[t]).set j (.rw tyB 1 (l.map (at0 a)++[at0 a n]))) own own:=by
 have hlt:=(zAb.1 hm).1;refine⟨.inr ⟨j,by simp,h,?_⟩,?_⟩
 ·rw[zBa (by simp;omega)]
  simp
 ·exact(lS.append _ fun _ _=>rfl).trans (lS.set h)
theorem WF.new{N M:Nat}{b:BS}(h:WF N M b){x:Rec}(hk:x.kids=[])(hb:x.body.length<=(N+1)*M):WF (N+1) M (b.new x):=by
 have hN:N*M<=(N+1)*M:=zEi _ (by omega)
 have hlen:(b.new x).recs.length=b.recs.length+1:=by simp[BS.new]
 refine⟨fun r y hr=>?_,fun i hi=>by have:=h.out i hi;omega,fun o ho=>?_,by have:=h.n1;omega,by have:=h.n2;simp only[BS.new];omega,by have:=h.n3;simp only[BS.new];omega⟩
 ·simp only[BS.new]at hr
  rcases zDc r b.recs.length with hlt|hge
  ·rw[zAd hlt]at hr
   obtain⟨h1,h2,h3⟩:=h.recs r y hr;exact⟨fun i hi=>by have:=h1 i hi;omega,by omega,by omega⟩
  ·rw[zAf hge]at hr
   have hm:=zBf hr;simp only[zAg,zBe,or_false]at hm;subst hm;exact⟨by simp[hk],by simp[hk],hb⟩
 ·obtain⟨y,hy,hn⟩:=h.opn o ho
  refine⟨y,?_,hn⟩;simp only[BS.new];rw[zAd (zAb.1 hy).1];exact hy
theorem dM{α:Type}(l:List α)(i:Nat)(f:α->α):(l.modify i f).length=l.length:=List.length_modify ..
theorem dh{α:Type}{l:List α}{i j:Nat}{f:α->α}{y:α}(h:(l.modify i f)[j]?=some y):∃x,l[j]?=some x/\y=if i=j then f x else x:=by
 rw[zEj]at h;cases hx:l[j]? with
 |none=>rw[hx]at h;cases h
 |some x=>
   rw[hx]at h;simp only[Option.map_eq_map,zEf,zCe]at h;exact⟨x,rfl,h.symm⟩
theorem pz{α:Type}{l:List α}{i j:Nat}{f:α->α}{x:α}(h:l[j]?=some x):(l.modify i f)[j]?=some (if i=j then f x else x):=by
 rw[zEj,h];rfl
theorem WF.link{N M:Nat}{b:BS}(h:WF N M b){n:Nat}(hn:n<b.recs.length)(h2:b.out.length+1<=N)(h3:∀(r:Nat)(x:Rec),b.recs[r]?=some x->x.kids.length+1<=N):WF N M (b.link n):=by
 unfold BS.link;split
 ·refine⟨h.recs,fun i hi=>?_,fun o ho=>(by cases ho),h.n1,by simp;omega,zDj _⟩
  rcases zCa.1 hi with hi|hi
  ·exact h.out i hi
  ·simp only[zAg,zBe,or_false]at hi
   subst hi;exact hn
 ·rename_i o l ho
  refine⟨fun r y hr=>?_,fun i hi=>by simpa[dM]using h.out i hi,fun p hp=>?_,by simpa[dM]using h.n1,h.n2,h.n3⟩
  ·obtain⟨x,hx,rfl⟩:=dh hr
   obtain⟨k1,k2,k3⟩:=h.recs r x hx;have k4:=h3 r x hx;simp only[dM];split
   ·refine⟨fun i hi=>?_,by simp[Rec.kid];omega,k3⟩
    simp only[Rec.kid]at hi;rcases zCa.1 hi with hi|hi
    ·exact k1 i hi
    ·simp only[zAg,zBe,or_false]at hi
     subst hi;exact hn
   ·exact⟨k1,k2,k3⟩
  ·obtain⟨x,hx,hnm⟩:=h.opn p hp
   refine⟨_,pz hx,?_⟩;split
   ·exact hnm
   ·exact hnm
theorem Lay.link0{ms ms':List Po}{c0 c0' c1:V}{b:BS}{a own own':Nat->Nat}{N M n:Nat}(h:Lay ms c0 c1 b a own)(hw:WF N M b)(ho:b.opn=[])(hr:ja ms' a own' 0 (b.out++[n]) c0')(hk:lS (·=0) ms ms' own own'):Lay ms' c0' c1 (b.link n) a own':=by
 have hO:=h.opn;rw[ho]at hO;unfold BS.link;rw[ho];exact⟨fun r x hx=>h.recs_keep hw hk (fun _ _=>rfl) hx (by simp) (by simp) (by simp),hr,hO.keep hk (by simp) fun _ _=>rfl⟩
theorem Lay.link1{ms ms':List Po}{c0 c1 ca ct ck ck':V}{b:BS}{a own own':Nat->Nat}{N M n:Nat}{o:Nat×Str}{l:List (Nat×Str)}{x:Rec}(h:Lay ms c0 c1 b a own)(hw:WF N M b)(ho:b.opn=o::l)(hx:b.recs[o.1]?=some x)
 (hown:own (a o.1)=3*o.1+2) (hb:ms[a o.1]?=some (iB x ca ct ck)) (hca:AtV x ca) (hct:zG ms own (3*o.1+4) x.body ct) (hr:ja ms' a own' (3*o.1+3) (x.kids++[n]) ck') (hk:lS (·=3*o.1+3) ms ms' own own'):
 Lay (ms'.set (a o.1) (iB x ca ct ck')) c0 c1 (b.link n) a own':=by
 obtain⟨hb',hown'⟩:=hk _ _ hb (by rw[hown];omega)
 have hlt:=(zAb.1 hb').1;have hk1:lS (fun m=>m=3*o.1+2) ms' (ms'.set (a o.1) (iB x ca ct ck')) own' own':=lS.set (by rw[hown',hown])
 have hk2:lS (fun m=>m=3*o.1+3\/m=3*o.1+2) ms (ms'.set (a o.1) (iB x ca ct ck')) own own':=(hk.mono fun _ e=>.inl e).trans (hk1.mono fun _ e=>.inr e);unfold BS.link;rw[ho];refine⟨fun r y hy=>?_,h.out.keep hk2 (by omega) fun _ _=>rfl,?_⟩
 ·obtain⟨y0,hy0,rfl⟩:=dh hy
  by_cases e:o.1=r
  ·subst e
   rw[hx]at hy0;cases hy0;rw[if_pos rfl];refine⟨by rw[hown',hown],ca,ct,ck',?_,hca,?_,?_⟩
   ·rw[zBa hlt]
    rfl
   ·exact hct.keep hk2 (by omega)
   ·exact hr.keep hk1 (by omega) fun _ _=>rfl
  ·rw[if_neg e]
   exact h.recs_keep hw hk2 (fun _ _=>rfl) hy0 (by omega) (by omega) (by omega)
 ·have:=h.opn.keep hk2 (by omega) (a':=a) fun _ _=>rfl
  rw[ho]at this;exact this
theorem Lay.text{ms:List Po}{c0 c1 ca ct ck:V}{b:BS}{a own:Nat->Nat}{N M r j:Nat}{x:Rec}{t:Str}(h:Lay ms c0 c1 b a own)(hw:WF N M b)(hx:b.recs[r]?=some x)
 (hown:own (a r)=3*r+2) (hb:ms[a r]?=some (iB x ca ct ck)) (hca:AtV x ca) (hj:own j=3*r+4) (hm:ms[j]?=some (.byt 0 x.body)) (hr:ja ms a own (3*r+3) x.kids ck):
 Lay ((ms.set j (.byt 0 (x.body++t))).set (a r) (iB x ca (.q 1 j (x.body.length+t.length) 0 0) ck)) c0 c1 ⟨b.recs.modify r (·.more t),b.out,b.opn⟩ a own:=by
 have hne:j≠a r:=fun e=>by rw[e,hown]at hj;omega
 have hk2:lS (fun m=>m=3*r+4\/m=3*r+2) ms ((ms.set j (.byt 0 (x.body++t))).set (a r) (iB x ca (.q 1 j (x.body.length+t.length) 0 0) ck)) own own:=(lS.set (S:=fun m=>m=3*r+4\/m=3*r+2) (.inl hj)).trans (lS.set (.inr hown));have hlt:=(zAb.1 hb).1;have hltj:=(zAb.1 hm).1;refine⟨fun q y hy=>?_,h.out.keep hk2 (by omega) fun _ _=>rfl,h.opn.keep hk2 (by omega) fun _ _=>rfl⟩
 obtain⟨y0,hy0,rfl⟩:=dh hy;by_cases e:r=q
 ·subst e
  rw[hx]at hy0;cases hy0;rw[if_pos rfl];refine⟨hown,ca,.q 1 j (x.body.length+t.length) 0 0,ck,?_,hca,.inr ⟨j,?_,hj,?_⟩,hr.keep hk2 (by omega) fun _ _=>rfl⟩
  ·rw[zBa (by simp;omega)]
   rfl
  ·simp[Rec.more]
  ·rw[zAi (Ne.symm hne),zBa hltj]
   rfl
 ·rw[if_neg e]
  exact h.recs_keep hw hk2 (fun _ _=>rfl) hy0 (by omega) (by omega) (by omega)
theorem Lay.shut{ms:List Po}{c0 c1:V}{b:BS}{a own:Nat->Nat}{N M j:Nat}{o:Nat×Str}{l:List (Nat×Str)}(h:Lay ms c0 c1 b a own)(hw:WF N M b)(ho:b.opn=o::l)(hj:own j=1):
 Lay (ms.set j .no++[.rw tyB 1 ((l.reverse.map (·.1)).map (at0 a))]) c0 (.q 1 ms.length l.length 0 0) b.shut a (upd own ms.length 1):=by
 have hk:lS (·=1) ms (ms.set j .no++[.rw tyB 1 ((l.reverse.map (·.1)).map (at0 a))]) own (upd own ms.length 1):=(lS.set (S:=(·=1)) hj).trans (lS.append _ fun i hi=>kU (by simp at hi;omega))
 refine⟨fun r x hx=>h.recs_keep hw hk (fun _ _=>rfl) hx (by omega) (by omega) (by omega),h.out.keep hk (by omega) fun _ _=>rfl,.inr ⟨ms.length,?_,fw _ _ _,?_⟩⟩
 ·simp[BS.shut,ho]
 ·simp only[BS.shut,ho,List.tail_cons]
  rw[zAf (by simp),zDb,zCd]
  rfl
theorem WF.shut{N M:Nat}{b:BS}(h:WF N M b):WF N M b.shut:=
 ⟨h.recs,h.out,fun o ho=>h.opn o (List.mem_of_mem_tail ho),h.n1,h.n2,by have:=h.n3;simp only[BS.shut,List.length_tail];omega⟩
theorem Lay.open'{ms ms':List Po}{c0 c1 c1':V}{b:BS}{a own own':Nat->Nat}{N M n:Nat}{nm:Str}(h:Lay ms c0 c1 b a own)(hw:WF N M b)(hr:ja ms' a own' 1 (b.opn.reverse.map (·.1)++[n]) c1')(hk:lS (·=1) ms ms' own own'):Lay ms' c0 c1' (b.open' n nm) a own':=
 ⟨fun r x hx=>h.recs_keep hw hk (fun _ _=>rfl) hx (by omega) (by omega) (by omega),h.out.keep hk (by omega) fun _ _=>rfl,by simpa[BS.open']using hr⟩
theorem WF.open'{N M:Nat}{b:BS}(h:WF N M b){n:Nat}{nm:Str}{x:Rec}(hx:b.recs[n]?=some x)(hn:x.name=nm)(h3:b.opn.length+1<=N):WF N M (b.open' n nm):=
 ⟨h.recs,h.out,fun o ho=>by
   rcases zAg.1 ho with rfl|ho
   ·exact⟨x,hx,hn⟩
   ·exact h.opn o ho,h.n1,h.n2,by simp[BS.open'];omega⟩
theorem WF.text{N M:Nat}{b:BS}(h:WF N M b){r:Nat}{t:Str}(ht:t.length<=M):WF (N+1) M ⟨b.recs.modify r (·.more t),b.out,b.opn⟩:=by
 have hN:(N+1)*M=N*M+M:=zGd N M;refine⟨fun q y hy=>?_,fun i hi=>by simpa[dM]using h.out i hi,fun p hp=>?_,by have:=h.n1;simp[dM];omega,by have:=h.n2;simp only;omega,by have:=h.n3;simp only;omega⟩
 ·obtain⟨x,hx,rfl⟩:=dh hy
  obtain⟨k1,k2,k3⟩:=h.recs q x hx;simp only[dM];split
  ·exact⟨k1,by simp[Rec.more];omega,by simp[Rec.more];omega⟩
  ·exact⟨k1,by omega,by omega⟩
 ·obtain⟨x,hx,hnm⟩:=h.opn p hp
  refine⟨_,pz hx,?_⟩;split
  ·exact hnm
  ·exact hnm
theorem WF.mono{N N' M:Nat}{b:BS}(h:WF N M b)(hN:N<=N'):WF N' M b:=by
 have:N*M<=N'*M:=zEi _ hN;exact⟨fun r x hx=>by obtain⟨k1,k2,k3⟩:=h.recs r x hx;exact⟨k1,by omega,by omega⟩,h.out,h.opn,by have:=h.n1;omega,by have:=h.n2;omega,by have:=h.n3;omega⟩
def fK(nm:Str)(l:List (Nat×Str)):Nat:=(l.filter fun o=>decide (o.2=nm)).length
def t7(L:List (Str×Nat))(l:List (Nat×Str)):Prop:=(L.map (·.1)).Nodup/\∀nm n,(nm,n)∈L↔n=fK nm l/\0<n
def l7(x:Str)(v:Nat):List (Str×Nat)->List (Str×Nat)
 |[]=>[(x,v)]
 |e::L=>if x=e.1 then(x,v)::L else e::l7 x v L
def wX(x:Str):List (Str×Nat)->List (Str×Nat)
 |[]=>[]
 |e::L=>if x=e.1 then L else e::wX x L
theorem IK(x:Str)(v:Nat):∀L:List (Str×Nat),mc (.str x) (.int .i64 v) (L.map gE)=(l7 x v L).map gE
 |[]=>rfl
 |e::L=>by
   have ih:=IK x v L;simp only[zAj,gE,mc,fE,decide_eq_true_eq,l7];split
   ·rfl
   ·rw[zAj,<-ih];rfl
theorem OI(x:Str):∀L:List (Str×Nat),sF (.str x) (L.map gE)=(wX x L).map gE
 |[]=>rfl
 |e::L=>by
   have ih:=OI x L;simp only[zAj,gE,sF,fE,decide_eq_true_eq,wX];split
   ·rfl
   ·rw[zAj,<-ih];rfl
theorem IM{x:Str}{v:Nat}:∀{L:List (Str×Nat)},(L.map (·.1)).Nodup->(x,v)∈L->ir (.str x) (L.map gE)=some (.int .i64 v)
 |[],_,h=>by cases h
 |e::L,hn,h=>by
   simp only[zAj,gE,ir,fE,decide_eq_true_eq];rw[zAj,zCb]at hn;rcases zAg.1 h with rfl|h
   ·rw[if_pos rfl]
   ·have:x≠e.1:=fun e'=>hn.1 (e' ▸ zDa (f:=(·.1)) h)
    rw[if_neg this];exact IM hn.2 h
theorem Kl{x:Str}:∀{L:List (Str×Nat)},(∀v,(x,v) ∉ L)->ir (.str x) (L.map gE)=none
 |[],_=>rfl
 |e::L,h=>by
   simp only[zAj,gE,ir,fE,decide_eq_true_eq];have:x≠e.1:=fun e'=>h e.2 (by rw[e'];simp)
   rw[if_neg this];exact Kl fun v hv=>h v (by simp[hv])
theorem BG(x:Str)(v:Nat):∀L:List (Str×Nat),∀y,y∈(l7 x v L).map (·.1)↔y=x\/y∈L.map (·.1)
 |[],y=>by simp[l7]
 |e::L,y=>by
   simp only[l7];split
   ·rename_i h
    rw[zAj,zAj,zAg,zAg,h];simp
   ·rw[zAj,zAj,zAg,zAg,BG x v L y]
    exact⟨fun h=>by rcases h with h|h|h<;>simp[h],fun h=>by rcases h with h|h|h<;>simp[h]⟩
theorem ig(x:Str)(v:Nat):∀L:List (Str×Nat),(L.map (·.1)).Nodup->((l7 x v L).map (·.1)).Nodup
 |[],_=>by simp[l7]
 |e::L,h=>by
   rw[zAj,zCb]at h;simp only[l7];split
   ·rename_i he
    rw[zAj,zCb];exact⟨by rw[he];exact h.1,h.2⟩
   ·rename_i he
    rw[zAj,zCb,BG];exact⟨fun hh=>hh.elim (fun e'=>he e'.symm) h.1,ig x v L h.2⟩
theorem sw(x:Str)(v:Nat):∀L:List (Str×Nat),(L.map (·.1)).Nodup->∀y n,(y,n)∈l7 x v L↔(y=x/\n=v)\/(y≠x/\(y,n)∈L)
 |[],_,y,n=>by simp[l7]
 |e::L,h,y,n=>by
   rw[zAj,zCb]at h;simp only[l7];split
   ·rename_i he
    rw[zAg,zAg,zFc];constructor
    ·rintro(h1|h1)
     ·exact .inl h1
     ·refine .inr ⟨fun e'=>h.1 ?_,.inr h1⟩
      rw[<-he,<-e'];exact zDa (f:=(·.1)) h1
    ·rintro(h1|⟨h1,h2|h2⟩)
     ·exact .inl h1
     ·exact(h1 (by rw[he,<-h2])).elim
     ·exact .inr h2
   ·rename_i he
    rw[zAg,zAg,sw x v L h.2 y n];constructor
    ·rintro(h1|h1|h1)
     ·exact .inr ⟨fun e'=>he (by rw[<-e',<-h1]),.inl h1⟩
     ·exact .inl h1
     ·exact .inr ⟨h1.1,.inr h1.2⟩
    ·rintro(h1|⟨h1,h2|h2⟩)
     ·exact .inr (.inl h1)
     ·exact .inl h2
     ·exact .inr (.inr ⟨h1,h2⟩)
theorem HD(x:Str):∀L:List (Str×Nat),∀e∈wX x L,e∈L
 |[],e,h=>h
 |d::L,e,h=>by
   simp only[wX]at h;split at h
   ·exact zFa _ h
   ·rcases zAg.1 h with rfl|h
    ·simp
    ·exact zFa _ (HD x L e h)
theorem y7(x:Str):∀L:List (Str×Nat),(L.map (·.1)).Nodup->((wX x L).map (·.1)).Nodup
 |[],_=>by simp[wX]
 |d::L,h=>by
   rw[zAj,zCb]at h;simp only[wX];split
   ·exact h.2
   ·rw[zAj,zCb]
    refine⟨fun hh=>h.1 ?_,y7 x L h.2⟩;obtain⟨e,he,e2⟩:=zGc.1 hh;rw[<-e2];exact zDa (f:=(·.1)) (HD x L e he)
theorem HE(x:Str):∀L:List (Str×Nat),(L.map (·.1)).Nodup->∀y n,(y,n)∈wX x L↔y≠x/\(y,n)∈L
 |[],_,y,n=>by simp[wX]
 |e::L,h,y,n=>by
   rw[zAj,zCb]at h;simp only[wX];split
   ·rename_i he
    rw[zAg];constructor
    ·intro h1
     refine⟨fun e'=>h.1 ?_,.inr h1⟩;rw[<-he,<-e'];exact zDa (f:=(·.1)) h1
    ·rintro⟨h1,h2|h2⟩
     ·exact(h1 (by rw[he,<-h2])).elim
     ·exact h2
   ·rename_i he
    rw[zAg,zAg,HE x L h.2 y n];constructor
    ·rintro(h1|h1)
     ·exact⟨fun e'=>he (by rw[<-e',<-h1]),.inl h1⟩
     ·exact⟨h1.1,.inr h1.2⟩
    ·rintro⟨h1,h2|h2⟩
     ·exact .inl h2
     ·exact .inr ⟨h1,h2⟩
theorem mo(nm:Str)(o:Nat×Str)(l:List (Nat×Str)):fK nm (o::l)=(if o.2=nm then 1 else 0)+fK nm l:=by
 unfold fK;rw[List.filter_cons];split
 ·rename_i h
  rw[if_pos (by simpa using h),zAh]
  omega
 ·rename_i h
  rw[if_neg (by simpa using h)]
  omega
theorem KG(nm:Str)(l:List (Nat×Str)):fK nm l<=l.length:=List.length_filter_le _ _
theorem t7.nil:t7 [] []:=⟨by simp,fun nm n=>by simp[fK]⟩
theorem t7.get{L:List (Str×Nat)}{l:List (Nat×Str)}(h:t7 L l)(nm:Str):ir (.str nm) (L.map gE)=if fK nm l=0 then none else some (.int .i64 (fK nm l:Nat)):=by
 split
 ·rename_i h0
  exact Kl fun v hv=>by have:=(h.2 nm v).1 hv;omega
 ·rename_i h0
  exact IM h.1 ((h.2 nm _).2 ⟨rfl,by omega⟩)
theorem t7.up{L:List (Str×Nat)}{l:List (Nat×Str)}(h:t7 L l)(i:Nat)(nm:Str):t7 (l7 nm (fK nm l+1) L) ((i,nm)::l):=by
 refine⟨ig _ _ _ h.1,fun y n=>?_⟩;rw[sw _ _ _ h.1,mo];by_cases e:y=nm
 ·subst e
  simp only[true_and,ne_eq,not_true_eq_false,false_and,or_false,if_true];omega
 ·rw[h.2 y n]
  have e':¬nm=y:=fun h=>e h.symm;simp[e,e']
theorem t7.down{L:List (Str×Nat)}{l:List (Nat×Str)}{o:Nat×Str}(h:t7 L (o::l)):t7 (if fK o.2 l=0 then wX o.2 (l7 o.2 (fK o.2 l) L)else l7 o.2 (fK o.2 l) L) l:=by
 have key:∀y n,(y,n)∈l7 o.2 (fK o.2 l) L↔(y=o.2/\n=fK o.2 l)\/(y≠o.2/\n=fK y l/\0<n):=fun y n=>by
  rw[sw _ _ _ h.1,h.2 y n,mo];constructor
  ·rintro(h1|⟨h1,h2⟩)
   ·exact .inl h1
   ·refine .inr ⟨h1,?_⟩
    rw[if_neg (fun e=>h1 e.symm)]at h2;omega
  ·rintro(h1|⟨h1,h2⟩)
   ·exact .inl h1
   ·refine .inr ⟨h1,?_⟩
    rw[if_neg (fun e=>h1 e.symm)];omega
 split
 ·rename_i h0
  refine⟨y7 _ _ (ig _ _ _ h.1),fun y n=>?_⟩;rw[HE _ _ (ig _ _ _ h.1),key];by_cases e:y=o.2
  ·subst e
   simp only[ne_eq,not_true_eq_false,false_and,false_iff];omega
  ·simp[e]
 ·rename_i h0
  refine⟨ig _ _ _ h.1,fun y n=>?_⟩;rw[key];by_cases e:y=o.2
  ·subst e
   simp only[true_and,ne_eq,not_true_eq_false,false_and,or_false];omega
  ·simp[e]
abbrev hp(ms:List Po)(c0 c1:V)(L:List (Str×Nat)):List (Option Ob):=[some (.pool ms),some (.box [c0,c1,.ref 2 0]),some (.mp rk (L.map gE))]
def plV(b:BS)(a:Nat->Nat):V:=match b.opn with
 |[]=>.ptr 1 0
 |o::_=>.q 0 (a o.1) 0 0 6
theorem lP{ms:List Po}{c0 c1:V}{b:BS}{a own:Nat->Nat}{N M:Nat}{L:List (Str×Nat)}(h:Lay ms c0 c1 b a own)(hw:WF N M b)(hN:N<=1000000000):
 FnH Tryz.prog mO [0] [.ptr 1 0] (hp ms c0 c1 L) (plV b a) (hp ms c0 c1 L):=by
 have hO:=h.opn;have hI:=h.out;have hn3:=hw.n3;refine FnH.of_image mixed mX mU rfl fun ho hh=>?_;unfold gN;clear ho hh;cases ho:b.opn with
 |nil=>
   simp only[plV,ho];rw[ho]at hO;rcases hO with⟨_,rfl⟩|⟨j,rfl,hj,hm⟩
   ·rcases hI with⟨_,rfl⟩|⟨i,rfl,_,_⟩<;>simp(disch:=omega) [-zAa,hp]
   ·simp only[zFj,zEe]at hm
    rcases hI with⟨_,rfl⟩|⟨i,rfl,_,_⟩<;>simp(disch:=omega) [-zAa,hm,hp]
 |cons o l=>
   simp only[plV,ho];rw[ho]at hO hn3;simp only[zAh]at hn3;obtain⟨x,hx,hnm⟩:=hw.opn o (by rw[ho];simp)
   obtain⟨k1,ca,ct,ck,k2,k3,k4,k5⟩:=h.recs o.1 x hx;rcases hO with⟨e,_⟩|⟨j,rfl,hj,hm⟩
   ·simp at e
   ·simp only[iB]at k2
    have hget:((o::l).reverse.map (·.1)).map (at0 a)=(l.reverse.map (·.1)).map (at0 a)++[.q 0 (a o.1) 0 0 0]:=by simp[at0]
    rw[hget]at hm;have hPl:((l.reverse.map (·.1)).map (at0 a)).length=l.length:=by simp
    generalize(l.reverse.map (·.1)).map (at0 a)=P at *
    have hlast:(P++[V.q 0 (a o.1) 0 0 0])[l.length]?=some (.q 0 (a o.1) 0 0 0):=by
     rw[<-hPl];exact zBd ..
    rcases hI with⟨_,rfl⟩|⟨i,rfl,_,_⟩<;>simp(disch:=omega) [-zAa,hm,hlast,hPl,k2,hp]
theorem dd{α:Type}(ms l:List α):(ms++l)[ms.length]?=l[0]?:=by rw[zAf (zBh _),zCd]
theorem gQ{α:Type}(ms l:List α):(ms++l)[ms.length+1]?=l[1]?:=by rw[zAf (by omega),show ms.length+1-ms.length=1 by omega]
theorem Ik{α:Type}{ms l:List α}{i j:Nat}{p:α}(h:i<ms.length):(ms.set j p++l)[i]?=(ms.set j p)[i]?:=zAd (by simpa using h)
theorem oG{ms:List Po}{c0 c1:V}{b:BS}{a own:Nat->Nat}{N M n:Nat}{L:List (Str×Nat)}(h:Lay ms c0 c1 b a own)(hw:WF N M b)(hN:N<=1000000000)(hn:n<b.recs.length):
 ∃ms' c0' own',FnH Tryz.prog oe [0] [.ptr 1 0,at0 a n] (hp ms c0 c1 L) (.tup []) (hp ms' c0' c1 L)/\Lay ms' c0' c1 (b.link n) a own':=by
 have hP:=lP (L:=L) h hw hN;have hO:=h.opn;have hI:=h.out;have hn2:=hw.n2;cases ho:b.opn with
 |nil=>
   simp only[plV,ho]at hP;rw[ho]at hO
   have hOc:c1=.nil 1\/∃k,c1=.q 1 k 0 0 0:=by
    rcases hO with⟨_,e⟩|⟨k,e,_,_⟩
    ·exact .inl e
    ·exact .inr ⟨k,by simpa using e⟩
   rcases hI with⟨e0,rfl⟩|⟨j,rfl,hj,hm⟩
   ·obtain⟨g1,g2⟩:=ja.grow0 (ms:=ms) (a:=a) (own:=own) (code:=0) (n:=n) (t:=.rw tyB 1 [at0 a n])
    refine⟨_,_,_,?_,h.link0 hw ho (by rw[e0];exact g1) g2⟩
    refine FnH.of_image mixed c5 cZ rfl fun ho hh=>?_;unfold cd;clear ho hh;rcases hOc with rfl|⟨k,rfl⟩
    ·simp(disch:=omega) [-zAa,hp,at0]
     refine ah [0] 2 [0,1,2] (by simp) (by simp) (by simp) (by simp) hP (by simp) fun _ _=>?_
     simp(disch:=omega) [-zAa,hp,at0,dd,gQ]
    ·simp(disch:=omega) [-zAa,hp,at0]
     refine ah [0] 2 [0,1,2] (by simp) (by simp) (by simp) (by simp) hP (by simp) fun _ _=>?_
     simp(disch:=omega) [-zAa,hp,at0,dd,gQ]
   ·obtain⟨g1,g2⟩:=ja.grow1 (ms:=ms) (a:=a) (own:=own) (code:=0) (n:=n) (t:=.rw tyB 1 [at0 a n]) hj hm
    refine⟨_,_,_,?_,h.link0 hw ho g1 g2⟩;have hlt:=(zAb.1 hm).1;have hal:(b.out.map (at0 a)).length=b.out.length:=by simp
    refine FnH.of_image mixed c5 cZ rfl fun ho hh=>?_;unfold cd;clear ho hh;rcases hOc with rfl|⟨k,rfl⟩
    ·simp(disch:=omega) [-zAa,hp,at0]
     refine ah [0] 2 [0,1,2] (by simp) (by simp) (by simp) (by simp) hP (by simp) fun _ _=>?_
     simp(disch:=omega) [-zAa,hp,at0,dd,gQ,zAd hlt,hm,hal]
    ·simp(disch:=omega) [-zAa,hp,at0]
     refine ah [0] 2 [0,1,2] (by simp) (by simp) (by simp) (by simp) hP (by simp) fun _ _=>?_
     simp(disch:=omega) [-zAa,hp,at0,dd,gQ,zAd hlt,hm,hal]
 |cons o l=>
   simp only[plV,ho]at hP;obtain⟨x,hx,hnm⟩:=hw.opn o (by rw[ho];simp)
   obtain⟨k1,ca,ct,ck,k2,k3,k4,k5⟩:=h.recs o.1 x hx;have hlo:=(zAb.1 k2).1
   have hOc:c1=.nil 1\/∃k m,c1=.q 1 k m 0 0:=by
    rcases hO with⟨_,e⟩|⟨k,e,_,_⟩
    ·exact .inl e
    ·exact .inr ⟨k,_,e⟩
   have hIc:c0=.nil 1\/∃k m,c0=.q 1 k m 0 0:=by
    rcases hI with⟨_,e⟩|⟨k,e,_,_⟩
    ·exact .inl e
    ·exact .inr ⟨k,_,e⟩
   have hkl:=(hw.recs _ _ hx).2.1;have k5':=k5;rcases k5' with⟨e0,rfl⟩|⟨j,rfl,hj,hm⟩
   ·obtain⟨g1,g2⟩:=ja.grow0 (ms:=ms) (a:=a) (own:=own) (code:=3*o.1+3) (n:=n) (t:=.rw tyB 1 [at0 a n])
    refine⟨_,_,_,?_,h.link1 hw ho hx k1 k2 k3 k4 (by rw[e0];exact g1) g2⟩
    simp only[iB]at k2⊢;refine FnH.of_image mixed c5 cZ rfl fun ho hh=>?_;unfold cd;clear ho hh;rcases hOc with rfl|⟨k,m,rfl⟩<;>rcases hIc with rfl|⟨k',m',rfl⟩
    all_goals
     simp(disch:=omega) [-zAa,hp,at0];refine ah [0] 2 [0,1,2] (by simp) (by simp) (by simp) (by simp) hP (by simp) fun _ _=>?_
     simp(disch:=omega) [-zAa,hp,at0,dd,gQ,zAd hlo,k2]
   ·obtain⟨g1,g2⟩:=ja.grow1 (ms:=ms) (a:=a) (own:=own) (code:=3*o.1+3) (n:=n) (t:=.rw tyB 1 [at0 a n]) hj hm
    refine⟨_,_,_,?_,h.link1 hw ho hx k1 k2 k3 k4 g1 g2⟩;have hlt:=(zAb.1 hm).1;have hne:j≠a o.1:=fun e=>by rw[e,k1]at hj;omega
    have hal:(x.kids.map (at0 a)).length=x.kids.length:=by simp
    simp only[iB]at k2⊢;refine FnH.of_image mixed c5 cZ rfl fun ho hh=>?_;unfold cd;clear ho hh;rcases hOc with rfl|⟨k,m,rfl⟩<;>rcases hIc with rfl|⟨k',m',rfl⟩
    all_goals
     simp(disch:=omega) [-zAa,hp,at0];refine ah [0] 2 [0,1,2] (by simp) (by simp) (by simp) (by simp) hP (by simp) fun _ _=>?_
     simp(disch:=omega) [-zAa,hp,at0,dd,gQ,zAd hlo,zAd hlt,zAi hne,Ik hlo,k2,hm,hal]
theorem ED{ms:List Po}{c0 c1:V}{b:BS}{a own:Nat->Nat}{N M:Nat}{L:List (Str×Nat)}{o:Nat×Str}{l:List (Nat×Str)}(h:Lay ms c0 c1 b a own)(hw:WF N M b)(hN:N<=1000000000)(hL:t7 L b.opn)(ho:b.opn=o::l):
 ∃ms' c1' L' own',FnH Tryz.prog cL [0] [.ptr 1 0] (hp ms c0 c1 L) (.str o.2) (hp ms' c0 c1' L')/\Lay ms' c0 c1' b.shut a own'/\t7 L' l:=by
 have hO:=h.opn;have hI:=h.out;have hn3:=hw.n3;rw[ho]at hO hn3 hL;simp only[zAh]at hn3;obtain⟨x,hx,hnm⟩:=hw.opn o (by rw[ho];simp)
 obtain⟨k1,ca,ct,ck,k2,k3,k4,k5⟩:=h.recs o.1 x hx
 have hIc:c0=.nil 1\/∃k m,c0=.q 1 k m 0 0:=by
  rcases hI with⟨_,e⟩|⟨k,e,_,_⟩
  ·exact .inl e
  ·exact .inr ⟨k,_,e⟩
 rcases hO with⟨e,_⟩|⟨j,rfl,hj,hm⟩
 ·simp at e
 ·have hlay:=h.shut hw ho hj
  have hcnt:=KG o.2 l;have hg:=hL.get o.2;rw[mo,if_pos rfl,if_neg (by omega)]at hg
  have hpn:=ig o.2 (fK o.2 l) L hL.1;have hg2:ir (.str o.2) ((l7 o.2 (fK o.2 l) L).map gE)=some (.int .i64 (fK o.2 l:Nat)):=IM hpn ((sw _ _ _ hL.1 _ _).2 (.inl ⟨rfl,rfl⟩));have hmp:=IK o.2 (fK o.2 l) L;have hmd:=OI o.2 (l7 o.2 (fK o.2 l) L);refine⟨_,_,_,_,?_,hlay,hL.down⟩;simp only[iB]at k2;have hget:((o::l).reverse.map (·.1)).map (at0 a)=(l.reverse.map (·.1)).map (at0 a)++[.q 0 (a o.1) 0 0 0]:=by simp[at0]
  rw[hget]at hm;have hPl:((l.reverse.map (·.1)).map (at0 a)).length=l.length:=by simp
  generalize(l.reverse.map (·.1)).map (at0 a)=P at *
  have hlast:(P++[V.q 0 (a o.1) 0 0 0])[l.length]?=some (.q 0 (a o.1) 0 0 0):=by
   rw[<-hPl];exact zBd ..
  have htk:(P++[V.q 0 (a o.1) 0 0 0]).take l.length=P:=by rw[<-hPl,zGb]
  rw[hnm]at k2;generalize hcc:fK o.2 l=c at *;have hsub:(1:Int)+(c:Int)-1=(c:Int):=by omega
  refine FnH.of_image mixed nJ nI rfl fun ho hh=>?_;unfold gX;clear ho hh;rcases hIc with rfl|⟨k',m',rfl⟩
  all_goals
   simp(disch:=omega) [-zAa,hp,hm,hlast,hPl,k2,htk,hg,hsub,hmp,hg2];by_cases hz:c=0
   ·rw[hz]at hmd
    simp(disch:=omega) [-zAa,hz,hmd]
   ·simp(disch:=omega) [-zAa,hz]
structure HS where
 ms:List Po
 c0:V
 c1:V
 L:List (Str×Nat)
 deriving Nonempty
abbrev HS.h(s:HS):List (Option Ob):=hp s.ms s.c0 s.c1 s.L
def dD(N M:Nat)(s:HS)(b:BS):Prop:=(∃a own,Lay s.ms s.c0 s.c1 b a own)/\WF N M b/\t7 s.L b.opn
theorem RO{N M:Nat}{s:HS}{b:BS}{o:Nat×Str}{l:List (Nat×Str)}(h:dD N M s b)(hN:N<=1000000000)(ho:b.opn=o::l):∃s':HS,FnH Tryz.prog cL [0] [.ptr 1 0] s.h (.str o.2) s'.h/\dD N M s' b.shut:=by
 obtain⟨⟨a,own,h1⟩,h2,h3⟩:=h;obtain⟨ms',c1',L',own',k1,k2,k3⟩:=ED h1 h2 hN h3 ho;exact⟨⟨ms',s.c0,c1',L'⟩,k1,⟨a,own',k2⟩,h2.shut,by simpa[BS.shut,ho]using k3⟩
noncomputable def xJ(N M:Nat)(b:BS)(o:Nat×Str)(s:HS):HS:=Classical.epsilon fun s'=>FnH Tryz.prog cL [0] [.ptr 1 0] s.h (.str o.2) s'.h/\dD N M s' b.shut
theorem j8{N M:Nat}{s:HS}{b:BS}{o:Nat×Str}{l:List (Nat×Str)}(h:dD N M s b)(hN:N<=1000000000)(ho:b.opn=o::l):FnH Tryz.prog cL [0] [.ptr 1 0] s.h (.str o.2) (xJ N M b o s).h/\dD N M (xJ N M b o s) b.shut:=
 Classical.epsilon_spec (RO h hN ho)
noncomputable def rW(N M:Nat)(rs:List Rec)(out:List Nat)(nm:Str):List (Nat×Str)->HS->HS
 |[],s=>s
 |o::l,s=>if dk o.2 nm=true then rW N M rs out nm l (xJ N M ⟨rs,out,o::l⟩ o s)else s
theorem zg{N M:Nat}{rs:List Rec}{out:List Nat}{nm:Str}(hN:N<=1000000000):∀{l:List (Nat×Str)}{s:HS},dD N M s ⟨rs,out,l⟩->dD N M (rW N M rs out nm l s) ⟨rs,out,nc nm l⟩
 |[],s,h=>h
 |o::l,s,h=>by
   simp only[rW,nc];split
   ·exact zg hN (j8 h hN rfl).2
   ·exact h
theorem d9{ms:List Po}{c0 c1:V}{b:BS}{a own:Nat->Nat}(h:Lay ms c0 c1 b a own):c0=.nil 1\/∃k,c0=.q 1 k b.out.length 0 0:=by
 rcases h.out with⟨_,e⟩|⟨k,e,_,_⟩
 ·exact .inl e
 ·exact .inr ⟨k,e⟩
theorem gB{ms:List Po}{c0 c1:V}{b:BS}{a own:Nat->Nat}(h:Lay ms c0 c1 b a own):(b.opn=[]/\c1=.nil 1)\/∃k,c1=.q 1 k b.opn.length 0 0:=by
 rcases h.opn with⟨e0,e⟩|⟨k,e,_,_⟩
 ·exact .inl ⟨by simpa using e0,e⟩
 ·exact .inr ⟨k,by simpa using e⟩
theorem Si{ms:List Po}{c0 c1:V}{b:BS}{a own:Nat->Nat}{N M:Nat}{o:Nat×Str}{l:List (Nat×Str)}(h:Lay ms c0 c1 b a own)(hw:WF N M b)(ho:b.opn=o::l):
 ∃j P,c1=.q 1 j (l.length+1) 0 0/\ms[j]?=some (.rw tyB 1 P)/\P.length=l.length+1/\P[l.length]?=some (.q 0 (a o.1) 0 0 0)/\∃k ca t ct ck,ms[a o.1]?=some (.bx 0 [.int .i64 k,.str o.2,ca,.str t,.nil 5,ct,ck]):=by
 have hO:=h.opn;rw[ho]at hO;obtain⟨x,hx,hnm⟩:=hw.opn o (by rw[ho];simp)
 obtain⟨k1,ca,ct,ck,k2,k3,k4,k5⟩:=h.recs o.1 x hx;simp only[iB]at k2;rw[hnm]at k2;rcases hO with⟨e,_⟩|⟨j,rfl,hj,hm⟩
 ·simp at e
 ·refine⟨j,_,by simp,hm,by simp,?_,_,ca,_,ct,ck,k2⟩
  have hget:((o::l).reverse.map (·.1)).map (at0 a)=(l.reverse.map (·.1)).map (at0 a)++[.q 0 (a o.1) 0 0 0]:=by simp[at0]
  have hPl:((l.reverse.map (·.1)).map (at0 a)).length=l.length:=by simp
  rw[hget,<-hPl];exact zBd ..
theorem JF{N M:Nat}{R:HS}{b:BS}{l:List (Nat×Str)}(t:Tok)(hRL:dD N M R ⟨b.recs,b.out,l⟩)(hl:l=nc t.name b.opn)(hN:N<=100000000)(ht:t.attrs.length<=1000000000):
 ∃s':HS,dD (N+1) M s' (b.begin' t)/\W (Cn Tryz.prog) gP (ET [] [0] [.ptr 1 0,.strct [.int .i64 t.kind,.str t.name,.seq 2 (t.attrs.map Attr.v),.str t.text]] (.tup []) s'.h)
   ⟨[(0,.ptr 1 0),(3,.ptr 2 0)],[some (.pool R.ms),some (.box [R.c0,R.c1,.ref 3 0]),some (.box [.int .i64 t.kind,.str t.name,.seq 2 (t.attrs.map Attr.v),.str t.text]),some (.mp rk (R.L.map gE))]⟩:=by
 obtain⟨rm,r0,r1,rL⟩:=R;obtain⟨⟨a,own,h1⟩,h2,h3⟩:=hRL;simp only at h1 h3⊢;have g1:=h1.new h2 (x:=⟨1,t.name,t.attrs,[],[],[]⟩) rfl rfl (.inl rfl);have w1:=h2.new (x:=⟨1,t.name,t.attrs,[],[],[]⟩) rfl (zDj _);obtain⟨ms',c0',own',g2,g3⟩:=oG (L:=rL) g1 w1 (by omega) (n:=b.recs.length) (by simp[BS.new])
 have w2:=w1.link (n:=b.recs.length) (by simp[BS.new]) (by have:=h2.n2;simp only[BS.new]at this⊢;omega) (fun r x hx=>by
  simp only[BS.new]at hx;rcases zDc r b.recs.length with hlt|hge
  ·rw[zAd hlt]at hx
   have:=(h2.recs r x hx).2.1;omega
  ·rw[zAf hge]at hx
   have hm:=zBf hx;simp only[zAg,zBe,or_false]at hm;subst hm;simp)
 have hat:upd a b.recs.length rm.length b.recs.length=rm.length:=fw _ _ _;simp only[at0,hat,iB,aM]at g2;have hc0:=d9 h1;have hc1:=gB h1;have hc0':=d9 g3;by_cases hv:ew t.name=true
 ·refine⟨⟨ms',c0',r1,rL⟩,⟨⟨upd a b.recs.length rm.length,own',?_⟩,?_,?_⟩,?_⟩
  ·have e:b.begin' t=BS.add ⟨b.recs,b.out,l⟩ ⟨1,t.name,t.attrs,[],[],[]⟩:=by simp only[BS.begin',hv,if_true,hl]
   rw[e];exact g3
  ·have e:b.begin' t=BS.add ⟨b.recs,b.out,l⟩ ⟨1,t.name,t.attrs,[],[],[]⟩:=by simp only[BS.begin',hv,if_true,hl]
   rw[e];exact w2
  ·have e:(b.begin' t).opn=l:=by
    simp only[BS.begin',hv,if_true,<-hl,BS.add,BS.link,BS.new];cases l<;>rfl
   rw[e];exact h3
  ·unfold gP
   rcases hc0 with rfl|⟨k0,rfl⟩<;>rcases hc1 with⟨e1,rfl⟩|⟨k1,rfl⟩<;>rcases hc0' with rfl|⟨k0',rfl⟩
   all_goals
    simp(disch:=omega) [-zAa,dd,hp];refine ah [0] 2 [0,1,3] (by simp) (by simp) (by simp) (by simp) g2 (by simp) fun _ _=>?_
    simp(disch:=omega) [-zAa,hp];refine ac (iz t.name) rfl fun _=>?_;simp(disch:=omega) [-zAa,hv]
 ·have hO:=g3.opn
  have e3:(BS.link (BS.new ⟨b.recs,b.out,l⟩ ⟨1,t.name,t.attrs,[],[],[]⟩) b.recs.length).opn=l:=by
   simp only[BS.link,BS.new];cases l<;>rfl
  have e4:b.begin' t=(BS.link (BS.new ⟨b.recs,b.out,l⟩ ⟨1,t.name,t.attrs,[],[],[]⟩) b.recs.length).open' b.recs.length t.name:=by
   simp only[BS.begin',hv,hl,BS.add];simp
  have hrec:∃x,(BS.link (BS.new ⟨b.recs,b.out,l⟩ ⟨1,t.name,t.attrs,[],[],[]⟩) b.recs.length).recs[b.recs.length]?=some x/\x.name=t.name:=by
   have e5:(BS.new ⟨b.recs,b.out,l⟩ ⟨1,t.name,t.attrs,[],[],[]⟩).recs[b.recs.length]?=some ⟨1,t.name,t.attrs,[],[],[]⟩:=by
    simp only[BS.new];exact zBd ..
   unfold BS.link;split
   ·exact⟨_,e5,rfl⟩
   ·refine⟨_,pz e5,?_⟩
    split<;>rfl
  obtain⟨x,hx,hxn⟩:=hrec;have hln:=h2.n3;simp only at hln;have w3:=w2.open' hx hxn (by rw[e3];omega)
  have hg:=h3.get t.name;have hcl:=KG t.name l;have hmp:=IK t.name (fK t.name l+1) rL;have hcu:=h3.up b.recs.length t.name;rw[e3]at hO;rcases hO with⟨e0,rfl⟩|⟨j,rfl,hj,hm⟩
  ·obtain⟨k1,k2⟩:=ja.grow0 (ms:=ms') (a:=upd a b.recs.length rm.length) (own:=own') (code:=1) (n:=b.recs.length) (t:=.rw tyB 1 [.q 0 rm.length 0 0 0])
   have k3:=g3.open' (nm:=t.name) w2 (n:=b.recs.length) (by rw[e3,e0];exact k1) k2
   rw[<-e4]at k3 w3;refine⟨⟨_,c0',_,l7 t.name (fK t.name l+1) rL⟩,⟨⟨_,_,k3⟩,w3,?_⟩,?_⟩
   ·rw[e4]
    simp only[BS.open',e3];exact hcu
   ·unfold gP
    simp only[at0,hat];rcases hc0 with rfl|⟨k0,rfl⟩<;>rcases hc0' with rfl|⟨k0',rfl⟩
    all_goals
     simp(disch:=omega) [-zAa,dd,hp];refine ah [0] 2 [0,1,3] (by simp) (by simp) (by simp) (by simp) g2 (by simp) fun _ _=>?_
     simp(disch:=omega) [-zAa,hp];refine ac (iz t.name) rfl fun _=>?_;by_cases hz:fK t.name l=0
     ·rw[if_pos hz]at hg
      rw[hz]at hmp;simp(disch:=omega) [-zAa,hv,dd,gQ,hg,hz];simpa using hmp
     ·rw[if_neg hz]at hg
      simp(disch:=omega) [-zAa,hv,dd,gQ,hg];simpa using hmp
  ·obtain⟨k1,k2⟩:=ja.grow1 (ms:=ms') (a:=upd a b.recs.length rm.length) (own:=own') (code:=1) (n:=b.recs.length) (t:=.rw tyB 1 [.q 0 rm.length 0 0 0]) hj hm
   have k3:=g3.open' (nm:=t.name) w2 (n:=b.recs.length) (by rw[e3];exact k1) k2
   rw[<-e4]at k3 w3;refine⟨⟨_,c0',_,l7 t.name (fK t.name l+1) rL⟩,⟨⟨_,_,k3⟩,w3,?_⟩,?_⟩
   ·rw[e4]
    simp only[BS.open',e3];exact hcu
   ·unfold gP
    have hlt:=(zAb.1 hm).1;have hPl:((l.reverse.map (·.1)).map (at0 (upd a b.recs.length rm.length))).length=l.length:=by simp
    have hPl2:(l.reverse.map (·.1)).length=l.length:=by simp
    simp only[hPl2]at g2⊢;generalize(l.reverse.map (·.1)).map (at0 (upd a b.recs.length rm.length))=P at *;simp only[at0,hat];rcases hc0 with rfl|⟨k0,rfl⟩<;>rcases hc0' with rfl|⟨k0',rfl⟩
    all_goals
     simp(disch:=omega) [-zAa,dd,hp];refine ah [0] 2 [0,1,3] (by simp) (by simp) (by simp) (by simp) g2 (by simp) fun _ _=>?_
     simp(disch:=omega) [-zAa,hp];refine ac (iz t.name) rfl fun _=>?_;by_cases hz:fK t.name l=0
     ·rw[if_pos hz]at hg
      rw[hz]at hmp;simp(disch:=omega) [-zAa,hv,dd,gQ,hg,hz,zAd hlt,hm,hPl];simpa using hmp
     ·rw[if_neg hz]at hg
      simp(disch:=omega) [-zAa,hv,dd,gQ,hg,zAd hlt,hm,hPl];simpa using hmp
abbrev lW(t:Tok):List V:=[.int .i64 t.kind,.str t.name,.seq 2 (t.attrs.map Attr.v),.str t.text]
theorem PV{N M:Nat}{s:HS}{b:BS}(t:Tok)(h:dD N M s b)(hN:N<=100000000)(ht:t.attrs.length<=1000000000):∃s':HS,FnH Tryz.prog dK [0] [.ptr 1 0,.strct (lW t)] s.h (.tup []) s'.h/\dD (N+1) M s' (b.begin' t):=by
 generalize hR:rW N M b.recs b.out t.name b.opn s=R;have hRL:=zg (nm:=t.name) (by omega) (s:=s) (l:=b.opn) (rs:=b.recs) (out:=b.out) h
 rw[hR]at hRL;obtain⟨s',g1,g2⟩:=JF t hRL rfl hN ht;refine⟨s',?_,g1⟩;refine FnH.of_image mixed mY mV rfl fun ho hh=>?_;unfold gO;clear ho hh;have hc0:=d9 h.1.choose_spec.choose_spec;have hc1:=gB h.1.choose_spec.choose_spec;obtain⟨sm,s0,s1,sL⟩:=s;simp only at hc0 hc1;rcases hc0 with rfl|⟨k0,rfl⟩<;>rcases hc1 with⟨e1,rfl⟩|⟨k1,rfl⟩
 all_goals
  simp(disch:=omega) [-zAa,hp]
  refine ay (fun(q:List (Nat×Str)×HS)=>⟨[(0,.ptr 1 0),(3,.ptr 2 0)],[some (.pool q.2.ms),some (.box [q.2.c0,q.2.c1,.ref 3 0]),some (.box (lW t)),some (.mp rk (q.2.L.map gE))]⟩)
   (fun q=>dD N M q.2 ⟨b.recs,b.out,q.1⟩/\rW N M b.recs b.out t.name q.1 q.2=R) (fun q=>q.1.length) [] _ (b.opn,⟨sm,_,_,sL⟩) rfl (by simp) ⟨h,hR⟩ ?_
  rintro⟨l,s⟩ ⟨hls,hlr⟩ N' hN';simp only at hls hlr;have hls0:=hls;obtain⟨⟨a2,own2,l1⟩,l2,l3⟩:=hls;cases l with
  |nil=>
    simp only[rW]at hlr;subst hlr;obtain⟨m,d0,d1,dL⟩:=s;have q0:=d9 l1;have q1:=gB l1;simp only at q0 q1 l1;rcases q1 with⟨_,rfl⟩|⟨k,rfl⟩
    ·rcases q0 with rfl|⟨k',rfl⟩<;>(simp(disch:=omega) [-zAa,hp];exact g2)
    ·have hm:∃P,m[k]?=some (.rw tyB 1 P)/\P.length=0:=by
      rcases l1.opn with⟨_,e⟩|⟨j,e,_,hm⟩
      ·cases e
      ·simp only[zFj,zEe,zBb,V.q.injEq,true_and,and_true]at e
       subst e;exact⟨_,hm,rfl⟩
     obtain⟨P,hm,hPl⟩:=hm;rcases q0 with rfl|⟨k',rfl⟩<;>(simp(disch:=omega) [-zAa,hp,hm,hPl];exact g2)
  |cons o l=>
    obtain⟨j,P,e1,hm,hPl,hlast,k,ca,tx,ct,ck,k2⟩:=Si l1 l2 rfl;have hn3:=l2.n3;simp only[zAh]at hn3;have q0:=d9 l1;simp only[rW]at hlr;by_cases hc:dk o.2 t.name=true
    ·rw[if_pos hc]at hlr
     obtain⟨hs1,hs2⟩:=j8 (o:=o) (l:=l) hls0 (by omega) rfl
     generalize xJ N M ⟨b.recs,b.out,o::l⟩ o s=s2 at *;have hstep:dD N M s2 ⟨b.recs,b.out,l⟩:=hs2;obtain⟨m,d0,d1,dL⟩:=s;obtain⟨m2,d02,d12,dL2⟩:=s2;have r0:=d9 hstep.1.choose_spec.choose_spec;have r1:=gB hstep.1.choose_spec.choose_spec;simp only at e1 hm k2 q0 r0 r1;subst e1;rcases q0 with rfl|⟨k',rfl⟩<;>rcases r0 with rfl|⟨k3,rfl⟩<;>rcases r1 with⟨_,rfl⟩|⟨k4,rfl⟩
     all_goals
      simp(disch:=omega) [-zAa,hp,hm,hPl,hlast,k2];refine a6 (oE o.2 t.name) rfl ?_;simp(disch:=omega) [-zAa,hc];refine ah [0] 2 [0,1,3] (by simp) (by simp) (by simp) (by simp) hs1 (by simp) fun _ _=>?_
      simp(disch:=omega) [-zAa,hp];exact hN'.out _<|Nx.mk (l,⟨m2,_,_,dL2⟩) (by simp) ⟨hstep,hlr⟩ (by simp)
    ·rw[if_neg hc]at hlr
     subst hlr;obtain⟨m,d0,d1,dL⟩:=s;simp only at e1 hm k2 q0;subst e1;rcases q0 with rfl|⟨k',rfl⟩
     all_goals
      simp(disch:=omega) [-zAa,hp,hm,hPl,hlast,k2];refine a6 (oE o.2 t.name) rfl ?_;simp(disch:=omega) [-zAa,hc];exact g2
def U8(Φ:Ctr)(d:Option Nat)(f:FuncId)(σ:St)(K:St->Prop)(vs:List V):Prop:=w4 Φ d f vs K σ
theorem PK{Φ:Ctr}{d:Option Nat}{f:FuncId}{σ:St}{K:St->Prop}{vs:List V}:U8 Φ d f σ K vs=w4 Φ d f vs K σ:=propext Iff.rfl
theorem Cy{Φ:Ctr}{d:Option Nat}{f:FuncId}{σ:St}{K:St->Prop}{xs:List AO}:ag Φ d (.callH f xs) K σ=oM (σ.evs xs) (U8 Φ d f σ K):=by
 simp only[ag,oM];cases σ.evs xs<;>rfl
attribute [simp] PK Cy
theorem nM{Φ:Ctr}{σ:St}{K:St->Prop}{d:Option Nat}(ps:List Nat)(q:Nat)(m:List Nat){f:FuncId}{vs us:List V}{H H':List (Option Ob)}{r:V}(hc:σ.curs (dl vs ps)=true)(hl:gT σ.h (dl vs ps) vs=(q,m))(hu:jH m vs=us)(hH:jI σ.h m m=H)
 (h:Φ.e f ps us H r H') (hk:kin q H H'=true) (k:UZ σ d K q m r H'):w4 Φ d f vs K σ:=by
 refine⟨ps,hc,r,H',?_,?_,?_⟩
 ·rw[hl,hH];exact hk
 ·rw[hl,hu,hH];exact h
 ·rw[hl];exact k
attribute [simp] Cy U8
theorem CE{Φ:Ctr}{σ:St}{ks:List Nat}{a b:OT}{Q:Ex->St->Prop}(S:St)(h:∀Q:Ex->St->Prop,Q .norm S->CF Φ a b (R8 Q ks) σ)(k:Q .norm S):CF Φ a b (R8 Q ks) σ:=h Q k
noncomputable def MA(N M:Nat)(rs:List Rec)(out:List Nat)(nm:Str):List (Nat×Str)->HS->HS
 |[],s=>s
 |o::l,s=>if o.2=nm then xJ N M ⟨rs,out,o::l⟩ o s else MA N M rs out nm l (xJ N M ⟨rs,out,o::l⟩ o s)
theorem Hz{N M:Nat}{rs:List Rec}{out:List Nat}{nm:Str}(hN:N<=1000000000):∀{l:List (Nat×Str)}{s:HS},dD N M s ⟨rs,out,l⟩->dD N M (MA N M rs out nm l s) ⟨rs,out,HA nm l⟩
 |[],s,h=>h
 |o::l,s,h=>by
   simp only[MA,HA];split
   ·exact(j8 h hN rfl).2
   ·exact Hz hN (j8 h hN rfl).2
theorem PC(nm:Str)(l:List (Nat×Str)):l.any (fun o=>decide (o.2=nm))=decide (fK nm l≠0):=by
 induction l with
 |nil=>rfl
 |cons o l ih=>
   rw[List.any_cons,ih,mo];by_cases h:o.2=nm
   ·simp[h]<;>omega
   ·simp[h]
theorem U4{N M:Nat}{s:HS}{b:BS}(t:Tok)(h:dD N M s b)(hN:N<=100000000):∃s':HS,FnH Tryz.prog eH [0] [.ptr 1 0,.strct (lW t)] s.h (.tup []) s'.h/\dD N M s' (if b.opn.any (fun o=>decide (o.2=t.name))then⟨b.recs,b.out,HA t.name b.opn⟩else b):=by
 have hg:=h.2.2.get t.name;rw[PC];have hc0:=d9 h.1.choose_spec.choose_spec;have hc1:=gB h.1.choose_spec.choose_spec;by_cases hz:fK t.name b.opn=0
 ·rw[if_pos hz]at hg
  refine⟨s,?_,by simpa[hz]using h⟩
  refine FnH.of_image mixed iY iV rfl fun ho hh=>?_;unfold eL;clear ho hh;obtain⟨sm,s0,s1,sL⟩:=s;simp only at hc0 hc1 hg;rcases hc0 with rfl|⟨k0,rfl⟩<;>rcases hc1 with⟨e1,rfl⟩|⟨k1,rfl⟩
  all_goals
   simp(disch:=omega) [-zAa,hp,hg]
 ·rw[if_neg hz]at hg
  generalize hR:MA N M b.recs b.out t.name b.opn s=R;have hRL:=Hz (nm:=t.name) (by omega) (s:=s) (l:=b.opn) (rs:=b.recs) (out:=b.out) h
  rw[hR]at hRL;refine⟨R,?_,by simpa[hz]using hRL⟩
  refine FnH.of_image mixed iY iV rfl fun ho hh=>?_;unfold eL;clear ho hh;obtain⟨sm,s0,s1,sL⟩:=s;simp only at hc0 hc1 hg;have hz':¬(fK t.name b.opn:Int)=0:=by omega
  rcases hc0 with rfl|⟨k0,rfl⟩<;>rcases hc1 with⟨e1,rfl⟩|⟨k1,rfl⟩
  all_goals
   simp(disch:=omega) [-zAa,hp,hg,hz',hz]
   refine ay (fun(q:List (Nat×Str)×HS)=>⟨[(0,.ptr 1 0),(3,.ptr 2 0)],[some (.pool q.2.ms),some (.box [q.2.c0,q.2.c1,.ref 3 0]),some (.box (lW t)),some (.mp rk (q.2.L.map gE))]⟩)
    (fun q=>dD N M q.2 ⟨b.recs,b.out,q.1⟩/\MA N M b.recs b.out t.name q.1 q.2=R/\fK t.name q.1≠0) (fun q=>q.1.length) [] _ (b.opn,⟨sm,_,_,sL⟩) rfl (by simp) ⟨h,hR,hz⟩ ?_
   rintro⟨l,s⟩ ⟨hls,hlr,hlz⟩ N' hN';simp only at hls hlr hlz;have q0:=d9 hls.1.choose_spec.choose_spec;have q1:=gB hls.1.choose_spec.choose_spec;cases l with
   |nil=>simp[fK]at hlz
   |cons o l=>
     simp only[MA]at hlr;rw[mo]at hlz;obtain⟨hs1,hs2⟩:=j8 (o:=o) (l:=l) hls (by omega) rfl
     generalize xJ N M ⟨b.recs,b.out,o::l⟩ o s=s2 at *;have hstep:dD N M s2 ⟨b.recs,b.out,l⟩:=hs2;have r0:=d9 hstep.1.choose_spec.choose_spec;have r1:=gB hstep.1.choose_spec.choose_spec;obtain⟨m,d0,d1,dL⟩:=s;obtain⟨m2,d02,d12,dL2⟩:=s2;simp only at q0 q1 r0 r1;rcases q0 with rfl|⟨k',rfl⟩<;>rcases q1 with⟨e9,rfl⟩|⟨k8,rfl⟩
     all_goals first
      |(cases e9;done)
      |skip
     all_goals
      simp(disch:=omega) [-zAa,hp];refine CE ⟨[(0,.ptr 1 0),(3,.ptr 2 0),(16,.bool (!decide (o.2=t.name)))],[some (.pool m2),some (.box [d02,d12,.ref 3 0]),some (.box (lW t)),some (.mp rk (dL2.map gE))]⟩ (fun F hF=>?_) ?_
      ·rcases r0 with rfl|⟨k3,rfl⟩<;>rcases r1 with⟨_,rfl⟩|⟨k4,rfl⟩
       all_goals
        try simp at hF
        repeat' (first
         |with_reducible exact hF
         |refine CF.mk ?_ ?_
         |(refine nM [0] 2 [0,1,3] (by simp) (by simp) (by simp) (by simp) hs1 (by simp) ?_)
         |(simp(disch:=omega) [-zAa,hp]))
      ·rcases r0 with rfl|⟨k3,rfl⟩<;>rcases r1 with⟨_,rfl⟩|⟨k4,rfl⟩
       all_goals
        by_cases he:o.2=t.name
        ·rw[if_pos he]at hlr
         subst hlr;simp(disch:=omega) [-zAa,hp,he]
        ·rw[if_neg he]at hlr hlz
         simp(disch:=omega) [-zAa,hp,he];exact hN'.out _<|Nx.mk (l,⟨m2,_,_,dL2⟩) (by simp) ⟨hstep,hlr,by simp only;omega⟩ (by simp)
def nH(b:BS):Prop:=∀(r:Nat)(x:Rec),b.recs[r]?=some x->x.kind=2->x.body≠[]
theorem WF.add{N M:Nat}{b:BS}(h2:WF N M b){x:Rec}(hk:x.kids=[])(hb:x.body.length<=(N+1)*M):WF (N+1) M (b.new x)/\WF (N+1) M (b.add x):=by
 have w1:=h2.new (x:=x) hk hb;refine⟨w1,w1.link (n:=b.recs.length) (by simp[BS.new]) (by have:=h2.n2;simp only[BS.new]at this⊢;omega) (fun r y hx=>?_)⟩
 simp only[BS.new]at hx;rcases zDc r b.recs.length with hlt|hge
 ·rw[zAd hlt]at hx
  have:=(h2.recs r y hx).2.1;omega
 ·rw[zAf hge]at hx
  have hm:=zBf hx;simp only[zAg,zBe,or_false]at hm;subst hm;rw[hk];simp
theorem KO(b:BS)(x:Rec):(b.add x).opn=b.opn:=by
 obtain⟨r,o,p⟩:=b;simp only[BS.add,BS.link,BS.new];cases p<;>rfl
theorem Ly{N M:Nat}{s:HS}{b:BS}(t:Tok)(h:dD N M s b)(hN:N<=100000000):∃s':HS,FnH Tryz.prog dw [0] [.ptr 1 0,.strct (lW t)] s.h (.tup []) s'.h/\dD (N+1) M s' (b.add ⟨3,[],[],t.text,[],[]⟩):=by
 obtain⟨rm,r0,r1,rL⟩:=s;obtain⟨⟨a,own,h1⟩,h2,h3⟩:=h;simp only at h1 h3⊢;have g1:=h1.new h2 (x:=⟨3,[],[],t.text,[],[]⟩) (ca:=.nil 2) rfl rfl (.inr ⟨rfl,rfl⟩);obtain⟨w1,w2⟩:=h2.add (x:=⟨3,[],[],t.text,[],[]⟩) rfl (zDj _);obtain⟨ms',c0',own',g2,g3⟩:=oG (L:=rL) g1 w1 (by omega) (n:=b.recs.length) (by simp[BS.new])
 have hat:upd a b.recs.length rm.length b.recs.length=rm.length:=fw _ _ _;simp only[at0,hat,iB]at g2;have hc0:=d9 h1;have hc1:=gB h1;have hc0':=d9 g3;refine⟨⟨ms',c0',r1,rL⟩,?_,⟨_,_,g3⟩,w2,by rw[KO];exact h3⟩
 refine FnH.of_image mixed mf me rfl fun ho hh=>?_;unfold fX;clear ho hh;rcases hc0 with rfl|⟨k0,rfl⟩<;>rcases hc1 with⟨e1,rfl⟩|⟨k1,rfl⟩<;>rcases hc0' with rfl|⟨k0',rfl⟩
 all_goals
  simp(disch:=omega) [-zAa,hp];refine ah [0] 2 [0,1,2] (by simp) (by simp) (by simp) (by simp) g2 (by simp) fun _ _=>?_
  simp(disch:=omega) [-zAa,hp]
theorem Dp{ms:List Po}{c0 c1:V}{b:BS}{a own:Nat->Nat}{N M:Nat}(h:Lay ms c0 c1 b a own)(hw:WF N M b):
 ∃cv code,ja ms a own code b.row cv/\b.row.length<=N/\(∀i∈b.row,i<b.recs.length)/\((b.opn=[]/\plV b a=.ptr 1 0/\cv=c0)\/∃j,plV b a=.q 0 j 0 0 6/\∃p q r u v w,ms[j]?=some (.bx 0 [p,q,r,u,v,w,cv])):=by
 cases ho:b.opn with
 |nil=>exact⟨c0,0,by simpa[BS.row,ho]using h.out,by simpa[BS.row,ho]using hw.n2,by simpa[BS.row,ho]using hw.out,.inl ⟨rfl,by simp[plV,ho],rfl⟩⟩
 |cons o l=>
   obtain⟨x,hx,hnm⟩:=hw.opn o (by rw[ho];simp)
   obtain⟨k1,ca,ct,ck,k2,k3,k4,k5⟩:=h.recs o.1 x hx;obtain⟨e1,e2,_⟩:=hw.recs _ _ hx;have hr:b.row=x.kids:=by simp[BS.row,ho,hx]
   rw[hr];exact⟨ck,_,k5,e2,e1,.inr ⟨a o.1,by simp[plV,ho],_,_,_,_,_,_,k2⟩⟩
theorem Cp{N M:Nat}{s:HS}{b:BS}(t:Tok)(h:dD N M s b)(hN:N<=100000000)(hM:t.text.length<=M)(hM2:M<=1000000000)(hne:t.text≠[])
 (hr:b.row=[]\/∃l i x,b.row=l++[i]/\b.recs[i]?=some x/\x.kind≠2):∃s':HS,FnH Tryz.prog bM [0] [.ptr 1 0,.strct (lW t)] s.h (.tup []) s'.h/\dD (N+1) M s' (b.add ⟨2,[],[],[],t.text,[]⟩):=by
 obtain⟨rm,r0,r1,rL⟩:=s;obtain⟨⟨a,own,h1⟩,h2,h3⟩:=h;simp only at h1 h3⊢;have hP:=lP (L:=rL) h1 h2 (by omega)
 obtain⟨cv,code,hrow,hrl,hri,hwh⟩:=Dp h1 h2;have hbl:t.text.length<=(N+1)*M:=Nat.le_trans hM (Nat.le_mul_of_pos_left _ (by omega))
 have g1:=h1.newB h2 (x:=⟨2,[],[],[],t.text,[]⟩) (ca:=.nil 2) rfl (.inr ⟨rfl,rfl⟩);obtain⟨w1,w2⟩:=h2.add (x:=⟨2,[],[],[],t.text,[]⟩) rfl hbl;obtain⟨ms',c0',own',g2,g3⟩:=oG (L:=rL) g1 w1 (by omega) (n:=b.recs.length) (by simp[BS.new])
 have hat:upd a b.recs.length (rm.length+1) b.recs.length=rm.length+1:=fw _ _ _;simp only[at0,hat,iB]at g2;have hc0:=d9 h1;have hc1:=gB h1;have hc0':=d9 g3;refine⟨⟨ms',c0',r1,rL⟩,?_,⟨_,_,g3⟩,w2,by rw[KO];exact h3⟩
 -- what is the last one
 have hval:(cv=.nil 1/\b.row=[])\/∃j P,cv=.q 1 j P.length 0 0/\rm[j]?=some (.rw tyB 1 P)/\P.length<=N/\(P=[]\/∃P0 i k p q r u v w,P=P0++[.q 0 i 0 0 0]/\rm[i]?=some (.bx 0 [.int .i64 k,p,q,r,u,v,w])/\k≠2):=by
  rcases hrow with⟨e,e2⟩|⟨j,e,_,hm⟩
  ·exact .inl ⟨e2,e⟩
  ·refine .inr ⟨j,_,by simpa using e,hm,by simpa using hrl,?_⟩
   rcases hr with hr|⟨l,i,x,hr,hx,hk⟩
   ·rw[hr];exact .inl rfl
   ·obtain⟨k1,ca,ct,ck,k2,_⟩:=h1.recs i x hx
    rw[hr];exact .inr ⟨l.map (at0 a),a i,x.kind,_,_,_,_,_,_,by simp[at0],k2,by omega⟩
 clear g1 g3 hrow hri hr hbl;have hne':¬t.text=[]:=hne;have htl:t.text.length<=140737488355328:=by omega
 refine FnH.of_image mixed dO dN rfl fun ho hh=>?_;unfold cD;clear ho hh;rcases hwh with⟨ho0,e1,rfl⟩|⟨jp,e1,p0,q0,r0',u0,v0,w0,hj⟩
 ·rw[e1]at hP
  rcases hval with⟨rfl,_⟩|⟨j,P,rfl,hm,hPl,hv⟩
  ·rcases hc1 with⟨e1,rfl⟩|⟨k1,rfl⟩<;>rcases hc0' with rfl|⟨k0',rfl⟩
   all_goals
    simp(disch:=omega) [-zAa,hp,hne'];refine ah [0] 2 [0,1,2] (by simp) (by simp) (by simp) (by simp) hP (by simp) fun _ _=>?_
    simp(disch:=omega) [-zAa,hp,hne'];refine ah [0] 2 [0,1,4] (by simp) (by simp) (by simp) (by simp) g2 (by simp) fun _ _=>?_
    simp(disch:=omega) [-zAa,hp]
  ·rcases hv with rfl|⟨P0,i,k,p,q,r,u,v,w,rfl,hi,hk⟩
   ·rcases hc1 with⟨e1,rfl⟩|⟨k1,rfl⟩<;>rcases hc0' with rfl|⟨k0',rfl⟩
    all_goals
     simp(disch:=omega) [-zAa,hp,hne'];refine ah [0] 2 [0,1,2] (by simp) (by simp) (by simp) (by simp) hP (by simp) fun _ _=>?_
     simp(disch:=omega) [-zAa,hp,hne',hm];refine ah [0] 2 [0,1,4] (by simp) (by simp) (by simp) (by simp) g2 (by simp) fun _ _=>?_
     simp(disch:=omega) [-zAa,hp]
   ·have hlast:(P0++[V.q 0 i 0 0 0])[P0.length]?=some (.q 0 i 0 0 0):=zBd ..
    have hk':¬k=2:=hk;simp only[zBc,zAh,zBb]at hPl;rcases hc1 with⟨e1,rfl⟩|⟨k1,rfl⟩<;>rcases hc0' with rfl|⟨k0',rfl⟩
    all_goals
     simp(disch:=omega) [-zAa,hp,hne'];refine ah [0] 2 [0,1,2] (by simp) (by simp) (by simp) (by simp) hP (by simp) fun _ _=>?_
     simp(disch:=omega) [-zAa,hp,hne',hm,hlast,hi,hk'];refine ah [0] 2 [0,1,4] (by simp) (by simp) (by simp) (by simp) g2 (by simp) fun _ _=>?_
     simp(disch:=omega) [-zAa,hp]
 ·rw[e1]at hP
  rcases hval with⟨rfl,_⟩|⟨j,P,rfl,hm,hPl,hv⟩
  ·rcases hc0 with rfl|⟨kz,rfl⟩<;>rcases hc1 with⟨e1,rfl⟩|⟨k1,rfl⟩<;>rcases hc0' with rfl|⟨k0',rfl⟩
   all_goals
    simp(disch:=omega) [-zAa,hp,hne'];refine ah [0] 2 [0,1,2] (by simp) (by simp) (by simp) (by simp) hP (by simp) fun _ _=>?_
    simp(disch:=omega) [-zAa,hp,hne',hj];refine ah [0] 2 [0,1,4] (by simp) (by simp) (by simp) (by simp) g2 (by simp) fun _ _=>?_
    simp(disch:=omega) [-zAa,hp]
  ·rcases hv with rfl|⟨P0,i,k,p,q,r,u,v,w,rfl,hi,hk⟩
   ·rcases hc0 with rfl|⟨kz,rfl⟩<;>rcases hc1 with⟨e1,rfl⟩|⟨k1,rfl⟩<;>rcases hc0' with rfl|⟨k0',rfl⟩
    all_goals
     simp(disch:=omega) [-zAa,hp,hne'];refine ah [0] 2 [0,1,2] (by simp) (by simp) (by simp) (by simp) hP (by simp) fun _ _=>?_
     simp(disch:=omega) [-zAa,hp,hne',hj,hm];refine ah [0] 2 [0,1,4] (by simp) (by simp) (by simp) (by simp) g2 (by simp) fun _ _=>?_
     simp(disch:=omega) [-zAa,hp]
   ·have hlast:(P0++[V.q 0 i 0 0 0])[P0.length]?=some (.q 0 i 0 0 0):=zBd ..
    have hk':¬k=2:=hk;simp only[zBc,zAh,zBb]at hPl;rcases hc0 with rfl|⟨kz,rfl⟩<;>rcases hc1 with⟨e1,rfl⟩|⟨k1,rfl⟩<;>rcases hc0' with rfl|⟨k0',rfl⟩
    all_goals
     simp(disch:=omega) [-zAa,hp,hne'];refine ah [0] 2 [0,1,2] (by simp) (by simp) (by simp) (by simp) hP (by simp) fun _ _=>?_
     simp(disch:=omega) [-zAa,hp,hne',hj,hm,hlast,hi,hk'];refine ah [0] 2 [0,1,4] (by simp) (by simp) (by simp) (by simp) g2 (by simp) fun _ _=>?_
     simp(disch:=omega) [-zAa,hp]
theorem Jz{N M:Nat}{s:HS}{b:BS}(t:Tok)(h:dD N M s b)(hN:N<=100000000)(hM:t.text.length<=M)(hM2:(N+1)*M<=100000000000000)(hne:t.text≠[])
 {l:List Nat} {i:Nat} {x:Rec} (hr:b.row=l++[i]) (hx:b.recs[i]?=some x) (hk:x.kind=2) (hxb:x.body≠[]):∃s':HS,FnH Tryz.prog bM [0] [.ptr 1 0,.strct (lW t)] s.h (.tup []) s'.h/\dD (N+1) M s' ⟨b.recs.modify i (·.more t.text),b.out,b.opn⟩:=by
 obtain⟨rm,r0,r1,rL⟩:=s;obtain⟨⟨a,own,h1⟩,h2,h3⟩:=h;simp only at h1 h3⊢;have hP:=lP (L:=rL) h1 h2 (by omega)
 obtain⟨cv,code,hrow,hrl,hri,hwh⟩:=Dp h1 h2;have hc0:=d9 h1;have hc1:=gB h1;obtain⟨k1,ca,ct,ck,k2,k3,k4,k5⟩:=h1.recs i x hx;have hbd:=(h2.recs i x hx).2.2;have hNM:(N+1)*M=N*M+M:=zGd N M;rcases k4 with⟨e,_⟩|⟨j',rfl,hj',hm'⟩
 ·exact(hxb e).elim
 have hlay:=h1.text (t:=t.text) h2 hx k1 k2 k3 hj' hm' k5;refine⟨⟨_,r0,r1,rL⟩,?_,⟨a,own,hlay⟩,h2.text hM,h3⟩
 have hval:∃j P0,cv=.q 1 j (P0.length+1) 0 0/\rm[j]?=some (.rw tyB 1 (P0++[V.q 0 (a i) 0 0 0]))/\P0.length+1<=N:=by
  rw[hr]at hrow hrl;rcases hrow with⟨e,e2⟩|⟨j,e,_,hm⟩
  ·simp at e
  ·exact⟨j,l.map (at0 a),by simpa using e,by simpa[at0]using hm,by simpa using hrl⟩
 obtain⟨j,P0,rfl,hm,hPl⟩:=hval;have hlast:(P0++[V.q 0 (a i) 0 0 0])[P0.length]?=some (.q 0 (a i) 0 0 0):=zBd ..;have hne':¬t.text=[]:=hne;have hne2:j'≠a i:=fun e=>by rw[e,k1]at hj';omega
 have hlt:=(zAb.1 k2).1;simp only[iB,hk]at k2⊢;have hset:(rm.set j' (Po.byt 0 (x.body++t.text)))[a i]?=rm[a i]?:=zAi hne2;refine FnH.of_image mixed dO dN rfl fun ho hh=>?_;unfold cD;clear ho hh hlay k5 k3;rcases hwh with⟨ho0,e1,rfl⟩|⟨jp,e1,p0,q0,r0',u0,v0,w0,hj⟩
 ·rw[e1]at hP
  rcases hc1 with⟨e1,rfl⟩|⟨k1,rfl⟩
  all_goals
   simp(disch:=omega) [-zAa,hp,hne'];refine ah [0] 2 [0,1,2] (by simp) (by simp) (by simp) (by simp) hP (by simp) fun _ _=>?_
   simp(disch:=omega) [-zAa,hp,hne',hm,hlast,k2,hm',hset]
 ·rw[e1]at hP
  rcases hc0 with rfl|⟨kz,rfl⟩<;>rcases hc1 with⟨e1,rfl⟩|⟨k1,rfl⟩
  all_goals
   simp(disch:=omega) [-zAa,hp,hne'];refine ah [0] 2 [0,1,2] (by simp) (by simp) (by simp) (by simp) hP (by simp) fun _ _=>?_
   simp(disch:=omega) [-zAa,hp,hne',hj,hm,hlast,k2,hm',hset]
theorem NQ{b:BS}(h:nH b)(n:Nat):nH (b.link n):=by
 unfold BS.link;split
 ·exact h
 ·intro r y hr hk
  obtain⟨x,hx,rfl⟩:=dh hr;split at hk<;>rename_i e
  ·rw[if_pos e];exact h r x hx hk
  ·rw[if_neg e];exact h r x hx hk
theorem Ry{b:BS}(h:nH b){x:Rec}(hx:x.kind=2->x.body≠[]):nH (b.add x):=by
 refine NQ ?_ _;intro r y hr hk;simp only[BS.new]at hr;rcases zDc r b.recs.length with hlt|hge
 ·rw[zAd hlt]at hr
  exact h r y hr hk
 ·rw[zAf hge]at hr
  have hm:=zBf hr;simp only[zAg,zBe,or_false]at hm;subst hm;exact hx hk
theorem J5{b:BS}(h:nH b)(t:Tok):nH (mM b t):=by
 have ha:∀(o:List (Nat×Str)){x:Rec},(x.kind=2->x.body≠[])->nH (BS.add ⟨b.recs,b.out,o⟩ x):=fun o x hx=>Ry (b:=⟨b.recs,b.out,o⟩) h hx;unfold mM;split
 ·simp only[BS.begin']
  split
  ·exact ha _ (by simp)
  ·exact ha _ (by simp)
 ·split
  ·split<;>exact h
  ·split
   ·unfold BS.chars'
    split
    ·exact h
    ·rename_i hne
     split
     ·split
      ·rename_i x hx
       split
       ·intro r y hr hk
        obtain⟨z,hz,rfl⟩:=dh hr;split at hk<;>rename_i e
        ·rw[if_pos e]
         simp only[Rec.more];intro e2;exact hne (List.append_eq_nil_iff.1 e2).2
        ·rw[if_neg e];exact h r z hz hk
       ·exact ha _ fun _=>hne
      ·exact h
     ·exact ha _ fun _=>hne
   ·split
    ·exact ha _ (by simp)
    ·exact h
theorem PH{N M:Nat}{s:HS}{b:BS}(t:Tok)(h:dD N M s b)(hx:nH b)(hN:N<=100000000)(hM:t.text.length<=M)(hM2:(N+1)*M<=100000000000000)(hM3:M<=1000000000):∃s':HS,FnH Tryz.prog bM [0] [.ptr 1 0,.strct (lW t)] s.h (.tup []) s'.h/\dD (N+1) M s' (b.chars' t.text):=by
 have mono:dD (N+1) M s b:=⟨h.1,h.2.1.mono (by omega),h.2.2⟩
 unfold BS.chars';by_cases hne:t.text=[]
 ·rw[if_pos hne]
  refine⟨s,?_,mono⟩;have hc0:=d9 h.1.choose_spec.choose_spec;have hc1:=gB h.1.choose_spec.choose_spec;refine FnH.of_image mixed dO dN rfl fun ho hh=>?_;unfold cD;clear ho hh;obtain⟨sm,s0,s1,sL⟩:=s;simp only at hc0 hc1;rcases hc0 with rfl|⟨k0,rfl⟩<;>rcases hc1 with⟨e1,rfl⟩|⟨k1,rfl⟩
  all_goals
   simp(disch:=omega) [-zAa,hp,hne]
 ·rw[if_neg hne]
  obtain⟨⟨a,own,h1⟩,h2,h3⟩:=id h;obtain⟨_,_,_,_,hri,_⟩:=Dp h1 h2;cases hl:b.row.getLast? with
  |none=>exact Cp t h hN hM hM3 hne (.inl (zEa.1 hl))
  |some i=>
    obtain⟨l,hl⟩:=zEb.1 hl;have hlt:=hri i (by rw[hl];simp)
    obtain⟨x,hrx⟩:=bH (l:=b.recs) (k:=i) hlt;simp only[hrx];by_cases hk:x.kind=2
    ·rw[if_pos hk]
     exact Jz t h hN hM hM2 hne hl hrx hk (hx i x hrx hk)
    ·rw[if_neg hk]
     exact Cp t h hN hM hM3 hne (.inr ⟨l,i,x,hl,hrx,hk⟩)
abbrev ktI:KT:=⟨false,[.i .i64]⟩
def Cl(k:Nat):Option FuncId:=if k=1 then some dK else if k=2 then some eH else if k=3 then some bM else if k=4 then some dw else none
def KF:List (V×V):=[(.int .i64 1,.fn (.func dK) [] []),(.int .i64 2,.fn (.func eH) [] []),(.int .i64 3,.fn (.func bM) [] []),(.int .i64 4,.fn (.func dw) [] [])]
theorem qt(ms:List Po):FnH Tryz.prog Aa [] [] [some (.pool ms)] (.ref 1 0) [some (.pool ms),some (.mp ktI KF)]:=by
 refine FnH.of_image mixed AV Az rfl fun ho hh=>?_;unfold qL;clear ho hh;simp(disch:=omega) [-zAa,KF];rfl
theorem Ck(k:Nat):ir (.int .i64 k) KF=(Cl k).map fun f=>.fn (.func f) [] []:=by
 simp only[KF,ir,eqK,cl,tm,eqC,Cl,Bool.and_true,decide_eq_true_eq];by_cases h1:k=1
 ·subst h1;rfl
 ·by_cases h2:k=2
  ·subst h2;rfl
  ·by_cases h3:k=3
   ·subst h3;rfl
   ·by_cases h4:k=4
    ·subst h4;rfl
    ·have:¬(k:Int)=1/\¬(k:Int)=2/\¬(k:Int)=3/\¬(k:Int)=4:=by omega
     simp[h1,h2,h3,h4,this.1,this.2.1,this.2.2.1,this.2.2.2]
theorem Oj{s s':HS}{t:Tok}{f:FuncId}(hf:Cl t.kind=some f)(h:FnH Tryz.prog f [0] [.ptr 1 0,.strct (lW t)] s.h (.tup []) s'.h)(hc0:s.c0=.nil 1\/∃k n,s.c0=.q 1 k n 0 0)(hc1:s.c1=.nil 1\/∃k n,s.c1=.q 1 k n 0 0)
 (hc2:s'.c0=.nil 1\/∃k n,s'.c0=.q 1 k n 0 0) (hc3:s'.c1=.nil 1\/∃k n,s'.c1=.q 1 k n 0 0):FnH Tryz.prog bE [0] [.ptr 1 0,.strct (lW t)] s.h (.tup []) s'.h:=by
 have hD:=qt s.ms;have hg:=Ck t.kind;rw[hf]at hg;simp only[zEf]at hg;refine FnH.of_image mixed iZ iW rfl fun ho hh=>?_;unfold eM;clear ho hh;obtain⟨sm,s0,s1,sL⟩:=s;obtain⟨sm',s0',s1',sL'⟩:=s';simp only at hc0 hc1 hc2 hc3;simp(disch:=omega) [-zAa,hp];refine CE ⟨[(0,.ptr 1 0),(3,.ptr 2 0),(4,.fn (.func f) [] []),(5,.bool true)],[some (.pool sm),some (.box [s0,s1,.ref 3 0]),some (.box (lW t)),some (.mp rk (sL.map gE))]⟩ (fun F hF=>?_) ?_
 ·rcases hc0 with rfl|⟨k0,n0,rfl⟩<;>rcases hc1 with rfl|⟨k1,n1,rfl⟩
  all_goals
   try simp at hF
   repeat' (first
    |with_reducible exact hF
    |refine CF.mk ?_ ?_
    |(refine nM [] 1 [0] (by simp) (by simp) (by simp) (by simp) hD (by simp) ?_)
    |(simp(disch:=omega) [-zAa,hp,hg]))
 ·rcases hc0 with rfl|⟨k0,n0,rfl⟩<;>rcases hc1 with rfl|⟨k1,n1,rfl⟩<;>rcases hc2 with rfl|⟨k2,n2,rfl⟩<;>rcases hc3 with rfl|⟨k3,n3,rfl⟩
  all_goals
   simp(disch:=omega) [-zAa,hp];refine ah [0] 2 [0,1,3] (by simp) (by simp) (by simp) (by simp) h (by simp) fun _ _=>?_
   simp(disch:=omega) [-zAa,hp]
theorem Ok{s:HS}{t:Tok}(hf:Cl t.kind=none)(hc0:s.c0=.nil 1\/∃k n,s.c0=.q 1 k n 0 0)(hc1:s.c1=.nil 1\/∃k n,s.c1=.q 1 k n 0 0):FnH Tryz.prog bE [0] [.ptr 1 0,.strct (lW t)] s.h (.tup []) s.h:=by
 have hD:=qt s.ms;have hg:=Ck t.kind;rw[hf]at hg;simp only[Option.map_none]at hg;refine FnH.of_image mixed iZ iW rfl fun ho hh=>?_;unfold eM;clear ho hh;obtain⟨sm,s0,s1,sL⟩:=s;simp only at hc0 hc1;simp(disch:=omega) [-zAa,hp];refine CE ⟨[(0,.ptr 1 0),(3,.ptr 2 0),(4,.nilfn),(5,.bool false)],[some (.pool sm),some (.box [s0,s1,.ref 3 0]),some (.box (lW t)),some (.mp rk (sL.map gE))]⟩ (fun F hF=>?_) ?_
 ·rcases hc0 with rfl|⟨k0,n0,rfl⟩<;>rcases hc1 with rfl|⟨k1,n1,rfl⟩
  all_goals
   try simp at hF
   repeat' (first
    |with_reducible exact hF
    |refine CF.mk ?_ ?_
    |(refine nM [] 1 [0] (by simp) (by simp) (by simp) (by simp) hD (by simp) ?_)
    |(simp(disch:=omega) [-zAa,hp,hg]))
 ·rcases hc0 with rfl|⟨k0,n0,rfl⟩<;>rcases hc1 with rfl|⟨k1,n1,rfl⟩
  all_goals
   simp(disch:=omega) [-zAa,hp]
theorem Dq{N M:Nat}{s:HS}{b:BS}(h:dD N M s b):(s.c0=.nil 1\/∃k n,s.c0=.q 1 k n 0 0)/\(s.c1=.nil 1\/∃k n,s.c1=.q 1 k n 0 0):=by
 obtain⟨⟨a,own,h1⟩,_⟩:=h;refine⟨?_,?_⟩
 ·rcases d9 h1 with e|⟨k,e⟩
  ·exact .inl e
  ·exact .inr ⟨k,_,e⟩
 ·rcases gB h1 with⟨_,e⟩|⟨k,e⟩
  ·exact .inl e
  ·exact .inr ⟨k,_,e⟩
theorem UD{N M:Nat}{s:HS}{b:BS}(t:Tok)(h:dD N M s b)(hx:nH b)(hN:N<=100000000)(hM:t.text.length<=M)(hM2:(N+1)*M<=100000000000000)(hM3:M<=1000000000)(ha:t.attrs.length<=1000000000):
 ∃s':HS,FnH Tryz.prog bE [0] [.ptr 1 0,.strct (lW t)] s.h (.tup []) s'.h/\dD (N+1) M s' (mM b t):=by
 obtain⟨f0,f1⟩:=Dq h
 have run:∀{f:FuncId}{s':HS}{b':BS},Cl t.kind=some f->FnH Tryz.prog f [0] [.ptr 1 0,.strct (lW t)] s.h (.tup []) s'.h->dD (N+1) M s' b'->∃s':HS,FnH Tryz.prog bE [0] [.ptr 1 0,.strct (lW t)] s.h (.tup []) s'.h/\dD (N+1) M s' b':=fun{f s' b'} hf hh hl=>by
  obtain⟨f2,f3⟩:=Dq hl;exact⟨s',Oj hf hh f0 f1 f2 f3,hl⟩
 unfold mM;by_cases h1:t.kind=1
 ·rw[if_pos h1]
  obtain⟨s',k1,k2⟩:=PV t h hN ha;exact run (by rw[h1];rfl) k1 k2
 ·rw[if_neg h1]
  by_cases h2:t.kind=2
  ·rw[if_pos h2]
   obtain⟨s',k1,k2⟩:=U4 t h hN;exact run (by rw[h2];rfl) k1 ⟨k2.1,k2.2.1.mono (by omega),k2.2.2⟩
  ·rw[if_neg h2]
   by_cases h3:t.kind=3
   ·rw[if_pos h3]
    obtain⟨s',k1,k2⟩:=PH t h hx hN hM hM2 hM3;exact run (by rw[h3];rfl) k1 k2
   ·rw[if_neg h3]
    by_cases h4:t.kind=4
    ·rw[if_pos h4]
     obtain⟨s',k1,k2⟩:=Ly t h hN;exact run (by rw[h4];rfl) k1 k2
    ·rw[if_neg h4]
     exact⟨s,Ok (by simp[Cl,h1,h2,h3,h4]) f0 f1,h.1,h.2.1.mono (by omega),h.2.2⟩
noncomputable def RW(N M:Nat)(b:BS)(t:Tok)(s:HS):HS:=Classical.epsilon fun s'=>FnH Tryz.prog bE [0] [.ptr 1 0,.strct (lW t)] s.h (.tup []) s'.h/\dD (N+1) M s' (mM b t)
theorem BH{N M:Nat}{s:HS}{b:BS}{t:Tok}(h:dD N M s b)(hx:nH b)(hN:N<=100000000)(hM:t.text.length<=M)(hM2:(N+1)*M<=100000000000000)(hM3:M<=1000000000)(ha:t.attrs.length<=1000000000):
 FnH Tryz.prog bE [0] [.ptr 1 0,.strct (lW t)] s.h (.tup []) (RW N M b t s).h/\dD (N+1) M (RW N M b t s) (mM b t):=Classical.epsilon_spec (UD t h hx hN hM hM2 hM3 ha)
theorem Hw(ms:List Po):FnH Tryz.prog F5 [] [] [some (.pool ms)] (.ptr 1 0) (hp ms (.nil 1) (.nil 1) []):=by
 refine FnH.of_image mixed GZ GD rfl fun ho hh=>?_;unfold wi;clear ho hh;simp(disch:=omega) [-zAa,hp]
structure Job where
 rows:List Nat
 fv:V
 tg:Option (Nat×Nat×Nat)
def Job.tv(jo:Nat)(q:Job):V:=match q.tg with
 |none=>.q 0 jo 0 0 0
 |some (j,n,i)=>.q 2 j n i 4
def Job.v(jo:Nat)(q:Job):V:=.strct [q.fv,q.tv jo]
def gp(x:Rec):Str:=if x.kind=2 then x.body else x.text
def elE(x:Rec)(kc:V):V:=.strct [.int .i64 x.kind,.str x.name,aM x.attrs,.str (gp x),kc]
def p8:V:=.strct [.int .i64 0,.str [],.seq 2 [],.str [],.seq 5 []]
abbrev cB:Nat:=aN
abbrev dR:Nat:=sa
structure NI (m0:List Po) (b:BS) (a own:Nat->Nat) (jo:Nat) (S:Nat->Option (List Nat)) (pj pi:Nat) (cur:List Job) (ms:List Po) (jw:Nat) (J:List Job):Prop where
 old:∀(j:Nat)(p:Po),m0[j]?=some p->ms[j]?=some p
 dom:∀(j:Nat)(rs:List Nat),S j=some rs->m0.length<=j/\j<ms.length/\j≠jo/\j≠jw
 jo0:m0.length<=jo/\jo<ms.length/\jo≠jw
 jw0:m0.length<=jw
 wait:ms[jw]?=some (Po.rw dR 2 (J.map (Job.v jo)))
 var:∃v,ms[jo]?=some (.bx 0 [v])/\((v=.nil 5/\∃q∈J++cur,q.rows=b.out/\q.tg=none)\/∃j',v=.q 1 j' b.out.length 0 0/\S j'=some b.out)
 rows:∀(j:Nat)(rs:List Nat),S j=some rs->∃el:List V,ms[j]?=some (Po.rw cB 5 el)/\el.length=rs.length/\∀(i r:Nat),rs[i]?=some r->((j=pj/\pi<=i)/\el[i]?=some p8)\/(¬(j=pj/\pi<=i)/\∃(x:Rec)(kc:V),b.recs[r]?=some x/\el[i]?=some (elE x kc)/\
  ((kc=.nil 5/\(x.kids=[]\/∃q∈J++cur,q.rows=x.kids/\q.tg=some (j,rs.length,i)))\/∃j',kc=.q 1 j' x.kids.length 0 0/\S j'=some x.kids))
 jobs:∀q∈J++cur,(∃code,ja m0 a own code q.rows q.fv)/\(∀r∈q.rows,r<b.recs.length)/\(q.tg=none->q.rows=b.out)/\∀(j n i:Nat),q.tg=some (j,n,i)->∃(rs:List Nat)(r:Nat)(x:Rec),S j=some rs/\n=rs.length/\rs[i]?=some r/\¬(j=pj/\pi<=i)/\b.recs[r]?=some x/\x.kids=q.rows
section
variable{m0:List Po}{c0 c1:V}{b:BS}{a own:Nat->Nat}{N M jo:Nat}{S:Nat->Option (List Nat)}{ms:List Po}{jw:Nat}{J:List Job}
theorem NI.start(h:Lay m0 c0 c1 b a own)(hw:WF N M b):NI m0 b a own m0.length (fun _=>none) m0.length 0 [] (m0++[.bx 0 [.nil 5]]++[Po.rw dR 2 [Job.v m0.length ⟨b.out,c0,none⟩]]) (m0.length+1) [⟨b.out,c0,none⟩]:=by
 refine⟨fun j p hj=>?_,fun j rs h=>(by cases h),⟨zBh _,by simp,by omega⟩,by omega,?_,⟨.nil 5,?_,.inl ⟨rfl,⟨b.out,c0,none⟩,by simp,rfl,rfl⟩⟩,fun j rs h=>(by cases h),fun q hq=>?_⟩
 ·have hlt:=(zAb.1 hj).1
  rw[zBi,zAd hlt];exact hj
 ·rw[zBi,gQ];rfl
 ·rw[zBi,dd];rfl
 ·simp only[zCg,zAg,zBe,or_false]at hq
  subst hq;exact⟨⟨0,h.out⟩,hw.out,fun _=>rfl,fun j n i e=>by cases e⟩
def EY(S:Nat->Option (List Nat))(j:Nat)(rs:List Nat):Nat->Option (List Nat):=fun k=>if k=j then some rs else S k
theorem dX(S:Nat->Option (List Nat))(j:Nat)(rs:List Nat):EY S j rs j=some rs:=by simp[EY]
theorem CI{S:Nat->Option (List Nat)}{j k:Nat}{rs:List Nat}(h:k≠j):EY S j rs k=S k:=by simp[EY,h]
theorem NI.pop{q:Job}(h:NI m0 b a own jo S jo 0 [] ms jw (J++[q])):
 NI m0 b a own jo (EY S (ms.length+1) q.rows) (ms.length+1) 0 [q] (ms.set jw .no++[Po.rw dR 2 (J.map (Job.v jo))]++[Po.rw cB 5 (zCj q.rows.length p8)]) ms.length J:=by
 have hjw:=(zAb.1 h.wait).1;have hm0:∀j p,m0[j]?=some p->j<ms.length:=fun j p hj=>(zAb.1 (h.old j p hj)).1
 have keep:∀{j:Nat}{p:Po},j≠jw->ms[j]?=some p->(ms.set jw .no++[Po.rw dR 2 (J.map (Job.v jo))]++[Po.rw cB 5 (zCj q.rows.length p8)])[j]?=some p:=fun{j p} hj hp=>by
  have hlt:=(zAb.1 hp).1;rw[zBi,zAd (by simpa using hlt),zAi (Ne.symm hj)]
  exact hp
 have len:(ms.set jw Po.no++[Po.rw dR 2 (J.map (Job.v jo))]++[Po.rw cB 5 (zCj q.rows.length p8)]).length=ms.length+2:=by simp
 have hjo:=h.jo0;have hS:∀j rs,S j=some rs->EY S (ms.length+1) q.rows j=some rs:=fun j rs hj=>by rw[CI (by have:=(h.dom j rs hj).2.1;omega)];exact hj
 have hm0l:m0.length<=ms.length:=by omega
 refine⟨fun j p hj=>?_,fun j rs hj=>?_,⟨hjo.1,by omega,by omega⟩,hm0l,?_,?_,fun j rs hj=>?_,fun p hp=>?_⟩
 ·have hlt:=(zAb.1 hj).1
  exact keep (by have:=h.jw0;omega) (h.old j p hj)
 ·by_cases e:j=ms.length+1
  ·omega
  ·rw[CI e]at hj
   have:=h.dom j rs hj;omega
 ·rw[zBi,zAf (by simp),zDb,zCd]
  rfl
 ·obtain⟨v,hv,hc⟩:=h.var
  refine⟨v,keep hjo.2.2 hv,?_⟩;rcases hc with⟨e,p,hp,h1,h2⟩|⟨j',e,hj'⟩
  ·exact .inl ⟨e,p,by simpa using hp,h1,h2⟩
  ·exact .inr ⟨j',e,hS _ _ hj'⟩
 ·by_cases e:j=ms.length+1
  ·subst e
   rw[dX]at hj;cases hj;refine⟨zCj q.rows.length p8,?_,List.length_replicate,fun i r hr=>.inl ⟨⟨rfl,zDj _⟩,?_⟩⟩
   ·rw[zAf (by simp)]
    simp
   ·have hlt:=(zAb.1 hr).1
    rw[List.getElem?_replicate,if_pos hlt]
  ·rw[CI e]at hj
   obtain⟨el,h1,h2,h3⟩:=h.rows j rs hj;refine⟨el,keep (h.dom j rs hj).2.2.2 h1,h2,fun i r hr=>?_⟩;rcases h3 i r hr with⟨h4,_⟩|⟨h4,x,kc,h5,h6,h7⟩
   ·exact((h.dom j rs hj).2.2.1 h4.1).elim
   ·refine .inr ⟨fun e'=>e e'.1,x,kc,h5,h6,?_⟩
    rcases h7 with⟨e1,h7|⟨p,hp,e2,e3⟩⟩|⟨j',e1,hj'⟩
    ·exact .inl ⟨e1,.inl h7⟩
    ·exact .inl ⟨e1,.inr ⟨p,by simpa using hp,e2,e3⟩⟩
    ·exact .inr ⟨j',e1,hS _ _ hj'⟩
 ·obtain⟨h1,h2,h3,h4⟩:=h.jobs p (by simpa using hp)
  refine⟨h1,h2,h3,fun j n i e=>?_⟩;obtain⟨rs,r,x,k1,k2,k3,k4,k5⟩:=h4 j n i e;have:=(h.dom j rs k1).2.1;exact⟨rs,r,x,hS _ _ k1,k2,k3,by omega,k5⟩
theorem NI.step{q:Job}{j' i r:Nat}{rs:List Nat}{x:Rec}{el:List V}(h:NI m0 b a own jo S j' i [q] ms jw J)(hS:S j'=some rs)(hr:rs[i]?=some r)(hx:b.recs[r]?=some x)(hel:ms[j']?=some (Po.rw cB 5 el))(hk:x.kids=[]):
 NI m0 b a own jo S j' (i+1) [q] (ms.set j' (Po.rw cB 5 (el.set i (elE x (.nil 5))))) jw J:=by
 obtain⟨d1,d2,d3,d4⟩:=h.dom j' rs hS
 have keep:∀{j:Nat}{p:Po},j≠j'->ms[j]?=some p->(ms.set j' (Po.rw cB 5 (el.set i (elE x (.nil 5)))))[j]?=some p:=fun{j p} hj hp=>by
  rw[zAi (Ne.symm hj)];exact hp
 refine⟨fun j p hj=>?_,fun j rs hj=>by simpa using h.dom j rs hj,by simpa using h.jo0,h.jw0,keep d4.symm h.wait,?_,fun j rs2 hj=>?_,fun p hp=>?_⟩
 ·have hlt:=(zAb.1 hj).1
  exact keep (by omega) (h.old j p hj)
 ·obtain⟨v,hv,hc⟩:=h.var
  exact⟨v,keep d3.symm hv,hc⟩
 ·obtain⟨el2,h1,h2,h3⟩:=h.rows j rs2 hj
  by_cases e:j=j'
  ·subst e
   rw[hel]at h1;cases h1;rw[hS]at hj;cases hj;refine⟨_,zBa d2,by simpa using h2,fun k r2 hr2=>?_⟩
   by_cases ek:k=i
   ·subst ek
    rw[hr]at hr2;cases hr2;have hlt:=(zAb.1 hr).1;exact .inr ⟨by omega,x,.nil 5,hx,zBa (by omega),.inl ⟨rfl,.inl hk⟩⟩
   ·rcases h3 k r2 hr2 with⟨h4,h5⟩|⟨h4,x2,kc,h5,h6,h7⟩
    ·refine .inl ⟨⟨rfl,by omega⟩,?_⟩
     rw[zAi (Ne.symm ek)];exact h5
    ·refine .inr ⟨by omega,x2,kc,h5,?_,h7⟩
     rw[zAi (Ne.symm ek)];exact h6
  ·refine⟨el2,keep e h1,h2,fun k r2 hr2=>?_⟩
   rcases h3 k r2 hr2 with⟨h4,h5⟩|⟨h4,h5⟩
   ·exact(e h4.1).elim
   ·exact .inr ⟨fun e'=>e e'.1,h5⟩
 ·obtain⟨h1,h2,h3,h4⟩:=h.jobs p hp
  refine⟨h1,h2,h3,fun j n k e=>?_⟩;obtain⟨rs2,r2,x2,k1,k2,k3,k4,k5⟩:=h4 j n k e;exact⟨rs2,r2,x2,k1,k2,k3,by omega,k5⟩
theorem NI.step2{q:Job}{j' i r:Nat}{rs:List Nat}{x:Rec}{el:List V}{ck:V}{code:Nat}(h:NI m0 b a own jo S j' i [q] ms jw J)(hw:WF N M b)(hS:S j'=some rs)(hr:rs[i]?=some r)(hx:b.recs[r]?=some x)(hel:ms[j']?=some (Po.rw cB 5 el))(hck:ja m0 a own code x.kids ck):
 NI m0 b a own jo S j' (i+1) [q] ((ms.set j' (Po.rw cB 5 (el.set i (elE x (.nil 5))))++[Po.rw dR 2 [Job.v jo ⟨x.kids,ck,some (j',rs.length,i)⟩]]).set jw (Po.rw dR 2 (J.map (Job.v jo)++[Job.v jo ⟨x.kids,ck,some (j',rs.length,i)⟩]))) jw (J++[⟨x.kids,ck,some (j',rs.length,i)⟩]):=by
 obtain⟨d1,d2,d3,d4⟩:=h.dom j' rs hS;have hjw:=(zAb.1 h.wait).1
 have keep:∀{j:Nat}{p:Po},j≠j'->j≠jw->ms[j]?=some p->((ms.set j' (Po.rw cB 5 (el.set i (elE x (.nil 5))))++[Po.rw dR 2 [Job.v jo ⟨x.kids,ck,some (j',rs.length,i)⟩]]).set jw (Po.rw dR 2 (J.map (Job.v jo)++[Job.v jo ⟨x.kids,ck,some (j',rs.length,i)⟩])))[j]?=some p:=fun{j p} hj hj2 hp=>by
  have hlt:=(zAb.1 hp).1;rw[zAi (Ne.symm hj2),zAd (by simpa using hlt),zAi (Ne.symm hj)]
  exact hp
 have jj:∀{p:Job},p∈J++[q]->p∈(J++[⟨x.kids,ck,some (j',rs.length,i)⟩])++[q]:=fun{p} hp=>by
  simp only[zCa,zAg,zBe,or_false]at hp⊢;rcases hp with hp|hp
  ·exact .inl (.inl hp)
  ·exact .inr hp
 refine⟨fun j p hj=>?_,fun j rs2 hj=>?_,?_,h.jw0,?_,?_,fun j rs2 hj=>?_,fun p hp=>?_⟩
 ·have hlt:=(zAb.1 hj).1
  exact keep (by omega) (by have:=h.jw0;omega) (h.old j p hj)
 ·have:=h.dom j rs2 hj
  simp only[zDb,zBc,zAh,zBb];omega
 ·have:=h.jo0
  simp only[zDb,zBc,zAh,zBb];omega
 ·rw[zBa (by simp;omega)]
  simp
 ·obtain⟨v,hv,hc⟩:=h.var
  refine⟨v,keep d3.symm h.jo0.2.2 hv,?_⟩;rcases hc with⟨e,p,hp,h1,h2⟩|hc
  ·exact .inl ⟨e,p,jj hp,h1,h2⟩
  ·exact .inr hc
 ·obtain⟨el2,h1,h2,h3⟩:=h.rows j rs2 hj
  by_cases e:j=j'
  ·subst e
   rw[hel]at h1;cases h1;rw[hS]at hj;cases hj;refine⟨el.set i (elE x (.nil 5)),?_,by simpa using h2,fun k r2 hr2=>?_⟩
   ·rw[zAi (Ne.symm d4),zAd (by simpa using d2),zBa d2]
   by_cases ek:k=i
   ·subst ek
    rw[hr]at hr2;cases hr2;have hlt:=(zAb.1 hr).1;exact .inr ⟨by omega,x,.nil 5,hx,zBa (by omega),.inl ⟨rfl,.inr ⟨⟨x.kids,ck,some (j,rs.length,k)⟩,by simp,rfl,rfl⟩⟩⟩
   ·rcases h3 k r2 hr2 with⟨h4,h5⟩|⟨h4,x2,kc,h5,h6,h7⟩
    ·refine .inl ⟨⟨rfl,by omega⟩,?_⟩
     rw[zAi (Ne.symm ek)];exact h5
    ·refine .inr ⟨by omega,x2,kc,h5,?_,?_⟩
     ·rw[zAi (Ne.symm ek)]
      exact h6
     ·rcases h7 with⟨e1,h7|⟨p,hp,e2,e3⟩⟩|h7
      ·exact .inl ⟨e1,.inl h7⟩
      ·exact .inl ⟨e1,.inr ⟨p,jj hp,e2,e3⟩⟩
      ·exact .inr h7
  ·refine⟨el2,keep e (h.dom j rs2 hj).2.2.2 h1,h2,fun k r2 hr2=>?_⟩
   rcases h3 k r2 hr2 with⟨h4,h5⟩|⟨h4,x2,kc,h5,h6,h7⟩
   ·exact(e h4.1).elim
   ·refine .inr ⟨fun e'=>e e'.1,x2,kc,h5,h6,?_⟩
    rcases h7 with⟨e1,h7|⟨p,hp,e2,e3⟩⟩|h7
    ·exact .inl ⟨e1,.inl h7⟩
    ·exact .inl ⟨e1,.inr ⟨p,jj hp,e2,e3⟩⟩
    ·exact .inr h7
 ·have hp':p∈J++[q]\/p=⟨x.kids,ck,some (j',rs.length,i)⟩:=by
   simp only[zCa,zAg,zBe,or_false]at hp⊢;rcases hp with(hp|hp)|hp
   ·exact .inl (.inl hp)
   ·exact .inr hp
   ·exact .inl (.inr hp)
  rcases hp' with hp'|rfl
  ·obtain⟨h1,h2,h3,h4⟩:=h.jobs p hp'
   refine⟨h1,h2,h3,fun j n k e=>?_⟩;obtain⟨rs2,r2,x2,k1,k2,k3,k4,k5⟩:=h4 j n k e;exact⟨rs2,r2,x2,k1,k2,k3,by omega,k5⟩
  ·refine⟨⟨code,hck⟩,(hw.recs r x hx).1,fun e=>(by cases e),fun j n k e=>?_⟩
   simp only[zCe,zFc]at e;obtain⟨rfl,rfl,rfl⟩:=e;exact⟨rs,r,x,hS,rfl,hr,by omega,hx,rfl⟩
theorem NI.store0{q:Job}{j':Nat}(h:NI m0 b a own jo S j' q.rows.length [q] ms jw J)(hS:S j'=some q.rows)(ht:q.tg=none):NI m0 b a own jo S jo 0 [] (ms.set jo (.bx 0 [.q 1 j' q.rows.length 0 0])) jw J:=by
 have hjo:=h.jo0;obtain⟨q1,q2,q3,_⟩:=h.jobs q (by simp)
 have hq:=q3 ht
 have keep:∀{j:Nat}{p:Po},j≠jo->ms[j]?=some p->(ms.set jo (.bx 0 [.q 1 j' q.rows.length 0 0]))[j]?=some p:=fun{j p} hj hp=>by
  rw[zAi (Ne.symm hj)];exact hp
 refine⟨fun j p hj=>?_,fun j rs hj=>by simpa using h.dom j rs hj,by simpa using hjo,h.jw0,keep hjo.2.2.symm h.wait,⟨_,zBa hjo.2.1,.inr ⟨j',by rw[hq],by rw[<-hq];exact hS⟩⟩,fun j rs2 hj=>?_,fun p hp=>?_⟩
 ·have hlt:=(zAb.1 hj).1
  exact keep (by omega) (h.old j p hj)
 ·obtain⟨el2,h1,h2,h3⟩:=h.rows j rs2 hj
  have hd:=h.dom j rs2 hj;refine⟨el2,keep hd.2.2.1 h1,h2,fun k r2 hr2=>.inr ⟨fun e=>hd.2.2.1 e.1,?_⟩⟩;rcases h3 k r2 hr2 with⟨⟨e1,h4⟩,h5⟩|⟨h4,x2,kc,h5,h6,h7⟩
  ·subst e1
   rw[hS]at hj;cases hj;have:=(zAb.1 hr2).1;omega
  ·refine⟨x2,kc,h5,h6,?_⟩
   rcases h7 with⟨e1,h7|⟨p,hp,e2,e3⟩⟩|h7
   ·exact .inl ⟨e1,.inl h7⟩
   ·refine .inl ⟨e1,.inr ⟨p,?_,e2,e3⟩⟩
    simp only[zCa,zAg,zBe,or_false]at hp⊢;rcases hp with hp|rfl
    ·exact hp
    ·rw[ht]at e3;cases e3
   ·exact .inr h7
 ·obtain⟨h1,h2,h3,h4⟩:=h.jobs p (by simp only[zCg]at hp;simp[hp])
  refine⟨h1,h2,h3,fun j n k e=>?_⟩;obtain⟨rs2,r2,x2,k1,k2,k3,k4,k5⟩:=h4 j n k e;exact⟨rs2,r2,x2,k1,k2,k3,fun e=>(h.dom j rs2 k1).2.2.1 e.1,k5⟩
theorem NI.store1{q:Job}{j' j n i:Nat}(h:NI m0 b a own jo S j' q.rows.length [q] ms jw J)(hS:S j'=some q.rows)(ht:q.tg=some (j,n,i)):
 ∃el x kc,ms[j]?=some (Po.rw cB 5 el)/\n=el.length/\el[i]?=some (elE x kc)/\NI m0 b a own jo S jo 0 [] (ms.set j (Po.rw cB 5 (el.set i (elE x (.q 1 j' q.rows.length 0 0))))) jw J:=by
 have hjo:=h.jo0;obtain⟨q1,q2,q3,q4⟩:=h.jobs q (by simp)
 obtain⟨rs,r,x,k1,k2,k3,k4,k5,k6⟩:=q4 j n i ht;obtain⟨d1,d2,d3,d4⟩:=h.dom j rs k1;obtain⟨el,e1,e2,e3⟩:=h.rows j rs k1;rcases e3 i r k3 with⟨f1,_⟩|⟨_,x',kc,f1,f2,f3⟩
 ·exact(k4 f1).elim
 rw[k5]at f1;cases f1
 have keep:∀{k:Nat}{p:Po},k≠j->ms[k]?=some p->(ms.set j (Po.rw cB 5 (el.set i (elE x (.q 1 j' q.rows.length 0 0)))))[k]?=some p:=fun{k p} hj hp=>by
  rw[zAi (Ne.symm hj)];exact hp
 have hpend:∀{p:Job}{j2 n2 i2:Nat},p∈J++[q]->p.tg=some (j2,n2,i2)->¬(j2=j/\i2=i)->p∈J++[]:=fun{p j2 n2 i2} hp e he=>by
  simp only[zCa,zAg,zBe,or_false]at hp⊢;rcases hp with hp|rfl
  ·exact hp
  ·rw[ht]at e
   simp only[zCe,zFc]at e;exact(he ⟨e.1.symm,e.2.2.symm⟩).elim
 refine⟨el,x,kc,e1,by omega,f2,fun k p hk=>?_,fun k rs hk=>by simpa using h.dom k rs hk,by simpa using hjo,h.jw0,keep d4.symm h.wait,?_,fun k rs2 hk=>?_,fun p hp=>?_⟩
 ·have hlt:=(zAb.1 hk).1
  exact keep (by omega) (h.old k p hk)
 ·obtain⟨v,hv,hc⟩:=h.var
  refine⟨v,keep d3.symm hv,?_⟩;rcases hc with⟨e,p,hp,h1,h2⟩|hc
  ·refine .inl ⟨e,p,?_,h1,h2⟩
   simp only[zCa,zAg,zBe,or_false]at hp⊢;rcases hp with hp|rfl
   ·exact hp
   ·rw[ht]at h2;cases h2
  ·exact .inr hc
 ·obtain⟨el2,h1,h2,h3⟩:=h.rows k rs2 hk
  have hd:=h.dom k rs2 hk
  have full:∀{m r2:Nat},rs2[m]?=some r2->¬(k=j'/\q.rows.length<=m):=fun{m r2} hr2 e=>by
   obtain⟨rfl,e'⟩:=e;rw[hS]at hk;cases hk;have:=(zAb.1 hr2).1;omega
  by_cases e:k=j
  ·subst e
   rw[e1]at h1;cases h1;rw[k1]at hk;cases hk;refine⟨_,zBa d2,by simpa using h2,fun m r2 hr2=>.inr ⟨fun e=>hd.2.2.1 e.1,?_⟩⟩
   by_cases em:m=i
   ·subst em
    rw[k3]at hr2;cases hr2;have hlt:=(zAb.1 k3).1;exact⟨x,_,k5,zBa (by omega),.inr ⟨j',by rw[k6],by rw[k6];exact hS⟩⟩
   ·rcases h3 m r2 hr2 with⟨h4,_⟩|⟨h4,x2,kc2,h5,h6,h7⟩
    ·exact(full hr2 h4).elim
    ·refine⟨x2,kc2,h5,by rw[zAi (Ne.symm em)];exact h6,?_⟩
     rcases h7 with⟨e1,h7|⟨p,hp,e2,e3⟩⟩|h7
     ·exact .inl ⟨e1,.inl h7⟩
     ·exact .inl ⟨e1,.inr ⟨p,hpend hp e3 (fun e=>em e.2),e2,e3⟩⟩
     ·exact .inr h7
  ·refine⟨el2,keep e h1,h2,fun m r2 hr2=>.inr ⟨fun e=>hd.2.2.1 e.1,?_⟩⟩
   rcases h3 m r2 hr2 with⟨h4,_⟩|⟨h4,x2,kc2,h5,h6,h7⟩
   ·exact(full hr2 h4).elim
   ·refine⟨x2,kc2,h5,h6,?_⟩
    rcases h7 with⟨e1,h7|⟨p,hp,e2,e3⟩⟩|h7
    ·exact .inl ⟨e1,.inl h7⟩
    ·exact .inl ⟨e1,.inr ⟨p,hpend hp e3 (fun e'=>e e'.1),e2,e3⟩⟩
    ·exact .inr h7
 ·obtain⟨h1,h2,h3,h4⟩:=h.jobs p (by simp only[zCg]at hp;simp[hp])
  refine⟨h1,h2,h3,fun j2 n2 k e=>?_⟩;obtain⟨rs2,r2,x2,k1,k2,k3,k4,k5⟩:=h4 j2 n2 k e;exact⟨rs2,r2,x2,k1,k2,k3,fun e=>(h.dom j2 rs2 k1).2.2.1 e.1,k5⟩
end
def zC(b:BS)(sem:Nat->Node):Prop:=∀(r:Nat)(x:Rec),b.recs[r]?=some x->sem r=⟨x.kind,x.name,x.attrs,gp x,x.kids.map sem⟩
theorem NI.frz{m0:List Po}{b:BS}{a own:Nat->Nat}{jo jw:Nat}{S:Nat->Option (List Nat)}{ms:List Po}{sem:Nat->Node}(h:NI m0 b a own jo S jo 0 [] ms jw [])(hs:zC b sem):
 ∀(n F j:Nat)(rs:List Nat),aj (rs.map sem)<=n->2*n+3<=F->S j=some rs->frz ms F (.q 1 j rs.length 0 0)=some (.seq 5 ((rs.map sem).map Node.v)):=by
 intro n
 induction n with
 |zero=>
   intro F j rs hn hF hS
   have:rs=[]:=by
    cases rs with
    |nil=>rfl
    |cons r rs=>simp[aj,ef]at hn
   subst this;obtain⟨el,h1,h2,_⟩:=h.rows j [] hS;have:el=[]:=zCc h2;subst this;obtain⟨F,rfl⟩:∃f,F=f+1:=⟨F-1,by omega⟩
   simp[Abs.frz,h1,m6]
 |succ n ih=>
   intro F j rs hn hF hS;obtain⟨el,h1,h2,h3⟩:=h.rows j rs hS;have hd:=h.dom j rs hS;obtain⟨F,rfl⟩:∃f,F=f+3:=⟨F-3,by omega⟩
   have key:∀(el:List V)(rs:List Nat),el.length=rs.length->aj (rs.map sem)<=n+1->(∀(i r:Nat),rs[i]?=some r->∃(x:Rec)(kc:V),b.recs[r]?=some x/\el[i]?=some (elE x kc)/\((kc=.nil 5/\x.kids=[])\/∃j',kc=.q 1 j' x.kids.length 0 0/\S j'=some x.kids))->m6 (Abs.frz ms (F+2)) el=some ((rs.map sem).map Node.v):=by
    intro el
    induction el with
    |nil=>
      intro rs hl _ _;have:rs=[]:=zCc hl.symm;subst this;rfl
    |cons v el ihe=>
      intro rs hl hc hrs;cases rs with
      |nil=>simp at hl
      |cons r rs=>
        obtain⟨x,kc,k1,k2,k3⟩:=hrs 0 r rfl;simp only[zDd,zCe]at k2;subst k2;have hsx:=hs r x k1;simp only[zAj,aj,ef,hsx]at hc
        have hk:Abs.frz ms (F+1) kc=some (.seq 5 ((x.kids.map sem).map Node.v)):=by
         rcases k3 with⟨rfl,e⟩|⟨j',rfl,hj'⟩
         ·rw[e];rfl
         ·exact ih (F+1) j' x.kids (by omega) (by omega) hj'
        have hrest:=ihe rs (by simpa using hl) (by omega) (fun i r hr=>by simpa using hrs (i+1) r (by simpa using hr))
        simp only[m6,hrest,elE,Abs.frz,aM,hk,zEf,zAj,hsx,Node.v_eq]
   have:=key el rs h2 hn (fun i r hr=>by
    rcases h3 i r hr with⟨h4,_⟩|⟨_,x,kc,h5,h6,h7⟩
    ·exact(hd.2.2.1 h4.1).elim
    ·refine⟨x,kc,h5,h6,?_⟩
     rcases h7 with⟨e1,h7|⟨p,hp,_⟩⟩|h7
     ·exact .inl ⟨e1,h7⟩
     ·simp at hp
     ·exact .inr h7)
   simp[Abs.frz,h1,h2,this]
def se(jo jw j':Nat)(rs:List Nat)(b:BS)(CK:Nat->V)(i:Nat)(s:List Po×List Job):List Po×List Job:=
 match rs[i]? with
 |none=>s
 |some r=>match b.recs[r]?,s.1[j']? with
   |some x,some (.rw _ _ el)=>if x.kids=[]then(s.1.set j' (Po.rw cB 5 (el.set i (elE x (.nil 5)))),s.2)else
     ((s.1.set j' (Po.rw cB 5 (el.set i (elE x (.nil 5))))++[Po.rw dR 2 [Job.v jo ⟨x.kids,CK r,some (j',rs.length,i)⟩]]).set jw (Po.rw dR 2 (s.2.map (Job.v jo)++[Job.v jo ⟨x.kids,CK r,some (j',rs.length,i)⟩])),s.2++[⟨x.kids,CK r,some (j',rs.length,i)⟩])
   |_,_=>s
def wB(jo jw j':Nat)(rs:List Nat)(b:BS)(CK:Nat->V):Nat->Nat->List Po×List Job->List Po×List Job
 |0,_,s=>s
 |k+1,i,s=>wB jo jw j' rs b CK k (i+1) (se jo jw j' rs b CK i s)
def jZ(jo:Nat)(q:Job)(j':Nat)(ms:List Po):List Po:=match q.tg with
 |none=>ms.set jo (.bx 0 [.q 1 j' q.rows.length 0 0])
 |some (j,n,i)=>match ms[j]? with
   |some (.rw _ _ el)=>match el[i]? with
     |some (.strct cs)=>ms.set j (Po.rw cB 5 (el.set i (.strct (cs.set 4 (.q 1 j' q.rows.length 0 0)))))
     |_=>ms
   |_=>ms
def CX(jo:Nat)(J:List Job)(q:Job)(jw:Nat)(ms:List Po):List Po:=ms.set jw .no++[Po.rw dR 2 (J.map (Job.v jo))]++[Po.rw cB 5 (zCj q.rows.length p8)]
def xY(jo:Nat)(b:BS)(CK:Nat->V):Nat->List Po×Nat×List Job->List Po×Nat×List Job
 |0,s=>s
 |f+1,s=>match s.2.2.getLast? with
   |none=>s
   |some q=>xY jo b CK f (jZ jo q (s.1.length+1) (wB jo s.1.length (s.1.length+1) q.rows b CK q.rows.length 0 (CX jo s.2.2.dropLast q s.2.1 s.1,s.2.2.dropLast)).1,s.1.length,
     (wB jo s.1.length (s.1.length+1) q.rows b CK q.rows.length 0 (CX jo s.2.2.dropLast q s.2.1 s.1,s.2.2.dropLast)).2)
def Qs(m0:List Po)(b:BS)(a own:Nat->Nat)(CK:Nat->V):Prop:=∀(r:Nat)(x:Rec),b.recs[r]?=some x->ja m0 a own (3*r+3) x.kids (CK r)/\∃ca ct,m0[a r]?=some (iB x ca ct (CK r))/\AtV x ca/\zG m0 own (3*r+4) x.body ct
theorem ck_ex{m0:List Po}{c0 c1:V}{b:BS}{a own:Nat->Nat}(h:Lay m0 c0 c1 b a own):∃CK,Qs m0 b a own CK:=by
 have key:∀r:Nat,∃ck:V,∀x,b.recs[r]?=some x->ja m0 a own (3*r+3) x.kids ck/\∃ca ct,m0[a r]?=some (iB x ca ct ck)/\AtV x ca/\zG m0 own (3*r+4) x.body ct:=fun r=>by
  cases hx:b.recs[r]? with
  |none=>exact⟨.nil 1,fun x e=>(by cases e)⟩
  |some x=>
    obtain⟨_,ca,ct,ck,k2,k3,k4,k5⟩:=h.recs r x hx;exact⟨ck,fun y e=>by cases e;exact⟨k5,ca,ct,k2,k3,k4⟩⟩
 exact⟨fun r=>(key r).choose,fun r=>(key r).choose_spec⟩
def jm(sem:Nat->Node)(J:List Job):Nat:=(J.map fun q=>1+aj (q.rows.map sem)).sum
theorem pE(sem:Nat->Node)(a b:List Job):jm sem (a++b)=jm sem a+jm sem b:=by simp[jm]
theorem Ds(sem:Nat->Node)(q:Job):jm sem [q]=1+aj (q.rows.map sem):=by simp[jm]
theorem Dt(sem:Nat->Node):∀J:List Job,J.length<=jm sem J
 |[]=>by simp[jm]
 |q::J=>by
   have:=Dt sem J;simp only[jm,zAj,List.sum_cons,zAh]at this⊢;omega
section
variable{m0:List Po}{b:BS}{a own:Nat->Nat}{N M jo:Nat}{S:Nat->Option (List Nat)}{jw:Nat}{CK:Nat->V}{sem:Nat->Node}
theorem Fb(hw:WF N M b)(hck:Qs m0 b a own CK)(hs:zC b sem){q:Job}{j' i:Nat}{rs:List Nat}{s:List Po×List Job}(h:NI m0 b a own jo S j' i [q] s.1 jw s.2)(hS:S j'=some rs)(hi:i<rs.length)(hrs:∀r∈rs,r<b.recs.length):
 NI m0 b a own jo S j' (i+1) [q] (se jo jw j' rs b CK i s).1 jw (se jo jw j' rs b CK i s).2/\jm sem (se jo jw j' rs b CK i s).2+aj ((rs.drop (i+1)).map sem)<=jm sem s.2+aj ((rs.drop i).map sem):=by
 obtain⟨r,hr⟩:=bH (l:=rs) (k:=i) hi;obtain⟨x,hx⟩:=bH (l:=b.recs) (k:=r) (hrs r (zBf hr));obtain⟨el,hel,_⟩:=h.rows j' rs hS
 have hd:rs.drop i=r::rs.drop (i+1):=by
  obtain⟨hlt,e⟩:=zAb.1 hr;rw[zBj hlt,e]
 have hsx:=hs r x hx
 have hc:aj ((rs.drop i).map sem)=1+aj (x.kids.map sem)+aj ((rs.drop (i+1)).map sem):=by
  rw[hd,zAj];simp only[aj,ef,hsx]
 unfold se;simp only[hr,hx,hel];by_cases hk:x.kids=[]
 ·rw[if_pos hk]
  exact⟨h.step hS hr hx hel hk,by simp only;omega⟩
 ·rw[if_neg hk]
  refine⟨h.step2 hw hS hr hx hel (hck r x hx).1,?_⟩;simp only[pE,Ds];omega
theorem Dw(hw:WF N M b)(hck:Qs m0 b a own CK)(hs:zC b sem){q:Job}{j':Nat}{rs:List Nat}(hS:S j'=some rs)(hrs:∀r∈rs,r<b.recs.length):∀(k i:Nat)(s:List Po×List Job),i+k=rs.length->NI m0 b a own jo S j' i [q] s.1 jw s.2->
 NI m0 b a own jo S j' rs.length [q] (wB jo jw j' rs b CK k i s).1 jw (wB jo jw j' rs b CK k i s).2/\jm sem (wB jo jw j' rs b CK k i s).2<=jm sem s.2+aj ((rs.drop i).map sem)
 |0,i,s,hi,h=>by
   have:i=rs.length:=by omega
   subst this;exact⟨h,by simp only[wB];omega⟩
 |k+1,i,s,hi,h=>by
   obtain⟨h1,h2⟩:=Fb hw hck hs h hS (by omega) hrs
   obtain⟨h3,h4⟩:=Dw hw hck hs hS hrs k (i+1) _ (by omega) h1
   simp only[wB];exact⟨h3,by omega⟩
theorem Bs{q:Job}{j':Nat}{ms:List Po}{J:List Job}(h:NI m0 b a own jo S j' q.rows.length [q] ms jw J)(hS:S j'=some q.rows):NI m0 b a own jo S jo 0 [] (jZ jo q j' ms) jw J:=by
 unfold jZ;cases ht:q.tg with
 |none=>exact h.store0 hS ht
 |some p=>
   obtain⟨j,n,i⟩:=p;obtain⟨el,x,kc,h1,h2,h3,h4⟩:=h.store1 hS ht;simp only[h1,h3,elE];exact h4
theorem Kf(hw:WF N M b)(hck:Qs m0 b a own CK)(hs:zC b sem):∀(f:Nat)(S:Nat->Option (List Nat))(s:List Po×Nat×List Job),jm sem s.2.2<=f->NI m0 b a own jo S jo 0 [] s.1 s.2.1 s.2.2->
 ∃S',NI m0 b a own jo S' jo 0 [] (xY jo b CK f s).1 (xY jo b CK f s).2.1 (xY jo b CK f s).2.2/\(xY jo b CK f s).2.2=[]
 |0,S,s,hf,h=>⟨S,h,zCc (by have:=Dt sem s.2.2;simp only[xY];omega)⟩
 |f+1,S,s,hf,h=>by
   obtain⟨ms,jw,J⟩:=s;simp only at hf h;simp only[xY];cases hl:J.getLast? with
   |none=>exact⟨S,h,zEa.1 hl⟩
   |some q=>
     obtain⟨J0,rfl⟩:=zEb.1 hl;rw[zFb];have h1:=h.pop;have hrs:∀r∈q.rows,r<b.recs.length:=(h.jobs q (by simp)).2.1
     obtain⟨h2,h3⟩:=Dw (CK:=CK) (sem:=sem) hw hck hs (dX S (ms.length+1) q.rows) hrs q.rows.length 0 (CX jo J0 q jw ms,J0) (by omega) h1
     have h4:=Bs h2 (dX S (ms.length+1) q.rows);refine Kf hw hck hs f _ _ ?_ h4;simp only[pE,Ds,zDi]at hf h3⊢;omega
end
def Bh(b:BS):Prop:=∀(r:Nat)(x:Rec),b.recs[r]?=some x->x.attrs.length<=1000000000
structure RowV (c:V):Prop where
 u1:∀l r,ce (0::l) (aF c++r)=ce (0::l) r
 u2:∀l,ce (0::l) (aF c)=0::l
 rn:∀m,ren (0::m) c=c
theorem RowV.nil(k:Nat):RowV (.nil k):=⟨fun l r=>by simp,fun l=>by simp,fun m=>by simp⟩
theorem RowV.q(k j n i o:Nat):RowV (.q k j n i o):=⟨fun l r=>by simp,fun l=>by simp,fun m=>by simp⟩
theorem RowV.tv(jo:Nat)(q:Job):RowV (q.tv jo):=by
 unfold Job.tv;split
 ·exact RowV.q ..
 ·exact RowV.q ..
def nh:AC:=
 Q [.block 0 (.loop [0,3,4] (Q [Q [.reg [m 15 4,lq 16 15,bi 17 .gtr 16 0] [0,3,4,17],
  C 17 (.skip) (.exit 0)],
    .block 1 (Q [.reg [m 18 4,m 19 4,lq 20 19,bi 21 .sub 20 1,ia 22 18 21 2,la 23 22 2,o1 5 (.alc [.nil 1,.nilptr]),st 2 5 23] [0,3,4,5],
     .reg [m 24 4,m 25 4,lq 26 25,bi 27 .sub 26 1,o1 28 (.trc (.t 24) (.t 27) 2),m 4 28] [0,3,4,5],
     .reg [fa 29 5 0,l1 30 29,lq 31 30,o1 32 (.mkq 48 5 88 (.strct [.int .i64 0,.str [],.seq 2 [],.str [],.seq 5 []]) (.t 31)),m 6 32] [0,3,4,5,6],
     Q [.reg [fa 33 5 0,l1 34 33,lq 35 34,mi 36 0] [0,3,4,5,6,34,35,36],
      .block 2 (.loop [0,3,4,5,6,34,35,36] (Q [.reg [bt 37 .lss 36 35] [0,3,4,5,6,34,35,36,37],
       C 37 (.skip) (.exit 2),
       .block 3 (Q [.reg [m 38 36,ia 39 34 36 1,l1 40 39,m 7 38,m 8 40] [0,3,4,5,6,7,8,34,35,36],
        .reg [m 41 6,m 42 7,m 43 8,o1 44 (.nlc (.t 43)),fa 45 44 0,la 46 45 5,ia 47 41 42 5,st 5 47 46] [0,3,4,5,6,7,8,34,35,36],
        .reg [m 48 6,m 49 7,m 50 8,o1 51 (.nlc (.t 50)),fa 52 51 0,fa 53 52 2,l1 54 53,o1 55 (.apz (.t 54) 59 2 32),ia 56 48 49 5,fa 57 56 2,st 1 57 55] [0,3,4,5,6,7,8,34,35,36],
        Q [.reg [m 58 8,o1 59 (.nlc (.t 58)),fa 60 59 0,fa 61 60 0,l1 62 61,bi 63 .eql 62 2] [0,3,4,5,6,7,8,34,35,36,63],
         C 63 (.reg [m 64 6,m 65 7,m 66 8,o1 67 (.nlc (.t 66)),fa 68 67 5,l1 69 68,o1 70 (.b2s (.t 69)),ia 71 64 65 5,fa 72 71 3,st 1 72 70] [0,3,4,5,6,7,8,34,35,36]) (.skip)],
        .reg [m 73 8,o1 74 (.nlc (.t 73)),fa 75 74 6,l1 76 75,lq 77 76,bi 78 .gtr 77 0] [0,3,4,5,6,7,8,34,35,36,78],
        C 78 (.regD [m 79 4,m 80 8,o1 81 (.nlc (.t 80)),fa 82 81 6,l1 83 82,m 84 6,m 85 7,ia 86 84 85 5,fa 87 86 4,o1 88 (.bld [.nil 1,.nilptr] [(0,1,(.t 83)),(1,1,(.t 87))]),o1 89 (.ltr 272 2 [.t 88]),o1 90 (.app (.t 79) (.t 89) 272 2 32),m 4 90] [0,3,4,5,6,34,35,36]) (.skip)]),
       .reg [bi 91 .add 36 1,m 36 91] [0,3,4,5,6,34,35,36]]))],
     .reg [fa 92 5 1,l1 93 92,m 94 6,o1 95 (.nlc (.t 93)),st 1 95 94] [0,3,4]])])),
 .reg [l1 96 3,m 2 96] [0,2],
 .ret]
theorem JA:dP=Q [.reg [mv 2 (.nil 5)] [0],
 .reg [o1 3 (.alq [.nil 5])] [0,3],
 .reg [m 9 0,o1 10 (.nlc (.t 9)),fa 11 10 0,l1 12 11,o1 13 (.bld [.nil 1,.nilptr] [(0,1,(.t 12)),(1,1,(.t 3))]),o1 14 (.ltr 272 2 [.t 13]),m 4 14] [0,3,4],nh]:=rfl
theorem IB{m0:List Po}{c0 c1:V}{b:BS}{a own:Nat->Nat}{N M j':Nat}{L:List (Str×Nat)}{sem:Nat->Node}{CK:Nat->V}{R:List Po×Nat×List Job}(h:Lay m0 c0 c1 b a own)(hw:WF N M b)(hs:zC b sem)(hc:aj (b.out.map sem)<=100000000)(hN:N<=1000000000)(hA:Bh b)(hck:Qs m0 b a own CK)
 (h0:NI m0 b a own m0.length (fun _=>none) m0.length 0 [] (m0++[.bx 0 [.nil 5]]++[Po.rw dR 2 [Job.v m0.length ⟨b.out,c0,none⟩]]) (m0.length+1) [⟨b.out,c0,none⟩])
 (hR:xY m0.length b CK (1+aj (b.out.map sem)) (m0++[.bx 0 [.nil 5]]++[Po.rw dR 2 [Job.v m0.length ⟨b.out,c0,none⟩]],m0.length+1,[⟨b.out,c0,none⟩])=R) (hv:R.1[m0.length]?=some (.bx 0 [.q 1 j' b.out.length 0 0])):
 W (Cn Tryz.prog) nh (ET [.t 2] [0] [.ptr 1 0] (.q 1 j' b.out.length 0 0) (hp R.1 c0 c1 L)) ⟨[(0,.ptr 1 0),(3,.q 0 m0.length 0 0 0),(4,.q 1 (m0.length+1) 1 0 0)],[some (.pool (m0++[.bx 0 [.nil 5],.rw 272 2 [.strct [c0,.q 0 m0.length 0 0 0]]])),some (.box [c0,c1,.ref 2 0]),some (.mp rk (L.map gE))]⟩:=by
 have v0:RowV c0:=by
  rcases d9 h with e|⟨k,e⟩<;>rw[e]
  ·exact RowV.nil 1
  ·exact RowV.q ..
 have v1:RowV c1:=by
  rcases gB h with⟨_,e⟩|⟨k,e⟩<;>rw[e]
  ·exact RowV.nil 1
  ·exact RowV.q ..
 obtain⟨v01,v02,v03⟩:=v0;obtain⟨v11,v12,v13⟩:=v1;have e0:m0++[.bx 0 [.nil 5]]++[Po.rw dR 2 [Job.v m0.length ⟨b.out,c0,none⟩]]=m0++[.bx 0 [.nil 5],.rw 272 2 [.strct [c0,.q 0 m0.length 0 0 0]]]:=by simp[Job.v,Job.tv]
 unfold nh;simp(disch:=omega) [-zAa]
 refine ay (fun(q:List Po×Nat×List Job)=>⟨[(0,.ptr 1 0),(3,.q 0 m0.length 0 0 0),(4,.q 1 q.2.1 q.2.2.length 0 0)],[some (.pool q.1),some (.box [c0,c1,.ref 2 0]),some (.mp rk (L.map gE))]⟩)
  (fun q=>(∃S,NI m0 b a own m0.length S m0.length 0 [] q.1 q.2.1 q.2.2)/\jm sem q.2.2<=100000001/\∃f,jm sem q.2.2<=f/\xY m0.length b CK f q=R) (fun q=>jm sem q.2.2) [] _ (m0++[.bx 0 [.nil 5]]++[Po.rw dR 2 [Job.v m0.length ⟨b.out,c0,none⟩]],m0.length+1,[⟨b.out,c0,none⟩]) rfl (by rw[e0];simp[v01,v02,v03,v11,v12,v13]) ⟨⟨_,h0⟩,by simp[jm];omega,_,by simp[jm],hR⟩ ?_
 rintro⟨ms,jw,J⟩ ⟨⟨S,hn⟩,hjm,f,hf,hr⟩ N' hN';simp only at hn hjm hf hr;have hwt:=hn.wait;rcases List.eq_nil_or_concat J with rfl|⟨J0,q,rfl⟩
 ·have hr':(ms,jw,([]:List Job))=R:=by
   rw[<-hr];cases f<;>rfl
  subst hr';simp only[zEe]at hwt;simp(disch:=omega) [-zAa,hp,hwt,hv,v01,v02,v03,v11,v12,v13]
 ·rw[List.concat_eq_append]at *
  cases f with
  |zero=>simp[pE,Ds]at hf
  |succ f=>
  have hlast:(J0++[q]).getLast?=some q:=by simp
  simp only[xY,hlast,zFb]at hr;have hpop:=hn.pop;have hpop0:NI m0 b a own m0.length (EY S (ms.length+1) q.rows) (ms.length+1) 0 [q] (CX m0.length J0 q jw ms) ms.length J0:=hpop;obtain⟨⟨cq,hq1⟩,hq2,hq3,hq4⟩:=hn.jobs q (by simp)
  have hJm:(J0.map (Job.v m0.length)).length=J0.length:=by simp
  have hJl:=Dt sem (J0++[q]);simp only[zBc,zAh,zBb]at hJl
  have hwt':ms[jw]?=some (.rw dR 2 (J0.map (Job.v m0.length)++[.strct [q.fv,q.tv m0.length]])):=by
   rw[hwt];simp[Job.v]
  have hql:(J0.map (Job.v m0.length)++[V.strct [q.fv,q.tv m0.length]])[J0.length]?=some (.strct [q.fv,q.tv m0.length]):=by
   rw[<-hJm];exact zBd ..
  have hqt:(J0.map (Job.v m0.length)++[V.strct [q.fv,q.tv m0.length]]).take J0.length=J0.map (Job.v m0.length):=by
   rw[<-hJm,zGb]
  have nis:=Dw (CK:=CK) (sem:=sem) hw hck hs (dX S (ms.length+1) q.rows) hq2 q.rows.length 0 (CX m0.length J0 q jw ms,J0) (by omega) hpop
  simp only[zDi]at nis;generalize hR1:wB m0.length ms.length (ms.length+1) q.rows b CK q.rows.length 0 (CX m0.length J0 q jw ms,J0)=R1 at *;obtain⟨nis1,nis2⟩:=nis;have hpp:CX m0.length J0 q jw ms=ms.set jw .no++[.rw dR 2 (J0.map (Job.v m0.length)),.rw cB 5 (zCj q.rows.length p8)]:=by simp[CX]
  obtain⟨t1,t2,t3⟩:=RowV.tv m0.length q;generalize hT:q.tv m0.length=T at *;generalize hP:J0.map (Job.v m0.length)=P at *;have nT:nt T=true:=by rw[<-hT];unfold Job.tv;split<;>rfl
  have nst:=Bs nis1 (dX S (ms.length+1) q.rows);have hmz:=pE sem J0 [q];rw[Ds]at hmz
  have hrl:q.rows.length<=aj (q.rows.map sem):=by
   have:=c6 (q.rows.map sem);simpa using this
  -- behind the inner loop
  have hfin:∀(ms1:List Po)(J1:List Job),R1=(ms1,J1)->(q.tg=none/\T=.q 0 m0.length 0 0 0/\(∃v,ms1[m0.length]?=some (.bx 0 [v]))/\jZ m0.length q (ms.length+1) R1.1=ms1.set m0.length (.bx 0 [.q 1 (ms.length+1) q.rows.length 0 0]))\/
   ∃j i el k nm at' tx kc,T=.q 2 j el.length i 4/\ms1[j]?=some (.rw cB 5 el)/\i<el.length/\el[i]?=some (.strct [k,nm,at',tx,kc])/\jZ m0.length q (ms.length+1) R1.1=ms1.set j (.rw cB 5 (el.set i (.strct [k,nm,at',tx,.q 1 (ms.length+1) q.rows.length 0 0]))):=by
   intro ms1 J1 hR1';rw[hR1']at nis1⊢;cases ht:q.tg with
   |none=>
     refine .inl ⟨rfl,by rw[<-hT];simp[Job.tv,ht],?_,by simp[jZ,ht]⟩
     obtain⟨v,hv,_⟩:=nis1.var;exact⟨v,hv⟩
   |some p=>
     obtain⟨j,n,i⟩:=p;obtain⟨el,x,kc,g1,g2,g3,g4⟩:=nis1.store1 (dX S (ms.length+1) q.rows) ht;have hlt:=(zAb.1 g3).1;refine .inr ⟨j,i,el,_,_,_,_,kc,by rw[<-hT,<-g2];simp[Job.tv,ht],g1,hlt,g3,?_⟩
     simp only[jZ,ht,g1,g3,elE];rfl
  rcases hq1 with⟨hq1,hf1⟩|⟨kf,hf1,_,hkm⟩
  ·rw[hf1]at hwt' hql hqt
   have hR1':R1=(ms.set jw .no++[Po.rw dR 2 P,Po.rw cB 5 []],J0):=by
    rw[<-hR1,hpp,hq1];simp[wB,hP]
   rw[hq1]at hfin;simp only[zBb]at hfin;simp(disch:=omega) [-zAa,hp,hwt',hql,hJm,hqt]
   refine ay (fun(k:Nat)=>⟨[(0,.ptr 1 0),(3,.q 0 m0.length 0 0 0),(4,.q 1 ms.length J0.length 0 0),(5,.ptr 2 0),(6,.q 1 (ms.length+1) 0 0 0),(34,.nil 1),(35,.int .i64 0),(36,.int .i64 0)],[some (.pool (ms.set jw .no++[Po.rw dR 2 P,Po.rw cB 5 []])),some (.box [c0,c1,.ref 3 0]),some (.box [.nil 1,T]),some (.mp rk (L.map gE))]⟩)
    (fun k=>True) (fun k=>0) [] _ 0 rfl (by simp[v01,v02,v03,v11,v12,v13,t1,t2,t3]) trivial ?_
   rintro k hk N2 hN2;rcases hfin _ _ hR1' with⟨e1,rfl,⟨v,hv1⟩,e2⟩|⟨j,i,el,k,nm,at',tx,kc,rfl,hv1,hi,hv2,e2⟩
   ·simp(disch:=omega) [-zAa,hp,hv1]
    exact hN'.out _<|Nx.mk (jZ m0.length q (ms.length+1) R1.1,ms.length,R1.2) (by rw[e2,hR1'];simp[v01,v02,v03,v11,v12,v13,t1,t2,t3]) ⟨⟨_,nst⟩,by simp only;omega,f,by simp only;omega,hr⟩ (by simp only;omega)
   ·simp(disch:=omega) [-zAa,hp,hv1,hi,hv2]
    exact hN'.out _<|Nx.mk (jZ m0.length q (ms.length+1) R1.1,ms.length,R1.2) (by rw[e2,hR1'];simp[v01,v02,v03,v11,v12,v13,t1,t2,t3]) ⟨⟨_,nst⟩,by simp only;omega,f,by simp only;omega,hr⟩ (by simp only;omega)
  ·rw[hf1]at hwt' hql hqt
   have hkm2:=hn.old _ _ hkm;have hkl:=(zAb.1 hkm2).1;have hkl0:=(zAb.1 hkm).1;have hjw0:=hn.jw0
   have hkg:∀l,(ms.set jw Po.no++l)[kf]?=some (.rw tyB 1 (q.rows.map (at0 a))):=fun l=>by
    rw[zAd (by simpa using hkl),zAi (by omega)]
    exact hkm2
   have hal:(q.rows.map (at0 a)).length=q.rows.length:=by simp
   simp(disch:=omega) [-zAa,hp,hwt',hql,hJm,hqt,hkg,hal]
   refine ay (fun(z:Nat×List Po×List Job)=>⟨[(0,.ptr 1 0),(3,.q 0 m0.length 0 0 0),(4,.q 1 ms.length z.2.2.length 0 0),(5,.ptr 2 0),(6,.q 1 (ms.length+1) q.rows.length 0 0),(34,.q 1 kf q.rows.length 0 0),(35,.int .i64 q.rows.length),(36,.int .i64 z.1)],[some (.pool z.2.1),some (.box [c0,c1,.ref 3 0]),some (.box [.q 1 kf q.rows.length 0 0,T]),some (.mp rk (L.map gE))]⟩)
    (fun z=>z.1<=q.rows.length/\NI m0 b a own m0.length (EY S (ms.length+1) q.rows) (ms.length+1) z.1 [q] z.2.1 ms.length z.2.2/\wB m0.length ms.length (ms.length+1) q.rows b CK (q.rows.length-z.1) z.1 z.2=R1/\jm sem z.2.2+aj ((q.rows.drop z.1).map sem)<=100000001) (fun z=>q.rows.length-z.1) [] _ (0,CX m0.length J0 q jw ms,J0) rfl (by rw[hpp];simp[v01,v02,v03,v11,v12,v13,t1,t2,t3,p8]) ⟨zDj _,hpop0,hR1,by simp only[zDi];omega⟩ ?_
   rintro⟨i,ms1,J1⟩ ⟨hi,hni,hir,hij⟩ N2 hN2;simp only at hi hni hir hij;by_cases hin:i=q.rows.length
   ·subst hin
    rw[zCd]at hir;have hR1':R1=(ms1,J1):=hir.symm;rcases hfin _ _ hR1' with⟨e1,rfl,⟨v,hv1⟩,e2⟩|⟨j,i,el,k,nm,at',tx,kc,rfl,hv1,hi,hv2,e2⟩
    ·simp(disch:=omega) [-zAa,hp,hv1]
     exact hN'.out _<|Nx.mk (jZ m0.length q (ms.length+1) R1.1,ms.length,R1.2) (by rw[e2,hR1'];simp[v01,v02,v03,v11,v12,v13,t1,t2,t3]) ⟨⟨_,nst⟩,by simp only;omega,f,by simp only;omega,hr⟩ (by simp only;omega)
    ·simp(disch:=omega) [-zAa,hp,hv1,hi,hv2]
     exact hN'.out _<|Nx.mk (jZ m0.length q (ms.length+1) R1.1,ms.length,R1.2) (by rw[e2,hR1'];simp[v01,v02,v03,v11,v12,v13,t1,t2,t3]) ⟨⟨_,nst⟩,by simp only;omega,f,by simp only;omega,hr⟩ (by simp only;omega)
   ·have hlt:i<q.rows.length:=by omega
    obtain⟨r,hrr⟩:=bH (l:=q.rows) (k:=i) hlt;obtain⟨x,hx⟩:=bH (l:=b.recs) (k:=r) (hq2 r (zBf hrr));obtain⟨el,hel,hll,hz⟩:=hni.rows _ _ (dX S (ms.length+1) q.rows)
    have hz:el[i]?=some p8:=by
     rcases hz i r hrr with⟨_,e⟩|⟨e,_⟩
     ·exact e
     ·exact(e ⟨rfl,zBh _⟩).elim
    obtain⟨k5,ca,ct,k2,k3,k4⟩:=hck r x hx;have hss:=Fb (CK:=CK) (sem:=sem) hw hck hs (s:=(ms1,J1)) hni (dX S (ms.length+1) q.rows) hlt hq2;have hJ1:=Dt sem J1
    have hir':wB m0.length ms.length (ms.length+1) q.rows b CK (q.rows.length-(i+1)) (i+1) (se m0.length ms.length (ms.length+1) q.rows b CK i (ms1,J1))=R1:=by
     rw[<-hir,show q.rows.length-i=(q.rows.length-(i+1))+1 by omega]
     rfl
    have hold:∀{j:Nat}{p:Po},m0[j]?=some p->∀p':Po,(ms1.set (ms.length+1) p')[j]?=some p:=fun{j p} hj p'=>by
     have h1:=(zAb.1 hj).1;have h2:=(hni.dom _ _ (dX S (ms.length+1) q.rows)).1;rw[zAi (by omega)]
     exact hni.old _ _ hj
    have hd2:=(hni.dom _ _ (dX S (ms.length+1) q.rows)).2.1;have hil:i<el.length:=by omega
    have hri:(q.rows.map (at0 a))[i]?=some (.q 0 (a r) 0 0 0):=by simp[hrr,at0]
    have hkg1:=hni.old _ _ hkm;have hbx:=hni.old _ _ k2;have hbxs:=hold k2;simp only[iB]at hbx hbxs;have hsel:∀p:Po,(ms1.set (ms.length+1) p)[ms.length+1]?=some p:=fun p=>zBa hd2;have hset:∀e:V,(el.set i e)[i]?=some e:=fun e=>zBa hil
    have hwt1:∀(p:Po)(l:List Po),(ms1.set (ms.length+1) p++l)[ms.length]?=some (.rw dR 2 (J1.map (Job.v m0.length))):=fun p l=>by
     have h1:=(zAb.1 hni.wait).1;rw[zAd (by simpa using h1),zAi (by omega)]
     exact hni.wait
    have hap:∀(p:Po)(l:List Po),(ms1.set (ms.length+1) p++l)[ms1.length]?=l[0]?:=fun p l=>by
     have:=dd (ms1.set (ms.length+1) p) l;rwa[zDb]at this
    have hJm1:(J1.map (Job.v m0.length)).length=J1.length:=by simp
    have hAx:=hA r x hx;have hkb:=(hw.recs r x hx).2.1;simp only[p8]at hz
    have hstep:se m0.length ms.length (ms.length+1) q.rows b CK i (ms1,J1)=if x.kids=[]then(ms1.set (ms.length+1) (Po.rw cB 5 (el.set i (elE x (.nil 5)))),J1)else
     ((ms1.set (ms.length+1) (Po.rw cB 5 (el.set i (elE x (.nil 5))))++[Po.rw dR 2 [Job.v m0.length ⟨x.kids,CK r,some (ms.length+1,q.rows.length,i)⟩]]).set ms.length (Po.rw dR 2 (J1.map (Job.v m0.length)++[Job.v m0.length ⟨x.kids,CK r,some (ms.length+1,q.rows.length,i)⟩])),J1++[⟨x.kids,CK r,some (ms.length+1,q.rows.length,i)⟩]):=by
     simp only[se,hrr,hx,hel]
    generalize se m0.length ms.length (ms.length+1) q.rows b CK i (ms1,J1)=st2 at *
    have done:∀τ:St,τ.nrm [0,3,4,5,6,34,35,36]=⟨[(0,.ptr 1 0),(3,.q 0 m0.length 0 0 0),(4,.q 1 ms.length st2.2.length 0 0),(5,.ptr 2 0),(6,.q 1 (ms.length+1) q.rows.length 0 0),(34,.q 1 kf q.rows.length 0 0),(35,.int .i64 q.rows.length),(36,.int .i64 ((i+1:Nat):Int))],[some (.pool st2.1),some (.box [c0,c1,.ref 3 0]),some (.box [.q 1 kf q.rows.length 0 0,T]),some (.mp rk (L.map gE))]⟩->N2 τ:=fun τ hτ=>
     hN2.out _<|Nx.mk (i+1,st2) hτ ⟨by simp only;omega,hss.1,hir',by have:=hss.2;simp only at this⊢;omega⟩ (by simp only;omega)
    have hcat:ca=.seq 2 (x.attrs.map Attr.v)\/(ca=.nil 2/\x.attrs=[]):=k3;have hala:(x.attrs.map Attr.v).length=x.attrs.length:=by simp
    rcases hcat with rfl|⟨rfl,hat⟩
    ·by_cases hkd:x.kind=2
     ·rw[hkd]at hbx hbxs
      rcases k4 with⟨hb0,rfl⟩|⟨jt,rfl,_,hbt⟩
      ·rcases k5 with⟨hk0,hck0⟩|⟨jk,hck0,_,hkk⟩
       ·rw[if_pos hk0]at hstep
        rw[hck0]at hbx hbxs;simp(disch:=omega) [-zAa,hp,hkg1,hri,hbx,hel,hll,hal,hz,hbxs,hsel,hset,hala,hkd,aK];exact done _ (by rw[hstep];simp[elE,gp,aM,hkd,hb0,v01,v02,v03,v11,v12,v13,t1,t2,t3])
       ·have hkks:=hold hkk
        have hkll:(x.kids.map (at0 a)).length=x.kids.length:=by simp
        rw[hck0]at hbx hbxs hstep;by_cases hk0:x.kids=[]
        ·rw[if_pos hk0]at hstep
         rw[hk0]at hbx hbxs hkks;simp(disch:=omega) [-zAa,hp,hkg1,hri,hbx,hel,hll,hal,hz,hbxs,hsel,hset,hala,hkd,aK,hkks];exact done _ (by rw[hstep];simp[elE,gp,aM,hkd,hb0,v01,v02,v03,v11,v12,v13,t1,t2,t3])
        ·rw[if_neg hk0]at hstep
         have hkpos:0<x.kids.length:=zBg.2 hk0;simp(disch:=omega) [-zAa,hp,hkg1,hri,hbx,hel,hll,hal,hz,hbxs,hsel,hset,hala,hkd,aK,hkks,hkll,hkpos,hwt1,hap,hJm1];exact done _ (by rw[hstep];simp[elE,gp,aM,hkd,hb0,Job.v,Job.tv,v01,v02,v03,v11,v12,v13,t1,t2,t3])
      ·have hbts:=hold hbt
       rcases k5 with⟨hk0,hck0⟩|⟨jk,hck0,_,hkk⟩
       ·rw[if_pos hk0]at hstep
        rw[hck0]at hbx hbxs;simp(disch:=omega) [-zAa,hp,hkg1,hri,hbx,hel,hll,hal,hz,hbxs,hsel,hset,hala,hkd,hbts];exact done _ (by rw[hstep];simp[elE,gp,aM,hkd,v01,v02,v03,v11,v12,v13,t1,t2,t3])
       ·have hkks:=hold hkk
        have hkll:(x.kids.map (at0 a)).length=x.kids.length:=by simp
        rw[hck0]at hbx hbxs hstep;by_cases hk0:x.kids=[]
        ·rw[if_pos hk0]at hstep
         rw[hk0]at hbx hbxs hkks;simp(disch:=omega) [-zAa,hp,hkg1,hri,hbx,hel,hll,hal,hz,hbxs,hsel,hset,hala,hkd,hbts,hkks];exact done _ (by rw[hstep];simp[elE,gp,aM,hkd,v01,v02,v03,v11,v12,v13,t1,t2,t3])
        ·rw[if_neg hk0]at hstep
         have hkpos:0<x.kids.length:=zBg.2 hk0;simp(disch:=omega) [-zAa,hp,hkg1,hri,hbx,hel,hll,hal,hz,hbxs,hsel,hset,hala,hkd,hbts,hkks,hkll,hkpos,hwt1,hap,hJm1];exact done _ (by rw[hstep];simp[elE,gp,aM,hkd,Job.v,Job.tv,v01,v02,v03,v11,v12,v13,t1,t2,t3])
     ·have hkd':¬(x.kind:Int)=2:=by omega
      rcases k5 with⟨hk0,hck0⟩|⟨jk,hck0,_,hkk⟩
      ·rw[if_pos hk0]at hstep
       rw[hck0]at hbx hbxs;simp(disch:=omega) [-zAa,hp,hkg1,hri,hbx,hel,hll,hal,hz,hbxs,hsel,hset,hala,hkd'];exact done _ (by rw[hstep];simp[elE,gp,aM,hkd,hkd',v01,v02,v03,v11,v12,v13,t1,t2,t3])
      ·have hkks:=hold hkk
       have hkll:(x.kids.map (at0 a)).length=x.kids.length:=by simp
       rw[hck0]at hbx hbxs hstep;by_cases hk0:x.kids=[]
       ·rw[if_pos hk0]at hstep
        rw[hk0]at hbx hbxs hkks;simp(disch:=omega) [-zAa,hp,hkg1,hri,hbx,hel,hll,hal,hz,hbxs,hsel,hset,hala,hkd',hkks];exact done _ (by rw[hstep];simp[elE,gp,aM,hkd,hkd',v01,v02,v03,v11,v12,v13,t1,t2,t3])
       ·rw[if_neg hk0]at hstep
        have hkpos:0<x.kids.length:=zBg.2 hk0;simp(disch:=omega) [-zAa,hp,hkg1,hri,hbx,hel,hll,hal,hz,hbxs,hsel,hset,hala,hkd',hkks,hkll,hkpos,hwt1,hap,hJm1];exact done _ (by rw[hstep];simp[elE,gp,aM,hkd,hkd',Job.v,Job.tv,v01,v02,v03,v11,v12,v13,t1,t2,t3])
    ·by_cases hkd:x.kind=2
     ·rw[hkd]at hbx hbxs
      rcases k4 with⟨hb0,rfl⟩|⟨jt,rfl,_,hbt⟩
      ·rcases k5 with⟨hk0,hck0⟩|⟨jk,hck0,_,hkk⟩
       ·rw[if_pos hk0]at hstep
        rw[hck0]at hbx hbxs;simp(disch:=omega) [-zAa,hp,hkg1,hri,hbx,hel,hll,hal,hz,hbxs,hsel,hset,hala,hkd,aK];exact done _ (by rw[hstep];simp[elE,gp,aM,hat,hkd,hb0,v01,v02,v03,v11,v12,v13,t1,t2,t3])
       ·have hkks:=hold hkk
        have hkll:(x.kids.map (at0 a)).length=x.kids.length:=by simp
        rw[hck0]at hbx hbxs hstep;by_cases hk0:x.kids=[]
        ·rw[if_pos hk0]at hstep
         rw[hk0]at hbx hbxs hkks;simp(disch:=omega) [-zAa,hp,hkg1,hri,hbx,hel,hll,hal,hz,hbxs,hsel,hset,hala,hkd,aK,hkks];exact done _ (by rw[hstep];simp[elE,gp,aM,hat,hkd,hb0,v01,v02,v03,v11,v12,v13,t1,t2,t3])
        ·rw[if_neg hk0]at hstep
         have hkpos:0<x.kids.length:=zBg.2 hk0;simp(disch:=omega) [-zAa,hp,hkg1,hri,hbx,hel,hll,hal,hz,hbxs,hsel,hset,hala,hkd,aK,hkks,hkll,hkpos,hwt1,hap,hJm1];exact done _ (by rw[hstep];simp[elE,gp,aM,hat,hkd,hb0,Job.v,Job.tv,v01,v02,v03,v11,v12,v13,t1,t2,t3])
      ·have hbts:=hold hbt
       rcases k5 with⟨hk0,hck0⟩|⟨jk,hck0,_,hkk⟩
       ·rw[if_pos hk0]at hstep
        rw[hck0]at hbx hbxs;simp(disch:=omega) [-zAa,hp,hkg1,hri,hbx,hel,hll,hal,hz,hbxs,hsel,hset,hala,hkd,hbts];exact done _ (by rw[hstep];simp[elE,gp,aM,hat,hkd,v01,v02,v03,v11,v12,v13,t1,t2,t3])
       ·have hkks:=hold hkk
        have hkll:(x.kids.map (at0 a)).length=x.kids.length:=by simp
        rw[hck0]at hbx hbxs hstep;by_cases hk0:x.kids=[]
        ·rw[if_pos hk0]at hstep
         rw[hk0]at hbx hbxs hkks;simp(disch:=omega) [-zAa,hp,hkg1,hri,hbx,hel,hll,hal,hz,hbxs,hsel,hset,hala,hkd,hbts,hkks];exact done _ (by rw[hstep];simp[elE,gp,aM,hat,hkd,v01,v02,v03,v11,v12,v13,t1,t2,t3])
        ·rw[if_neg hk0]at hstep
         have hkpos:0<x.kids.length:=zBg.2 hk0;simp(disch:=omega) [-zAa,hp,hkg1,hri,hbx,hel,hll,hal,hz,hbxs,hsel,hset,hala,hkd,hbts,hkks,hkll,hkpos,hwt1,hap,hJm1];exact done _ (by rw[hstep];simp[elE,gp,aM,hat,hkd,Job.v,Job.tv,v01,v02,v03,v11,v12,v13,t1,t2,t3])
     ·have hkd':¬(x.kind:Int)=2:=by omega
      rcases k5 with⟨hk0,hck0⟩|⟨jk,hck0,_,hkk⟩
      ·rw[if_pos hk0]at hstep
       rw[hck0]at hbx hbxs;simp(disch:=omega) [-zAa,hp,hkg1,hri,hbx,hel,hll,hal,hz,hbxs,hsel,hset,hala,hkd'];exact done _ (by rw[hstep];simp[elE,gp,aM,hat,hkd,hkd',v01,v02,v03,v11,v12,v13,t1,t2,t3])
      ·have hkks:=hold hkk
       have hkll:(x.kids.map (at0 a)).length=x.kids.length:=by simp
       rw[hck0]at hbx hbxs hstep;by_cases hk0:x.kids=[]
       ·rw[if_pos hk0]at hstep
        rw[hk0]at hbx hbxs hkks;simp(disch:=omega) [-zAa,hp,hkg1,hri,hbx,hel,hll,hal,hz,hbxs,hsel,hset,hala,hkd',hkks];exact done _ (by rw[hstep];simp[elE,gp,aM,hat,hkd,hkd',v01,v02,v03,v11,v12,v13,t1,t2,t3])
       ·rw[if_neg hk0]at hstep
        have hkpos:0<x.kids.length:=zBg.2 hk0;simp(disch:=omega) [-zAa,hp,hkg1,hri,hbx,hel,hll,hal,hz,hbxs,hsel,hset,hala,hkd',hkks,hkll,hkpos,hwt1,hap,hJm1];exact done _ (by rw[hstep];simp[elE,gp,aM,hat,hkd,hkd',Job.v,Job.tv,v01,v02,v03,v11,v12,v13,t1,t2,t3])
theorem A6{m0:List Po}{c0 c1:V}{b:BS}{a own:Nat->Nat}{N M:Nat}{L:List (Str×Nat)}{sem:Nat->Node}(h:Lay m0 c0 c1 b a own)(hw:WF N M b)(hs:zC b sem)(hc:aj (b.out.map sem)<=100000000)(hN:N<=1000000000)(hA:Bh b):
 ∃ms' j',FnH Tryz.prog mP [0] [.ptr 1 0] (hp m0 c0 c1 L) (.q 1 j' b.out.length 0 0) (hp ms' c0 c1 L)/\∃F,frz ms' F (.q 1 j' b.out.length 0 0)=some (.seq 5 ((b.out.map sem).map Node.v)):=by
 obtain⟨CK,hck⟩:=ck_ex h;have h0:=NI.start h hw;generalize hR:xY m0.length b CK (1+aj (b.out.map sem)) (m0++[.bx 0 [.nil 5]]++[Po.rw dR 2 [Job.v m0.length ⟨b.out,c0,none⟩]],m0.length+1,[⟨b.out,c0,none⟩])=R;obtain⟨S',n1,n2⟩:=Kf (CK:=CK) (sem:=sem) hw hck hs (1+aj (b.out.map sem)) _ (m0++[.bx 0 [.nil 5]]++[Po.rw dR 2 [Job.v m0.length ⟨b.out,c0,none⟩]],m0.length+1,[⟨b.out,c0,none⟩]) (by simp[jm]) h0
 rw[hR]at n1 n2;rw[n2]at n1;obtain⟨v,hv,hvc⟩:=n1.var
 have hvj:∃j',v=.q 1 j' b.out.length 0 0/\S' j'=some b.out:=by
  rcases hvc with⟨_,p,hp,_⟩|h
  ·simp at hp
  ·exact h
 obtain⟨j',rfl,hj'⟩:=hvj;refine⟨R.1,j',?_,_,n1.frz hs _ _ j' b.out (zBh _) (zBh _) hj'⟩;have main:=IB (L:=L) h hw hs hc hN hA hck h0 hR hv;have hc0:=d9 h;have hc1:=gB h;refine FnH.of_image mixed mZ mW rfl fun ho hh=>?_;clear ho hh;rw[show dP=_ from JA]
 rcases hc0 with rfl|⟨k0,rfl⟩<;>rcases hc1 with⟨e1,rfl⟩|⟨k1,rfl⟩
 all_goals
  simp(disch:=omega) [-zAa,hp,dd];exact main
end Go.Abs.F
end
