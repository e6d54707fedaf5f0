/- Plain: a walk through nodes, each ahead of its kids. No condition. -/
import Derived.Test.YtnnbodoijkbceaaGreatDoorJF1
set_option linter.all false
set_option maxHeartbeats 0
set_option maxRecDepth 100000
open List renaming all_cons→zAa,drop_drop→zAc
open Bool renaming and_eq_true→zAb
section
namespace Go.Abs.F
open Go.Proofs
mutual
def itK:Node->List (List Node×Nat)
 |⟨_,_,_,_,ks⟩=>itL ks ks 0
def itL:List Node->List Node->Nat->List (List Node×Nat)
 |_,[],_=>[]
 |row,n::l,i=>(row,i)::(itK n++itL row l (i+1))
end
theorem zx(n:Node):itK n=itL n.kids n.kids 0:=by cases n;simp[itK]
def itV(x:List Node×Nat):V:=.tup [.seq 5 (x.1.map Node.v),.int .i64 x.2]
def fC{α:Type}(v:α->V)(t:α->Bool):List α->List (V×Bool)
 |[]=>[]
 |x::l=>if t x then(v x,true)::fC v t l else[(v x,false)]
theorem vW{α:Type}(v:α->V)(t:α->Bool):∀(l:List α)(i:Nat)(u:V),(fC v t l)[i]?=some (u,false)->i+1=(fC v t l).length
 |[],i,u,h=>by simp[fC]at h
 |x::l,i,u,h=>by
   unfold fC at h⊢;by_cases hx:t x=true
   ·rw[if_pos hx]at h⊢
    cases i with
    |zero=>simp at h
    |succ i=>simpa using vW v t l i u (by simpa using h)
   ·rw[if_neg hx]at h⊢
    cases i with
    |zero=>simp
    |succ i=>simp at h
theorem pP{α:Type}(v:α->V)(t:α->Bool):∀(l:List α)(i:Nat)(u:V)(b:Bool),(fC v t l)[i]?=some (u,b)->∃x,l[i]?=some x/\u=v x/\b=t x/\(l.take i).all t=true
 |[],i,u,b,h=>by simp[fC]at h
 |x::l,i,u,b,h=>by
   unfold fC at h;by_cases hx:t x=true
   ·rw[if_pos hx]at h
    cases i with
    |zero=>simp at h;exact⟨x,by simp,h.1.symm,by rw[h.2,hx],by simp⟩
    |succ i=>
      obtain⟨y,h1,h2,h3,h4⟩:=pP v t l i u b (by simpa using h)
      exact⟨y,by simpa using h1,h2,h3,by simp[hx,h4]⟩
   ·rw[if_neg hx]at h
    cases i with
    |zero=>simp at h;exact⟨x,by simp,h.1.symm,by simp at hx;rw[h.2,hx],by simp⟩
    |succ i=>simp at h
theorem AP{α:Type}(v:α->V)(t:α->Bool):∀(l:List α),(∀p∈fC v t l,p.2=true)↔l.all t=true
 |[]=>by simp[fC]
 |x::l=>by
   unfold fC;by_cases hx:t x=true
   ·rw[if_pos hx,List.forall_mem_cons,AP v t l,zAa,hx]
    simp
   ·rw[if_neg hx,zAa]
    simp[hx]
theorem JZ{α:Type}(v:α->V)(t:α->Bool):∀(l:List α),l.all t=true->(fC v t l).length=l.length
 |[],_=>rfl
 |x::l,h=>by
   simp only[zAa,zAb]at h;simp[fC,h.1,JZ v t l h.2]
def lZ(x:List Node×Nat):Int:=match x.1[x.2]? with
 |some n=>qJ n (gr x.1 x.2)
 |none=>0
def eb:List (List Node×Nat)->Int
 |[]=>0
 |x::l=>if lZ x=0 then eb l else lZ x
theorem ln:∀(a b:List (List Node×Nat)),eb (a++b)=if eb a=0 then eb b else eb a
 |[],b=>by simp[eb]
 |x::a,b=>by
   by_cases h:lZ x=0
   ·simp[eb,ln a b,h]
   ·simp[eb,ln a b,h]
theorem Au:∀(l:List Node)(row:List Node)(i:Nat),row.drop i=l->eb (itL row l i)=xH (gr row i) l:=by
 refine ax (fun row i _=>by simp[itL,eb,xH]) ?_
 intro n l h1 h2 row i hd
 have hn:row[i]?=some n:=by
  have:=congrArg (fun m=>m[0]?) hd;simpa using this
 have hd2:row.drop (i+1)=l:=by rw[<-zAc,hd];rfl
 have e:gr row (i+1)=decide (n.kind=2):=by simp[gr,hn]
 simp only[itL,eb,xH,ln,zx,M8,lZ,hn];rw[h1 n.kids 0 (by simp),h2 row (i+1) hd2,e]
 have:gr n.kids 0=false:=by simp[gr]
 rw[this]
theorem Av:∀l:List (List Node×Nat),(l.all fun x=>decide (lZ x=0))=decide (eb l=0)
 |[]=>by simp[eb]
 |x::l=>by
   simp only[zAa,eb,Av l];by_cases h:lZ x=0<;>simp[h]
theorem En:∀(l:List (List Node×Nat))(i:Nat)(x:List Node×Nat),l[i]?=some x->(l.take i).all (fun x=>decide (lZ x=0))=true->¬lZ x=0->eb l=lZ x
 |[],i,x,h,_,_=>by simp at h
 |y::l,0,x,h,_,hx=>by
   simp at h;subst h;simp[eb,hx]
 |y::l,i+1,x,h,ha,hx=>by
   simp only[List.take_succ_cons,zAa,zAb,decide_eq_true_eq]at ha;simp only[eb];rw[if_pos ha.1];exact En l i x (by simpa using h) ha.2 hx
theorem Nl{P:Node->Prop}{m:Nat}:∀(l:List Node)(row:List Node)(i:Nat),row.drop i=l->an P row->aj row<=m->∀x∈itL row l i,∃n,x.1[x.2]?=some n/\P n/\x.1.length<=m:=by
 refine ax (fun row i _ _ _ x hx=>by simp[itL]at hx) ?_
 intro n l h1 h2 row i hd ha hc x hx
 have hn:row[i]?=some n:=by
  have:=congrArg (fun m=>m[0]?) hd;simpa using this
 have hd2:row.drop (i+1)=l:=by rw[<-zAc,hd];rfl
 have hm:=List.mem_of_getElem? hn;have hp:=qH ha hm;have hcm:=uK hm;simp only[itL,zx,List.mem_cons,List.mem_append]at hx;rcases hx with rfl|hx|hx
 ·exact⟨n,hn,hp.1,by have:=dS row;simp only;omega⟩
 ·exact h1 n.kids 0 rfl hp.2 (by omega) x hx
 ·exact h2 row (i+1) hd2 ha hc x hx
end Go.Abs.F
end
section
namespace Go.Abs.F
open Go.Proofs
end Go.Abs.F
end
