/- Plain: a walk through nodes, each ahead of its kids. No condition. -/
import Derived.Test.YtnnbodoijkbceaaGreatDoorIF1
set_option linter.all false
set_option maxHeartbeats 0
set_option maxRecDepth 100000
open List renaming all_cons→zAa,drop_drop→zAb
section
namespace Go.Abs.F
open Go.Proofs
mutual
def itK:Node->List (List Node×Nat)
 |⟨_,_,_,_,ks⟩=>itL ks ks 0
def itL:List Node->List Node->Nat->List (List Node×Nat)
 |_,[],_=>[]
 |row,n::l,i=>(row,i)::(itK n++itL row l (i+1))
end
theorem Jw(n:Node):itK n=itL n.kids n.kids 0:=by cases n;simp[itK]
def itV(x:List Node×Nat):V:=.tup [.seq 5 (x.1.map Node.v),.int .i64 x.2]
def iv{α:Type}(v:α->V)(t:α->Bool):List α->List (V×Bool)
 |[]=>[]
 |x::l=>if t x then(v x,true)::iv v t l else[(v x,false)]
theorem Ic{α:Type}(v:α->V)(t:α->Bool):∀(l:List α)(i:Nat)(u:V),(iv v t l)[i]?=some (u,false)->i+1=(iv v t l).length
 |[],i,u,h=>by simp[iv]at h
 |x::l,i,u,h=>by
   unfold iv at h⊢;by_cases hx:t x=true
   ·rw[if_pos hx]at h⊢
    cases i with
    |zero=>simp at h
    |succ i=>simpa using Ic v t l i u (by simpa using h)
   ·rw[if_neg hx]at h⊢
    cases i with
    |zero=>simp
    |succ i=>simp at h
theorem Dn{α:Type}(v:α->V)(t:α->Bool):∀(l:List α)(i:Nat)(u:V)(b:Bool),(iv v t l)[i]?=some (u,b)->∃x,l[i]?=some x/\u=v x/\b=t x/\(l.take i).all t=true
 |[],i,u,b,h=>by simp[iv]at h
 |x::l,i,u,b,h=>by
   unfold iv at h;by_cases hx:t x=true
   ·rw[if_pos hx]at h
    cases i with
    |zero=>simp at h;exact⟨x,by simp,h.1.symm,by rw[h.2,hx],by simp⟩
    |succ i=>
      obtain⟨y,h1,h2,h3,h4⟩:=Dn v t l i u b (by simpa using h)
      exact⟨y,by simpa using h1,h2,h3,by simp[hx,h4]⟩
   ·rw[if_neg hx]at h
    cases i with
    |zero=>simp at h;exact⟨x,by simp,h.1.symm,by simp at hx;rw[h.2,hx],by simp⟩
    |succ i=>simp at h
theorem OP{α:Type}(v:α->V)(t:α->Bool):∀(l:List α),(∀p∈iv v t l,p.2=true)↔l.all t=true
 |[]=>by simp[iv]
 |x::l=>by
   unfold iv;by_cases hx:t x=true
   ·rw[if_pos hx,List.forall_mem_cons,OP v t l,zAa,hx]
    simp
   ·rw[if_neg hx,zAa]
    simp[hx]
def m8(x:List Node×Nat):Int:=match x.1[x.2]? with
 |some n=>d6 n (bU x.1 x.2)
 |none=>0
def eR:List (List Node×Nat)->Int
 |[]=>0
 |x::l=>if m8 x=0 then eR l else m8 x
theorem mq:∀(a b:List (List Node×Nat)),eR (a++b)=if eR a=0 then eR b else eR a
 |[],b=>by simp[eR]
 |x::a,b=>by
   by_cases h:m8 x=0
   ·simp[eR,mq a b,h]
   ·simp[eR,mq a b,h]
theorem C3:∀(l:List Node)(row:List Node)(i:Nat),row.drop i=l->eR (itL row l i)=gK (bU row i) l:=by
 refine aw (fun row i _=>by simp[itL,eR,gK]) ?_
 intro n l h1 h2 row i hd
 have hn:row[i]?=some n:=by
  have:=congrArg (fun m=>m[0]?) hd;simpa using this
 have hd2:row.drop (i+1)=l:=by rw[<-zAb,hd];rfl
 have e:bU row (i+1)=decide (n.kind=2):=by simp[bU,hn]
 simp only[itL,eR,gK,mq,Jw,AV,m8,hn];rw[h1 n.kids 0 (by simp),h2 row (i+1) hd2,e]
 have:bU n.kids 0=false:=by simp[bU]
 rw[this]
theorem C4:∀l:List (List Node×Nat),(l.all fun x=>decide (m8 x=0))=decide (eR l=0)
 |[]=>by simp[eR]
 |x::l=>by
   simp only[zAa,eR,C4 l];by_cases h:m8 x=0<;>simp[h]
theorem HX:∀(l:List (List Node×Nat))(i:Nat)(x:List Node×Nat),l[i]?=some x->(l.take i).all (fun x=>decide (m8 x=0))=true->¬m8 x=0->eR l=m8 x
 |[],i,x,h,_,_=>by simp at h
 |y::l,0,x,h,_,hx=>by
   simp at h;subst h;simp[eR,hx]
 |y::l,i+1,x,h,ha,hx=>by
   simp only[List.take_succ_cons,zAa,Bool.and_eq_true,decide_eq_true_eq]at ha;simp only[eR];rw[if_pos ha.1];exact HX l i x (by simpa using h) ha.2 hx
theorem aaj{P:Node->Prop}{m:Nat}:∀(l:List Node)(row:List Node)(i:Nat),row.drop i=l->an P row->ai row<=m->∀x∈itL row l i,∃n,x.1[x.2]?=some n/\P n/\x.1.length<=m:=by
 refine aw (fun row i _ _ _ x hx=>by simp[itL]at hx) ?_
 intro n l h1 h2 row i hd ha hc x hx
 have hn:row[i]?=some n:=by
  have:=congrArg (fun m=>m[0]?) hd;simpa using this
 have hd2:row.drop (i+1)=l:=by rw[<-zAb,hd];rfl
 have hm:=List.mem_of_getElem? hn;have hp:=ep ha hm;have hcm:=wH hm;simp only[itL,Jw,List.mem_cons,List.mem_append]at hx;rcases hx with rfl|hx|hx
 ·exact⟨n,hn,hp.1,by have:=dr row;simp only;omega⟩
 ·exact h1 n.kids 0 rfl hp.2 (by omega) x hx
 ·exact h2 row (i+1) hd2 ha hc x hx
end Go.Abs.F
end
section
namespace Go.Abs.F
open Go.Proofs
end Go.Abs.F
end
