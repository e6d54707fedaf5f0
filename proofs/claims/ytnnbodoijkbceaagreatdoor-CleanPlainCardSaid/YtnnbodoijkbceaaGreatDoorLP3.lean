/-
  Plain: a walk through nodes, each ahead of its kids. No program in sight. No condition.
  Plain: nodes with where they stand, each ahead of its kids; the first one that is not allowed. No program in sight. No condition.
-/
import Derived.Test.YtnnbodoijkbceaaGreatDoorLF1
set_option linter.all false
set_option maxHeartbeats 0
set_option maxRecDepth 100000
section
namespace Go.Abs.F
open Go.Proofs
mutual
def itK:Node→List (List Node × Nat)
 | ⟨_,_,_,_,ks⟩=>itL ks ks 0
def itL:List Node→List Node→Nat→List (List Node × Nat)
 | _,[],_=>[]
 | row,n::l,i=>(row,i)::(itK n++itL row l (i + 1))
end
theorem zS (n:Node):itK n=itL n.kids n.kids 0:=by cases n; simp [itK]
def itV (x:List Node × Nat):V:=.tup [.seq 5 (x.1.map Node.v),.int .i64 x.2]
def fy {α:Type} (v:α→V) (t:α→Bool):List α→List (V × Bool)
 | []=>[]
 | x::l=>if t x then (v x,true)::fy v t l else [(v x,false)]
theorem yU {α:Type} (v:α→V) (t:α→Bool):∀ (l:List α) (i:Nat) (u:V),(fy v t l)[i]?=some (u,false)→i + 1=(fy v t l).length
 | [],i,u,h=>by simp [fy] at h
 | x::l,i,u,h=>by
   unfold fy at h ⊢
   by_cases hx:t x=true
   · rw [if_pos hx] at h ⊢
     cases i with
     | zero=>simp at h
     | succ i=>simpa using yU v t l i u (by simpa using h)
   · rw [if_neg hx] at h ⊢
     cases i with
     | zero=>simp
     | succ i=>simp at h
theorem vi {α:Type} (v:α→V) (t:α→Bool):∀ (l:List α) (i:Nat) (u:V) (b:Bool),(fy v t l)[i]?=some (u,b)→∃ x,l[i]?=some x∧u=v x∧b=t x∧(l.take i).all t=true
 | [],i,u,b,h=>by simp [fy] at h
 | x::l,i,u,b,h=>by
   unfold fy at h
   by_cases hx:t x=true
   · rw [if_pos hx] at h
     cases i with
     | zero=>simp at h; exact ⟨x,by simp,h.1.symm,by rw [h.2,hx],by simp⟩
     | succ i=>
       obtain ⟨y,h1,h2,h3,h4⟩:=vi v t l i u b (by simpa using h)
       exact ⟨y,by simpa using h1,h2,h3,by simp [hx,h4]⟩
   · rw [if_neg hx] at h
     cases i with
     | zero=>simp at h; exact ⟨x,by simp,h.1.symm,by simp at hx; rw [h.2,hx],by simp⟩
     | succ i=>simp at h
theorem De {α:Type} (v:α→V) (t:α→Bool):∀ (l:List α),(∀ p∈fy v t l,p.2=true)↔l.all t=true
 | []=>by simp [fy]
 | x::l=>by
   unfold fy
   by_cases hx:t x=true
   · rw [if_pos hx,List.forall_mem_cons,De v t l,List.all_cons,hx]
     simp
   · rw [if_neg hx,List.all_cons]
     simp [hx]
def ju (x:List Node × Nat):Int:=match x.1[x.2]? with
 | some n=>eE n (fg x.1 x.2)
 | none=>0
def dz:List (List Node × Nat)→Int
 | []=>0
 | x::l=>if ju x=0 then dz l else ju x
theorem i5:∀ (a b:List (List Node × Nat)),dz (a++b)=if dz a=0 then dz b else dz a
 | [],b=>by simp [dz]
 | x::a,b=>by
   by_cases h:ju x=0
   · simp [dz,i5 a b,h]
   · simp [dz,i5 a b,h]
theorem u5:∀ (l:List Node) (row:List Node) (i:Nat),row.drop i=l→dz (itL row l i)=i4 (fg row i) l:=by
 refine ay (fun row i _=>by simp [itL,dz,i4]) ?_
 intro n l h1 h2 row i hd
 have hn:row[i]?=some n:=by
  have:=congrArg (fun m=>m[0]?) hd
  simpa using this
 have hd2:row.drop (i + 1)=l:=by rw [←List.drop_drop,hd]; rfl
 have e:fg row (i + 1)=decide (n.kind=2):=by simp [fg,hn]
 simp only [itL,dz,i4,i5,zS,zO,ju,hn]
 rw [h1 n.kids 0 (by simp),h2 row (i + 1) hd2,e]
 have:fg n.kids 0=false:=by simp [fg]
 rw [this]
theorem u6:∀ l:List (List Node × Nat),(l.all fun x=>decide (ju x=0))=decide (dz l=0)
 | []=>by simp [dz]
 | x::l=>by
   simp only [List.all_cons,dz,u6 l]
   by_cases h:ju x=0<;>simp [h]
theorem yM:∀ (l:List (List Node × Nat)) (i:Nat) (x:List Node × Nat),l[i]?=some x→(l.take i).all (fun x=>decide (ju x=0))=true→¬ju x=0→dz l=ju x
 | [],i,x,h,_,_=>by simp at h
 | y::l,0,x,h,_,hx=>by
   simp at h
   subst h
   simp [dz,hx]
 | y::l,i + 1,x,h,ha,hx=>by
   simp only [List.take_succ_cons,List.all_cons,Bool.and_eq_true,decide_eq_true_eq] at ha
   simp only [dz]
   rw [if_pos ha.1]
   exact yM l i x (by simpa using h) ha.2 hx
theorem MZ {P:Node→Prop} {m:Nat}:∀ (l:List Node) (row:List Node) (i:Nat),row.drop i=l→an P row→ai row≤m→∀ x∈itL row l i,∃ n,x.1[x.2]?=some n∧P n∧x.1.length≤m:=by
 refine ay (fun row i _ _ _ x hx=>by simp [itL] at hx) ?_
 intro n l h1 h2 row i hd ha hc x hx
 have hn:row[i]?=some n:=by
  have:=congrArg (fun m=>m[0]?) hd
  simpa using this
 have hd2:row.drop (i + 1)=l:=by rw [←List.drop_drop,hd]; rfl
 have hm:=List.mem_of_getElem? hn
 have hp:=mN ha hm
 have hcm:=mI hm
 simp only [itL,zS,List.mem_cons,List.mem_append] at hx
 rcases hx with rfl | hx | hx
 · exact ⟨n,hn,hp.1,by have:=cX row; simp only; omega⟩
 · exact h1 n.kids 0 rfl hp.2 (by omega) x hx
 · exact h2 row (i + 1) hd2 ha hc x hx
end Go.Abs.F
end
section
namespace Go.Abs.F
open Go.Proofs
end Go.Abs.F

end
