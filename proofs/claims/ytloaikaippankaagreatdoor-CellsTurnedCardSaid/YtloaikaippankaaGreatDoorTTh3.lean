/-
  Nets, plainly: what is reached by edges that take no sign, as a list that grows. No condition.
  What a net's functions answer: whether it may be, and what is reached by no sign. No condition.
  What a net's functions answer: all that is reached by no sign. No condition.
  What a net's functions answer: the states that are reached from one by no sign; sets of states. No condition.
-/
import Derived.Test.YtloaikaippankaaGreatDoorTTh1
set_option linter.unusedVariables false
set_option linter.unusedSimpArgs false
set_option linter.unusedSectionVars false
section
namespace Go.Aut
structure NEdge where
 fr:Nat
 to:Nat
 low:Nat
 high:Nat
structure Net where
 n:Nat
 start:Nat
 stop:Nat
 edges:List NEdge
def NEdge.free (e:NEdge):Bool:=decide (e.high < e.low)
structure Net.ok (N:Net):Prop where
 pos:0 < N.n
 le:N.n≤500
 start:N.start < N.n
 stop:N.stop < N.n
 ends:∀ e∈N.edges,e.fr < N.n∧e.to < N.n∧e.low < 256∧e.high < 256
def bU (es:List NEdge) (s:Nat):Nat→List Nat
 | 0=>[]
 | k + 1=>match es[k]? with
   | some e=>if e.free=true∧e.fr=s then k::bU es s k else bU es s k
   | none=>bU es s k
def toE (es:List NEdge) (i:Nat):Nat:=match es[i]? with
 | some e=>e.to
 | none=>0
def yy (es:List NEdge) (s:Nat):List Nat:=(bU es s es.length).map (toE es)
def bj (st:List Bool × List Nat) (q:Nat):List Bool × List Nat:=if (st.1[q]?).getD true=true then st else (st.1.set q true,st.2++[q])
def dT (es:List NEdge):Nat→Nat→List Bool × List Nat→List Bool × List Nat
 | 0,_,st=>st
 | f + 1,i,st=>match st.2[i]? with
   | none=>st
   | some s=>dT es f (i + 1) ((yy es s).foldl bj st)
def lC (es:List NEdge) (n q:Nat):List Bool:=(dT es (n + 1) 0 ((List.replicate n false).set q true,[q])).1
def dc:Nat→List Bool→List Nat
 | _,[]=>[]
 | q,b::l=>if b=true then q::dc (q + 1) l else dc (q + 1) l
def fq (es:List NEdge) (n q:Nat):List Nat:=dc 0 (lC es n q)
inductive NReach (es:List NEdge) (q:Nat):Nat→Prop
 | refl:NReach es q q
 | step {p:Nat} {e:NEdge}:NReach es q p→e∈es→e.free=true→e.fr=p→NReach es q e.to
theorem kx {es:List NEdge} {s i:Nat}:∀ {k:Nat},i∈bU es s k↔i < k∧∃ e,es[i]?=some e∧e.free=true∧e.fr=s
 | 0=>by simp [bU]
 | k + 1=>by
   have ih:=@kx es s i k
   simp only [bU]
   cases he:es[k]? with
   | none=>
     simp only [ih]
     constructor
     · rintro ⟨h1,h2⟩; exact ⟨by omega,h2⟩
     · rintro ⟨h1,e,h2,h3⟩
       rcases Nat.lt_or_ge i k with h | h
       · exact ⟨h,e,h2,h3⟩
       · have:i=k:=by omega
         subst this; rw [he] at h2; cases h2
   | some e=>
     by_cases hc:e.free=true∧e.fr=s
     · rw [show (match (some e:Option NEdge) with | some e=>if e.free=true∧e.fr=s then k::bU es s k else bU es s k | none=>bU es s k)=k::bU es s k by simp [hc]]
       rw [List.mem_cons,ih]
       constructor
       · rintro (rfl | ⟨h1,h2⟩)
         · exact ⟨by omega,e,he,hc⟩
         · exact ⟨by omega,h2⟩
       · rintro ⟨h1,h2⟩
         rcases Nat.lt_or_ge i k with h | h
         · exact .inr ⟨h,h2⟩
         · exact .inl (by omega)
     · rw [show (match (some e:Option NEdge) with | some e=>if e.free=true∧e.fr=s then k::bU es s k else bU es s k | none=>bU es s k)=bU es s k by simp only; rw [if_neg hc]]
       rw [ih]
       constructor
       · rintro ⟨h1,h2⟩; exact ⟨by omega,h2⟩
       · rintro ⟨h1,e',h2,h3⟩
         rcases Nat.lt_or_ge i k with h | h
         · exact ⟨h,e',h2,h3⟩
         · have:i=k:=by omega
           subst this; rw [he] at h2; cases h2; exact absurd h3 hc
theorem Eg {es:List NEdge} {s t:Nat}:t∈yy es s↔∃ e∈es,e.free=true∧e.fr=s∧e.to=t:=by
 simp only [yy,List.mem_map,kx]
 constructor
 · rintro ⟨i,⟨h1,e,h2,h3,h4⟩,rfl⟩
   exact ⟨e,List.mem_of_getElem? h2,h3,h4,by simp [toE,h2]⟩
 · rintro ⟨e,he,h3,h4,rfl⟩
   obtain ⟨i,hi⟩:=List.mem_iff_getElem?.1 he
   exact ⟨i,⟨(List.getElem?_eq_some_iff.1 hi).1,e,hi,h3,h4⟩,by simp [toE,hi]⟩
structure GInv (es:List NEdge) (n q:Nat) (i:Nat) (st:List Bool × List Nat):Prop where
 len:st.1.length=n
 nodup:st.2.Nodup
 mem:∀ p,st.1[p]?=some true↔p∈st.2
 lt:∀ p∈st.2,p < n
 reach:∀ p∈st.2,NReach es q p
 start:q∈st.2
 le:i≤st.2.length
 done:∀ j < i,∀ s,st.2[j]?=some s→∀ t∈yy es s,t∈st.2
theorem kR {es:List NEdge} {n q s:Nat}:∀ (ts:List Nat) (st:List Bool × List Nat),st.1.length=n→st.2.Nodup→(∀ p,st.1[p]?=some true↔p∈st.2)→(∀ p∈st.2,p < n)→(∀ p∈st.2,NReach es q p)→(∀ t∈ts,t < n∧NReach es q t)→
 (ts.foldl bj st).1.length=n∧(ts.foldl bj st).2.Nodup∧(∀ p,(ts.foldl bj st).1[p]?=some true↔p∈(ts.foldl bj st).2)∧(∀ p∈(ts.foldl bj st).2,p < n)∧(∀ p∈(ts.foldl bj st).2,NReach es q p)∧(∃ u,(ts.foldl bj st).2=st.2++u)∧∀ t∈ts,t∈(ts.foldl bj st).2
 | [],st,h1,h2,h3,h4,h5,_=>⟨h1,h2,h3,h4,h5,⟨[],by simp⟩,by simp⟩
 | t::ts,st,h1,h2,h3,h4,h5,h6=>by
   obtain ⟨ht,hr⟩:=h6 t (by simp)
   obtain ⟨b,hb⟩:∃ b,st.1[t]?=some b:=⟨_,List.getElem?_eq_getElem (by omega)⟩
   simp only [List.foldl_cons]
   cases b with
   | true=>
     have e:bj st t=st:=by simp [bj,hb]
     rw [e]
     obtain ⟨g1,g2,g3,g4,g5,⟨u,g6⟩,g7⟩:=kR (s:=s) ts st h1 h2 h3 h4 h5 fun t ht=>h6 t (by simp [ht])
     refine ⟨g1,g2,g3,g4,g5,⟨u,g6⟩,fun t' ht'=>?_⟩
     rcases List.mem_cons.1 ht' with rfl | ht'
     · rw [g6]; exact List.mem_append_left _ ((h3 _).1 hb)
     · exact g7 _ ht'
   | false=>
     have e:bj st t=(st.1.set t true,st.2++[t]):=by simp [bj,hb]
     have hnm:t ∉ st.2:=fun h=>by have:=(h3 t).2 h; rw [hb] at this; cases this
     rw [e]
     obtain ⟨g1,g2,g3,g4,g5,⟨u,g6⟩,g7⟩:=kR (s:=s) ts (st.1.set t true,st.2++[t]) (by simpa using h1)
      (by rw [List.nodup_append]; exact ⟨h2,by simp,fun a ha b hb=>by simp at hb; subst hb; exact fun h=>hnm (h ▸ ha)⟩)
      (fun p=>by
        simp only [List.mem_append,List.mem_singleton]
        by_cases hp:p=t
        · subst hp; simp [List.getElem?_set_self (show p < st.1.length by omega)]
        · rw [List.getElem?_set_ne (fun h=>hp h.symm)]
          simp [hp,h3])
      (fun p hp=>(List.mem_append.1 hp).elim (h4 p) fun hp=>by simp at hp; subst hp; exact ht)
      (fun p hp=>(List.mem_append.1 hp).elim (h5 p) fun hp=>by simp at hp; subst hp; exact hr)
      fun t ht=>h6 t (by simp [ht])
     refine ⟨g1,g2,g3,g4,g5,⟨[t]++u,by rw [g6]; simp⟩,fun t' ht'=>?_⟩
     rcases List.mem_cons.1 ht' with rfl | ht'
     · rw [g6]; simp
     · exact g7 _ ht'
theorem GInv.next {es:List NEdge} {n q i:Nat} {st:List Bool × List Nat} (hes:∀ e∈es,e.to < n) (h:GInv es n q i st) {s:Nat} (hs:st.2[i]?=some s):GInv es n q (i + 1) ((yy es s).foldl bj st):=by
 have hi:=(List.getElem?_eq_some_iff.1 hs).1
 obtain ⟨g1,g2,g3,g4,g5,⟨u,g6⟩,g7⟩:=kR (es:=es) (q:=q) (s:=s) (yy es s) st h.len h.nodup h.mem h.lt h.reach fun t ht=>by
  obtain ⟨e,he,h1,h2,rfl⟩:=Eg.1 ht
  exact ⟨hes e he,.step (h.reach s (List.mem_of_getElem? hs)) he h1 h2⟩
 refine ⟨g1,g2,g3,g4,g5,by rw [g6]; exact List.mem_append_left _ h.start,by rw [g6]; simp; omega,fun j hj s' hs' t ht=>?_⟩
 rw [g6] at hs'
 rcases Nat.lt_or_ge j i with hji | hji
 · rw [List.getElem?_append_left (by omega)] at hs'
   rw [g6]
   exact List.mem_append_left _ (h.done j hji s' hs' t ht)
 · have:j=i:=by omega
   subst this
   rw [List.getElem?_append_left hi,hs] at hs'
   cases hs'
   exact g7 t ht
theorem q7 {es:List NEdge} {n q:Nat} (hes:∀ e∈es,e.to < n):∀ (f i:Nat) (st:List Bool × List Nat),GInv es n q i st→n < f + i→GInv es n q (dT es f i st).2.length (dT es f i st)
 | 0,i,st,h,hf=>by
   have:=cA n st.2 h.nodup h.lt
   have:=h.le
   omega
 | f + 1,i,st,h,hf=>by
   simp only [dT]
   cases hs:st.2[i]? with
   | none=>
     have:i=st.2.length:=by have:=List.getElem?_eq_none_iff.1 hs; have:=h.le; omega
     simp only
     rw [←this]; exact h
   | some s=>exact q7 hes f (i + 1) _ (h.next hes hs) (by omega)
theorem xC {es:List NEdge} {n q:Nat} (hq:q < n):GInv es n q 0 ((List.replicate n false).set q true,[q]):=by
 refine ⟨by simp,by simp,fun p=>?_,by simpa using hq,fun p hp=>by simp at hp; subst hp; exact .refl,by simp,by simp,fun j hj=>by omega⟩
 by_cases hp:p=q
 · subst hp; simp [hq]
 · rw [List.getElem?_set_ne (fun h=>hp h.symm)]
   rcases Nat.lt_or_ge p n with h | h
   · simp [h,hp]
   · rw [List.getElem?_eq_none (by simpa using h)]; simp [hp]
theorem iA {es:List NEdge} {n q:Nat} (hes:∀ e∈es,e.to < n) (hq:q < n):(lC es n q).length=n∧∀ p,(lC es n q)[p]?=some true↔NReach es q p:=by
 have h:=q7 hes (n + 1) 0 _ (xC hq) (by omega)
 refine ⟨h.len,fun p=>?_⟩
 rw [lC,h.mem]
 refine ⟨h.reach p,fun hr=>?_⟩
 induction hr with
 | refl=>exact h.start
 | step hr he h1 h2 ih=>
   obtain ⟨j,hj⟩:=List.mem_iff_getElem?.1 ih
   exact h.done j (List.getElem?_eq_some_iff.1 hj).1 _ hj _ (Eg.2 ⟨_,he,h1,h2,rfl⟩)
theorem uG:∀ (l:List Bool) (q p:Nat),p∈dc q l↔q≤p∧l[p - q]?=some true
 | [],q,p=>by simp [dc]
 | b::l,q,p=>by
   have ih:=uG l (q + 1) p
   simp only [dc]
   by_cases hpq:p=q
   · subst hpq
     cases b<;>simp [ih]
     omega
   · rcases Nat.lt_or_ge p q with h | h
     · have h1:¬q + 1≤p:=by omega
       cases b<;>simp [ih,hpq,h1]<;>omega
     · have e:p - q=(p - (q + 1)) + 1:=by omega
       rw [e]
       have h1:q + 1≤p:=by omega
       cases b<;>simp [ih,hpq,h,h1]
theorem uH {es:List NEdge} {n q p:Nat} (hes:∀ e∈es,e.to < n) (hq:q < n):p∈fq es n q↔NReach es q p:=by
 rw [fq,uG]
 simpa using (iA hes hq).2 p
theorem NReach.lt {es:List NEdge} {n q p:Nat} (hes:∀ e∈es,e.to < n) (hq:q < n) (h:NReach es q p):p < n:=by
 cases h with
 | refl=>exact hq
 | step _ he _ _=>exact hes _ he
end Go.Aut
end
section
set_option maxHeartbeats 1000000
set_option maxRecDepth 100000
namespace Go.Abs
open Go.Proofs Go.Aut
attribute [-simp] getElem?_pos Option.not_isSome List.map_map
theorem Pt {Φ:Ctr} {Q:Ex→St→Prop} {σ:St} {l:Nat} {ks:List Nat} {a b:AC} {ι:Type} (st:ι→St) (inv:ι→Prop) (μ:ι→Nat)
 (h0:∀ N:St→Prop,PF (∀ i τ,inv i→τ.nrm ks=st i→N τ)→W Φ a (Ex.jump l N Q) σ)
 (round:∀ i,inv i→∀ N:St→Prop,PF (∀ τ,Nx st inv μ ks (μ i) τ→N τ)→W Φ b (Ex.jump l N Q) (st i)):W Φ (.scope l ks a b) Q σ:=by
 refine ⟨fun n τ=>∃ i,inv i∧μ i=n∧τ=st i,h0 _ fun i τ hi hτ=>⟨μ i,[],τ,rfl,i,hi,rfl,hτ⟩,?_⟩
 rintro n τ ⟨i,hi,rfl,rfl⟩
 refine round i hi _ ?_
 rintro τ ⟨ms,τ',j,h1,h2,h3,h4⟩
 exact ⟨μ j,ms,τ',h1,⟨j,h3,rfl,h2⟩,h4⟩
theorem ct {Φ:Ctr} {σ:St} {ks:List Nat} {a b:OT} {Q:Ex→St→Prop} (S:St) (h:∀ Q:Ex→St→Prop,Q .norm S→BC Φ a b (OU Q ks) σ) (k:Q .norm S):BC Φ a b (OU Q ks) σ:=h Q k
def u8V (n:Nat):V:=.int .u8 n
attribute [simp] u8V
def NEdge.c (e:NEdge):List V:=[nV e.fr,nV e.to,u8V e.low,u8V e.high]
@[simp] def NEdge.v (e:NEdge):V:=.strct [nV e.fr,nV e.to,u8V e.low,u8V e.high]
def j2 (es:List NEdge):V:=.seq 4 (es.map NEdge.v)
def Net.c (N:Net):List V:=[nV N.n,nV N.start,nV N.stop,j2 N.edges]
attribute [simp] Net.c j2
theorem pW (N:Net) (q:Nat):Fn Tryz.prog pJ [.strct (Net.c N),nV q] (.bool (decide (q < N.n))):=by
 refine Fn.of_image mixed zI zi rfl fun ho=>?_
 unfold qe
 simp only [oks,ok,and_true] at ho
 clear ho
 simp (disch:=omega) [-List.reduceReplicate]
theorem GT (e:NEdge):Fn Tryz.prog fF [NEdge.v e] (.bool e.free):=by
 refine Fn.of_image mixed Gv Gn rfl fun ho=>?_
 unfold yf
 simp only [oks,ok,and_true] at ho
 clear ho
 simp (disch:=omega) [-List.reduceReplicate,NEdge.free]
theorem Bi {N:Net} (h:N.ok) (hl:N.edges.length≤1000000):Fn Tryz.prog I3 [.strct (Net.c N)] (.int .i64 0):=by
 refine Fn.of_image mixed Jx Ju rfl fun ho=>?_
 unfold Bp
 simp only [oks,ok,and_true] at ho
 clear ho
 have h1:=h.pos
 have h2:=h.le
 have h3:=h.start
 have h4:=h.stop
 have st:=fun q (hq:q < N.n)=>(by have:=pW N q; rwa [decide_eq_true hq] at this:Fn Tryz.prog pJ [.strct (Net.c N),nV q] (.bool true))
 have hs:=st N.start h3
 have hp:=st N.stop h4
 simp at hs hp
 simp (disch:=omega) [-List.reduceReplicate]
 refine ae hs rfl fun _=>?_
 simp (disch:=omega) [-List.reduceReplicate]
 refine ae hp rfl fun _=>?_
 simp (disch:=omega) [-List.reduceReplicate]
 refine ak (fun k:Nat=>⟨[(1,.ptr 0 0),(28,j2 N.edges),(29,.int .i64 N.edges.length),(30,nV k)],[some (.box (Net.c N))]⟩) (fun k=>k≤N.edges.length) (fun k=>N.edges.length - k) [] _ 0 rfl (by simp) (by simp) ?_
 intro k hk M hM
 rcases place N.edges k hk with ⟨he,hd⟩ | ⟨hlt,e,hx,hd⟩
 · simp (disch:=omega) [-List.reduceReplicate,he]
 · obtain ⟨g1,g2,g3,g4⟩:=h.ends e (List.mem_of_getElem? hx)
   have hf:=st e.fr g1
   have ht:=st e.to g2
   simp at hf ht
   simp (disch:=omega) [-List.reduceReplicate,hx]
   refine ae hf rfl fun _=>?_
   simp (disch:=omega) [-List.reduceReplicate]
   refine ae ht rfl fun _=>?_
   simp (disch:=omega) [-List.reduceReplicate]
   exact hM.out _<|Nx.mk (k + 1) (by simp) (by omega) (by omega)
def dF:List NEdge→Nat→List Nat→List Nat→List Nat × List Nat
 | [],_,hd,lk=>(hd,lk)
 | e::es,i,hd,lk=>if e.free=true then dF es (i + 1) (hd.set e.fr (i + 1)) (lk.set i ((hd[e.fr]?).getD 0)) else dF es (i + 1) hd lk
def dv (es:List NEdge) (n:Nat):List Nat × List Nat:=dF es 0 (List.replicate n 0) (List.replicate es.length 0)
def vb (lk:List Nat):Nat→List Nat→Prop
 | a,[]=>a=0
 | a,j::l=>a=j + 1∧∃ b,lk[j]?=some b∧vb lk b l
theorem vb.set {lk:List Nat} {i v:Nat}:∀ {l:List Nat} {a:Nat},(∀ j∈l,j≠i)→vb lk a l→vb (lk.set i v) a l
 | [],_,_,h=>h
 | j::l,a,hj,⟨h1,b,h2,h3⟩=>⟨h1,b,by rw [List.getElem?_set_ne (fun e=>hj j (by simp) e.symm)]; exact h2,vb.set (fun j' hj'=>hj j' (by simp [hj'])) h3⟩
theorem wF {es:List NEdge} {s k:Nat} {e:NEdge} (he:es[k]?=some e):bU es s (k + 1)=if e.free=true∧e.fr=s then k::bU es s k else bU es s k:=by simp only [bU,he]
theorem jK:∀ (es:List NEdge) (i:Nat) (hd lk:List Nat),(dF es i hd lk).1.length=hd.length∧(dF es i hd lk).2.length=lk.length
 | [],_,_,_=>⟨rfl,rfl⟩
 | e::es,i,hd,lk=>by
   simp only [dF]
   split
   · have:=jK es (i + 1) (hd.set e.fr (i + 1)) (lk.set i ((hd[e.fr]?).getD 0)); simpa using this
   · exact jK es (i + 1) hd lk
theorem jX {all:List NEdge} {n:Nat} (hall:∀ e∈all,e.fr < n):∀ (es:List NEdge) (i:Nat) (hd lk:List Nat),all.drop i=es→hd.length=n→lk.length=all.length→
 (∀ s < n,∃ a,hd[s]?=some a∧vb lk a (bU all s i))→∀ s < n,∃ a,(dF es i hd lk).1[s]?=some a∧vb (dF es i hd lk).2 a (bU all s all.length)
 | [],i,hd,lk,hdr,h1,h2,h,s,hs=>by
   have hi:all.length≤i:=by have:=congrArg List.length hdr; simp at this; omega
   simp only [dF]
   obtain ⟨a,ha,hc⟩:=h s hs
   refine ⟨a,ha,?_⟩
   have key:∀ k,all.length≤k→bU all s k=bU all s all.length:=by
    intro k hk
    induction k with
    | zero=>have:all.length=0:=by omega
            rw [this]
    | succ k ih=>
      rcases Nat.lt_or_ge k all.length with hlt | hge
      · have:all.length=k + 1:=by omega
        rw [this]
      · rw [←ih hge]
        simp only [bU,List.getElem?_eq_none hge]
   rwa [key i hi] at hc
 | e::es,i,hd,lk,hdr,h1,h2,h,s,hs=>by
   have hi:i < all.length:=by
    rcases Nat.lt_or_ge i all.length with hlt | hge
    · exact hlt
    · rw [List.drop_of_length_le hge] at hdr; cases hdr
   have he:all[i]?=some e:=by
    have:=List.drop_eq_getElem_cons hi
    rw [this] at hdr
    injection hdr with e1 e2
    rw [List.getElem?_eq_getElem hi,e1]
   have hdr':all.drop (i + 1)=es:=by
    rw [List.drop_eq_getElem_cons hi] at hdr
    injection hdr
   have hef:=hall e (List.mem_of_getElem? he)
   simp only [dF]
   split
   · rename_i hf
     refine jX hall es (i + 1) _ _ hdr' (by simpa using h1) (by simpa using h2) (fun s' hs'=>?_) s hs
     obtain ⟨a,ha,hc⟩:=h s' hs'
     have hne:∀ j∈bU all s' i,j≠i:=fun j hj=>by have:=(kx.1 hj).1; omega
     rw [wF he]
     by_cases hse:e.fr=s'
     · subst hse
       rw [if_pos ⟨hf,rfl⟩]
       refine ⟨i + 1,by rw [List.getElem?_set_self (by omega)],rfl,a,?_,hc.set hne⟩
       rw [List.getElem?_set_self (by omega),ha]; rfl
     · rw [if_neg (fun h=>hse h.2)]
       exact ⟨a,by rw [List.getElem?_set_ne hse]; exact ha,hc.set hne⟩
   · rename_i hf
     refine jX hall es (i + 1) hd lk hdr' h1 h2 (fun s' hs'=>?_) s hs
     rw [wF he,if_neg (fun h=>hf h.1)]
     exact h s' hs'
theorem so {es:List NEdge} {n:Nat} (h:∀ e∈es,e.fr < n) {s:Nat} (hs:s < n):∃ a,(dv es n).1[s]?=some a∧vb (dv es n).2 a (bU es s es.length):=
 jX h es 0 _ _ (by simp) (by simp) (by simp) (fun s hs=>⟨0,by simp [hs],rfl⟩) s hs
def nK (es:List NEdge) (g:List Nat × List Nat):List V:=[j2 es,bL g.1,bL g.2]
attribute [simp] nK
theorem z7 {N:Net} (h:N.ok) (hl:N.edges.length≤1000000):Fn Tryz.prog yO [.strct (Net.c N),.fn (.func fF) [] []] (.strct (nK N.edges (dv N.edges N.n))):=by
 refine Fn.of_image mixed zJ zj rfl fun ho=>?_
 unfold qf
 simp only [oks,ok,and_true] at ho
 clear ho
 have h2:=h.le
 obtain ⟨R,hR⟩:∃ R,R=dv N.edges N.n:=⟨_,rfl⟩
 have hfr:∀ e∈N.edges,e.fr < N.n:=fun e he=>(h.ends e he).1
 simp (disch:=omega) [-List.reduceReplicate]
 refine ct ⟨[(1,.fn (.func fF) [] []),(2,.ptr 0 0),(4,.ptr 1 0),(5,.ptr 2 0)],[some (.box (Net.c N)),some (.box [.nil 4,.nil 1,.nil 1]),some (.box [j2 N.edges,.ref 3 N.n,.ref 4 N.edges.length]),some (.arr aw 1 (List.replicate N.n (nV 0))),some (.arr aw 1 (List.replicate N.edges.length (nV 0)))]⟩ (fun F hF=>?_) ?_
 · simp at hF
   refine BC.mk ?_ ?_
   all_goals simp (disch:=omega) [-List.reduceReplicate]
   all_goals try refine BC.mk ?_ ?_
   all_goals simp (disch:=omega) [-List.reduceReplicate]
   all_goals try refine BC.mk ?_ ?_
   all_goals try simp (disch:=omega) [-List.reduceReplicate]
   all_goals exact hF
 simp (disch:=omega) [-List.reduceReplicate]
 refine ak (fun (x:Nat × List Nat × List Nat)=>⟨[(1,.fn (.func fF) [] []),(4,.ptr 0 0),(5,.ptr 1 0),(19,j2 N.edges),(20,.int .i64 N.edges.length),(21,nV x.1)],[some (.box [.nil 4,.nil 1,.nil 1]),some (.box [j2 N.edges,.ref 2 N.n,.ref 3 N.edges.length]),some (.arr aw 1 (x.2.1.map nV)),some (.arr aw 1 (x.2.2.map nV))]⟩)
  (fun x=>x.1≤N.edges.length∧x.2.1.length=N.n∧x.2.2.length=N.edges.length∧dF (N.edges.drop x.1) x.1 x.2.1 x.2.2=R) (fun x=>N.edges.length - x.1) [] _ (0,List.replicate N.n 0,List.replicate N.edges.length 0) rfl (by simp [-List.reduceReplicate]) ⟨by simp,by simp,by simp,by simp [hR,dv]⟩ ?_
 rintro ⟨k,hd,lk⟩ ⟨hk,hhl,hll,hi⟩ M hM
 simp only at hk hhl hll hi
 rcases place N.edges k hk with ⟨he,hdr⟩ | ⟨hlt,e,hx,hdr⟩<;>rw [hdr] at hi
 · simp only [dF] at hi
   subst hi
   simp (disch:=omega) [-List.reduceReplicate,he,hhl,hll]
   simp [←hR]
 · have hef:=hfr e (List.mem_of_getElem? hx)
   obtain ⟨b,hb⟩:=ap (l:=hd) (k:=e.fr) (by omega)
   obtain ⟨c,hc⟩:=ap (l:=lk) (k:=k) (by omega)
   simp only [dF,hb,Option.getD_some] at hi
   have hno:=GT e
   simp at hno
   replace hi:=hid hi
   simp (disch:=omega) [-List.reduceReplicate,hx]
   refine ae hno rfl fun _=>?_
   cases hf:e.free
   · simp (disch:=omega) [-List.reduceReplicate]
     have hi:=hi.out
     rw [if_neg (by simp [hf])] at hi
     exact hM.out _<|Nx.mk (k + 1,hd,lk) (by simp) ⟨by simp only; omega,hhl,hll,hi⟩ (by simp only; omega)
   · simp (disch:=omega) [-List.reduceReplicate,hhl,hll,hb,hc]
     have hi:=hi.out
     rw [if_pos hf] at hi
     exact hM.out _<|Nx.mk (k + 1,hd.set e.fr (k + 1),lk.set k b) (by simp) ⟨by simp only; omega,by simp [hhl],by simp [hll],hi⟩ (by simp only; omega)
theorem Df (l:List Bool) (hl:l.length≤1000000):FnN Tryz.prog B6 [.seq 1 (l.map .bool)] (bL (dc 0 l)):=by
 refine FnN.of_image mixed CQ Cw rfl fun ho=>?_
 unfold sO
 clear ho
 obtain ⟨R,hR⟩:∃ R,R=dc 0 l:=⟨_,rfl⟩
 rw [←hR]
 simp (disch:=omega) [-List.reduceReplicate]
 refine ak (fun (x:Nat × List Nat)=>⟨[(3,.ref 0 x.2.length),(6,.seq 1 (l.map .bool)),(7,.int .i64 l.length),(8,nV x.1)],[some (.arr aw 1 (x.2.map nV))]⟩)
  (fun x=>x.1≤l.length∧x.2.length≤x.1∧x.2++dc x.1 (l.drop x.1)=R) (fun x=>l.length - x.1) [.r 3 aw 1] _ (0,[]) rfl (by simp) ⟨by simp,by simp,by simp [hR]⟩ ?_
 rintro ⟨k,out⟩ ⟨hk,hol,hi⟩ N hN
 simp only at hk hol hi
 rcases place l k hk with ⟨he,hd⟩ | ⟨hlt,b,hx,hd⟩<;>rw [hd] at hi
 · simp only [dc,List.append_nil] at hi
   subst hi
   simp (disch:=omega) [-List.reduceReplicate,he]
   exact iK (fun _=>rfl) out
 · simp only [dc] at hi
   replace hi:=hid hi
   simp (disch:=omega) [-List.reduceReplicate,hx]
   refine BrK.mk (fun h=>?_) (fun h=>?_)
   · subst h
     simp (disch:=omega) [-List.reduceReplicate]
     exact hN.out _<|Nx.mk (k + 1,out++[k]) (by simp) ⟨by simp only; omega,by simp; omega,by simpa using hi.out⟩ (by simp only; omega)
   · subst h
     simp (disch:=omega) [-List.reduceReplicate]
     exact hN.out _<|Nx.mk (k + 1,out) (by simp) ⟨by simp only; omega,by simp only; omega,by simpa using hi.out⟩ (by simp only; omega)
structure VInv (es:List NEdge) (n q:Nat) (st:List Bool × List Nat):Prop where
 len:st.1.length=n
 nodup:st.2.Nodup
 mem:∀ p,st.1[p]?=some true↔p∈st.2
 lt:∀ p∈st.2,p < n
 reach:∀ p∈st.2,NReach es q p
theorem VInv.visit {es:List NEdge} {n q:Nat} {st:List Bool × List Nat} (h:VInv es n q st) {t:Nat} (ht:t < n) (hr:NReach es q t):VInv es n q (bj st t):=by
 obtain ⟨g1,g2,g3,g4,g5,_,_⟩:=kR (es:=es) (q:=q) (s:=0) [t] st h.len h.nodup h.mem h.lt h.reach (by simpa using ⟨ht,hr⟩)
 exact ⟨g1,g2,g3,g4,g5⟩
theorem GU {N:Net} (h:N.ok) (hl:N.edges.length≤1000000) (q:Nat) (st0:List Bool × List Nat) (hG0:GInv N.edges N.n q 0 st0):
 FnH Tryz.prog tx [1] [.strct (nK N.edges (dv N.edges N.n)),.ref 0 N.n,.ref 1 st0.2.length] [some (.arr bw 1 (st0.1.map V.bool)),some (.arr aw 1 (st0.2.map nV))]
  (.ref 1 (dT N.edges (N.n + 1) 0 st0).2.length) [some (.arr bw 1 ((dT N.edges (N.n + 1) 0 st0).1.map V.bool)),some (.arr aw 1 ((dT N.edges (N.n + 1) 0 st0).2.map nV))]:=by
 refine FnH.of_image mixed tK tF rfl fun ho hh=>?_
 unfold kJ
 clear ho hh
 have h2:=h.le
 have hfr:∀ e∈N.edges,e.fr < N.n:=fun e he=>(h.ends e he).1
 have hto:∀ e∈N.edges,e.to < N.n:=fun e he=>(h.ends e he).2.1
 have hgl1:(dv N.edges N.n).1.length=N.n:=by simpa [dv] using (jK N.edges 0 (List.replicate N.n 0) (List.replicate N.edges.length 0)).1
 have hgl2:(dv N.edges N.n).2.length=N.edges.length:=by simpa [dv] using (jK N.edges 0 (List.replicate N.n 0) (List.replicate N.edges.length 0)).2
 obtain ⟨R,hR⟩:∃ R,R=dT N.edges (N.n + 1) 0 st0:=⟨_,rfl⟩
 rw [←hR]
 have hRG:GInv N.edges N.n q R.2.length R:=by rw [hR]; exact q7 hto _ _ _ hG0 (by omega)
 have hRl:R.1.length=N.n:=hRG.len
 simp (disch:=omega) [-List.reduceReplicate]
 refine Pt (fun (x:Nat × Nat × List Bool × List Nat)=>⟨[(1,.ref 0 N.n),(2,.ref 1 x.2.2.2.length),(3,.ptr 2 0),(7,nV x.2.1)],[some (.arr bw 1 (x.2.2.1.map V.bool)),some (.arr aw 1 (x.2.2.2.map nV)),some (.box (nK N.edges (dv N.edges N.n)))]⟩)
  (fun x=>GInv N.edges N.n q x.2.1 x.2.2∧dT N.edges x.1 x.2.1 x.2.2=R∧N.n < x.1 + x.2.1) (fun x=>x.1) ?_ ?_
 · intro M hM
   have hG:=hG0
   have hlen:=hG0.len
   have hrch:∀ s,st0.2[0]?=some s→∀ j∈bU N.edges s N.edges.length,j < N.edges.length∧NReach N.edges q (toE N.edges j):=fun s hs j hj=>by
    obtain ⟨h1,e,h2,h3,h4⟩:=kx.1 hj
    refine ⟨h1,?_⟩
    simp only [toE,h2]
    exact .step (hG0.reach s (List.mem_of_getElem? hs)) (List.mem_of_getElem? h2) h3 h4
   have dn:st0.2[0]?=none→st0=R:=fun h=>by rw [hR]; simp [dT,h]
   have nx:∀ s,st0.2[0]?=some s→∀ st':List Bool × List Nat,st'=(yy N.edges s).foldl bj st0→∀ τ:St,τ.nrm [1,2,3,7]=⟨[(1,.ref 0 N.n),(2,.ref 1 st'.2.length),(3,.ptr 2 0),(7,.int .i64 1)],[some (.arr bw 1 (st'.1.map V.bool)),some (.arr aw 1 (st'.2.map nV)),some (.box (nK N.edges (dv N.edges N.n)))]⟩→M τ:=by
    intro s hs st' he τ hτ
    subst he
    refine hM.out (N.n,1,_) τ ⟨hG0.next hto hs,by rw [hR]; simp [dT,hs],by simp only; omega⟩ (by simpa using hτ)
   simp (disch:=omega) [-List.reduceReplicate]
   cases hs:st0.2[0]? with
   | none=>
     have hge:=List.getElem?_eq_none_iff.1 hs
     have hdn:=dn hs
     simp (disch:=omega) [-List.reduceReplicate,hs]<;>simp [hdn]
   | some s=>
     have hil:=(List.getElem?_eq_some_iff.1 hs).1
     have hsn:=hG.lt s (List.mem_of_getElem? hs)
     obtain ⟨a,ha,hch⟩:=so hfr hsn
     have hnx:=nx s hs
     simp (disch:=omega) [-List.reduceReplicate,hs,ha,hlen,hgl1,hgl2]
     refine ak (fun (x:Nat × List Nat × List Bool × List Nat)=>⟨[(1,.ref 0 N.n),(2,.ref 1 x.2.2.2.length),(3,.ptr 2 0),(7,.int .i64 0),(8,nV x.1)],[some (.arr bw 1 (x.2.2.1.map V.bool)),some (.arr aw 1 (x.2.2.2.map nV)),some (.box (nK N.edges (dv N.edges N.n)))]⟩)
      (fun x=>vb (dv N.edges N.n).2 x.1 x.2.1∧VInv N.edges N.n q x.2.2∧(∀ j∈x.2.1,j < N.edges.length∧NReach N.edges q (toE N.edges j))∧(x.2.1.map (toE N.edges)).foldl bj x.2.2=(yy N.edges s).foldl bj st0) (fun x=>x.2.1.length) [] _ (a,bU N.edges s N.edges.length,st0) rfl (by simp []) ⟨hch,⟨hG.len,hG.nodup,hG.mem,hG.lt,hG.reach⟩,hrch s hs,rfl⟩ ?_
     rintro ⟨at',l,st'⟩ ⟨hc,hv,hj,hfold⟩ M hM
     simp only at hc hv hj hfold
     cases l with
     | nil=>
       have:at'=0:=hc
       subst this
       simp only [List.map_nil,List.foldl_nil] at hfold
       simp (disch:=omega) [-List.reduceReplicate]
       exact hnx st' hfold _ (by simp [])
     | cons j l=>
       obtain ⟨rfl,b,hb,hc'⟩:=hc
       obtain ⟨hjl,hjr⟩:=hj j (by simp)
       obtain ⟨e,he⟩:=ap hjl
       have hte:toE N.edges j=e.to:=by simp [toE,he]
       have het:=(h.ends e (List.mem_of_getElem? he)).2.1
       obtain ⟨ib,hib⟩:=ap (l:=st'.1) (k:=e.to) (by rw [hv.len]; exact het)
       simp only [List.map_cons,List.foldl_cons,hte] at hfold
       rw [hte] at hjr
       have hv2:=hv.visit het hjr
       have hsl:=cA N.n st'.2 hv.nodup hv.lt
       have hvl:=hv.len
       simp (disch:=omega) [-List.reduceReplicate,he,hib,hvl,hb]
       cases ib with
       | true=>
         have hv1:bj st' e.to=st':=by simp [bj,hib]
         rw [hv1] at hfold
         simp (disch:=omega) [-List.reduceReplicate,hb,hgl2]
         exact hM.out _<|Nx.mk (b,l,st') (by simp) ⟨hc',hv,fun j hj'=>hj j (by simp [hj']),hfold⟩ (by simp)
       | false=>
         have hv1:bj st' e.to=(st'.1.set e.to true,st'.2++[e.to]):=by simp [bj,hib]
         rw [hv1] at hfold hv2
         simp (disch:=omega) [-List.reduceReplicate,hib,hvl,hb,hgl2]
         exact hM.out _<|Nx.mk (b,l,st'.1.set e.to true,st'.2++[e.to]) (by simp) ⟨hc',hv2,fun j hj'=>hj j (by simp [hj']),hfold⟩ (by simp)
 · rintro ⟨f,i,st⟩ ⟨hG,hgo,hfi⟩ M hM
   simp only at hG hgo hfi
   have hlen:=hG.len
   have hile:=hG.le
   have hsle:=cA N.n st.2 hG.nodup hG.lt
   cases f with
   | zero=>omega
   | succ f=>
   have hrch:∀ s,st.2[i]?=some s→∀ j∈bU N.edges s N.edges.length,j < N.edges.length∧NReach N.edges q (toE N.edges j):=fun s hs j hj=>by
    obtain ⟨h1,e,h2,h3,h4⟩:=kx.1 hj
    refine ⟨h1,?_⟩
    simp only [toE,h2]
    exact .step (hG.reach s (List.mem_of_getElem? hs)) (List.mem_of_getElem? h2) h3 h4
   have dn:st.2[i]?=none→st=R:=fun h=>by rw [←hgo]; simp [dT,h]
   have nx:∀ s,st.2[i]?=some s→∀ st':List Bool × List Nat,st'=(yy N.edges s).foldl bj st→∀ τ:St,τ.nrm [1,2,3,7]=⟨[(1,.ref 0 N.n),(2,.ref 1 st'.2.length),(3,.ptr 2 0),(7,.int .i64 ((i:Int) + 1))],[some (.arr bw 1 (st'.1.map V.bool)),some (.arr aw 1 (st'.2.map nV)),some (.box (nK N.edges (dv N.edges N.n)))]⟩→M τ:=by
    intro s hs st' he τ hτ
    subst he
    refine hM.out τ<|Nx.mk (f,i + 1,_) (by simpa using hτ) ⟨hG.next hto hs,by rw [←hgo]; simp [dT,hs],by simp only; omega⟩ (by simp only; omega)
   simp (disch:=omega) [-List.reduceReplicate]
   cases hs:st.2[i]? with
   | none=>
     have hge:=List.getElem?_eq_none_iff.1 hs
     have hdn:=dn hs
     simp (disch:=omega) [-List.reduceReplicate,hs]<;>simp [hdn]
   | some s=>
     have hil:=(List.getElem?_eq_some_iff.1 hs).1
     have hsn:=hG.lt s (List.mem_of_getElem? hs)
     obtain ⟨a,ha,hch⟩:=so hfr hsn
     have hnx:=nx s hs
     simp (disch:=omega) [-List.reduceReplicate,hs,ha,hlen,hgl1,hgl2]
     refine ak (fun (x:Nat × List Nat × List Bool × List Nat)=>⟨[(1,.ref 0 N.n),(2,.ref 1 x.2.2.2.length),(3,.ptr 2 0),(7,nV i),(8,nV x.1)],[some (.arr bw 1 (x.2.2.1.map V.bool)),some (.arr aw 1 (x.2.2.2.map nV)),some (.box (nK N.edges (dv N.edges N.n)))]⟩)
      (fun x=>vb (dv N.edges N.n).2 x.1 x.2.1∧VInv N.edges N.n q x.2.2∧(∀ j∈x.2.1,j < N.edges.length∧NReach N.edges q (toE N.edges j))∧(x.2.1.map (toE N.edges)).foldl bj x.2.2=(yy N.edges s).foldl bj st) (fun x=>x.2.1.length) [] _ (a,bU N.edges s N.edges.length,st) rfl (by simp []) ⟨hch,⟨hG.len,hG.nodup,hG.mem,hG.lt,hG.reach⟩,hrch s hs,rfl⟩ ?_
     rintro ⟨at',l,st'⟩ ⟨hc,hv,hj,hfold⟩ M hM
     simp only at hc hv hj hfold
     cases l with
     | nil=>
       have:at'=0:=hc
       subst this
       simp only [List.map_nil,List.foldl_nil] at hfold
       simp (disch:=omega) [-List.reduceReplicate]
       exact hnx st' hfold _ (by simp [])
     | cons j l=>
       obtain ⟨rfl,b,hb,hc'⟩:=hc
       obtain ⟨hjl,hjr⟩:=hj j (by simp)
       obtain ⟨e,he⟩:=ap hjl
       have hte:toE N.edges j=e.to:=by simp [toE,he]
       have het:=(h.ends e (List.mem_of_getElem? he)).2.1
       obtain ⟨ib,hib⟩:=ap (l:=st'.1) (k:=e.to) (by rw [hv.len]; exact het)
       simp only [List.map_cons,List.foldl_cons,hte] at hfold
       rw [hte] at hjr
       have hv2:=hv.visit het hjr
       have hsl:=cA N.n st'.2 hv.nodup hv.lt
       have hvl:=hv.len
       simp (disch:=omega) [-List.reduceReplicate,he,hib,hvl,hb]
       cases ib with
       | true=>
         have hv1:bj st' e.to=st':=by simp [bj,hib]
         rw [hv1] at hfold
         simp (disch:=omega) [-List.reduceReplicate,hb,hgl2]
         exact hM.out _<|Nx.mk (b,l,st') (by simp) ⟨hc',hv,fun j hj'=>hj j (by simp [hj']),hfold⟩ (by simp)
       | false=>
         have hv1:bj st' e.to=(st'.1.set e.to true,st'.2++[e.to]):=by simp [bj,hib]
         rw [hv1] at hfold hv2
         simp (disch:=omega) [-List.reduceReplicate,hib,hvl,hb,hgl2]
         exact hM.out _<|Nx.mk (b,l,st'.1.set e.to true,st'.2++[e.to]) (by simp) ⟨hc',hv2,fun j hj'=>hj j (by simp [hj']),hfold⟩ (by simp)
theorem z6 {N:Net} (h:N.ok) (hl:N.edges.length≤1000000) {q:Nat} (hq:q < N.n):Fn Tryz.prog yN [.strct (Net.c N),.seq 1 [nV q],.fn (.func fF) [] []] (.seq 1 ((lC N.edges N.n q).map .bool)):=by
 refine Fn.of_imageE mixed zH zh rfl fun ho=>?_
 unfold qd
 simp only [oks,ok,and_true] at ho
 clear ho
 have h2:=h.le
 have hto:∀ e∈N.edges,e.to < N.n:=fun e he=>(h.ends e he).2.1
 obtain ⟨R,hR⟩:∃ R,R=lC N.edges N.n q:=⟨_,rfl⟩
 rw [←hR]
 have hst:=pW N q
 rw [decide_eq_true hq] at hst
 simp at hst
 simp (disch:=omega) [-List.reduceReplicate]
 refine ak (fun (k:Nat)=>⟨[(2,.fn (.func fF) [] []),(3,.ptr 0 0),(7,.ref 1 N.n),(8,.ref 2 k),(14,.seq 1 [nV q]),(15,.int .i64 1),(16,nV k)],
  [some (.box (Net.c N)),some (.arr bw 1 ((if k=0 then List.replicate N.n false else (List.replicate N.n false).set q true).map V.bool)),some (.arr aw 1 ((if k=0 then [] else [q]).map nV))]⟩) (fun k=>k≤1) (fun k=>1 - k) [.r 8 aw 1] _ 0 rfl (by simp [-List.reduceReplicate]) (by simp) ?_
 intro k hk M hM
 rcases (show k=0∨k=1 by omega) with rfl | rfl
 · simp (disch:=omega) [-List.reduceReplicate]
   refine ae hst rfl fun _=>?_
   simp (disch:=omega) [-List.reduceReplicate,hq]
   exact hM.out _<|Nx.mk 1 (by simp [-List.reduceReplicate]) (by simp) (by simp)
 · simp (disch:=omega) [-List.reduceReplicate]
   refine aj (by simpa using z7 h hl) (by simp) fun _=>?_
   simp (disch:=omega) [-List.reduceReplicate]
   have hg:=GU h hl q ((List.replicate N.n false).set q true,[q]) (xC hq)
   have hRG:dT N.edges (N.n + 1) 0 ((List.replicate N.n false).set q true,[q])=(R,(dT N.edges (N.n + 1) 0 ((List.replicate N.n false).set q true,[q])).2):=by rw [hR]; rfl
   rw [hRG] at hg
   have hRl:R.length=N.n:=by rw [hR]; exact (iA hto hq).1
   refine ah [1] 1 [1,2] (by simp) (by simp) (by simp) (by simp) hg (by simp) fun _ _=>?_
   simp (disch:=omega) [-List.reduceReplicate,hRl]
theorem sD {N:Net} (h:N.ok) (hl:N.edges.length≤1000000) {q:Nat} (hq:q < N.n):Fn Tryz.prog r5 [.strct (Net.c N),.seq 1 [nV q]] (bL (fq N.edges N.n q)):=by
 refine Fn.of_image mixed CR Cx rfl fun ho=>?_
 unfold sP
 simp only [oks,ok,and_true] at ho
 clear ho
 have h2:=h.le
 have hto:∀ e∈N.edges,e.to < N.n:=fun e he=>(h.ends e he).2.1
 have hm:=Bi h hl
 simp at hm
 have hr:=z6 h hl hq
 simp at hr
 have hcl:=(iA hto hq).1
 simp (disch:=omega) [-List.reduceReplicate]
 refine ae hm rfl fun _=>?_
 simp (disch:=omega) [-List.reduceReplicate]
 refine aj hr (by simp) fun _=>?_
 simp (disch:=omega) [-List.reduceReplicate]
 refine s9 (Df _ (by omega)) fun _=>?_
 simp (disch:=omega) [-List.reduceReplicate,fq]
end Go.Abs
end
