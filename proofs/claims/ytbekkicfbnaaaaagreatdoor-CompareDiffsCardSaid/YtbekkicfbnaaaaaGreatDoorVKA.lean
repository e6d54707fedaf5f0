/- The search in plain data. No condition. -/
import Derived.Test.YtbekkicfbnaaaaaGreatDoorVAbs14
set_option linter.all false
section
set_option maxHeartbeats 1000000
set_option maxRecDepth 100000
namespace Go.Abs.F
structure Stp where
  num : Nat
  st : Nat
  cost : Nat
  src : Int
  tree : Int
def Stp.z : Stp := ⟨0,0,0,0,0⟩
def Stp.pl(s : Stp) : Nat×Nat := (s.num,s.st)
def cmpI(a b : Int) : Int := if a<b then -1 else if b<a then 1 else 0
def orI : List Int -> Int
  |[] => 0
  |x :: l => if x = 0 then orI l else x
def keyS(a b : Stp) : List Int := [cmpI a.cost b.cost,cmpI a.num b.num,cmpI a.st b.st,cmpI a.src b.src,cmpI a.tree b.tree]
def lessS(a b : Stp) : Bool := decide (orI (keyS a b)<0)
def getS(l : List Stp)(i : Nat) : Stp := (l[i]?).getD .z
def swpS(l : List Stp)(i j : Nat) : List Stp := (l.set i (getS l j)).set j (getS l i)
def upSK : Nat -> List Stp -> Nat -> List Stp
  |0,l,_ => l
  |f+1,l,j => if(j-1)/2 = j then l else if lessS (getS l j) (getS l ((j-1)/2)) = true then upSK f (swpS l ((j-1)/2) j) ((j-1)/2)else l
def kidS(l : List Stp)(i n : Nat) : Nat := if 2*i+2<n /\ lessS (getS l (2*i+2)) (getS l (2*i+1)) = true then 2*i+2 else 2*i+1
def downS : Nat -> List Stp -> Nat -> Nat -> List Stp
  |0,l,_,_ => l
  |f+1,l,i,n => if n <= 2*i+1 then l else if lessS (getS l (kidS l i n)) (getS l i) = true then downS f (swpS l i (kidS l i n)) (kidS l i n) n else l
def downE : Nat -> List Stp -> Nat -> Nat -> Nat
  |0,_,i,_ => i
  |f+1,l,i,n => if n <= 2*i+1 then i else if lessS (getS l (kidS l i n)) (getS l i) = true then downE f (swpS l i (kidS l i n)) (kidS l i n) n else i
def pushS(l : List Stp)(x : Stp) : List Stp := upSK (l.length+1) (l ++ [x]) l.length
def popS(l : List Stp) : List Stp := downS l.length (swpS l 0 (l.length-1)) 0 (l.length-1)
theorem swpS_len(l : List Stp)(i j : Nat) : (swpS l i j).length = l.length := by simp[swpS]
theorem upS_len : ∀(f : Nat)(l : List Stp)(j : Nat),(upSK f l j).length = l.length
  |0,l,j => rfl
  |f+1,l,j => by
    simp only[upSK]
    repeat' split
    all_goals first|rfl|rw[upS_len f,swpS_len]
theorem downS_len : ∀(f : Nat)(l : List Stp)(i n : Nat),(downS f l i n).length = l.length
  |0,l,i,n => rfl
  |f+1,l,i,n => by
    simp only[downS]
    repeat' split
    all_goals first|rfl|rw[downS_len f,swpS_len]
theorem pushS_len(l : List Stp)(x : Stp) : (pushS l x).length = l.length+1 := by simp[pushS,upS_len]
theorem popS_len(l : List Stp) : (popS l).length = l.length := by simp[popS,downS_len,swpS_len]
theorem getS_some{l : List Stp}{i : Nat}{x : Stp}(h : l[i]? = some x) : getS l i = x := by simp[getS,h]
theorem kidS_lt{l : List Stp}{i n : Nat}(h : 2*i+1<n) : kidS l i n<n /\ i<kidS l i n := by
  unfold kidS;split <;> omega
section
variable{α β : Type}[DecidableEq α]
def aget(k : α) : List (α×β) -> Option β
  |[] => none
  |(k',v) :: l => if k = k' then some v else aget k l
def aput(k : α)(u : β) : List (α×β) -> List (α×β)
  |[] => [(k,u)]
  |(k',v) :: l => if k = k' then(k,u) :: l else(k',v) :: aput k u l
theorem aget_aput(k k' : α)(u : β) : ∀l : List (α×β),aget k' (aput k u l) = if k' = k then some u else aget k' l
  |[] => by simp[aput,aget]
  |(j,v) :: l => by
    simp only[aput];by_cases h : k = j
    ·subst h
     simp only[if_true,aget];by_cases h2 : k' = k
     ·simp[h2]
     ·simp[h2]
    ·simp only[h,if_false,aget]
     by_cases h2 : k' = j
     ·subst h2
      have h3 : ¬ k' = k := λe => h e.symm
      simp[h3]
     ·simp only[h2,if_false]
      exact aget_aput k k' u l
variable{kv : α -> V}{vv : β -> V}(hk : ∀a b,eqK (kv a) (kv b) = decide (a = b))
include hk
theorem mget_map(k : α) : ∀l : List (α×β),lU (kv k) (l.map λe => (kv e.1,vv e.2)) = (aget k l).map vv
  |[] => rfl
  |(j,v) :: l => by
    simp only[List.map_cons,lU,aget,hk,decide_eq_true_eq];split
    ·simp
    ·exact mget_map k l
theorem mput_map(k : α)(u : β) : ∀l : List (α×β),nq (kv k) (vv u) (l.map λe => (kv e.1,vv e.2)) = (aput k u l).map λe => (kv e.1,vv e.2)
  |[] => rfl
  |(j,v) :: l => by
    simp only[List.map_cons,nq,aput,hk,decide_eq_true_eq];split
    ·simp
    ·simp only[List.map_cons,mput_map k u l]
end
structure Mch where
  v : V
  labels : Nat
  next : Nat -> Nat -> Nat -> Nat
  out : Nat -> Nat -> Nat
structure Src where
  num : Nat
  st : Nat
  cost : Nat
structure FSK where
  q : List Stp
  marks : List ((Nat×Nat)×(Stp×Bool))
  met : List (List Nat)
  trees : List Nat
  found : List (Nat×Src)
def topC : Nat := 4611686018427387904
def addC(a b : Nat) : Nat := if topC <= a+b then topC else a+b
def markOf(S : FSK)(p : Nat×Nat) : Stp×Bool := (aget p S.marks).getD (.z,false)
def srcOf(S : FSK)(t : Nat) : Src := (aget t S.found).getD ⟨0,0,0⟩
def putP(S : FSK)(s : Stp) : FSK :=
  match aget s.pl S.marks with
  |some (k,d) => if d = true \/ k.cost <= s.cost then S else{ S with marks := aput s.pl (s,false) S.marks,q := pushS S.q s }
  |none => { S with marks := aput s.pl (s,false) S.marks,q := pushS S.q s }
def goOnP(m : Mch)(p : Nat×Nat)(S : FSK)(tree : Nat) : FSK :=
  putP S ⟨p.1,m.next p.1 p.2 tree,addC (markOf S p).1.cost (srcOf S tree).cost,p.2,tree⟩
def goOnsP(m : Mch)(p : Nat×Nat) : FSK -> List Nat -> FSK
  |S,[] => S
  |S,t :: l => goOnsP m p (goOnP m p S t) l
def tellRow(m : Mch)(n tree : Nat) : FSK -> List Nat -> FSK
  |S,[] => S
  |S,s :: l => tellRow m n tree (goOnP m (n,s) S tree) l
def tellRows(m : Mch)(tree : Nat) : Nat -> FSK -> List (List Nat) -> FSK
  |_,S,[] => S
  |n,S,r :: l => tellRows m tree (n+1) (tellRow m n tree S r) l
def tellP(m : Mch)(tree : Nat)(by' : Src)(S : FSK) : FSK :=
  tellRows m tree 0 { S with found := aput tree by' S.found,trees := S.trees ++ [tree] } S.met
def stepPK(m : Mch)(S : FSK)(s : Stp) : FSK :=
  let S1 : FSK := { S with marks := aput s.pl (s,true) S.marks,met := S.met.set s.num ((S.met[s.num]?).getD [] ++ [s.st]) }
  let S2 := goOnsP m s.pl S1 S1.trees
  if ¬ s.num = m.labels /\ aget (m.out s.num s.st) S2.found = none then tellP m (m.out s.num s.st) ⟨s.num,s.st,addC s.cost 1⟩ S2 else S2
def takeP(S : FSK) : Stp×FSK := (getS (popS S.q) (S.q.length-1),{ S with q := (popS S.q).take (S.q.length-1) })
def runP(m : Mch) : Nat -> FSK -> Option (Option Stp×FSK)
  |0,_ => none
  |f+1,S => if S.q.length = 0 then some (none,S)else
    if(markOf (takeP S).2 (takeP S).1.pl).2 = true then runP m f (takeP S).2 else
    if(takeP S).1.num = m.labels /\ m.out (takeP S).1.num (takeP S).1.st = 1 then some (some (takeP S).1,{ (takeP S).2 with marks := aput (takeP S).1.pl ((takeP S).1,true) (takeP S).2.marks })else
    runP m f (stepPK m (takeP S).2 (takeP S).1)
def beginS : Nat -> FSK -> Nat -> FSK
  |0,S,_ => S
  |k+1,S,n => beginS k (putP S ⟨n,0,0,-1,-1⟩) (n+1)
def beginP(sides : Nat) : FSK := beginS sides ⟨[],[],List.replicate sides [],[],[]⟩ 0
end Go.Abs.F
end
section
set_option maxHeartbeats 1000000
set_option maxRecDepth 100000
namespace Go.Abs.F
theorem getS_mem{l : List Stp}{i : Nat}(h : i<l.length) : getS l i ∈ l := by
  simp[getS,List.getElem?_eq_getElem h]
theorem swpS_perm{l : List Stp}{i j : Nat}(hi : i<l.length)(hj : j<l.length) : (swpS l i j).Perm l := by
  simp only[swpS,getS,List.getElem?_eq_getElem hi,List.getElem?_eq_getElem hj,Option.getD_some];exact List.set_set_perm hi hj
theorem upS_perm : ∀(f : Nat)(l : List Stp)(j : Nat),j<l.length -> (upSK f l j).Perm l
  |0,l,j,_ => .refl _
  |f+1,l,j,h => by
    simp only[upSK];split
    ·exact .refl _
    ·split
     ·exact(upS_perm f _ _ (by rw[swpS_len];omega)).trans (swpS_perm (by omega) h)
     ·exact .refl _
theorem downS_perm : ∀(f : Nat)(l : List Stp)(i n : Nat),i<l.length -> n <= l.length -> (downS f l i n).Perm l
  |0,l,i,n,_,_ => .refl _
  |f+1,l,i,n,h,hn => by
    simp only[downS];split
    ·exact .refl _
    ·have := kidS_lt (l := l) (i := i) (n := n) (by omega)
     split
     ·exact(downS_perm f _ _ _ (by rw[swpS_len];omega) (by rw[swpS_len];exact hn)).trans (swpS_perm h (by omega))
     ·exact .refl _
theorem pushS_perm(l : List Stp)(x : Stp) : (pushS l x).Perm (x :: l) := (upS_perm _ _ _ (by simp)).trans (List.perm_append_singleton x l)
theorem popS_perm{l : List Stp}(h : 0<l.length) : (popS l).Perm l :=
  (downS_perm _ _ _ _ (by rw[swpS_len];exact h) (by rw[swpS_len];omega)).trans (swpS_perm h (by omega))
theorem take_perm{l : List Stp}(h : 0<l.length) : (getS (popS l) (l.length-1) :: (popS l).take (l.length-1)).Perm l := by
  refine List.Perm.trans ?_ (popS_perm h);have hl := popS_len l
  have e : popS l = (popS l).take (l.length-1) ++ [getS (popS l) (l.length-1)] := by
    have h1 : (popS l).drop (l.length-1) = [getS (popS l) (l.length-1)] := by
      rw[List.drop_eq_getElem_cons (by omega),List.drop_eq_nil_of_le (by omega)]
      simp[getS,List.getElem?_eq_getElem (show l.length-1<(popS l).length by omega)]
    rw[<- h1,List.take_append_drop]
  conv => rhs;rw[e]
  exact(List.perm_append_singleton _ _).symm
structure MchOK (m : Mch) (sz : Nat -> Nat) (T : Nat) : Prop where
  pos : ∀n,n <= m.labels -> 0<sz n
  next : ∀n,n <= m.labels -> ∀s,s<sz n -> ∀t,t<T -> m.next n s t<sz n
  out : ∀n,n<m.labels -> ∀s,s<sz n -> m.out n s<T
def doneP(S : FSK)(p : Nat×Nat) : Prop := ∃k,aget p S.marks = some (k,true)
theorem doneP_iff{S : FSK}{p : Nat×Nat} : doneP S p ↔ (markOf S p).2 = true := by
  unfold doneP markOf;cases h : aget p S.marks with
  |none => simp
  |some x => obtain⟨k,d⟩ := x;simp
def InP(m : Mch)(sz : Nat -> Nat)(p : Nat×Nat) : Prop := p.1 <= m.labels /\ p.2<sz p.1
structure SOK (m : Mch) (sz : Nat -> Nat) (S : FSK) (s : Stp) : Prop where
  pl : InP m sz s.pl
  cost : s.cost <= topC
  back : (s.tree = -1 /\ s.src = -1) \/ (0 <= s.tree /\ 0 <= s.src /\ s.tree.toNat ∈ S.trees /\ doneP S (s.num,s.src.toNat))
def sumL : List (List Nat) -> Nat
  |[] => 0
  |r :: l => r.length+sumL l
structure InvB (m : Mch) (sz : Nat -> Nat) (T : Nat) (S : FSK) (r : Nat×Nat -> Nat) (n b : Nat) : Prop where
  lenm : S.met.length = m.labels+1
  q : ∀s ∈ S.q,SOK m sz S s
  marks : ∀p k d,aget p S.marks = some (k,d) -> k.pl = p /\ SOK m sz S k
  rank : ∀p k,aget p S.marks = some (k,true) -> r p<n /\ (0 <= k.tree -> r (k.num,k.src.toNat)<r p /\ ∀c,aget k.tree.toNat S.found = some c -> r (c.num,c.st)<r p)
  met : ∀i row,S.met[i]? = some row -> ∀s ∈ row,doneP S (i,s)
  trees : ∀t ∈ S.trees,t<T /\ ∃c,aget t S.found = some c
  treesN : S.trees.Nodup
  found : ∀t c,aget t S.found = some c -> t ∈ S.trees /\ c.num<m.labels /\ c.cost <= topC /\ doneP S (c.num,c.st)
  qlen : S.q.length <= b
  sumn : sumL S.met <= n
  qm : ∀s ∈ S.q,∃e,aget s.pl S.marks = some e
theorem addC_le(a b : Nat) : addC a b <= topC := by unfold addC;split <;> omega
section
variable{m : Mch}{sz : Nat -> Nat}{T : Nat}{S : FSK}{r : Nat×Nat -> Nat}{n b : Nat}
theorem SOK.mono{S' : FSK}{s : Stp}(h : SOK m sz S s)(h1 : ∀t,t ∈ S.trees -> t ∈ S'.trees)(h2 : ∀p,doneP S p -> doneP S' p) : SOK m sz S' s :=
  ⟨h.pl,h.cost,h.back.imp id λ⟨a,b,c,d⟩ => ⟨a,b,h1 _ c,h2 _ d⟩⟩
theorem put_met(S : FSK)(s : Stp) : (putP S s).met = S.met /\ (putP S s).trees = S.trees /\ (putP S s).found = S.found := by
  unfold putP;split
  ·split <;> simp
  ·simp
theorem put_done(S : FSK)(s : Stp)(p : Nat×Nat)(k : Stp) : aget p (putP S s).marks = some (k,true) ↔ aget p S.marks = some (k,true) := by
  unfold putP;split
  ·rename_i k0 d0 h0
   split
   ·simp
   ·rename_i hc
    simp only[aget_aput];split
    ·rename_i he
     subst he;rw[h0];simp only[Option.some.injEq,Prod.mk.injEq,Bool.false_eq_true,and_false,false_iff,not_and];intro _ hd;exact hc (.inl hd)
    ·rfl
  ·rename_i h0
   simp only[aget_aput];split
   ·rename_i he
    subst he;rw[h0];simp
   ·rfl
theorem put_doneP(S : FSK)(s : Stp)(p : Nat×Nat) : doneP (putP S s) p ↔ doneP S p := by simp only[doneP,put_done]
theorem InvB.put(H : InvB m sz T S r n b){s : Stp}(hs : SOK m sz S s) : InvB m sz T (putP S s) r n (b+1) := by
  obtain⟨e1,e2,e3⟩ := put_met S s;have hd := put_doneP S s;have mono : ∀{x : Stp},SOK m sz S x -> SOK m sz (putP S s) x := λh => h.mono (λt ht => by rw[e2];exact ht) (λp hp => (hd p).2 hp)
  have hmet : ∀i row,(putP S s).met[i]? = some row -> ∀t ∈ row,doneP (putP S s) (i,t) := λi row h t ht => (hd _).2 (H.met i row (by rw[<- e1];exact h) t ht)
  have hfound : ∀t c,aget t (putP S s).found = some c -> t ∈ (putP S s).trees /\ c.num<m.labels /\ c.cost <= topC /\ doneP (putP S s) (c.num,c.st) := by
    intro t c h;rw[e3]at h;rw[e2];obtain⟨a1,a2,a3,a4⟩ := H.found t c h;exact⟨a1,a2,a3,(hd _).2 a4⟩
  refine⟨by rw[e1];exact H.lenm,?_,?_,λp k h => ?_,hmet,by rw[e2,e3];exact H.trees,by rw[e2];exact H.treesN,hfound,?_,by rw[e1];exact H.sumn,?_⟩
  rotate_left 2
  ·rw[e3];exact H.rank p k ((put_done S s p k).1 h)
  rotate_left 2
  ·intro x hx
   refine mono ?_;unfold putP at hx
   have hpush : ∀y,y ∈ pushS S.q s -> SOK m sz S y := λy hy => by
     rcases List.mem_cons.1 ((pushS_perm S.q s).mem_iff.1 hy)with rfl|h
     ·exact hs
     ·exact H.q y h
   split at hx
   ·split at hx
    ·exact H.q x hx
    ·exact hpush x hx
   ·exact hpush x hx
  ·intro p k d h
   have hput : ∀p k d,aget p (aput s.pl (s,false) S.marks) = some (k,d) -> k.pl = p /\ SOK m sz S k := λp k d h => by
     rw[aget_aput]at h;split at h
     ·rename_i he
      simp only[Option.some.injEq,Prod.mk.injEq]at h;obtain⟨rfl,_⟩ := h;exact⟨he.symm,hs⟩
     ·exact H.marks p k d h
   have : k.pl = p /\ SOK m sz S k := by
     unfold putP at h;split at h
     ·split at h
      ·exact H.marks p k d h
      ·exact hput p k d h
     ·exact hput p k d h
   exact⟨this.1,mono this.2⟩
  ·have := H.qlen
   unfold putP;split
   ·split
    ·omega
    ·simp only[pushS_len];omega
   ·simp only[pushS_len];omega
  ·have hmono : ∀p e,aget p S.marks = some e -> ∃e',aget p (aput s.pl (s,false) S.marks) = some e' := λp e h => by
     rw[aget_aput];split
     ·exact⟨_,rfl⟩
     ·exact⟨e,h⟩
   have hpush : ∀y,y ∈ pushS S.q s -> ∃e',aget y.pl (aput s.pl (s,false) S.marks) = some e' := λy hy => by
     rcases List.mem_cons.1 ((pushS_perm S.q s).mem_iff.1 hy)with rfl|h
     ·exact⟨_,by rw[aget_aput,if_pos rfl]⟩
     ·obtain⟨e,he⟩ := H.qm y h
      exact hmono _ e he
   intro x hx;unfold putP at hx⊢;split at hx
   ·rename_i k d h0
    split at hx
    ·rename_i hc;simp only[hc,if_true];exact H.qm x hx
    ·rename_i hc;simp only[hc,if_false];exact hpush x hx
   ·exact hpush x hx
theorem goOn_ok(hm : MchOK m sz T)(H : InvB m sz T S r n b){p : Nat×Nat}(hp : doneP S p)(hi : InP m sz p){t : Nat}(ht : t ∈ S.trees) : SOK m sz S ⟨p.1,m.next p.1 p.2 t,addC (markOf S p).1.cost (srcOf S t).cost,p.2,t⟩ :=
  ⟨⟨hi.1,hm.next _ hi.1 _ hi.2 _ (H.trees t ht).1⟩,addC_le _ _,.inr ⟨by simp,by simp,by simpa using ht,by simpa using hp⟩⟩
theorem InvB.goOn(hm : MchOK m sz T)(H : InvB m sz T S r n b){p : Nat×Nat}(hp : doneP S p)(hi : InP m sz p){t : Nat}(ht : t ∈ S.trees) : InvB m sz T (goOnP m p S t) r n (b+1) := H.put (goOn_ok hm H hp hi ht)
theorem goOn_met(m : Mch)(p : Nat×Nat)(S : FSK)(t : Nat) : (goOnP m p S t).met = S.met /\ (goOnP m p S t).trees = S.trees /\ (goOnP m p S t).found = S.found /\ ∀x,doneP (goOnP m p S t) x ↔ doneP S x :=
  ⟨(put_met _ _).1,(put_met _ _).2.1,(put_met _ _).2.2,put_doneP _ _⟩
theorem InvB.goOns(hm : MchOK m sz T){p : Nat×Nat}(hi : InP m sz p) : ∀(l : List Nat){S : FSK}{b : Nat},InvB m sz T S r n b -> doneP S p -> (∀t ∈ l,t ∈ S.trees) -> InvB m sz T (goOnsP m p S l) r n (b+l.length) /\ (goOnsP m p S l).met = S.met /\ (goOnsP m p S l).trees = S.trees /\ (goOnsP m p S l).found = S.found /\ ∀x,doneP (goOnsP m p S l) x ↔ doneP S x
  |[],S,b,H,hp,ht => ⟨H,rfl,rfl,rfl,λ_ => .rfl⟩
  |t :: l,S,b,H,hp,ht => by
    obtain⟨e1,e2,e3,e4⟩ := goOn_met m p S t;have h := InvB.goOns hm hi l (H.goOn hm hp hi (ht t (by simp))) ((e4 p).2 hp) (λx hx => by rw[e2];exact ht x (by simp[hx]))
    simp only[goOnsP,List.length_cons];refine⟨?_,by rw[h.2.1,e1],by rw[h.2.2.1,e2],by rw[h.2.2.2.1,e3],λx => (h.2.2.2.2 x).trans (e4 x)⟩
    have := h.1;rwa[show b+1+l.length = b+(l.length+1) by omega]at this
theorem InvB.tellRow(hm : MchOK m sz T){i tree : Nat}(hi : i <= m.labels) : ∀(l : List Nat){S : FSK}{b : Nat},InvB m sz T S r n b -> tree ∈ S.trees -> (∀s ∈ l,doneP S (i,s) /\ s<sz i) -> InvB m sz T (tellRow m i tree S l) r n (b+l.length) /\ (tellRow m i tree S l).met = S.met /\ (tellRow m i tree S l).trees = S.trees /\ (tellRow m i tree S l).found = S.found /\ ∀x,doneP (tellRow m i tree S l) x ↔ doneP S x
  |[],S,b,H,hp,ht => ⟨H,rfl,rfl,rfl,λ_ => .rfl⟩
  |s :: l,S,b,H,hp,ht => by
    obtain⟨e1,e2,e3,e4⟩ := goOn_met m (i,s) S tree;have h := InvB.tellRow hm hi l (H.goOn hm (ht s (by simp)).1 ⟨hi,(ht s (by simp)).2⟩ hp) (by rw[e2];exact hp) (λx hx => ⟨(e4 _).2 (ht x (by simp[hx])).1,(ht x (by simp[hx])).2⟩)
    simp only[F.tellRow,List.length_cons];refine⟨?_,by rw[h.2.1,e1],by rw[h.2.2.1,e2],by rw[h.2.2.2.1,e3],λx => (h.2.2.2.2 x).trans (e4 x)⟩
    have := h.1;rwa[show b+1+l.length = b+(l.length+1) by omega]at this
theorem InvB.tellRows(hm : MchOK m sz T){tree : Nat} : ∀(l : List (List Nat))(i : Nat){S : FSK}{b : Nat},InvB m sz T S r n b -> i+l.length <= m.labels+1 -> tree ∈ S.trees -> (∀j row,l[j]? = some row -> ∀s ∈ row,doneP S (i+j,s) /\ s<sz (i+j)) -> InvB m sz T (tellRows m tree i S l) r n (b+sumL l) /\ (tellRows m tree i S l).met = S.met /\ (tellRows m tree i S l).trees = S.trees /\ (tellRows m tree i S l).found = S.found /\ ∀x,doneP (tellRows m tree i S l) x ↔ doneP S x
  |[],i,S,b,H,hl,hp,ht => ⟨H,rfl,rfl,rfl,λ_ => .rfl⟩
  |row :: l,i,S,b,H,hl,hp,ht => by
    simp only[List.length_cons]at hl;obtain⟨h1,e1,e2,e3,e4⟩ := InvB.tellRow hm (i := i) (by omega) row H hp (λs hs => ht 0 row rfl s hs)
    have h := InvB.tellRows hm l (i+1) h1 (by omega) (by rw[e2];exact hp) (λj row' hj s hs => by
      have := ht (j+1) row' (by simpa using hj) s hs
      rw[show i+(j+1) = i+1+j by omega]at this
      exact⟨(e4 _).2 this.1,this.2⟩)
    simp only[F.tellRows,sumL];refine⟨?_,by rw[h.2.1,e1],by rw[h.2.2.1,e2],by rw[h.2.2.2.1,e3],λx => (h.2.2.2.2 x).trans (e4 x)⟩
    have := h.1;rwa[show b+row.length+sumL l = b+(row.length+sumL l) by omega]at this
theorem InvB.done_in(H : InvB m sz T S r n b){p : Nat×Nat}(h : doneP S p) : InP m sz p := by
  obtain⟨k,hk⟩ := h;obtain⟨h1,h2⟩ := H.marks p k true hk;rw[<- h1];exact h2.pl
theorem sumL_set : ∀(l : List (List Nat))(i : Nat)(row : List Nat)(x : Nat),l[i]? = some row -> sumL (l.set i (row ++ [x])) = sumL l+1
  |[],i,row,x,h => by simp at h
  |r0 :: l,0,row,x,h => by simp at h;subst h;simp[sumL];omega
  |r0 :: l,i+1,row,x,h => by
    simp only[List.getElem?_cons_succ]at h;simp only[List.set_cons_succ,sumL,sumL_set l i row x h];omega
theorem InvB.take(H : InvB m sz T S r n b)(h : 0<S.q.length) : InvB m sz T (takeP S).2 r n (b-1) /\ SOK m sz (takeP S).2 (takeP S).1 := by
  have hp := take_perm h;have mono : ∀{x : Stp},SOK m sz S x -> SOK m sz (takeP S).2 x := λh => h.mono (λ_ h => h) (λ_ h => h)
  refine⟨{ lenm := H.lenm,q := λs hs => mono (H.q s (hp.mem_iff.1 (List.mem_cons_of_mem _ hs))),marks := λp k d hk => ⟨(H.marks p k d hk).1,mono (H.marks p k d hk).2⟩,rank := H.rank,met := H.met,trees := H.trees,treesN := H.treesN,found := H.found,qlen := ?_,sumn := H.sumn,qm := λs hs => H.qm s (hp.mem_iff.1 (List.mem_cons_of_mem _ hs)) },mono (H.q _ (hp.mem_iff.1 (List.mem_cons_self ..)))⟩
  have := H.qlen;simp only[takeP,List.length_take,popS_len];omega
def updR(r : Nat×Nat -> Nat)(p : Nat×Nat)(n : Nat) : Nat×Nat -> Nat := λx => if x = p then n else r x
theorem InvB.mark(H : InvB m sz T S r n b){s : Stp}(hs : SOK m sz S s)(hd : ¬ doneP S s.pl){met : List (List Nat)}(hlen : met.length = S.met.length)(hsum : sumL met <= sumL S.met+1)(hmet : ∀i row,met[i]? = some row -> ∀t ∈ row,(i,t) = s.pl \/ ∃row',S.met[i]? = some row' /\ t ∈ row') :
    InvB m sz T { S with marks := aput s.pl (s,true) S.marks,met := met } (updR r s.pl n) (n+1) b /\ ∀p,doneP { S with marks := aput s.pl (s,true) S.marks,met := met } p ↔ (p = s.pl \/ doneP S p) := by
  have hdn : ∀p,doneP { S with marks := aput s.pl (s,true) S.marks,met := met } p ↔ (p = s.pl \/ doneP S p) := by
    intro p;simp only[doneP,aget_aput];by_cases he : p = s.pl
    ·simp[he]
    ·simp[he]
  have mono : ∀{x : Stp},SOK m sz S x -> SOK m sz { S with marks := aput s.pl (s,true) S.marks,met := met } x := λh => h.mono (λ_ h => h) (λp h => (hdn p).2 (.inr h))
  have hr : ∀p,doneP S p -> updR r s.pl n p = r p := λp hp => by unfold updR;rw[if_neg (λ(e : p = s.pl) => hd (e ▸ hp))]
  have hqm : ∀x ∈ S.q,∃e,aget x.pl (aput s.pl (s,true) S.marks) = some e := λx hx => by
    obtain⟨e,he⟩ := H.qm x hx;rw[aget_aput];split
    ·exact⟨_,rfl⟩
    ·exact⟨e,he⟩
  refine⟨{ lenm := by rw[<- H.lenm];exact hlen,q := λx hx => mono (H.q x hx),marks := ?_,rank := ?_,met := ?_,trees := H.trees,treesN := H.treesN,found := λt c hc => ?_,qlen := H.qlen,sumn := (by have := H.sumn;simp only;omega),qm := hqm },hdn⟩
  ·intro p k d hk
   simp only[aget_aput]at hk;split at hk
   ·rename_i he
    simp only[Option.some.injEq,Prod.mk.injEq]at hk;obtain⟨rfl,_⟩ := hk;exact⟨he.symm,mono hs⟩
   ·exact⟨(H.marks p k d hk).1,mono (H.marks p k d hk).2⟩
  ·intro p k hk
   simp only[aget_aput]at hk;split at hk
   ·rename_i he
    simp only[Option.some.injEq,Prod.mk.injEq,and_true]at hk;subst hk;rw[he];have e1 : updR r s.pl n s.pl = n := by simp[updR]
    rw[e1];refine⟨by omega,λh0 => ?_⟩
    rcases hs.back with⟨h1,_⟩|⟨_,_,_,h4⟩
    ·omega
    ·refine⟨?_,λc hc => ?_⟩
     ·rw[hr _ h4]
      obtain⟨k',hk'⟩ := h4;exact(H.rank _ _ hk').1
     ·have h5 := (H.found _ _ hc).2.2.2
      rw[hr _ h5];obtain⟨k',hk'⟩ := h5;exact(H.rank _ _ hk').1
   ·have hp : doneP S p := ⟨k,hk⟩
    obtain⟨h1,h2⟩ := H.rank p k hk;rw[hr p hp];refine⟨by omega,λh0 => ?_⟩
    obtain⟨h3,h4⟩ := h2 h0;rcases(H.marks p k true hk).2.back with⟨g1,_⟩|⟨_,_,_,g4⟩
    ·omega
    ·rw[hr _ g4]
     refine⟨h3,λc hc => ?_⟩
     rw[hr _ (H.found _ _ hc).2.2.2];exact h4 c hc
  ·intro i row h t ht
   rcases hmet i row h t ht with h1|⟨row',h1,h2⟩
   ·exact(hdn _).2 (.inl h1)
   ·exact(hdn _).2 (.inr (H.met i row' h1 t h2))
  ·obtain⟨a1,a2,a3,a4⟩ := H.found t c hc
   exact⟨a1,a2,a3,(hdn _).2 (.inr a4)⟩
theorem InvB.find(H : InvB m sz T S r n b){t : Nat}(ht : t<T)(hn : aget t S.found = none){c : Src}(hc : c.num<m.labels)(hcc : c.cost <= topC)(hd : doneP S (c.num,c.st)) :
    InvB m sz T { S with found := aput t c S.found,trees := S.trees ++ [t] } r n b := by
  have hnt : t ∉ S.trees := λh => by obtain⟨_,c',h2⟩ := H.trees t h;rw[hn]at h2;cases h2
  have mono : ∀{x : Stp},SOK m sz S x -> SOK m sz { S with found := aput t c S.found,trees := S.trees ++ [t] } x := λh => h.mono (λ_ h => by simp[h]) (λp h => h)
  refine{ lenm := H.lenm,q := λx hx => mono (H.q x hx),marks := λp k d hk => ⟨(H.marks p k d hk).1,mono (H.marks p k d hk).2⟩,rank := ?_,met := H.met,trees := ?_,treesN := ?_,found := ?_,qlen := H.qlen,sumn := H.sumn,qm := H.qm }
  ·intro p k hk
   obtain⟨h1,h2⟩ := H.rank p k hk;refine⟨h1,λh0 => ⟨(h2 h0).1,λc' hc' => ?_⟩⟩
   simp only[aget_aput]at hc';split at hc'
   ·rename_i he
    rcases(H.marks p k true hk).2.back with⟨g1,_⟩|⟨_,_,g3,_⟩
    ·omega
    ·exact(hnt (he ▸ g3)).elim
   ·exact(h2 h0).2 c' hc'
  ·intro x hx
   simp only[List.mem_append,List.mem_singleton]at hx;simp only[aget_aput];rcases hx with hx|rfl
   ·refine⟨(H.trees x hx).1,?_⟩
    split
    ·exact⟨_,rfl⟩
    ·exact(H.trees x hx).2
   ·exact⟨ht,c,by simp⟩
  ·simp only
   rw[List.nodup_append];exact⟨H.treesN,by simp,λa ha b' hb => by simp at hb;subst hb;exact λe => hnt (e ▸ ha)⟩
  ·intro x c' h
   simp only[aget_aput]at h;split at h
   ·rename_i he
    cases h;exact⟨by simp[he],hc,hcc,hd⟩
   ·obtain⟨a1,a2,a3,a4⟩ := H.found x c' h
    exact⟨by simp[a1],a2,a3,a4⟩
theorem countP_lt{α : Type}{p q : α -> Bool} : ∀{l : List α},(∀x ∈ l,q x = true -> p x = true) -> (∃x ∈ l,p x = true /\ q x = false) -> l.countP q+1 <= l.countP p
  |[],_,h => by obtain⟨x,h,_⟩ := h;cases h
  |y :: l,h1,⟨x,hx,h2,h3⟩ => by
    have hle : l.countP q <= l.countP p := by
      refine List.countP_mono_left ?_;intro z hz;exact h1 z (by simp[hz])
    simp only[List.countP_cons];rcases List.mem_cons.1 hx with rfl|hx
    ·simp only[h2,h3,if_true,Bool.false_eq_true,if_false];omega
    ·have := countP_lt (l := l) (λz hz => h1 z (by simp[hz])) ⟨x,hx,h2,h3⟩
     have h4 := h1 y (by simp)
     cases hy : q y with
     |false => simp only[Bool.false_eq_true,if_false];split <;> omega
     |true => simp only[h4 hy,if_true];omega
def allP(m : Mch)(sz : Nat -> Nat) : List (Nat×Nat) := (List.range (m.labels+1)).flatMap λn => (List.range (sz n)).map λs => (n,s)
theorem mem_allP{p : Nat×Nat} : p ∈ allP m sz ↔ InP m sz p := by
  unfold allP InP;simp only[List.mem_flatMap,List.mem_range,List.mem_map];constructor
  ·rintro⟨n,h1,s,h2,rfl⟩;exact⟨by simp only;omega,h2⟩
  ·rintro⟨h1,h2⟩;exact⟨p.1,by omega,p.2,h2,rfl⟩
def ndP(m : Mch)(sz : Nat -> Nat)(S : FSK) : Nat := (allP m sz).countP λp => !(markOf S p).2
theorem ndP_congr{S' : FSK}(h : ∀p,doneP S' p ↔ doneP S p) : ndP m sz S' = ndP m sz S := by
  unfold ndP;congr 1;funext p;have := h p;rw[doneP_iff,doneP_iff]at this;cases h1 : (markOf S' p).2 <;> cases h2 : (markOf S p).2 <;> simp_all
theorem ndP_lt{S' : FSK}{p : Nat×Nat}(hp : InP m sz p)(h1 : ¬ doneP S p)(h2 : doneP S' p)(h : ∀x,doneP S x -> doneP S' x) : ndP m sz S'+1 <= ndP m sz S := by
  unfold ndP;refine countP_lt (λx _ hx => ?_) ⟨p,mem_allP.2 hp,?_,?_⟩
  ·have := h x
   rw[doneP_iff,doneP_iff]at this;cases h3 : (markOf S x).2 <;> simp_all
  ·rw[doneP_iff]at h1;simpa using h1
  ·rw[doneP_iff]at h2;simpa using h2
theorem nodup_lt : ∀(T : Nat){l : List Nat},l.Nodup -> (∀x ∈ l,x<T) -> l.length <= T
  |0,[],_,_ => by simp
  |0,x :: l,_,h => by have := h x (by simp);omega
  |T+1,l,hn,h => by
    have h1 := nodup_lt T (l := l.erase T) (hn.erase _) (λx hx => by
      have h2 := (List.Nodup.mem_erase_iff hn).1 hx;have := h x h2.2;have := h2.1;omega)
    have := List.length_erase_le (a := T) (l := l);rw[List.length_erase]at h1;split at h1 <;> omega
structure InvF (m : Mch) (sz : Nat -> Nat) (T : Nat) (S : FSK) (r : Nat×Nat -> Nat) (n : Nat) : Prop where
  b : InvB m sz T S r n (m.labels+1+sumL S.met*S.trees.length)
  n : n+ndP m sz S <= (allP m sz).length
theorem InvF.sum(H : InvF m sz T S r n) : sumL S.met <= (allP m sz).length := by have := H.b.sumn;have := H.n;omega
theorem InvF.trees(H : InvF m sz T S r n) : S.trees.length <= T := nodup_lt T H.b.treesN λx hx => (H.b.trees x hx).1
theorem InvF.take(H : InvF m sz T S r n)(h : 0<S.q.length) : InvF m sz T (takeP S).2 r n /\ SOK m sz (takeP S).2 (takeP S).1 := by
  obtain⟨h1,h2⟩ := H.b.take h;exact⟨⟨{ h1 with qlen := Nat.le_trans h1.qlen (by simp only[takeP];omega) },H.n⟩,h2⟩
theorem InvF.known(H : InvF m sz T S r n)(h : 0<S.q.length) : ∃e,aget (takeP S).1.pl S.marks = some e := H.b.qm _ ((take_perm h).mem_iff.1 (List.mem_cons_self ..))
theorem stepP_met(hm : MchOK m sz T)(H : InvF m sz T S r n){s : Stp}(hs : SOK m sz S s) : ∃row,S.met[s.num]? = some row := ⟨_,List.getElem?_eq_getElem (by rw[H.b.lenm];have := hs.pl.1;simp only[Stp.pl]at this;omega)⟩
def markP(S : FSK)(s : Stp) : FSK := { S with marks := aput s.pl (s,true) S.marks,met := S.met.set s.num ((S.met[s.num]?).getD [] ++ [s.st]) }
theorem markP_inv(H : InvF m sz T S r n){s : Stp}(hs : SOK m sz S s)(hd : ¬ doneP S s.pl) :
    InvB m sz T (markP S s) (updR r s.pl n) (n+1) (m.labels+1+sumL S.met*S.trees.length) /\ (∀p,doneP (markP S s) p ↔ (p = s.pl \/ doneP S p)) /\ sumL (markP S s).met = sumL S.met+1 /\ ndP m sz (markP S s)+1 <= ndP m sz S := by
  have hlt : s.num<S.met.length := by rw[H.b.lenm];have := hs.pl.1;simp only[Stp.pl]at this;omega
  obtain⟨row,hrow⟩ := av hlt;have hsum := sumL_set S.met s.num row s.st hrow
  obtain⟨h1,h2⟩ := H.b.mark hs hd (met := S.met.set s.num ((S.met[s.num]?).getD [] ++ [s.st])) (by simp) (by rw[hrow];simp only[Option.getD_some];omega) (by
    intro i row' hi t ht;rw[List.getElem?_set]at hi;split at hi
    ·rename_i he
     subst he;simp only[hlt,if_true,Option.some.injEq,hrow,Option.getD_some]at hi;subst hi;simp only[List.mem_append,List.mem_singleton]at ht;rcases ht with ht|rfl
     ·exact .inr ⟨row,hrow,ht⟩
     ·exact .inl rfl
    ·exact .inr ⟨row',hi,ht⟩)
  refine⟨h1,h2,by simp only[markP,hrow,Option.getD_some];exact hsum,ndP_lt hs.pl hd ((h2 _).2 (.inl rfl)) λx hx => (h2 x).2 (.inr hx)⟩
theorem stepP_eq(m : Mch)(S : FSK)(s : Stp) : stepPK m S s = if ¬ s.num = m.labels /\ aget (m.out s.num s.st) (goOnsP m s.pl (markP S s) (markP S s).trees).found = none then tellP m (m.out s.num s.st) ⟨s.num,s.st,addC s.cost 1⟩ (goOnsP m s.pl (markP S s) (markP S s).trees)else goOnsP m s.pl (markP S s) (markP S s).trees := rfl
theorem InvF.step(hm : MchOK m sz T)(H : InvF m sz T S r n){s : Stp}(hs : SOK m sz S s)(hd : ¬ doneP S s.pl) :
    InvF m sz T (stepPK m S s) (updR r s.pl n) (n+1) /\ ndP m sz (stepPK m S s)+1 <= ndP m sz S := by
  obtain⟨h1,h2,h3,h4⟩ := markP_inv H hs hd;obtain⟨g1,g2,g3,g4,g5⟩ := InvB.goOns hm hs.pl (markP S s).trees h1 ((h2 _).2 (.inl rfl)) (λ_ h => h)
  have hn := H.n;have e0 : (markP S s).trees = S.trees := rfl;rw[stepP_eq];split
  ·rename_i hc
   have hnum : s.num<m.labels := by have := hs.pl.1;simp only[Stp.pl]at this;omega
   have hf := g1.find (t := m.out s.num s.st) (hm.out _ hnum _ hs.pl.2) hc.2 (c := ⟨s.num,s.st,addC s.cost 1⟩) hnum (addC_le _ _) ((g5 _).2 ((h2 _).2 (.inl rfl)))
   obtain⟨k1,k2,k3,k4,k5⟩ := InvB.tellRows hm (tree := m.out s.num s.st) (goOnsP m s.pl (markP S s) (markP S s).trees).met 0 hf (by rw[hf.lenm.symm];simp) (by simp) (λj row hj t ht => by
     have := hf.met j row hj t ht;rw[Nat.zero_add];exact⟨this,(hf.done_in this).2⟩)
   have e5 : ndP m sz (tellP m (m.out s.num s.st) ⟨s.num,s.st,addC s.cost 1⟩ (goOnsP m s.pl (markP S s) (markP S s).trees)) = ndP m sz (markP S s) := ndP_congr λp => (k5 p).trans (g5 p)
   refine⟨⟨?_,by rw[e5];omega⟩,by rw[e5];exact h4⟩
   unfold tellP;refine{ k1 with qlen := Nat.le_trans k1.qlen ?_ }
   rw[k2,k3];have e6 := congrArg sumL g2;have e7 : (goOnsP m s.pl (markP S s) (markP S s).trees).trees.length = S.trees.length := congrArg List.length (g3.trans e0);have e8 : (markP S s).trees.length = S.trees.length := rfl;simp only[List.length_append,List.length_singleton,e6,e7,e8,h3];rw[Nat.mul_add,Nat.add_mul];omega
  ·have e5 : ndP m sz (goOnsP m s.pl (markP S s) (markP S s).trees) = ndP m sz (markP S s) := ndP_congr g5
   refine⟨⟨{ g1 with qlen := Nat.le_trans g1.qlen ?_ },by rw[e5];omega⟩,by rw[e5];exact h4⟩
   rw[g2,g3,h3,e0,Nat.add_mul];omega
theorem run_some(hm : MchOK m sz T) : ∀(N k : Nat){S : FSK}{r : Nat×Nat -> Nat}{n : Nat},InvF m sz T S r n -> ndP m sz S <= N -> S.q.length <= k -> ∃f R,runP m f S = some R := by
  intro N
  induction N with
  |zero =>
    intro k
    induction k with
    |zero => intro S r n H _ hk;exact⟨1,_,by simp only[runP,show S.q.length = 0 by omega,if_true];rfl⟩
    |succ k ihk =>
      intro S r n H hN hk;by_cases h0 : S.q.length = 0
      ·exact⟨1,_,by simp only[runP,h0,if_true];rfl⟩
      ·obtain⟨H1,hs⟩ := H.take (by omega)
       by_cases hd : doneP (takeP S).2 (takeP S).1.pl
       ·obtain⟨f,R,hf⟩ := ihk H1 hN (by simp[takeP,popS_len];omega)
        exact⟨f+1,R,by simp only[runP,if_neg h0,if_pos (doneP_iff.1 hd)];exact hf⟩
       ·have := (H1.step hm hs hd).2
        have : ndP m sz (takeP S).2 = ndP m sz S := rfl;omega
  |succ N ih =>
    intro k
    induction k with
    |zero => intro S r n H _ hk;exact⟨1,_,by simp only[runP,show S.q.length = 0 by omega,if_true];rfl⟩
    |succ k ihk =>
      intro S r n H hN hk;by_cases h0 : S.q.length = 0
      ·exact⟨1,_,by simp only[runP,h0,if_true];rfl⟩
      ·obtain⟨H1,hs⟩ := H.take (by omega)
       by_cases hd : doneP (takeP S).2 (takeP S).1.pl
       ·obtain⟨f,R,hf⟩ := ihk H1 hN (by simp[takeP,popS_len];omega)
        exact⟨f+1,R,by simp only[runP,if_neg h0,if_pos (doneP_iff.1 hd)];exact hf⟩
       ·by_cases hr : (takeP S).1.num = m.labels /\ m.out (takeP S).1.num (takeP S).1.st = 1
        ·exact⟨1,_,by simp only[runP,if_neg h0,if_neg (λh => hd (doneP_iff.2 h)),if_pos hr];rfl⟩
        ·obtain⟨h1,h2⟩ := H1.step hm hs hd
         obtain⟨f,R,hf⟩ := ih _ h1 (by have : ndP m sz (takeP S).2 = ndP m sz S := rfl;omega) (Nat.le_refl _)
         exact⟨f+1,R,by simp only[runP,if_neg h0,if_neg (λh => hd (doneP_iff.2 h)),if_neg hr];exact hf⟩
theorem run_end(hm : MchOK m sz T) : ∀(f : Nat){S : FSK}{r : Nat×Nat -> Nat}{n : Nat},InvF m sz T S r n -> ∀{x : Option Stp}{S' : FSK},runP m f S = some (x,S') -> ∃r' n' b',InvB m sz T S' r' n' b' /\ n' <= (allP m sz).length /\ ∀s,x = some s -> aget s.pl S'.marks = some (s,true) /\ s.num = m.labels /\ s.cost <= topC /\ m.out s.num s.st = 1
  |0,S,r,n,H,x,S',h => by simp[runP]at h
  |f+1,S,r,n,H,x,S',h => by
    simp only[runP]at h;split at h
    ·simp only[Option.some.injEq,Prod.mk.injEq]at h
     obtain⟨rfl,rfl⟩ := h;exact⟨r,n,_,H.b,by have := H.n;omega,λs hs => by cases hs⟩
    ·rename_i h0
     obtain⟨H1,hs⟩ := H.take (by omega)
     split at h
     ·exact run_end hm f H1 h
     ·rename_i hd
      have hd : ¬ doneP (takeP S).2 (takeP S).1.pl := λh => hd (doneP_iff.1 h)
      split at h
      ·rename_i hr
       simp only[Option.some.injEq,Prod.mk.injEq]at h;obtain⟨rfl,rfl⟩ := h;obtain⟨h1,h2⟩ := H1.b.mark hs hd (met := (takeP S).2.met) rfl (by omega) (λi row hi t ht => .inr ⟨row,hi,ht⟩)
       refine⟨_,_,_,h1,?_,λs hs' => ?_⟩
       ·have h3 := ndP_lt (m := m) (sz := sz) hs.pl hd ((h2 _).2 (.inl rfl)) (λx hx => (h2 x).2 (.inr hx))
        have := H1.n;omega
       ·simp only[Option.some.injEq]at hs'
        subst hs';exact⟨by simp[aget_aput],hr.1,hs.cost,hr.2⟩
      ·exact run_end hm f (H1.step hm hs hd).1 h
theorem begin_inv(hm : MchOK m sz T) : ∀(k i : Nat){S : FSK}{b : Nat},i+k <= m.labels+1 -> InvB m sz T S r n b -> InvB m sz T (beginS k S i) r n (b+k) /\ (beginS k S i).met = S.met /\ (beginS k S i).trees = S.trees /\ ∀x,doneP (beginS k S i) x ↔ doneP S x
  |0,i,S,b,_,H => ⟨H,rfl,rfl,λ_ => .rfl⟩
  |k+1,i,S,b,hi,H => by
    have hs : SOK m sz S ⟨i,0,0,-1,-1⟩ := ⟨⟨by simp only[Stp.pl];omega,hm.pos i (by omega)⟩,by simp[topC],.inl ⟨rfl,rfl⟩⟩
    obtain⟨h1,h2,h3,h4⟩ := begin_inv hm k (i+1) (by omega) (H.put hs)
    obtain⟨e1,e2,e3⟩ := put_met S ⟨i,0,0,-1,-1⟩;simp only[beginS];refine⟨by rwa[show b+1+k = b+(k+1) by omega]at h1,by rw[h2,e1],by rw[h3,e2],λx => (h4 x).trans (put_doneP _ _ x)⟩
theorem sumL_nil : ∀k : Nat,sumL (List.replicate k []) = 0
  |0 => rfl
  |k+1 => by simp[List.replicate_succ,sumL,sumL_nil k]
theorem beginP_inv(hm : MchOK m sz T) : InvF m sz T (beginP (m.labels+1)) (λ_ => 0) 0 := by
  have h0 : InvB m sz T ⟨[],[],List.replicate (m.labels+1) [],[],[]⟩ (λ_ => 0) 0 0 :=
    { lenm := by simp,q := λs h => (by cases h),marks := λp k d h => (by simp[aget]at h),rank := λp k h => (by simp[aget]at h),met := λi row h s hs => by
        rw[List.getElem?_replicate]at h;split at h
        ·cases h;cases hs
        ·cases h
      trees := λt h => (by cases h),treesN := List.nodup_nil,found := λt c h => (by simp[aget]at h),qlen := by simp,sumn := by simp[sumL_nil],qm := λs h => (by cases h) }
  obtain⟨h1,h2,h3,h4⟩ := begin_inv hm (m.labels+1) 0 (by omega) h0
  unfold beginP;refine⟨{ h1 with qlen := Nat.le_trans h1.qlen (by omega) },?_⟩
  rw[Nat.zero_add];exact List.countP_le_length
end
end Go.Abs.F
end
