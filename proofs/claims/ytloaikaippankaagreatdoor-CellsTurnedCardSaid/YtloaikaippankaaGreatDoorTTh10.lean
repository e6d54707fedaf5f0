/-
  The automaton of a net whose states are told apart by few classes of words: it is there, and accepts what the net does. No condition.
  What the expressions of constraints match, and how few classes of words tell their nets' states apart. No condition.
  The automata of constraints' expressions: they are there, of no more than 500 states, and accept what the expressions match. No condition.
  The automaton of schemes: it is there, of no more than 500 states. No condition.
  Constraints that may be, and their automata. No condition.
  What lang's Auto answers. No condition.
-/
import Derived.Test.YtloaikaippankaaGreatDoorTTh4
import Derived.Test.YtloaikaippankaaGreatDoorTTh8
import Derived.Test.YtloaikaippankaaGreatDoorTF1
set_option linter.unusedVariables false
set_option linter.unusedSimpArgs false
set_option linter.unusedSectionVars false
section
namespace Go.Abs
open Go.Aut
theorem Ao {e:NEdge} {c:Nat} (hc:c < 95):kT e c=tk e c:=by
 unfold kT tk loE hiE
 apply decide_eq_decide.2
 split<;>split<;>omega
theorem Rg.inv {E:List NEdge} {q:Nat} {w:List Nat} (h:Rg E [] q w):(w=[]∧NReach E 0 q)∨∃ u c e,w=u++[c]∧c < 95∧e∈E∧tk e c=true∧Rg E [] e.fr u∧NReach E e.to q:=by
 induction h with
 | start=>exact .inl ⟨rfl,.refl⟩
 | free _ he hf h2 ih=>
   rcases ih with ⟨h3,h4⟩ | ⟨u,c,e',h3,h4,h5,h6,h7,h8⟩
   · exact .inl ⟨h3,h4.step he hf h2⟩
   · exact .inr ⟨u,c,e',h3,h4,h5,h6,h7,h8.step he hf h2⟩
 | take h1 he ht hc h2 _=>exact .inr ⟨_,_,_,rfl,hc,he,ht,by rw [h2]; exact h1,.refl⟩
 | job _ hj=>cases hj
theorem Rg.reach {E:List NEdge} {p q:Nat} {u:List Nat} (h:Rg E [] p u) (hr:NReach E p q):Rg E [] q u:=by
 induction hr with
 | refl=>exact h
 | step _ he hf h2 ih=>exact .free ih he hf h2
theorem Rg.lt {E:List NEdge} {n:Nat} (h0:0 < n) (hE:∀ e∈E,e.to < n) {q:Nat} {u:List Nat} (h:Rg E [] q u):q < n:=by
 cases h with
 | start=>exact h0
 | free _ he _ _=>exact hE _ he
 | take _ he _ _ _=>exact hE _ he
 | job _ hj _ _=>cases hj
def tf (N:Net) (u:List Nat):List Nat:=u.foldl (cH (dL N)) (be N N.start)
theorem Ar (N:Net) (u:List Nat) (c:Nat):tf N (u++[c])=cH (dL N) (tf N u) c:=by simp [tf]
theorem oD {N:Net} (h:N.ok) (hs:N.start=0):∀ (m:Nat) (u:List Nat),u.length=m→(∀ c∈u,c < 95)→wOK (tf N u)∧∀ p < 512,(bg (tf N u) p=true↔Rg N.edges [] p u)
 | 0,u,hm,_=>by
   have:u=[]:=List.length_eq_zero_iff.1 hm
   subst this
   refine ⟨ea h h.start,fun p hp=>?_⟩
   simp only [tf,List.foldl_nil]
   rw [jN h h.start hp,hs]
   constructor
   · intro hr; exact Rg.reach .start hr
   · intro hr
     rcases Rg.inv hr with ⟨_,h2⟩ | ⟨u,c,e,h2,_⟩
     · exact h2
     · simp at h2
 | m + 1,u,hm,hu=>by
   obtain ⟨v,c,rfl⟩:∃ v c,u=v++[c]:=by
    rcases List.eq_nil_or_concat u with rfl | ⟨l,x,rfl⟩
    · simp at hm
    · exact ⟨l,x,by simp⟩
   have hc:c < 95:=hu c (by simp)
   obtain ⟨g1,g2⟩:=oD h hs m v (by simpa using hm) (fun d hd=>hu d (by simp [hd]))
   obtain ⟨hT1,hT2⟩:=mL h
   obtain ⟨k1,k2⟩:=m8 g1 (f:=bn (dL N) c) (fun q _=>rJ hT1 hc q)
   rw [Ar]
   refine ⟨k1,fun p hp=>?_⟩
   rw [show cH (dL N) (tf N v) c=ofW (bn (dL N) c) (tf N v) from rfl,k2 p hp]
   constructor
   · rintro ⟨q,hq,h1,h2⟩
     obtain ⟨e,he,h3,h4,h5⟩:=(hT2 c q hc p hp).1 h2
     have h6:=(jN h (h.ends e he).2.1 hp).1 h5
     rw [Ao hc] at h4
     exact Rg.reach (Rg.take ((g2 q hq).1 h1) he h4 hc h3) h6
   · intro hr
     rcases Rg.inv hr with ⟨h2,_⟩ | ⟨v',c',e,h2,h3,h4,h5,h6,h7⟩
     · simp at h2
     · obtain ⟨rfl,h2⟩:=List.append_inj' h2 rfl
       simp at h2
       subst h2
       have hq:=Rg.lt (by have:=h.pos; exact this) (fun e he=>(h.ends e he).2.1) h6
       have hle:=h.le
       refine ⟨e.fr,by omega,(g2 _ (by omega)).2 h6,(hT2 c e.fr hc p hp).2 ⟨e,h4,rfl,by rw [Ao hc]; exact h5,(jN h (h.ends e h4).2.1 hp).2 h7⟩⟩
theorem HN {N:Net} (h:N.ok) (hs:N.start=0) {k:List Nat→Nat} {m:Nat} (hm:m≤500) (hk:∀ u:List Nat,(∀ c∈u,c < 95)→k u < m) (hsat:∀ q < N.n,sat (fun u v=>k u=k v) (Rg N.edges [] q)):
 ∃ b,ofP N=some b∧b.ok∧b.n≤500∧∀ w:List Nat,(∀ c∈w,c < 95)→(b.L 0 w=true↔Rg N.edges [] N.stop w):=by
 have hle:=h.le
 have same:∀ u v:List Nat,(∀ c∈u,c < 95)→(∀ c∈v,c < 95)→k u=k v→tf N u=tf N v:=by
  intro u v hu hv huv
  obtain ⟨g1,g2⟩:=oD h hs _ u rfl hu
  obtain ⟨f1,f2⟩:=oD h hs _ v rfl hv
  refine Hv g1 f1 fun q hq=>?_
  rw [Bool.eq_iff_iff,g2 q hq,f2 q hq]
  have lt:∀ {w:List Nat},Rg N.edges [] q w→q < N.n:=fun hr=>Rg.lt h.pos (fun e he=>(h.ends e he).2.1) hr
  exact ⟨fun hr=>hsat q (lt hr) u v hu hv huv hr,fun hr=>hsat q (lt hr) v u hv hu huv.symm hr⟩
 obtain ⟨D,hDd⟩:∃ D:List Nat→Prop,D=fun x=>∃ u:List Nat,(∀ c∈u,c < 95)∧x=tf N u:=⟨_,rfl⟩
 have hD:∀ q c,D q→c < 95→D (cH (dL N) q c):=by
  intro q c hq hc
  rw [hDd] at hq ⊢
  obtain ⟨u,hu,rfl⟩:=hq
  refine ⟨u++[c],fun d hd=>?_,(Ar N u c).symm⟩
  rcases List.mem_append.1 hd with hd | hd
  · exact hu d hd
  · simp at hd; subst hd; exact hc
 have hN:∀ l:List (List Nat),(∀ x∈l,D x)→gF eqB l→l.length≤500:=by
  intro l hl ha
  have hnd:=er ha
  open Classical in
  obtain ⟨g,hg⟩:∃ g:List Nat→List Nat,∀ x,D x→(∀ c∈g x,c < 95)∧x=tf N (g x):=by
   refine ⟨fun x=>if hx:∃ u:List Nat,(∀ c∈u,c < 95)∧x=tf N u then hx.choose else [],fun x hx=>?_⟩
   rw [hDd] at hx
   simp only [dif_pos hx]
   exact hx.choose_spec
  have h1:(l.map fun x=>k (g x)).Nodup:=by
   unfold List.Nodup
   rw [List.pairwise_map]
   refine List.Pairwise.imp_of_mem ?_ hnd
   intro a b ha hb hab he
   obtain ⟨a1,a2⟩:=hg a (hl a ha)
   obtain ⟨b1,b2⟩:=hg b (hl b hb)
   exact hab (by rw [a2,b2]; exact same _ _ a1 b1 he)
  have h2:=cA m _ h1 (fun x hx=>by
   simp only [List.mem_map] at hx
   obtain ⟨y,hy,rfl⟩:=hx
   exact hk _ (hg y (hl y hy)).1)
  simp at h2
  omega
 have h0:D (be N N.start):=by rw [hDd]; exact ⟨[],by simp,rfl⟩
 obtain ⟨l,rows,hw,hI,hl0⟩:=qr b6 hD hN h0
 have hpos:0 < l.length:=(List.getElem?_eq_some_iff.1 hl0).1
 obtain ⟨haok,hlang⟩:=ru (good:=fun s=>bg s N.stop) hI hpos
 obtain ⟨b,hb1,hb2,hb3⟩:=EK haok
 have hll:l.length≤500:=hN l hI.dom hI.apart
 refine ⟨b,?_,hb2.ok,?_,fun w hww=>?_⟩
 · unfold ofP
   rw [hw]
   exact hb1
 · have:(Aut.mk rows (l.map fun s=>bg s N.stop)).n=l.length:=hI.len
   omega
 · rw [hb2.lang (mN _ _ _),hlang w 0 _ hww hl0]
   have hst:=h.stop
   exact (oD h hs _ w rfl hww).2 N.stop (by omega)
end Go.Abs
end
section
namespace Go.Abs
open Go.Aut
attribute [-simp] getElem?_pos Option.not_isSome List.map_map cl nt
def sw (s:Str):List Nat:=s.map fun c=>c.toNat - 32
def dp (s:Str):Prop:=∀ c∈s,32≤c.toNat∧c.toNat≤126
theorem jC {s:Str} (h:dp s):∀ c∈sw s,c < 95:=fun c hc=>by
 simp only [sw,List.mem_map] at hc
 obtain ⟨x,hx,rfl⟩:=hc
 have:=h x hx
 omega
theorem FG:∀ {s t:Str},dp s→dp t→sw s=sw t→s=t
 | [],[],_,_,_=>rfl
 | [],y::t,_,_,h=>by simp [sw] at h
 | x::s,[],_,_,h=>by simp [sw] at h
 | x::s,y::t,hs,ht,h=>by
   simp only [sw,List.map_cons,List.cons.injEq] at h
   have h1:=hs x (by simp)
   have h2:=ht y (by simp)
   have:x=y:=by rw [←UInt8.toNat_inj]; omega
   rw [this,FG (s:=s) (t:=t) (fun c hc=>hs c (by simp [hc])) (fun c hc=>ht c (by simp [hc])) h.2]
theorem IE (s t:Str):sw (s++t)=sw s++sw t:=by simp [sw]
theorem Do {c:Nat} (hc:c < 95) {u:List Nat}:den (.set (cx c)) u↔u=[c]:=by
 simp only [den,cx]
 constructor
 · rintro ⟨d,rfl,hd⟩
   rw [List.getElem?_set] at hd
   split at hd
   · rename_i h; rw [h]
   · rw [List.getElem?_replicate] at hd
     split at hd<;>simp at hd
 · rintro rfl
   exact ⟨c,rfl,by rw [List.getElem?_set_self (by rw [List.length_replicate]; exact hc)]⟩
theorem Id {l:List Rx} {u:List Nat}:den (ik l) u↔lA l u:=by
 rcases l with _ | ⟨p,_ | ⟨q,l⟩⟩
 · simp only [ik,den]
 · simp only [ik]; exact E8.symm
 · simp only [ik,den]
theorem G8 {u:List Nat}:¬den tY u:=by
 simp only [tY,den]
 rintro ⟨c,_,hc⟩
 rw [List.getElem?_replicate] at hc
 split at hc<;>simp at hc
theorem rj {l:List Rx} {u:List Nat}:den (aM l) u↔∃ p∈l,den p u:=by
 rcases l with _ | ⟨p,_ | ⟨q,l⟩⟩
 · simp only [aM]; simp [G8]
 · simp [aM]
 · simp only [aM,den]; exact w4
theorem Bm:∀ {s:Str},dp s→∀ {u:List Nat},lA (s.map fun c=>.set (cx (c.toNat - 32))) u↔u=sw s
 | [],_,u=>by simp [lA,sw]
 | x::s,hs,u=>by
   have hx:=hs x (by simp)
   have ih:=@Bm s (fun c hc=>hs c (by simp [hc]))
   simp only [List.map_cons,lA,cat,sw]
   constructor
   · rintro ⟨a,b,rfl,h1,h2⟩
     rw [(Do (by omega)).1 h1,ih.1 h2]
     simp [sw]
   · rintro rfl
     exact ⟨[x.toNat - 32],sw s,by simp [sw],(Do (by omega)).2 rfl,ih.2 rfl⟩
theorem vQ {s:Str} (hs:dp s) {u:List Nat}:den (tB s) u↔u=sw s:=by
 rw [tB,Id]; exact Bm hs
theorem rH {bs:List Bool} {u:List Nat}:Star (den (.set bs)) u↔∀ c∈u,bs[c]?=some true:=by
 constructor
 · intro h
   induction h with
   | nil=>simp
   | snoc _ h2 ih=>
     simp only [den] at h2
     obtain ⟨c,rfl,hc⟩:=h2
     intro d hd
     rcases List.mem_append.1 hd with hd | hd
     · exact ih d hd
     · simp at hd; subst hd; exact hc
 · intro h
   have:∀ (m:Nat) (u:List Nat),u.length=m→(∀ c∈u,bs[c]?=some true)→Star (den (.set bs)) u:=by
    intro m
    induction m with
    | zero=>intro u hu _; rw [List.length_eq_zero_iff.1 hu]; exact .nil
    | succ m ih=>
      intro u hu hc
      obtain ⟨l,x,rfl⟩:∃ l x,u=l++[x]:=by
       rcases List.eq_nil_or_concat u with rfl | ⟨l,x,rfl⟩
       · simp at hu
       · exact ⟨l,x,by simp⟩
      refine .snoc (ih l (by simpa using hu) fun c hcm=>hc c (by simp [hcm])) ?_
      simp only [den]
      exact ⟨x,rfl,hc x (by simp)⟩
   exact this _ u rfl h
theorem yp {c:Nat}:J4[c]?=some true↔c < 95:=by
 rw [J4,List.getElem?_replicate]
 split<;>simp [*]
theorem wH {d c:Nat}:(LJ d)[c]?=some true↔c < 95∧c≠d:=by
 rw [LJ,List.getElem?_set]
 split
 · rename_i h
   subst h
   split<;>simp
 · rename_i h
   rw [yp]
   constructor
   · intro h2; exact ⟨h2,fun e=>h e.symm⟩
   · intro h2; exact h2.1
theorem Bl {p:Rx} {u:List Nat}:den (.rep p 42) u↔Star (den p) u:=by simp only [den,if_neg (show ¬(42:Nat)=63 by omega),if_true]
theorem Ic {u:List Nat}:den rx7 u↔∀ c∈u,c < 95:=by
 rw [rx7,Bl,rH]
 exact forall₂_congr fun c _=>yp
theorem Pc {u:List Nat}:den rx8 u↔∀ c∈u,c < 95∧c≠26:=by
 rw [rx8,Bl,rH]
 exact forall₂_congr fun c _=>wH
theorem E6 {ws:List Str} (hs:∀ w∈ws,dp w) {u:List Nat}:den (aM (ws.map (i3 []))) u↔∃ w∈ws,u=sw w:=by
 rw [rj]
 constructor
 · rintro ⟨p,hp,h⟩
   obtain ⟨w,hw,rfl⟩:=List.mem_map.1 hp
   rw [i3,List.append_nil] at h
   exact ⟨w,hw,(vQ (hs w hw)).1 h⟩
 · rintro ⟨w,hw,rfl⟩
   refine ⟨_,List.mem_map.2 ⟨w,hw,rfl⟩,?_⟩
   rw [i3,List.append_nil]
   exact (vQ (hs w hw)).2 rfl
theorem td {w:Str} (h:dp w):dp (w++[58]):=fun c hc=>by
 rcases List.mem_append.1 hc with hc | hc
 · exact h c hc
 · simp at hc; subst hc; decide
theorem wj (w:Str):sw (w++[58])=sw w++[26]:=by simp [sw]
theorem E7 {ws:List Str} (hs:∀ w∈ws,dp w) {u:List Nat}:den (aM (ws.map (i3 [58]))) u↔∃ w∈ws,u=sw w++[26]:=by
 rw [rj]
 constructor
 · rintro ⟨p,hp,h⟩
   obtain ⟨w,hw,rfl⟩:=List.mem_map.1 hp
   exact ⟨w,hw,by rw [←wj]; exact (vQ (td (hs w hw))).1 h⟩
 · rintro ⟨w,hw,rfl⟩
   refine ⟨_,List.mem_map.2 ⟨w,hw,rfl⟩,?_⟩
   rw [i3,←wj]
   exact (vQ (td (hs w hw))).2 rfl
theorem Ib {ws:List Str} (hs:∀ w∈ws,dp w) {u:List Nat}:den (BN ws) u↔(∀ c∈u,c < 95∧c≠26)∨∃ w∈ws,∃ r:List Nat,u=sw w++[26]++r∧∀ c∈r,c < 95:=by
 rw [BN,rj]
 simp only [List.mem_cons,List.not_mem_nil,or_false,exists_eq_or_imp,exists_eq_left,Pc,Id,lA,cat,E7 hs,Ic]
 refine or_congr_right ?_
 constructor
 · rintro ⟨a,b,rfl,⟨w,hw,rfl⟩,c,d,rfl,h1,rfl⟩
   exact ⟨w,hw,c,by simp,h1⟩
 · rintro ⟨w,hw,r,rfl,h⟩
   exact ⟨sw w++[26],r,rfl,⟨w,hw,rfl⟩,r,[],by simp,h,rfl⟩
def jT (x:Rx) (b:Aut):Prop:=∃ N,D6 x=some N∧N.ok∧N.edges.length≤1000000∧ofP N=some b∧b.ok∧b.n≤500∧∀ w:List Nat,(∀ c∈w,c < 95)→(b.L 0 w=true↔den x w)
theorem LK {cls:List Nat→List Nat→Prop} {x:Rx} {N:Net} (h:NetSpec cls x N) (hf:bW x≤498):N.ok:=
 ⟨by rw [h.n]; omega,by rw [h.n]; omega,by rw [h.start,h.n]; omega,by rw [h.stop,h.n]; omega,fun e he=>by
   have h1:=h.edges e he
   have h2:=h.bytes e he
   exact ⟨h1.1,h1.2,h2.1,h2.2⟩⟩
theorem Fi {x:Rx} (hw:wfR x=true) (hf:bW x≤498) (hz:br x≤10000) {k:List Nat→Nat} {m:Nat} (hm:m≤500) (hk:∀ u:List Nat,(∀ c∈u,c < 95)→k u < m)
 (h0:sat (fun u v=>k u=k v) fun u=>u=[]) (h1:sat (fun u v=>k u=k v) (den x)) (h2:dM (fun u v=>k u=k v) (fun u=>u=[]) x):∃ b,jT x b:=by
 obtain ⟨N,hN,hs⟩:=wL hw h0 h1 h2
 have hok:=LK hs hf
 obtain ⟨b,g1,g2,g3,g4⟩:=HN hok hs.start hm hk hs.sat
 refine ⟨b,N,hN,hok,by have:=hs.len; omega,g1,g2,g3,fun w hww=>?_⟩
 rw [g4 w hww,hs.stop,hs.lang w]
theorem tj (P:Lg):sat (fun u v=>u=v) P:=fun u v _ _ h hp=>h ▸ hp
mutual
theorem oF:∀ (x:Rx) (X:Lg),dM (fun u v=>u=v) X x
 | .set _,_=>by simp only [dM]
 | .seq l,X=>by simp only [dM]; exact HF l X
 | .alt l,X=>by simp only [dM]; exact HG l X
 | .rep p op,X=>by
   simp only [dM]
   split
   · exact oF p X
   · split
     · exact ⟨tj _,oF p _⟩
     · exact ⟨tj _,tj _,oF p _⟩
theorem HF:∀ (l:List Rx) (X:Lg),tl (fun u v=>u=v) X l
 | [],_=>by simp only [tl]
 | p::l,X=>by simp only [tl]; exact ⟨oF p X,.inr ⟨tj _,HF l _⟩⟩
theorem HG:∀ (l:List Rx) (X:Lg),BP (fun u v=>u=v) X l
 | [],_=>by simp only [BP]
 | p::l,X=>by simp only [BP]; exact ⟨oF p X,HG l X⟩
end
def Ah (f:Nat→Bool):Nat→Nat
 | 0=>0
 | n + 1=>2 * Ah f n + (if f n=true then 1 else 0)
theorem Ia (f:Nat→Bool):∀ n,Ah f n < 2 ^ n
 | 0=>by simp [Ah]
 | n + 1=>by have:=Ia f n; simp only [Ah,Nat.pow_succ]; split<;>omega
theorem E3 {f g:Nat→Bool}:∀ {n:Nat},Ah f n=Ah g n→∀ q < n,f q=g q
 | 0,_,q,hq=>by omega
 | n + 1,h,q,hq=>by
   simp only [Ah] at h
   have h1:Ah f n=Ah g n∧f n=g n:=by
    cases hf:f n<;>cases hg:g n<;>simp [hf,hg] at h ⊢<;>omega
   rcases Nat.lt_or_ge q n with hq2 | hq2
   · exact E3 h1.1 q hq2
   · rw [show q=n by omega]; exact h1.2
open Classical in
theorem Fh {x:Rx} (hw:wfR x=true) (hf:bW x≤6) (hz:br x≤10000):∃ b,jT x b:=by
 obtain ⟨N,hN,hs⟩:=wL hw (tj _) (tj _) (oF x _)
 have hok:=LK hs (by omega)
 obtain ⟨b,g1,g2,g3,g4⟩:=HN hok hs.start (k:=fun u=>Ah (fun q=>decide (Rg N.edges [] q u)) N.n) (m:=256) (by omega) (fun u _=>by
  have h1:=Ia (fun q=>decide (Rg N.edges [] q u)) N.n
  have h2:2 ^ N.n≤2 ^ 8:=Nat.pow_le_pow_right (by omega) (by have:=hs.n; omega)
  omega) (fun q hq u v _ _ he hr=>by
  have:=E3 he q hq
  exact of_decide_eq_true (this ▸ decide_eq_true hr))
 refine ⟨b,N,hN,hok,by have:=hs.len; omega,g1,g2,g3,fun w hww=>?_⟩
 rw [g4 w hww,hs.stop,hs.lang w]
theorem rm {s:Str} {x:Rx} (h:(s,x)∈dt):∃ b,jT x b:=by
 simp only [dt,List.mem_cons,Prod.mk.injEq,List.not_mem_nil,or_false] at h
 rcases h with ⟨_,rfl⟩ | ⟨_,rfl⟩ | ⟨_,rfl⟩ | ⟨_,rfl⟩ | ⟨_,rfl⟩ | ⟨_,rfl⟩ | ⟨_,rfl⟩ | ⟨_,rfl⟩ | ⟨_,rfl⟩
 all_goals exact Fh (by decide) (by decide) (by decide)
def F5 (l:List (List Nat)):List (List Nat):=l.flatMap fun w=>(List.range (w.length + 1)).map fun j=>w.take j
theorem Ef {l:List (List Nat)} {u:List Nat}:u∈F5 l↔∃ w∈l,∃ j,j≤w.length∧u=w.take j:=by
 simp only [F5,List.mem_flatMap,List.mem_map,List.mem_range]
 constructor
 · rintro ⟨w,hw,j,hj,rfl⟩; exact ⟨w,hw,j,by omega,rfl⟩
 · rintro ⟨w,hw,j,hj,rfl⟩; exact ⟨w,hw,j,by omega,rfl⟩
theorem wz {n:Nat}:∀ {l:List (List Nat)},(∀ w∈l,w.length≤n)→(F5 l).length≤(n + 1) * l.length
 | [],_=>by simp [F5]
 | w::l,h=>by
   have ih:=wz (l:=l) fun w hw=>h w (by simp [hw])
   have h1:=h w (by simp)
   simp only [F5,List.flatMap_cons,List.length_append,List.length_map,List.length_range,List.length_cons,Nat.mul_succ] at ih ⊢
   omega
def fo (L:List (List Nat)) (g:List Nat→Nat) (u:List Nat):Nat:=if u∈L then L.idxOf u else L.length + g u
theorem Fb {L:List (List Nat)} {g:List Nat→Nat} {u:List Nat} {n:Nat} (hg:g u < n):fo L g u < L.length + n:=by
 unfold fo
 split
 · have:=List.idxOf_lt_length_of_mem ‹u∈L›; omega
 · omega
theorem Fc {L:List (List Nat)} {g:List Nat→Nat} {u v:List Nat} (h:fo L g u=fo L g v):u=v∨(u ∉ L∧v ∉ L∧g u=g v):=by
 unfold fo at h
 split at h<;>split at h
 · rename_i h1 h2
   left
   have e1:=List.getElem_idxOf (List.idxOf_lt_length_of_mem h1)
   have e2:=List.getElem_idxOf (List.idxOf_lt_length_of_mem h2)
   rw [←e1,←e2]
   simp only [h]
 · rename_i h1 h2
   have:=List.idxOf_lt_length_of_mem h1
   omega
 · rename_i h1 h2
   have:=List.idxOf_lt_length_of_mem h2
   omega
 · rename_i h1 h2
   exact .inr ⟨h1,h2,by omega⟩
theorem wm {L:List (List Nat)} {g:List Nat→Nat} {P:Lg} (h:∀ u,P u→u∈L):sat (fun u v=>fo L g u=fo L g v) P:=fun u v _ _ he hp=>by
 rcases Fc he with rfl | ⟨h1,_⟩
 · exact hp
 · exact absurd (h u hp) h1
theorem BO {L:List (List Nat)} {g:List Nat→Nat} {P:Lg} (h:∀ u v:List Nat,(∀ c∈u,c < 95)→(∀ c∈v,c < 95)→u ∉ L→v ∉ L→g u=g v→P u→P v):sat (fun u v=>fo L g u=fo L g v) P:=fun u v hu hv he hp=>by
 rcases Fc he with rfl | ⟨h1,h2,h3⟩
 · exact hp
 · exact h u v hu hv h1 h2 h3 hp
variable {L:List (List Nat)} {g:List Nat→Nat}
theorem At:∀ (s:Str) (pre:List Nat) (Y:Lg),dp s→(∀ u,Y u→u=pre)→(∀ j,1≤j→j≤s.length→pre++sw (s.take j)∈L)→tl (fun u v=>fo L g u=fo L g v) Y (s.map fun c=>.set (cx (c.toNat - 32)))
 | [],_,_,_,_,_=>by simp only [List.map_nil,tl]
 | x::s,pre,Y,hs,hY,hL=>by
   have hx:=hs x (by simp)
   have hc:∀ u,cat Y (den (.set (cx (x.toNat - 32)))) u→u=pre++[x.toNat - 32]:=by
    rintro u ⟨a,b,rfl,h1,h2⟩
    rw [hY a h1,(Do (by omega)).1 h2]
   simp only [List.map_cons,tl,dM,true_and]
   refine .inr ⟨wm fun u hu=>?_,At s (pre++[x.toNat - 32]) _ (fun c hc=>hs c (by simp [hc])) hc fun j h1 h2=>?_⟩
   · rw [hc u hu]
     have:=hL 1 (by omega) (by simp)
     simpa [sw] using this
   · have:=hL (j + 1) (by omega) (by simp; omega)
     simpa [sw] using this
theorem DK {s:Str} {X:Lg} {pre:List Nat} (hs:dp s) (hX:∀ u,X u→u=pre) (hL:∀ j,1≤j→j≤s.length→pre++sw (s.take j)∈L):dM (fun u v=>fo L g u=fo L g v) X (tB s):=by
 have h:=At (g:=g) s pre X hs hX hL
 unfold tB
 generalize (s.map fun c=>Rx.set (cx (c.toNat - 32)))=l at h
 rcases l with _ | ⟨p,_ | ⟨q,l⟩⟩
 · simp only [ik,dM]; exact h
 · simp only [ik]; simp only [tl] at h; exact h.1
 · simp only [ik,dM]; exact h
theorem uu {X:Lg} {l:List Rx} (h:∀ p∈l,dM (fun u v=>fo L g u=fo L g v) X p):dM (fun u v=>fo L g u=fo L g v) X (aM l):=by
 rcases l with _ | ⟨p,_ | ⟨q,l⟩⟩
 · simp only [aM,tY,dM]
 · exact h p (by simp)
 · simp only [aM,dM]; exact DL.2 h
theorem LF (c:Nat):(cx c).length=95:=by rw [cx,List.length_set,List.length_replicate]
theorem vZ:∀ s:Str,(jA (s.map fun c=>.set (cx (c.toNat - 32)))=true)∧bC (s.map fun c=>.set (cx (c.toNat - 32)))=s.length∧bM (s.map fun c=>.set (cx (c.toNat - 32)))=0
 | []=>by simp [jA,bC,bM]
 | x::s=>by
   obtain ⟨h1,h2,h3⟩:=vZ s
   simp only [List.map_cons,jA,bC,bM,wfR,br,bW,h1,h2,h3,List.length_cons,LF]
   exact ⟨rfl,by omega,trivial⟩
theorem IN {l:List Rx} (h:jA l=true):wfR (ik l)=true∧br (ik l)≤1 + bC l∧bW (ik l)≤l.length + bM l:=by
 rcases l with _ | ⟨p,_ | ⟨q,l⟩⟩
 · simp [ik,wfR,jA,br,bW]
 · simp only [jA,Bool.and_true] at h
   simp only [ik,bC,bM,List.length_cons]
   exact ⟨h,by omega,by omega⟩
 · simp only [ik,wfR,br,bW]
   exact ⟨h,by omega,by omega⟩
theorem Ji (s:Str):wfR (tB s)=true∧br (tB s)≤1 + s.length∧bW (tB s)≤s.length:=by
 obtain ⟨h1,h2,h3⟩:=vZ s
 obtain ⟨g1,g2,g3⟩:=IN h1
 unfold tB
 rw [h2] at g2
 rw [h3,List.length_map] at g3
 exact ⟨g1,g2,by omega⟩
theorem iz {l:List Rx} (h:jA l=true):wfR (aM l)=true∧br (aM l)≤1 + bC l∧bW (aM l)≤bM l:=by
 rcases l with _ | ⟨p,_ | ⟨q,l⟩⟩
 · simp only [aM,tY,wfR,br,bW,List.length_replicate,bM]; exact ⟨by decide,by omega,by omega⟩
 · simp only [jA,Bool.and_true] at h
   simp only [aM,bC,bM]
   exact ⟨h,by omega,by omega⟩
 · simp only [aM,wfR,br,bW]
   exact ⟨h,by omega,by omega⟩
theorem i1 (e:Str) (n:Nat):∀ ws:List Str,(∀ w∈ws,w.length≤n)→jA (ws.map (i3 e))=true∧bC (ws.map (i3 e))≤(n + e.length + 1) * ws.length∧bM (ws.map (i3 e))≤(n + e.length) * ws.length
 | [],_=>by simp [jA,bC,bM]
 | w::ws,h=>by
   obtain ⟨h1,h2,h3⟩:=i1 e n ws fun w hw=>h w (by simp [hw])
   obtain ⟨g1,g2,g3⟩:=Ji (w++e)
   have hw:=h w (by simp)
   simp only [List.length_append] at g2 g3
   simp only [List.map_cons,jA,bC,bM,i3,g1,h1,List.length_cons,Nat.mul_succ,Bool.true_and]
   exact ⟨trivial,by omega,by omega⟩
theorem Hl {ws:List Str} (hne:ws≠[]) (hl:ws.length≤8) (hs:∀ w∈ws,dp w∧w.length≤40):∃ b,jT (aM (ws.map (i3 []))) b:=by
 obtain ⟨h1,h2,h3⟩:=i1 [] 40 ws fun w hw=>(hs w hw).2
 obtain ⟨g1,g2,g3⟩:=iz h1
 have m1:(40 + ([]:Str).length + 1) * ws.length≤41 * 8:=Nat.mul_le_mul (by simp) hl
 have m2:(40 + ([]:Str).length) * ws.length≤40 * 8:=Nat.mul_le_mul (by simp) hl
 obtain ⟨K,hK⟩:∃ K,K=F5 (ws.map sw):=⟨_,rfl⟩
 have hKl:K.length≤41 * 8:=by
  rw [hK]
  have:=wz (n:=40) (l:=ws.map sw) (fun w hw=>by
   obtain ⟨v,hv,rfl⟩:=List.mem_map.1 hw
   simpa [sw] using (hs v hv).2)
  rw [List.length_map] at this
  have m3:(40 + 1) * ws.length≤41 * 8:=Nat.mul_le_mul (by omega) hl
  omega
 have hin:∀ w∈ws,∀ j,j≤w.length→sw (w.take j)∈K:=fun w hw j hj=>by
  rw [hK,Ef]
  exact ⟨sw w,List.mem_map.2 ⟨w,hw,rfl⟩,j,by simpa [sw] using hj,by simp [sw,List.map_take]⟩
 refine Fi g1 (by omega) (by omega) (k:=fo K fun _=>0) (m:=K.length + 1) (by omega) (fun u _=>Fb (by omega)) ?_ ?_ ?_
 · refine wm fun u hu=>?_
   subst hu
   obtain ⟨w,hw⟩:=List.exists_mem_of_ne_nil _ hne
   have:=hin w hw 0 (by omega)
   simpa [sw] using this
 · refine wm fun u hu=>?_
   obtain ⟨w,hw,rfl⟩:=(E6 fun w hw=>(hs w hw).1).1 hu
   have:=hin w hw w.length (Nat.le_refl _)
   rwa [List.take_length] at this
 · refine uu fun p hp=>?_
   obtain ⟨w,hw,rfl⟩:=List.mem_map.1 hp
   rw [i3,List.append_nil]
   exact DK (pre:=[]) (hs w hw).1 (fun u hu=>hu) fun j _ hj=>by simpa using hin w hw j hj
open Classical in
theorem J1 {ws:List Str} (hl:ws.length≤8) (hs:∀ w∈ws,dp w∧w.length≤16):∃ b,jT (BN ws) b:=by
 have hsg:=fun w hw=>(hs w hw).1
 obtain ⟨h1,h2,h3⟩:=i1 [58] 16 ws fun w hw=>(hs w hw).2
 obtain ⟨g1,g2,g3⟩:=iz h1
 have m1:(16 + ([58]:Str).length + 1) * ws.length≤18 * 8:=Nat.mul_le_mul (by simp) hl
 have m2:(16 + ([58]:Str).length) * ws.length≤17 * 8:=Nat.mul_le_mul (by simp) hl
 obtain ⟨K,hK⟩:∃ K,K=[]::F5 ((ws.map (·++[58])).map sw):=⟨_,rfl⟩
 have hKl:K.length≤1 + 18 * 8:=by
  rw [hK]
  have:=wz (n:=17) (l:=(ws.map (·++[58])).map sw) (fun w hw=>by
   obtain ⟨v,hv,rfl⟩:=List.mem_map.1 hw
   obtain ⟨v',hv',rfl⟩:=List.mem_map.1 hv
   have:=(hs v' hv').2
   simp [sw]; omega)
  rw [List.length_map,List.length_map] at this
  have m3:(17 + 1) * ws.length≤18 * 8:=Nat.mul_le_mul (by omega) hl
  rw [List.length_cons]
  omega
 have hin:∀ w∈ws,∀ j,j≤(w++[58]).length→sw ((w++[58]).take j)∈K:=fun w hw j hj=>by
  rw [hK]
  refine List.mem_cons_of_mem _ (Ef.2 ⟨sw (w++[58]),List.mem_map.2 ⟨w++[58],List.mem_map.2 ⟨w,hw,rfl⟩,rfl⟩,j,by simpa [sw] using hj,by simp [sw,List.map_take]⟩)
 have hfull:∀ w∈ws,sw w++[26]∈K:=fun w hw=>by
  have:=hin w hw _ (Nat.le_refl _)
  rwa [List.take_length,wj] at this
 have hnil:([]:List Nat)∈K:=by rw [hK]; exact List.mem_cons_self
 obtain ⟨B,hB⟩:∃ B:Lg,B=fun u=>∃ w∈ws,∃ r:List Nat,u=sw w++[26]++r:=⟨_,rfl⟩
 obtain ⟨g,hg⟩:∃ g:List Nat→Nat,g=fun u=>if 26∈u then (if B u then 1 else 2) else 0:=⟨_,rfl⟩
 have hg3:∀ u,g u < 3:=fun u=>by rw [hg]; simp only; split<;>(try split)<;>omega
 have gA:∀ u v:List Nat,g u=g v→26 ∉ u→26 ∉ v:=fun u v h hu hv=>by
  rw [hg] at h
  simp only [if_neg hu,if_pos hv] at h
  split at h<;>omega
 have B26:∀ u,B u→26∈u:=fun u hu=>by
  rw [hB] at hu
  obtain ⟨w,_,r,rfl⟩:=hu
  simp
 have gB:∀ u v:List Nat,g u=g v→B u→B v:=fun u v h hu=>by
  rw [hg] at h
  simp only [if_pos (B26 u hu),if_pos hu] at h
  split at h
  · split at h
    · assumption
    · omega
  · omega
 have noc:∀ {u:List Nat},(∀ c∈u,c < 95∧c≠26)↔(∀ c∈u,c < 95)∧26 ∉ u:=by
  intro u
  exact ⟨fun h=>⟨fun c hc=>(h c hc).1,fun hc=>(h 26 hc).2 rfl⟩,fun h c hc=>⟨h.1 c hc,fun e=>h.2 (e ▸ hc)⟩⟩
 obtain ⟨S,hS⟩:∃ S,S=aM (ws.map (i3 [58])):=⟨_,rfl⟩
 have hSd:∀ u,den S u↔∃ w∈ws,u=sw w++[26]:=fun u=>by rw [hS]; exact E7 hsg
 have hx:BN ws=.alt [rx8,.seq [S,rx7]]:=by rw [BN,hS]; rfl
 have hw8:wfR rx8=true:=by decide
 have hw7:wfR rx7=true:=by decide
 have n63:¬(42:Nat)=63:=by omega
 refine Fi (by rw [hx]; simp only [wfR,jA,hw8,hw7,hS,g1,Bool.and_true]) (by rw [hx,rx8,rx7]; simp only [bW,bM,List.length_cons,List.length_nil,n63,if_false,if_true,hS]; omega) (by rw [hx,rx8,rx7]; simp only [br,bC,hS]; omega)
  (k:=fo K g) (m:=K.length + 3) (by omega) (fun u _=>Fb (hg3 u)) ?_ ?_ ?_
 · exact wm fun u hu=>by subst hu; exact hnil
 · refine BO fun u v hu hv _ _ he hd=>?_
   rw [Ib hsg] at hd ⊢
   rcases hd with hd | ⟨w,hw,r,rfl,hr⟩
   · exact .inl (noc.2 ⟨hv,gA u v he (noc.1 hd).2⟩)
   · have:B v:=gB _ v he (by rw [hB]; exact ⟨w,hw,r,rfl⟩)
     rw [hB] at this
     obtain ⟨w',hw',r',rfl⟩:=this
     exact .inr ⟨w',hw',r',rfl,fun c hc=>hv c (by simp [hc])⟩
 · rw [hx]
   simp only [dM,BP,and_true]
   refine ⟨?_,?_⟩
   · rw [rx8]
     simp only [dM,n63,if_false,if_true,and_true]
     refine BO fun u v hu hv _ _ he hd=>?_
     obtain ⟨a,b,rfl,rfl,hb⟩:=hd
     rw [List.nil_append] at he
     refine ⟨[],v,rfl,rfl,?_⟩
     rw [rH] at hb ⊢
     have h26:26 ∉ b:=fun hc=>(wH.1 (hb 26 hc)).2 rfl
     have:=gA b v he h26
     exact fun c hc=>wH.2 ⟨hv c hc,fun e=>this (e ▸ hc)⟩
   · simp only [tl,List.cons_ne_nil,reduceCtorEq,false_or,true_or,and_true]
     refine ⟨?_,?_,?_⟩
     · rw [hS]
       refine uu fun p hp=>?_
       obtain ⟨w,hw,rfl⟩:=List.mem_map.1 hp
       exact DK (pre:=[]) (td (hsg w hw)) (fun u hu=>hu) fun j _ hj=>by simpa using hin w hw j hj
     · refine wm fun u hu=>?_
       obtain ⟨a,b,rfl,rfl,hb⟩:=hu
       obtain ⟨w,hw,rfl⟩:=(hSd b).1 hb
       exact hfull w hw
     · rw [rx7]
       simp only [dM,n63,if_false,if_true,and_true]
       refine BO fun u v hu hv _ _ he hd=>?_
       have hBd:∀ {u:List Nat},(∀ c∈u,c < 95)→(cat (cat (fun u=>u=[]) (den S)) (Star (den (.set J4))) u↔B u):=by
        intro u hu
        rw [hB]
        constructor
        · rintro ⟨a,b,rfl,⟨a',c,rfl,rfl,hc⟩,hb⟩
          obtain ⟨w,hw,rfl⟩:=(hSd c).1 hc
          exact ⟨w,hw,b,by simp⟩
        · rintro ⟨w,hw,r,rfl⟩
          exact ⟨sw w++[26],r,rfl,⟨[],_,rfl,rfl,(hSd _).2 ⟨w,hw,rfl⟩⟩,rH.2 fun c hc=>yp.2 (hu c (by simp [hc]))⟩
       exact (hBd hv).2 (gB u v he ((hBd hu).1 hd))
end Go.Abs
end
section
set_option maxHeartbeats 2000000
set_option maxRecDepth 100000
namespace Go.Abs
open Go.Proofs Go.Aut
attribute [-simp] getElem?_pos Option.not_isSome List.map_map cl nt
inductive GoodC:F.Constraint→Rx→Prop
 | any:GoodC ⟨1,[],[]⟩ rx7
 | enum {ws:List Str}:ws≠[]→F.words ws false=true→ws.length≤4→GoodC ⟨2,ws,[]⟩ (aM (ws.map (i3 [])))
 | scheme {ws:List Str}:F.words ws true=true→ws.length≤4→GoodC ⟨3,ws,[]⟩ (BN ws)
 | mat {s:Str} {x:Rx}:(s,x)∈dt→s∈F.pool12→GoodC ⟨4,[],s⟩ x
theorem uB (sch:Bool):∀ (l out:List Str),(out=[]∨F.words out sch=true)→F.pickW sch out l=[]∨F.words (F.pickW sch out l) sch=true
 | [],out,h=>by simpa only [F.pickW] using h
 | w::l,out,h=>by
   simp only [F.pickW]
   refine uB sch l _ ?_
   split
   · exact .inr ‹_›
   · exact h
theorem Ip (sch:Bool):F.words [] sch=true:=by simp [F.words,F.wordsGo]
theorem EI (c:F.Constraint):∃ x,GoodC (F.good12 c) x:=by
 unfold F.good12
 obtain ⟨h1,h2⟩:=F.kind12_range c.kind
 generalize F.kind12 c.kind=k at *
 simp only
 split
 · have hlt:F.sumB c.regex % 7 < 7:=Nat.mod_lt _ (by omega)
   generalize F.sumB c.regex % 7=i at *
   have:i=0∨i=1∨i=2∨i=3∨i=4∨i=5∨i=6:=by omega
   rcases this with rfl | rfl | rfl | rfl | rfl | rfl | rfl
   · exact ⟨rx0,.mat (by simp [F.pool12,dt]) (by simp [F.pool12])⟩
   · exact ⟨rx1,.mat (by simp [F.pool12,dt]) (by simp [F.pool12])⟩
   · exact ⟨rx2,.mat (by simp [F.pool12,dt]) (by simp [F.pool12])⟩
   · exact ⟨rx3,.mat (by simp [F.pool12,dt]) (by simp [F.pool12])⟩
   · exact ⟨rx4,.mat (by simp [F.pool12,dt]) (by simp [F.pool12])⟩
   · exact ⟨rx5,.mat (by simp [F.pool12,dt]) (by simp [F.pool12])⟩
   · exact ⟨rx6,.mat (by simp [F.pool12,dt]) (by simp [F.pool12])⟩
 · have hl:=F.pickW_len (decide (k=3)) (c.words.take 4) []
   have hw:=uB (decide (k=3)) (c.words.take 4) [] (.inl rfl)
   simp at hl
   have:k=1∨k=2∨k=3:=by omega
   rcases this with rfl | rfl | rfl
   · exact ⟨rx7,by simpa using GoodC.any⟩
   · simp only [show (decide ((2:Int)=3))=false by decide] at hl hw
     simp only [show ¬((2:Int)=1) by omega,if_false,true_and,show (decide ((2:Int)=3))=false by decide]
     generalize F.pickW false [] (c.words.take 4)=ws at *
     split
     · exact ⟨_,.enum (by simp) (by decide) (by simp)⟩
     · rename_i hne
       rcases hw with hw | hw
       · exact absurd hw hne
       · exact ⟨_,.enum hne hw (by omega)⟩
   · simp only [show (decide ((3:Int)=3))=true by decide] at hl hw
     simp only [show ¬((3:Int)=1) by omega,show ¬((3:Int)=2) by omega,if_false,false_and,show (decide ((3:Int)=3))=true by decide]
     simp only [decide_true] at hl hw ⊢
     rcases hw with hw | hw
     · rw [hw]; exact ⟨_,.scheme (Ip true) (by simp)⟩
     · exact ⟨_,.scheme hw (by omega)⟩
theorem mG {sch:Bool}:∀ {l pre:List Str},F.wordsGo sch pre l=true→∀ w∈l,F.wordOK sch w=true
 | [],_,_,w,hw=>by cases hw
 | x::l,pre,h,w,hw=>by
   simp only [F.wordsGo,Bool.and_eq_true] at h
   rcases List.mem_cons.1 hw with rfl | hw
   · exact h.1
   · exact mG h.2.2 w hw
theorem iO {ws:List Str} (h:F.words ws false=true):∀ w∈ws,dp w∧w.length≤40:=fun w hw=>by
 simp only [F.words,Bool.and_eq_true] at h
 have:=mG h.1 w hw
 simp only [F.wordOK,Bool.false_eq_true,if_false,Bool.and_eq_true,decide_eq_true_eq,List.all_eq_true] at this
 refine ⟨fun c hc=>?_,this.2⟩
 have:=this.1 c hc
 simpa [F.sign] using this
theorem dB {ws:List Str} (h:F.words ws true=true):∀ w∈ws,dp w∧w.length≤16∧∀ c∈w,97≤c.toNat∧c.toNat≤122:=fun w hw=>by
 simp only [F.words,Bool.and_eq_true] at h
 have:=mG h.1 w hw
 simp only [F.wordOK,if_true,F.scheme,Bool.and_eq_true,decide_eq_true_eq,List.all_eq_true] at this
 have hc:∀ c∈w,97≤c.toNat∧c.toNat≤122:=fun c hc=>by
  have:=this.1 c hc
  simpa [F.small] using this
 exact ⟨fun c h=>by have:=hc c h; omega,this.2.2,hc⟩
theorem GoodC.aut {c:F.Constraint} {x:Rx} (h:GoodC c x):∃ b,jT x b:=by
 cases h with
 | any=>exact rm (s:=[46,42]) (by simp [dt])
 | enum h1 h2 h3=>exact Hl h1 (by omega) (iO h2)
 | scheme h2 h3=>exact J1 (by omega) fun w hw=>⟨(dB h2 w hw).1,(dB h2 w hw).2.1⟩
 | mat h1 h2=>exact rm h1
theorem GoodC.sizes {c:F.Constraint} {x:Rx} (h:GoodC c x):wfR x=true∧br x≤2000∧bW x≤2000:=by
 have pool:∀ {s:Str} {x:Rx},(s,x)∈dt→wfR x=true∧br x≤2000∧bW x≤2000:=by
  intro s x h
  simp only [dt,List.mem_cons,Prod.mk.injEq,List.not_mem_nil,or_false] at h
  rcases h with ⟨_,rfl⟩ | ⟨_,rfl⟩ | ⟨_,rfl⟩ | ⟨_,rfl⟩ | ⟨_,rfl⟩ | ⟨_,rfl⟩ | ⟨_,rfl⟩ | ⟨_,rfl⟩ | ⟨_,rfl⟩
  all_goals decide
 cases h with
 | any=>exact pool (s:=[46,42]) (by simp [dt])
 | @enum ws h1 h2 h3=>
   obtain ⟨h1,h2,h3⟩:=i1 [] 40 ws fun w hw=>(iO h2 w hw).2
   obtain ⟨g1,g2,g3⟩:=iz h1
   have m1:(40 + ([]:Str).length + 1) * ws.length≤41 * 4:=Nat.mul_le_mul (by simp) ‹_›
   have m2:(40 + ([]:Str).length) * ws.length≤40 * 4:=Nat.mul_le_mul (by simp) ‹_›
   exact ⟨g1,by omega,by omega⟩
 | @scheme ws h2 h3=>
   obtain ⟨h1,h2,h3⟩:=i1 [58] 16 ws fun w hw=>(dB h2 w hw).2.1
   obtain ⟨g1,g2,g3⟩:=iz h1
   have m1:(16 + ([58]:Str).length + 1) * ws.length≤18 * 4:=Nat.mul_le_mul (by simp) ‹_›
   have m2:(16 + ([58]:Str).length) * ws.length≤17 * 4:=Nat.mul_le_mul (by simp) ‹_›
   have hx:BN ws=.alt [rx8,.seq [aM (ws.map (i3 [58])),rx7]]:=rfl
   have hw8:wfR rx8=true:=by decide
   have hw7:wfR rx7=true:=by decide
   have n63:¬(42:Nat)=63:=by omega
   rw [hx]
   refine ⟨by simp only [wfR,jA,hw8,hw7,g1,Bool.and_true],by rw [rx8,rx7]; simp only [br,bC]; omega,by rw [rx8,rx7]; simp only [bW,bM,List.length_cons,List.length_nil,n63,if_false,if_true]; omega⟩
 | mat h1 h2=>exact pool h1
theorem EV {x:Rx} {b:Aut} (hb:jT x b) (hw:wfR x=true) (hz:br x≤2000) (hf:bW x≤2000):
 ∃ N,Fn Tryz.prog d7 [rxP x] (.strct (Net.c N))∧Fn Tryz.prog Ec [.strct (Net.c N)] (.tup [.strct (Aut.c b),.int .i64 0]):=by
 obtain ⟨N,h1,h2,h3,h4,_⟩:=hb
 exact ⟨N,f_Net x N hw h1 hz hf,Mo h2 h3 h4⟩
theorem xO {s:Str} {x:Rx} (h:(s,x)∈dt) (hs:s∈F.pool12):Fn Tryz.prog wT [.str s] (.bool true):=by
 obtain ⟨g1,g2,g3⟩:=(GoodC.mat h hs).sizes
 obtain ⟨b,hb⟩:=rm h
 obtain ⟨N,k1,k2⟩:=EV hb g1 g2 g3
 refine Fn.of_image mixed xu xf rfl fun ho=>?_
 unfold oc
 simp only [oks,ok,and_true] at ho
 clear ho
 obtain ⟨C,hC⟩:∃ C,C=Net.c N:=⟨_,rfl⟩
 obtain ⟨A,hA⟩:∃ A,A=Aut.c b:=⟨_,rfl⟩
 have hCp:purs [] C=some C:=by rw [hC]; simp [purs,pur,nV]
 have hAp:purs [] A=some A:=by rw [hA]; simp [purs,pur,Aut.c]
 have hCv:ai C=[]:=by rw [hC]; simp [aq,ai,nV]
 rw [←hC] at k1 k2
 rw [←hA] at k2
 simp (disch:=omega) [-List.reduceReplicate]
 refine aj (H6 h) (by simp) fun _=>?_
 simp (disch:=omega) [-List.reduceReplicate]
 refine aj k1 (by simp) fun _=>?_
 simp (disch:=omega) [-List.reduceReplicate,hCp]
 refine aj k2 (by simp [hCv]) fun _=>?_
 simp (disch:=omega) [-List.reduceReplicate]
theorem GX {c:F.Constraint} {x:Rx} (h:GoodC c x):Fn Tryz.prog F9 [c.v] (.int .i64 0):=by
 refine Fn.of_image mixed Gw Gp rfl fun ho=>?_
 unfold yg
 simp only [oks,ok,and_true] at ho
 clear ho
 cases h with
 | any=>simp (disch:=omega) [-List.reduceReplicate]
 | @enum ws h1 h2 h3=>
   have hp:0 < ws.length:=List.length_pos_iff.2 h1
   simp (disch:=omega) [-List.reduceReplicate]
   refine ae (sH false pK (fun s=>by have:=Ad s; simpa [F.wordOK] using this) ws h2) rfl fun _=>?_
   simp (disch:=omega) [-List.reduceReplicate]
 | @scheme ws h2 h3=>
   simp (disch:=omega) [-List.reduceReplicate]
   refine ae (sH true lY (fun s=>by have:=vC s; simpa [F.wordOK] using this) ws h2) rfl fun _=>?_
   simp (disch:=omega) [-List.reduceReplicate]
 | mat h1 h2=>
   simp (disch:=omega) [-List.reduceReplicate]
   refine ae (xO h1 h2) rfl fun _=>?_
   simp (disch:=omega) [-List.reduceReplicate]
end Go.Abs
end
section
set_option maxHeartbeats 4000000
set_option maxRecDepth 100000
namespace Go.Abs
open Go.Proofs Go.Aut
attribute [-simp] getElem?_pos Option.not_isSome List.map_map cl nt
theorem GoodC.maker {c:F.Constraint} {x:Rx} (h:GoodC c x):∃ fk,gk (.int .i64 c.kind) li=some (.fn (.func fk) [] [])∧Fn Tryz.prog fk [c.v] (rxP x):=by
 cases h with
 | any=>exact ⟨gK,by simp [li,gk,eqK,jf,eqC],xP _ (by simp) (by simp [aq,ai]) rfl⟩
 | @enum ws h1 h2 h3=>exact ⟨fG,by simp [li,gk,eqK,jf,eqC],EW 2 ws [] (by omega) fun w hw=>by have:=iO h2 w hw; exact ⟨this.1,by omega⟩⟩
 | @scheme ws h2 h3=>exact ⟨d8,by simp [li,gk,eqK,jf,eqC],Ac 3 ws [] (by omega) fun w hw=>by have:=dB h2 w hw; exact ⟨this.1,by omega⟩⟩
 | mat h1 h2=>exact ⟨eE,by simp [li,gk,eqK,jf,eqC],Dh 4 [] _ h1⟩
theorem nS {c:F.Constraint} {x:Rx} (h:GoodC c x) {b:Aut} (hb:jT x b):Fn Tryz.prog uE [c.v] (.strct (Aut.c b)):=by
 obtain ⟨fk,hm,hf⟩:=h.maker
 obtain ⟨g1,g2,g3⟩:=h.sizes
 obtain ⟨N,k1,k2⟩:=EV hb g1 g2 g3
 have hmay:=GX h
 refine Fn.of_imageE mixed ED Ev rfl fun ho=>?_
 unfold uY
 simp only [oks,ok,and_true] at ho
 clear ho h hb g1 g2 g3
 obtain ⟨C,hC⟩:∃ C,C=Net.c N:=⟨_,rfl⟩
 obtain ⟨A,hA⟩:∃ A,A=Aut.c b:=⟨_,rfl⟩
 have hCp:∀ h,purs h C=some C:=fun h=>by rw [hC]; simp [purs,pur,nV]
 have hAp:∀ h,purs h A=some A:=fun h=>by rw [hA]; simp [purs,pur,Aut.c]
 have hCv:ai C=[]:=by rw [hC]; simp [aq,ai,nV]
 have hAv:ai A=[]:=by rw [hA]; simp [aq,ai,Aut.c]
 have hAr:∀ m,cW m A=A:=fun m=>by rw [hA]; simp [ren,cW,Aut.c]
 have hAl:A.length=2:=by rw [hA]; rfl
 have hCl:C.length=4:=by rw [hC]; rfl
 rw [←hC] at k1 k2
 rw [←hA] at k2 ⊢
 have e2:List.take 2 A=A:=List.take_of_length_le (by omega)
 have e3:List.drop 2 A=[]:=List.drop_of_length_le (by omega)
 clear hC hA
 obtain ⟨kd,ws,rx⟩:=c
 simp only at hm
 simp at hf hmay
 simp (disch:=omega) [-List.reduceReplicate]
 refine ae hmay rfl fun _=>?_
 simp (disch:=omega) [-List.reduceReplicate]
 refine ct ⟨[(2,.ptr 0 0),(3,.ptr 1 0)],[some (.box [.nil 1,.nil 1]),some (.box A)]⟩ (fun F hF=>?_) ?_
 · have hF':=hF
   try simp at hF
   have hM:=Me
   repeat' (first
    | exact hF
    | refine BC.mk ?_ ?_
    | refine d5 [] 0 [] (by simp) (by simp) (by simp) (by simp) hM (by simp) ?_
    | refine aF hf (by simp) ?_
    | refine aF k1 (by simp [hCp]) ?_
    | refine aF k2 (by simp [hCv]) ?_
    | (simp (disch:=omega) [-List.reduceReplicate,hm,hCp,hAp,hCv,hAv,hAr,hAl,hCl,e2,e3]))
 · simp (disch:=omega) [-List.reduceReplicate,hAl,e2,hAp]
end Go.Abs
end
