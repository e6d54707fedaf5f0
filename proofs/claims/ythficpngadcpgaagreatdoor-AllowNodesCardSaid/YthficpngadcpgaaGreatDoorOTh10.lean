/-
  The automaton of a net whose states are told apart by few classes of words: it is there, and accepts what the net does. No condition.
  What the expressions of constraints match, and how few classes of words tell their nets' states apart. No condition.
  The automata of constraints' expressions: they are there, of no more than 500 states, and accept what the expressions match. No condition.
  The automaton of schemes: it is there, of no more than 500 states. No condition.
  Constraints that may be, and their automata. No condition.
  What lang's Auto answers. No condition.
-/
import Derived.Test.YthficpngadcpgaaGreatDoorOTh4
import Derived.Test.YthficpngadcpgaaGreatDoorOTh8
import Derived.Test.YthficpngadcpgaaGreatDoorOF1
set_option linter.unusedVariables false
set_option linter.unusedSimpArgs false
set_option linter.unusedSectionVars false
section
namespace Go.Abs
open Go.Aut
theorem Rg.inv {E:List NEdge} {q:Nat} {w:List Nat} (h:Rg E [] q w):(w=[]∧NReach E 0 q)∨∃ u c e,w=u++[c]∧c < 95∧e∈E∧tk e c=true∧Rg E [] e.fr u∧NReach E e.to q:=by
 induction h with
 | start=>exact .inl ⟨rfl,.refl⟩
 | free _ he hf h2 ih=>
   rcases ih with ⟨h3,h4⟩ | ⟨u,c,e',h3,h4,h5,h6,h7,h8⟩
   · exact .inl ⟨h3,h4.step he hf h2⟩
   · exact .inr ⟨u,c,e',h3,h4,h5,h6,h7,h8.step he hf h2⟩
 | take h1 he ht hc h2 _=>exact .inr ⟨_,_,_,rfl,hc,he,ht,by rw [h2]; exact h1,.refl⟩
 | job _ hj=>cases hj
end Go.Abs
end
section
namespace Go.Abs
open Go.Aut
attribute [-simp] getElem?_pos Option.not_isSome List.map_map cl nt
def sw (s:Str):List Nat:=s.map fun c=>c.toNat - 32
def fB (s:Str):Prop:=∀ c∈s,32≤c.toNat∧c.toNat≤126
theorem Mh {s:Str} (h:fB s):∀ c∈sw s,c < 95:=fun c hc=>by
 simp only [sw,List.mem_map] at hc
 obtain ⟨x,hx,rfl⟩:=hc
 have:=h x hx
 omega
theorem GS:∀ {s t:Str},fB s→fB t→sw s=sw t→s=t
 | [],[],_,_,_=>rfl
 | [],y::t,_,_,h=>by simp [sw] at h
 | x::s,[],_,_,h=>by simp [sw] at h
 | x::s,y::t,hs,ht,h=>by
   simp only [sw,List.map_cons,List.cons.injEq] at h
   have h1:=hs x (by simp)
   have h2:=ht y (by simp)
   have:x=y:=by rw [←UInt8.toNat_inj]; omega
   rw [this,GS (s:=s) (t:=t) (fun c hc=>hs c (by simp [hc])) (fun c hc=>ht c (by simp [hc])) h.2]
theorem JK (s t:Str):sw (s++t)=sw s++sw t:=by simp [sw]
theorem Jh {c:Nat} (hc:c < 95) {u:List Nat}:den (.set (iO c)) u↔u=[c]:=by
 simp only [den,iO]
 constructor
 · rintro ⟨d,rfl,hd⟩
   rw [List.getElem?_set] at hd
   split at hd
   · rename_i h; rw [h]
   · rw [List.getElem?_replicate] at hd
     split at hd<;>simp at hd
 · rintro rfl
   exact ⟨c,rfl,by rw [List.getElem?_set_self (by rw [List.length_replicate]; exact hc)]⟩
theorem Jg {l:List Rx} {u:List Nat}:den (JV l) u↔kS l u:=by
 rcases l with _ | ⟨p,_ | ⟨q,l⟩⟩
 · simp only [JV,den]
 · simp only [JV]; exact Gq.symm
 · simp only [JV,den]
theorem Io {u:List Nat}:¬den Ik u:=by
 simp only [Ik,den]
 rintro ⟨c,_,hc⟩
 rw [List.getElem?_replicate] at hc
 split at hc<;>simp at hc
theorem qg {l:List Rx} {u:List Nat}:den (gR l) u↔∃ p∈l,den p u:=by
 rcases l with _ | ⟨p,_ | ⟨q,l⟩⟩
 · simp only [gR]; simp [Io]
 · simp [gR]
 · simp only [gR,den]; exact v8
theorem Bu:∀ {s:Str},fB s→∀ {u:List Nat},kS (s.map fun c=>.set (iO (c.toNat - 32))) u↔u=sw s
 | [],_,u=>by simp [kS,sw]
 | x::s,hs,u=>by
   have hx:=hs x (by simp)
   have ih:=@Bu s (fun c hc=>hs c (by simp [hc]))
   simp only [List.map_cons,kS,cat,sw]
   constructor
   · rintro ⟨a,b,rfl,h1,h2⟩
     rw [(Jh (by omega)).1 h1,ih.1 h2]
     simp [sw]
   · rintro rfl
     exact ⟨[x.toNat - 32],sw s,by simp [sw],(Jh (by omega)).2 rfl,ih.2 rfl⟩
theorem vc {s:Str} (hs:fB s) {u:List Nat}:den (SB s) u↔u=sw s:=by
 rw [SB,Jg]; exact Bu hs
theorem Eo {bs:List Bool} {u:List Nat}:Star (den (.set bs)) u↔∀ c∈u,bs[c]?=some true:=by
 constructor
 · intro h
   induction h with
   | nil=>simp
   | snoc _ h2 ih=>
     simp only [den] at h2
     obtain ⟨c,rfl,hc⟩:=h2
     intro d hd
     rcases List.mem_append.1 hd with hd | hd
     · exact ih d hd
     · simp at hd; subst hd; exact hc
 · intro h
   have:∀ (m:Nat) (u:List Nat),u.length=m→(∀ c∈u,bs[c]?=some true)→Star (den (.set bs)) u:=by
    intro m
    induction m with
    | zero=>intro u hu _; rw [List.length_eq_zero_iff.1 hu]; exact .nil
    | succ m ih=>
      intro u hu hc
      obtain ⟨l,x,rfl⟩:∃ l x,u=l++[x]:=by
       rcases List.eq_nil_or_concat u with rfl | ⟨l,x,rfl⟩
       · simp at hu
       · exact ⟨l,x,by simp⟩
      refine .snoc (ih l (by simpa using hu) fun c hcm=>hc c (by simp [hcm])) ?_
      simp only [den]
      exact ⟨x,rfl,hc x (by simp)⟩
   exact this _ u rfl h
theorem GB {c:Nat}:np[c]?=some true↔c < 95:=by
 rw [np,List.getElem?_replicate]
 split<;>simp [*]
theorem M5 {d c:Nat}:(M6 d)[c]?=some true↔c < 95∧c≠d:=by
 rw [M6,List.getElem?_set]
 split
 · rename_i h
   subst h
   split<;>simp
 · rename_i h
   rw [GB]
   constructor
   · intro h2; exact ⟨h2,fun e=>h e.symm⟩
   · intro h2; exact h2.1
theorem Bt {p:Rx} {u:List Nat}:den (.rep p 42) u↔Star (den p) u:=by simp only [den,if_neg (show ¬(42:Nat)=63 by omega),if_true]
theorem Jf {u:List Nat}:den rx7 u↔∀ c∈u,c < 95:=by
 rw [rx7,Bt,Eo]
 exact forall₂_congr fun c _=>GB
theorem Qt {u:List Nat}:den rx8 u↔∀ c∈u,c < 95∧c≠26:=by
 rw [rx8,Bt,Eo]
 exact forall₂_congr fun c _=>M5
theorem NO {ws:List Str} (hs:∀ w∈ws,fB w) {u:List Nat}:den (gR (ws.map (Hy []))) u↔∃ w∈ws,u=sw w:=by
 rw [qg]
 constructor
 · rintro ⟨p,hp,h⟩
   obtain ⟨w,hw,rfl⟩:=List.mem_map.1 hp
   rw [Hy,List.append_nil] at h
   exact ⟨w,hw,(vc (hs w hw)).1 h⟩
 · rintro ⟨w,hw,rfl⟩
   refine ⟨_,List.mem_map.2 ⟨w,hw,rfl⟩,?_⟩
   rw [Hy,List.append_nil]
   exact (vc (hs w hw)).2 rfl
theorem AG {w:Str} (h:fB w):fB (w++[58]):=fun c hc=>by
 rcases List.mem_append.1 hc with hc | hc
 · exact h c hc
 · simp at hc; subst hc; decide
theorem Ek (w:Str):sw (w++[58])=sw w++[26]:=by simp [sw]
theorem NP {ws:List Str} (hs:∀ w∈ws,fB w) {u:List Nat}:den (gR (ws.map (Hy [58]))) u↔∃ w∈ws,u=sw w++[26]:=by
 rw [qg]
 constructor
 · rintro ⟨p,hp,h⟩
   obtain ⟨w,hw,rfl⟩:=List.mem_map.1 hp
   exact ⟨w,hw,by rw [←Ek]; exact (vc (AG (hs w hw))).1 h⟩
 · rintro ⟨w,hw,rfl⟩
   refine ⟨_,List.mem_map.2 ⟨w,hw,rfl⟩,?_⟩
   rw [Hy,←Ek]
   exact (vc (AG (hs w hw))).2 rfl
theorem Qs {ws:List Str} (hs:∀ w∈ws,fB w) {u:List Nat}:den (RU ws) u↔(∀ c∈u,c < 95∧c≠26)∨∃ w∈ws,∃ r:List Nat,u=sw w++[26]++r∧∀ c∈r,c < 95:=by
 rw [RU,qg]
 simp only [List.mem_cons,List.not_mem_nil,or_false,exists_eq_or_imp,exists_eq_left,Qt,Jg,kS,cat,NP hs,Jf]
 refine or_congr_right ?_
 constructor
 · rintro ⟨a,b,rfl,⟨w,hw,rfl⟩,c,d,rfl,h1,rfl⟩
   exact ⟨w,hw,c,by simp,h1⟩
 · rintro ⟨w,hw,r,rfl,h⟩
   exact ⟨sw w++[26],r,rfl,⟨w,hw,rfl⟩,r,[],by simp,h,rfl⟩
theorem Sv {cls:List Nat→List Nat→Prop} {x:Rx} {N:Net} (h:NetSpec cls x N) (hf:fresh x≤498):N.ok:=
 ⟨by rw [h.n]; omega,by rw [h.n]; omega,by rw [h.start,h.n]; omega,by rw [h.stop,h.n]; omega,fun e he=>by
   have h1:=h.edges e he
   have h2:=h.bytes e he
   exact ⟨h1.1,h1.2,h2.1,h2.2⟩⟩
theorem sg (P:Lg):sat (fun u v=>u=v) P:=fun u v _ _ h hp=>h ▸ hp
mutual
theorem ny:∀ (x:Rx) (X:Lg),ji (fun u v=>u=v) X x
 | .set _,_=>by simp only [ji]
 | .seq l,X=>by simp only [ji]; exact IT l X
 | .alt l,X=>by simp only [ji]; exact IU l X
 | .rep p op,X=>by
   simp only [ji]
   split
   · exact ny p X
   · split
     · exact ⟨sg _,ny p _⟩
     · exact ⟨sg _,sg _,ny p _⟩
theorem IT:∀ (l:List Rx) (X:Lg),Es (fun u v=>u=v) X l
 | [],_=>by simp only [Es]
 | p::l,X=>by simp only [Es]; exact ⟨ny p X,.inr ⟨sg _,IT l _⟩⟩
theorem IU:∀ (l:List Rx) (X:Lg),Et (fun u v=>u=v) X l
 | [],_=>by simp only [Et]
 | p::l,X=>by simp only [Et]; exact ⟨ny p X,IU l X⟩
end
variable {L:List (List Nat)} {g:List Nat→Nat}
end Go.Abs
end
section
namespace Go.Abs
open Go.Aut
attribute [-simp] getElem?_pos Option.not_isSome List.map_map cl nt
end Go.Abs

end
section
set_option maxHeartbeats 2000000
set_option maxRecDepth 100000
namespace Go.Abs
open Go.Proofs Go.Aut
attribute [-simp] getElem?_pos Option.not_isSome List.map_map cl nt
inductive GoodC:F.Constraint→Rx→Prop
 | any:GoodC ⟨1,[],[]⟩ rx7
 | enum {ws:List Str}:ws≠[]→F.words ws false=true→ws.length≤4→GoodC ⟨2,ws,[]⟩ (gR (ws.map (Hy [])))
 | scheme {ws:List Str}:F.words ws true=true→ws.length≤4→GoodC ⟨3,ws,[]⟩ (RU ws)
 | mat {s:Str} {x:Rx}:(s,x)∈gu→s∈F.pool12→GoodC ⟨4,[],s⟩ x
theorem tr (sch:Bool):∀ (l out:List Str),(out=[]∨F.words out sch=true)→F.pickW sch out l=[]∨F.words (F.pickW sch out l) sch=true
 | [],out,h=>by simpa only [F.pickW] using h
 | w::l,out,h=>by
   simp only [F.pickW]
   refine tr sch l _ ?_
   split
   · exact .inr ‹_›
   · exact h
theorem Jw (sch:Bool):F.words [] sch=true:=by simp [F.words,F.wordsGo]
theorem FZ (c:F.Constraint):∃ x,GoodC (F.good12 c) x:=by
 unfold F.good12
 obtain ⟨h1,h2⟩:=F.kind12_range c.kind
 generalize F.kind12 c.kind=k at *
 simp only
 split
 · have hlt:F.sumB c.regex % 7 < 7:=Nat.mod_lt _ (by omega)
   generalize F.sumB c.regex % 7=i at *
   have:i=0∨i=1∨i=2∨i=3∨i=4∨i=5∨i=6:=by omega
   rcases this with rfl | rfl | rfl | rfl | rfl | rfl | rfl
   · exact ⟨rx0,.mat (by simp [F.pool12,gu]) (by simp [F.pool12])⟩
   · exact ⟨rx1,.mat (by simp [F.pool12,gu]) (by simp [F.pool12])⟩
   · exact ⟨rx2,.mat (by simp [F.pool12,gu]) (by simp [F.pool12])⟩
   · exact ⟨rx3,.mat (by simp [F.pool12,gu]) (by simp [F.pool12])⟩
   · exact ⟨rx4,.mat (by simp [F.pool12,gu]) (by simp [F.pool12])⟩
   · exact ⟨rx5,.mat (by simp [F.pool12,gu]) (by simp [F.pool12])⟩
   · exact ⟨rx6,.mat (by simp [F.pool12,gu]) (by simp [F.pool12])⟩
 · have hl:=F.pickW_len (decide (k=3)) (c.words.take 4) []
   have hw:=tr (decide (k=3)) (c.words.take 4) [] (.inl rfl)
   simp at hl
   have:k=1∨k=2∨k=3:=by omega
   rcases this with rfl | rfl | rfl
   · exact ⟨rx7,by simpa using GoodC.any⟩
   · simp only [show (decide ((2:Int)=3))=false by decide] at hl hw
     simp only [show ¬((2:Int)=1) by omega,if_false,true_and,show (decide ((2:Int)=3))=false by decide]
     generalize F.pickW false [] (c.words.take 4)=ws at *
     split
     · exact ⟨_,.enum (by simp) (by decide) (by simp)⟩
     · rename_i hne
       rcases hw with hw | hw
       · exact absurd hw hne
       · exact ⟨_,.enum hne hw (by omega)⟩
   · simp only [show (decide ((3:Int)=3))=true by decide] at hl hw
     simp only [show ¬((3:Int)=1) by omega,show ¬((3:Int)=2) by omega,if_false,false_and,show (decide ((3:Int)=3))=true by decide]
     simp only [decide_true] at hl hw ⊢
     rcases hw with hw | hw
     · rw [hw]; exact ⟨_,.scheme (Jw true) (by simp)⟩
     · exact ⟨_,.scheme hw (by omega)⟩
theorem l5 {sch:Bool}:∀ {l pre:List Str},F.wordsGo sch pre l=true→∀ w∈l,F.wordOK sch w=true
 | [],_,_,w,hw=>by cases hw
 | x::l,pre,h,w,hw=>by
   simp only [F.wordsGo,Bool.and_eq_true] at h
   rcases List.mem_cons.1 hw with rfl | hw
   · exact h.1
   · exact l5 h.2.2 w hw
theorem vi {ws:List Str} (h:F.words ws false=true):∀ w∈ws,fB w∧w.length≤40:=fun w hw=>by
 simp only [F.words,Bool.and_eq_true] at h
 have:=l5 h.1 w hw
 simp only [F.wordOK,Bool.false_eq_true,if_false,Bool.and_eq_true,decide_eq_true_eq,List.all_eq_true] at this
 refine ⟨fun c hc=>?_,this.2⟩
 have:=this.1 c hc
 simpa [F.sign] using this
theorem qn {ws:List Str} (h:F.words ws true=true):∀ w∈ws,fB w∧w.length≤16∧∀ c∈w,97≤c.toNat∧c.toNat≤122:=fun w hw=>by
 simp only [F.words,Bool.and_eq_true] at h
 have:=l5 h.1 w hw
 simp only [F.wordOK,if_true,F.scheme,Bool.and_eq_true,decide_eq_true_eq,List.all_eq_true] at this
 have hc:∀ c∈w,97≤c.toNat∧c.toNat≤122:=fun c hc=>by
  have:=this.1 c hc
  simpa [F.small] using this
 exact ⟨fun c h=>by have:=hc c h; omega,this.2.2,hc⟩
end Go.Abs
end
section
set_option maxHeartbeats 4000000
set_option maxRecDepth 100000
namespace Go.Abs
open Go.Proofs Go.Aut
attribute [-simp] getElem?_pos Option.not_isSome List.map_map cl nt
end Go.Abs

end
