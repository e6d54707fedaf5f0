/-
  The automaton of a net whose states are told apart by few classes of words: it is there, and accepts what the net does. No condition.
  What the expressions of constraints match, and how few classes of words tell their nets' states apart. No condition.
  The automata of constraints' expressions: they are there, of no more than 500 states, and accept what the expressions match. No condition.
  The automaton of schemes: it is there, of no more than 500 states. No condition.
  Constraints that may be, and their automata. No condition.
  What lang's Auto answers. No condition.
-/
import Derived.Test.YthficpngadcpgaaGreatDoorPTh4
import Derived.Test.YthficpngadcpgaaGreatDoorPTh8
import Derived.Test.YthficpngadcpgaaGreatDoorPF1
set_option linter.unusedVariables false
set_option linter.unusedSimpArgs false
set_option linter.unusedSectionVars false
section
namespace Go.Abs
open Go.Aut
theorem Rg.inv {E:List NEdge} {q:Nat} {w:List Nat} (h:Rg E [] q w):(w=[]∧NReach E 0 q)∨∃ u c e,w=u++[c]∧c < 95∧e∈E∧tk e c=true∧Rg E [] e.fr u∧NReach E e.to q:=by
 induction h with
 | start=>exact .inl ⟨rfl,.refl⟩
 | free _ he hf h2 ih=>
   rcases ih with ⟨h3,h4⟩ | ⟨u,c,e',h3,h4,h5,h6,h7,h8⟩
   · exact .inl ⟨h3,h4.step he hf h2⟩
   · exact .inr ⟨u,c,e',h3,h4,h5,h6,h7,h8.step he hf h2⟩
 | take h1 he ht hc h2 _=>exact .inr ⟨_,_,_,rfl,hc,he,ht,by rw [h2]; exact h1,.refl⟩
 | job _ hj=>cases hj
end Go.Abs
end
section
namespace Go.Abs
open Go.Aut
attribute [-simp] getElem?_pos Option.not_isSome List.map_map cl nt
def sw (s:Str):List Nat:=s.map fun c=>c.toNat - 32
def eQ (s:Str):Prop:=∀ c∈s,32≤c.toNat∧c.toNat≤126
theorem II {s:Str} (h:eQ s):∀ c∈sw s,c < 95:=fun c hc=>by
 simp only [sw,List.mem_map] at hc
 obtain ⟨x,hx,rfl⟩:=hc
 have:=h x hx
 omega
theorem Du:∀ {s t:Str},eQ s→eQ t→sw s=sw t→s=t
 | [],[],_,_,_=>rfl
 | [],y::t,_,_,h=>by simp [sw] at h
 | x::s,[],_,_,h=>by simp [sw] at h
 | x::s,y::t,hs,ht,h=>by
   simp only [sw,List.map_cons,List.cons.injEq] at h
   have h1:=hs x (by simp)
   have h2:=ht y (by simp)
   have:x=y:=by rw [←UInt8.toNat_inj]; omega
   rw [this,Du (s:=s) (t:=t) (fun c hc=>hs c (by simp [hc])) (fun c hc=>ht c (by simp [hc])) h.2]
theorem F9 (s t:Str):sw (s++t)=sw s++sw t:=by simp [sw]
theorem FE {c:Nat} (hc:c < 95) {u:List Nat}:den (.set (gU c)) u↔u=[c]:=by
 simp only [den,gU]
 constructor
 · rintro ⟨d,rfl,hd⟩
   rw [List.getElem?_set] at hd
   split at hd
   · rename_i h; rw [h]
   · rw [List.getElem?_replicate] at hd
     split at hd<;>simp at hd
 · rintro rfl
   exact ⟨c,rfl,by rw [List.getElem?_set_self (by rw [List.length_replicate]; exact hc)]⟩
theorem FC {l:List Rx} {u:List Nat}:den (Gl l) u↔jT l u:=by
 rcases l with _ | ⟨p,_ | ⟨q,l⟩⟩
 · simp only [Gl,den]
 · simp only [Gl]; exact C3.symm
 · simp only [Gl,den]
theorem EN {u:List Nat}:¬den EJ u:=by
 simp only [EJ,den]
 rintro ⟨c,_,hc⟩
 rw [List.getElem?_replicate] at hc
 split at hc<;>simp at hc
theorem oD {l:List Rx} {u:List Nat}:den (f9 l) u↔∃ p∈l,den p u:=by
 rcases l with _ | ⟨p,_ | ⟨q,l⟩⟩
 · simp only [f9]; simp [EN]
 · simp [f9]
 · simp only [f9,den]; exact tZ
theorem yH:∀ {s:Str},eQ s→∀ {u:List Nat},jT (s.map fun c=>.set (gU (c.toNat - 32))) u↔u=sw s
 | [],_,u=>by simp [jT,sw]
 | x::s,hs,u=>by
   have hx:=hs x (by simp)
   have ih:=@yH s (fun c hc=>hs c (by simp [hc]))
   simp only [List.map_cons,jT,cat,sw]
   constructor
   · rintro ⟨a,b,rfl,h1,h2⟩
     rw [(FE (by omega)).1 h1,ih.1 h2]
     simp [sw]
   · rintro rfl
     exact ⟨[x.toNat - 32],sw s,by simp [sw],(FE (by omega)).2 rfl,ih.2 rfl⟩
theorem sW {s:Str} (hs:eQ s) {u:List Nat}:den (Pd s) u↔u=sw s:=by
 rw [Pd,FC]; exact yH hs
theorem Bo {bs:List Bool} {u:List Nat}:Star (den (.set bs)) u↔∀ c∈u,bs[c]?=some true:=by
 constructor
 · intro h
   induction h with
   | nil=>simp
   | snoc _ h2 ih=>
     simp only [den] at h2
     obtain ⟨c,rfl,hc⟩:=h2
     intro d hd
     rcases List.mem_append.1 hd with hd | hd
     · exact ih d hd
     · simp at hd; subst hd; exact hc
 · intro h
   have:∀ (m:Nat) (u:List Nat),u.length=m→(∀ c∈u,bs[c]?=some true)→Star (den (.set bs)) u:=by
    intro m
    induction m with
    | zero=>intro u hu _; rw [List.length_eq_zero_iff.1 hu]; exact .nil
    | succ m ih=>
      intro u hu hc
      obtain ⟨l,x,rfl⟩:∃ l x,u=l++[x]:=by
       rcases List.eq_nil_or_concat u with rfl | ⟨l,x,rfl⟩
       · simp at hu
       · exact ⟨l,x,by simp⟩
      refine .snoc (ih l (by simpa using hu) fun c hcm=>hc c (by simp [hcm])) ?_
      simp only [den]
      exact ⟨x,rfl,hc x (by simp)⟩
   exact this _ u rfl h
theorem De {c:Nat}:mh[c]?=some true↔c < 95:=by
 rw [mh,List.getElem?_replicate]
 split<;>simp [*]
theorem Jp {d c:Nat}:(Jq d)[c]?=some true↔c < 95∧c≠d:=by
 rw [Jq,List.getElem?_set]
 split
 · rename_i h
   subst h
   split<;>simp
 · rename_i h
   rw [De]
   constructor
   · intro h2; exact ⟨h2,fun e=>h e.symm⟩
   · intro h2; exact h2.1
theorem yG {p:Rx} {u:List Nat}:den (.rep p 42) u↔Star (den p) u:=by simp only [den,if_neg (show ¬(42:Nat)=63 by omega),if_true]
theorem FB {u:List Nat}:den rx7 u↔∀ c∈u,c < 95:=by
 rw [rx7,yG,Bo]
 exact forall₂_congr fun c _=>De
theorem MV {u:List Nat}:den rx8 u↔∀ c∈u,c < 95∧c≠26:=by
 rw [rx8,yG,Bo]
 exact forall₂_congr fun c _=>Jp
theorem Ka {ws:List Str} (hs:∀ w∈ws,eQ w) {u:List Nat}:den (f9 (ws.map (D3 []))) u↔∃ w∈ws,u=sw w:=by
 rw [oD]
 constructor
 · rintro ⟨p,hp,h⟩
   obtain ⟨w,hw,rfl⟩:=List.mem_map.1 hp
   rw [D3,List.append_nil] at h
   exact ⟨w,hw,(sW (hs w hw)).1 h⟩
 · rintro ⟨w,hw,rfl⟩
   refine ⟨_,List.mem_map.2 ⟨w,hw,rfl⟩,?_⟩
   rw [D3,List.append_nil]
   exact (sW (hs w hw)).2 rfl
theorem xO {w:Str} (h:eQ w):eQ (w++[58]):=fun c hc=>by
 rcases List.mem_append.1 hc with hc | hc
 · exact h c hc
 · simp at hc; subst hc; decide
theorem Bl (w:Str):sw (w++[58])=sw w++[26]:=by simp [sw]
theorem Kb {ws:List Str} (hs:∀ w∈ws,eQ w) {u:List Nat}:den (f9 (ws.map (D3 [58]))) u↔∃ w∈ws,u=sw w++[26]:=by
 rw [oD]
 constructor
 · rintro ⟨p,hp,h⟩
   obtain ⟨w,hw,rfl⟩:=List.mem_map.1 hp
   exact ⟨w,hw,by rw [←Bl]; exact (sW (xO (hs w hw))).1 h⟩
 · rintro ⟨w,hw,rfl⟩
   refine ⟨_,List.mem_map.2 ⟨w,hw,rfl⟩,?_⟩
   rw [D3,←Bl]
   exact (sW (xO (hs w hw))).2 rfl
theorem MU {ws:List Str} (hs:∀ w∈ws,eQ w) {u:List Nat}:den (Ov ws) u↔(∀ c∈u,c < 95∧c≠26)∨∃ w∈ws,∃ r:List Nat,u=sw w++[26]++r∧∀ c∈r,c < 95:=by
 rw [Ov,oD]
 simp only [List.mem_cons,List.not_mem_nil,or_false,exists_eq_or_imp,exists_eq_left,MV,FC,jT,cat,Kb hs,FB]
 refine or_congr_right ?_
 constructor
 · rintro ⟨a,b,rfl,⟨w,hw,rfl⟩,c,d,rfl,h1,rfl⟩
   exact ⟨w,hw,c,by simp,h1⟩
 · rintro ⟨w,hw,r,rfl,h⟩
   exact ⟨sw w++[26],r,rfl,⟨w,hw,rfl⟩,r,[],by simp,h,rfl⟩
theorem O7 {cls:List Nat→List Nat→Prop} {x:Rx} {N:Net} (h:NetSpec cls x N) (hf:fresh x≤498):N.ok:=
 ⟨by rw [h.n]; omega,by rw [h.n]; omega,by rw [h.start,h.n]; omega,by rw [h.stop,h.n]; omega,fun e he=>by
   have h1:=h.edges e he
   have h2:=h.bytes e he
   exact ⟨h1.1,h1.2,h2.1,h2.2⟩⟩
theorem qt (P:Lg):sat (fun u v=>u=v) P:=fun u v _ _ h hp=>h ▸ hp
mutual
theorem mr:∀ (x:Rx) (X:Lg),iz (fun u v=>u=v) X x
 | .set _,_=>by simp only [iz]
 | .seq l,X=>by simp only [iz]; exact Fe l X
 | .alt l,X=>by simp only [iz]; exact Ff l X
 | .rep p op,X=>by
   simp only [iz]
   split
   · exact mr p X
   · split
     · exact ⟨qt _,mr p _⟩
     · exact ⟨qt _,qt _,mr p _⟩
theorem Fe:∀ (l:List Rx) (X:Lg),Bs (fun u v=>u=v) X l
 | [],_=>by simp only [Bs]
 | p::l,X=>by simp only [Bs]; exact ⟨mr p X,.inr ⟨qt _,Fe l _⟩⟩
theorem Ff:∀ (l:List Rx) (X:Lg),Bt (fun u v=>u=v) X l
 | [],_=>by simp only [Bt]
 | p::l,X=>by simp only [Bt]; exact ⟨mr p X,Ff l X⟩
end
variable {L:List (List Nat)} {g:List Nat→Nat}
end Go.Abs
end
section
namespace Go.Abs
open Go.Aut
attribute [-simp] getElem?_pos Option.not_isSome List.map_map cl nt
end Go.Abs

end
section
set_option maxHeartbeats 2000000
set_option maxRecDepth 100000
namespace Go.Abs
open Go.Proofs Go.Aut
attribute [-simp] getElem?_pos Option.not_isSome List.map_map cl nt
inductive GoodC:F.Constraint→Rx→Prop
 | any:GoodC ⟨1,[],[]⟩ rx7
 | enum {ws:List Str}:ws≠[]→F.words ws false=true→ws.length≤4→GoodC ⟨2,ws,[]⟩ (f9 (ws.map (D3 [])))
 | scheme {ws:List Str}:F.words ws true=true→ws.length≤4→GoodC ⟨3,ws,[]⟩ (Ov ws)
 | mat {s:Str} {x:Rx}:(s,x)∈fN→s∈F.pool12→GoodC ⟨4,[],s⟩ x
theorem rn (sch:Bool):∀ (l out:List Str),(out=[]∨F.words out sch=true)→F.pickW sch out l=[]∨F.words (F.pickW sch out l) sch=true
 | [],out,h=>by simpa only [F.pickW] using h
 | w::l,out,h=>by
   simp only [F.pickW]
   refine rn sch l _ ?_
   split
   · exact .inr ‹_›
   · exact h
theorem FV (sch:Bool):F.words [] sch=true:=by simp [F.words,F.wordsGo]
theorem CH (c:F.Constraint):∃ x,GoodC (F.good12 c) x:=by
 unfold F.good12
 obtain ⟨h1,h2⟩:=F.kind12_range c.kind
 generalize F.kind12 c.kind=k at *
 simp only
 split
 · have hlt:F.sumB c.regex % 7 < 7:=Nat.mod_lt _ (by omega)
   generalize F.sumB c.regex % 7=i at *
   have:i=0∨i=1∨i=2∨i=3∨i=4∨i=5∨i=6:=by omega
   rcases this with rfl | rfl | rfl | rfl | rfl | rfl | rfl
   · exact ⟨rx0,.mat (by simp [F.pool12,fN]) (by simp [F.pool12])⟩
   · exact ⟨rx1,.mat (by simp [F.pool12,fN]) (by simp [F.pool12])⟩
   · exact ⟨rx2,.mat (by simp [F.pool12,fN]) (by simp [F.pool12])⟩
   · exact ⟨rx3,.mat (by simp [F.pool12,fN]) (by simp [F.pool12])⟩
   · exact ⟨rx4,.mat (by simp [F.pool12,fN]) (by simp [F.pool12])⟩
   · exact ⟨rx5,.mat (by simp [F.pool12,fN]) (by simp [F.pool12])⟩
   · exact ⟨rx6,.mat (by simp [F.pool12,fN]) (by simp [F.pool12])⟩
 · have hl:=F.pickW_len (decide (k=3)) (c.words.take 4) []
   have hw:=rn (decide (k=3)) (c.words.take 4) [] (.inl rfl)
   simp at hl
   have:k=1∨k=2∨k=3:=by omega
   rcases this with rfl | rfl | rfl
   · exact ⟨rx7,by simpa using GoodC.any⟩
   · simp only [show (decide ((2:Int)=3))=false by decide] at hl hw
     simp only [show ¬((2:Int)=1) by omega,if_false,true_and,show (decide ((2:Int)=3))=false by decide]
     generalize F.pickW false [] (c.words.take 4)=ws at *
     split
     · exact ⟨_,.enum (by simp) (by decide) (by simp)⟩
     · rename_i hne
       rcases hw with hw | hw
       · exact absurd hw hne
       · exact ⟨_,.enum hne hw (by omega)⟩
   · simp only [show (decide ((3:Int)=3))=true by decide] at hl hw
     simp only [show ¬((3:Int)=1) by omega,show ¬((3:Int)=2) by omega,if_false,false_and,show (decide ((3:Int)=3))=true by decide]
     simp only [decide_true] at hl hw ⊢
     rcases hw with hw | hw
     · rw [hw]; exact ⟨_,.scheme (FV true) (by simp)⟩
     · exact ⟨_,.scheme hw (by omega)⟩
theorem kV {sch:Bool}:∀ {l pre:List Str},F.wordsGo sch pre l=true→∀ w∈l,F.wordOK sch w=true
 | [],_,_,w,hw=>by cases hw
 | x::l,pre,h,w,hw=>by
   simp only [F.wordsGo,Bool.and_eq_true] at h
   rcases List.mem_cons.1 hw with rfl | hw
   · exact h.1
   · exact kV h.2.2 w hw
theorem s8 {ws:List Str} (h:F.words ws false=true):∀ w∈ws,eQ w∧w.length≤40:=fun w hw=>by
 simp only [F.words,Bool.and_eq_true] at h
 have:=kV h.1 w hw
 simp only [F.wordOK,Bool.false_eq_true,if_false,Bool.and_eq_true,decide_eq_true_eq,List.all_eq_true] at this
 refine ⟨fun c hc=>?_,this.2⟩
 have:=this.1 c hc
 simpa [F.sign] using this
theorem oJ {ws:List Str} (h:F.words ws true=true):∀ w∈ws,eQ w∧w.length≤16∧∀ c∈w,97≤c.toNat∧c.toNat≤122:=fun w hw=>by
 simp only [F.words,Bool.and_eq_true] at h
 have:=kV h.1 w hw
 simp only [F.wordOK,if_true,F.scheme,Bool.and_eq_true,decide_eq_true_eq,List.all_eq_true] at this
 have hc:∀ c∈w,97≤c.toNat∧c.toNat≤122:=fun c hc=>by
  have:=this.1 c hc
  simpa [F.small] using this
 exact ⟨fun c h=>by have:=hc c h; omega,this.2.2,hc⟩
end Go.Abs
end
section
set_option maxHeartbeats 4000000
set_option maxRecDepth 100000
namespace Go.Abs
open Go.Proofs Go.Aut
attribute [-simp] getElem?_pos Option.not_isSome List.map_map cl nt
end Go.Abs

end
