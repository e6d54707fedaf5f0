/-
  Expressions as trees, plainly: what they match, and how their nets come to be, part by part. No condition.
  The net of an expression, plainly: how it is made, and what it accepts. No condition.
  Expressions that are made of others: what the small functions of package regex answer. No condition.
  An expression's net: what package regex's maker makes. No condition.
  An expression's net: what is made of parts behind one another, of branches, of repeated parts; the whole net. No condition.
  An expression's whole net. No condition.
  What package regex parses the few texts as that policies of the statements bear. No condition.
  What package lang makes of constraints: expressions. No condition.
-/
import Derived.Test.YtloaikaippankaaGreatDoorTTh3
import Derived.Test.YtloaikaippankaaGreatDoorTTh4
import Derived.Test.YtloaikaippankaaGreatDoorTCodeA
import Derived.Test.YtloaikaippankaaGreatDoorTF1
set_option linter.unusedVariables false
set_option linter.unusedSimpArgs false
set_option linter.unusedSectionVars false
section
namespace Go.Aut
inductive Rx where
 | set (bs:List Bool)
 | seq (l:List Rx)
 | alt (l:List Rx)
 | rep (p:Rx) (op:Nat)
abbrev Lg:=List Nat→Prop
inductive Star (L:Lg):Lg
 | nil:Star L []
 | snoc {u v:List Nat}:Star L u→L v→Star L (u++v)
def cat (A B:Lg):Lg:=fun w=>∃ u v,w=u++v∧A u∧B v
def IY (L:Lg):Lg:=cat (Star L) L
mutual
def den:Rx→Lg
 | .set bs=>fun w=>∃ c,w=[c]∧bs[c]?=some true
 | .seq l=>lA l
 | .alt l=>xX l
 | .rep p op=>fun w=>if op=63 then w=[]∨den p w else if op=42 then Star (den p) w else IY (den p) w
def lA:List Rx→Lg
 | []=>fun w=>w=[]
 | p::l=>cat (den p) (lA l)
def xX:List Rx→Lg
 | []=>fun _=>False
 | p::l=>fun w=>den p w∨xX l w
end
structure Job where
 p:Rx
 fr:Nat
 to:Nat
def tk (e:NEdge) (c:Nat):Bool:=decide (e.low≤c + 32∧c + 32≤e.high)
inductive Rg (E:List NEdge) (W:List Job):Nat→Lg
 | start:Rg E W 0 []
 | free {q:Nat} {u:List Nat} {e:NEdge}:Rg E W q u→e∈E→e.free=true→e.fr=q→Rg E W e.to u
 | take {q:Nat} {u:List Nat} {e:NEdge} {c:Nat}:Rg E W q u→e∈E→tk e c=true→c < 95→e.fr=q→Rg E W e.to (u++[c])
 | job {q:Nat} {u v:List Nat} {j:Job}:Rg E W q u→j∈W→j.fr=q→den j.p v→Rg E W j.to (u++v)
structure Wf (n:Nat) (E:List NEdge) (W:List Job):Prop where
 two:2≤n
 edges:∀ e∈E,e.fr < n∧e.to < n
 jobs:∀ j∈W,j.fr < n∧j.to < n
def mix (n:Nat) (A F:Nat→Lg) (q:Nat):Lg:=if q < n then A q else F q
theorem a7 {n:Nat} {A F:Nat→Lg} {q:Nat} (h:q < n):mix n A F q=A q:=if_pos h
theorem dP {n:Nat} {A F:Nat→Lg} {q:Nat} (h:n≤q):mix n A F q=F q:=if_neg (by omega)
theorem E4 {n n':Nat} {E es:List NEdge} {W0 js:List Job} {j:Job} (hw:Wf n E (W0++[j])) (F:Nat→Lg)
 (hf:∀ u v,Rg (E++es) (W0++js) j.fr u→den j.p v→Rg (E++es) (W0++js) j.to (u++v))
 (hF:∀ q,n≤q→q < n'→∀ u,(∀ v,Rg E (W0++[j]) j.fr v→Rg (E++es) (W0++js) j.fr v)→F q u→Rg (E++es) (W0++js) q u)
 (hes:∀ e∈es,e.free=true→∀ u,mix n (Rg E (W0++[j])) F e.fr u→mix n (Rg E (W0++[j])) F e.to u)
 (htk:∀ e∈es,∀ c,c < 95→tk e c=true→∀ u,mix n (Rg E (W0++[j])) F e.fr u→mix n (Rg E (W0++[j])) F e.to (u++[c]))
 (hjs:∀ k∈js,∀ u v,mix n (Rg E (W0++[j])) F k.fr u→den k.p v→mix n (Rg E (W0++[j])) F k.to (u++v)):
 (∀ q < n,∀ u,Rg E (W0++[j]) q u↔Rg (E++es) (W0++js) q u)∧∀ q,n≤q→q < n'→∀ u,F q u↔Rg (E++es) (W0++js) q u:=by
 have fwd:∀ q u,Rg E (W0++[j]) q u→Rg (E++es) (W0++js) q u:=by
  intro q u h
  induction h with
  | start=>exact .start
  | free _ he hf he2 ih=>exact .free ih (List.mem_append_left _ he) hf he2
  | take _ he ht hc he2 ih=>exact .take ih (List.mem_append_left _ he) ht hc he2
  | job _ hj hjf hd ih=>
    rcases List.mem_append.1 hj with h | h
    · exact .job ih (List.mem_append_left _ h) hjf hd
    · simp only [List.mem_singleton] at h
      subst h
      subst hjf
      exact hf _ _ ih hd
 have back:∀ q u,Rg (E++es) (W0++js) q u→mix n (Rg E (W0++[j])) F q u:=by
  intro q u h
  induction h with
  | start=>rw [a7 (by have:=hw.two; omega)]; exact .start
  | @free q u e _ he hfr he2 ih=>
    subst he2
    rcases List.mem_append.1 he with h | h
    · obtain ⟨h1,h2⟩:=hw.edges e h
      rw [a7 h1] at ih
      rw [a7 h2]
      exact .free ih h hfr rfl
    · exact hes e h hfr u ih
  | @take q u e c _ he ht hc he2 ih=>
    subst he2
    rcases List.mem_append.1 he with h | h
    · obtain ⟨h1,h2⟩:=hw.edges e h
      rw [a7 h1] at ih
      rw [a7 h2]
      exact .take ih h ht hc rfl
    · exact htk e h c hc ht u ih
  | @job q u v k _ hk hkf hd ih=>
    subst hkf
    rcases List.mem_append.1 hk with h | h
    · obtain ⟨h1,h2⟩:=hw.jobs k (List.mem_append_left _ h)
      rw [a7 h1] at ih
      rw [a7 h2]
      exact .job ih (List.mem_append_left _ h) rfl hd
    · exact hjs k h u v ih hd
 refine ⟨fun q hq u=>⟨fwd q u,fun h=>?_⟩,fun q hq hq' u=>⟨hF q hq hq' u (fun v=>fwd _ v),fun h=>?_⟩⟩
 · have:=back q u h; rwa [a7 hq] at this
 · have:=back q u h; rwa [dP (by omega)] at this
def sat (cls:List Nat→List Nat→Prop) (P:Lg):Prop:=∀ u v,(∀ c∈u,c < 95)→(∀ c∈v,c < 95)→cls u v→P u→P v
mutual
def dM (cls:List Nat→List Nat→Prop):Lg→Rx→Prop
 | _,.set _=>True
 | X,.seq l=>tl cls X l
 | X,.alt l=>BP cls X l
 | X,.rep p op=>if op=63 then dM cls X p else if op=42 then sat cls (cat X (Star (den p)))∧dM cls (cat X (Star (den p))) p
   else sat cls (cat X (Star (den p)))∧sat cls (cat X (IY (den p)))∧dM cls (cat X (Star (den p))) p
def tl (cls:List Nat→List Nat→Prop):Lg→List Rx→Prop
 | _,[]=>True
 | X,p::l=>dM cls X p∧(l=[]∨(sat cls (cat X (den p))∧tl cls (cat X (den p)) l))
def BP (cls:List Nat→List Nat→Prop):Lg→List Rx→Prop
 | _,[]=>True
 | X,p::l=>dM cls X p∧BP cls X l
end
structure Sys where
 n:Nat
 E:List NEdge
 W:List Job
def Sys.P (S:Sys) (q:Nat):Lg:=Rg S.E S.W q
structure Sys.ok (cls:List Nat→List Nat→Prop) (S:Sys):Prop where
 wf:Wf S.n S.E S.W
 st:∀ q < S.n,sat cls (S.P q)
 jb:∀ j∈S.W,dM cls (S.P j.fr) j.p
structure Sim (S T:Sys):Prop where
 le:S.n≤T.n
 eq:∀ q < S.n,S.P q=T.P q
theorem Sim.trans {S T U:Sys} (h:Sim S T) (k:Sim T U):Sim S U:=
 ⟨Nat.le_trans h.le k.le,fun q hq=>(h.eq q hq).trans (k.eq q (Nat.lt_of_lt_of_le hq h.le))⟩
def fre (a b:Nat):NEdge:=⟨a,b,1,0⟩
theorem gv (a b:Nat):(fre a b).free=true:=by simp [fre,NEdge.free]
theorem C3 (a b c:Nat):tk (fre a b) c=false:=by simp [fre,tk]
theorem Star.one {L:Lg} {v:List Nat} (h:L v):Star L v:=by simpa using Star.snoc (L:=L) .nil h
theorem Ie {A L:Lg} {u:List Nat} (h:A u):cat A (Star L) u:=⟨u,[],by simp,h,.nil⟩
theorem MM {A L:Lg} {u v:List Nat} (h:cat A (Star L) u) (hv:L v):cat A (Star L) (u++v):=by
 obtain ⟨a,b,rfl,h1,h2⟩:=h
 exact ⟨a,b++v,by simp,h1,.snoc h2 hv⟩
variable {cls:List Nat→List Nat→Prop} {n:Nat} {E:List NEdge} {W0:List Job} {fr to:Nat}
theorem jH {n':Nat} {es:List NEdge} {js:List Job} {j:Job} (h:(Sys.mk n E (W0++[j])).ok cls) (hn:n≤n') (F:Nat→Lg) (hwf:Wf n' (E++es) (W0++js))
 (he:(∀ q < n,∀ u,Rg E (W0++[j]) q u↔Rg (E++es) (W0++js) q u)∧∀ q,n≤q→q < n'→∀ u,F q u↔Rg (E++es) (W0++js) q u)
 (hs:∀ q,n≤q→q < n'→sat cls (F q)) (hj:∀ k∈js,dM cls (mix n (Rg E (W0++[j])) F k.fr) k.p):
 (Sys.mk n' (E++es) (W0++js)).ok cls∧Sim ⟨n,E,W0++[j]⟩ ⟨n',E++es,W0++js⟩:=by
 have e1:∀ q < n,Rg E (W0++[j]) q=Rg (E++es) (W0++js) q:=fun q hq=>funext fun u=>propext (he.1 q hq u)
 have e2:∀ q,n≤q→q < n'→F q=Rg (E++es) (W0++js) q:=fun q h1 h2=>funext fun u=>propext (he.2 q h1 h2 u)
 refine ⟨⟨hwf,fun q hq=>?_,fun k hk=>?_⟩,hn,fun q hq=>e1 q hq⟩
 · by_cases hqn:q < n
   · have:=h.st q hqn
     simp only [Sys.P] at this ⊢
     rwa [←e1 q hqn]
   · have:=hs q (by omega) hq
     simp only [Sys.P]
     rwa [←e2 q (by omega) hq]
 · simp only [Sys.P]
   rcases List.mem_append.1 hk with h1 | h1
   · have h2:=h.jb k (List.mem_append_left _ h1)
     have h3:=(h.wf.jobs k (List.mem_append_left _ h1)).1
     simp only [Sys.P] at h2
     rwa [←e1 _ h3]
   · have h2:=hj k h1
     have h3:=(hwf.jobs k (List.mem_append_right _ h1)).1
     by_cases hkn:k.fr < n
     · rw [a7 hkn,e1 _ hkn] at h2; exact h2
     · rw [dP (by omega),e2 _ (by omega) h3] at h2; exact h2
theorem uk {n':Nat} {es:List NEdge} {js:List Job} {j:Job} (h:Wf n E (W0++[j])) (hn:n≤n') (he:∀ e∈es,e.fr < n'∧e.to < n') (hj:∀ k∈js,k.fr < n'∧k.to < n'):Wf n' (E++es) (W0++js):=by
 refine ⟨by have:=h.two; omega,fun e hm=>?_,fun k hm=>?_⟩
 · rcases List.mem_append.1 hm with h1 | h1
   · have:=h.edges e h1; omega
   · exact he e h1
 · rcases List.mem_append.1 hm with h1 | h1
   · have:=h.jobs k (List.mem_append_left _ h1); omega
   · exact hj k h1
theorem aJ {j:Job}:j∈W0++[j]:=by simp
theorem K3 {bs:List Bool} {es:List NEdge} (h:(Sys.mk n E (W0++[⟨.set bs,fr,to⟩])).ok cls) (h1:∀ e∈es,e.fr=fr∧e.to=to∧e.free=false)
 (h2:∀ c < 95,(bs[c]?=some true↔∃ e∈es,tk e c=true)) (hb:bs.length=95):(Sys.mk n (E++es) (W0++[])).ok cls∧Sim ⟨n,E,W0++[⟨.set bs,fr,to⟩]⟩ ⟨n,E++es,W0++[]⟩:=by
 have hw:Wf n E (W0++[_]):=h.wf
 obtain ⟨k1,k2⟩:=hw.jobs _ aJ
 simp only at k1 k2
 refine jH h (Nat.le_refl _) (fun _ _=>False) (uk hw (Nat.le_refl _) (fun e he=>by obtain ⟨g1,g2,_⟩:=h1 e he; omega) (fun k hk=>by cases hk)) (E4 hw _ ?_ ?_ ?_ ?_ ?_) (fun q h1 h2=>by omega) (fun k hk=>by cases hk)
 · intro u v hu hd
   simp only [den] at hd
   obtain ⟨c,rfl,hc⟩:=hd
   have hc95:c < 95:=by have:=(List.getElem?_eq_some_iff.1 hc).1; omega
   obtain ⟨e,he,ht⟩:=(h2 c hc95).1 hc
   obtain ⟨g1,g2,_⟩:=h1 e he
   have:=Rg.take hu (List.mem_append_right _ he) ht hc95 g1
   rwa [g2] at this
 · intro q h1 h2; omega
 · intro e he hf; obtain ⟨_,_,g⟩:=h1 e he; rw [g] at hf; cases hf
 · intro e he c hc ht u hu
   obtain ⟨g1,g2,_⟩:=h1 e he
   rw [g1,a7 k1] at hu
   rw [g2,a7 k2]
   refine Rg.job (j:=⟨.set bs,fr,to⟩) hu aJ rfl ?_
   simp only [den]
   exact ⟨c,rfl,(h2 c hc).2 ⟨e,he,ht⟩⟩
 · intro k hk; cases hk
theorem K6 (h:(Sys.mk n E (W0++[⟨.seq [],fr,to⟩])).ok cls):(Sys.mk n (E++[fre fr to]) (W0++[])).ok cls∧Sim ⟨n,E,W0++[⟨.seq [],fr,to⟩]⟩ ⟨n,E++[fre fr to],W0++[]⟩:=by
 have hw:Wf n E (W0++[_]):=h.wf
 obtain ⟨k1,k2⟩:=hw.jobs _ aJ
 simp only at k1 k2
 refine jH h (Nat.le_refl _) (fun _ _=>False) (uk hw (Nat.le_refl _) (fun e he=>by simp at he; subst he; exact ⟨k1,k2⟩) (fun k hk=>by cases hk)) (E4 hw _ ?_ ?_ ?_ ?_ ?_) (fun q h1 h2=>by omega) (fun k hk=>by cases hk)
 · intro u v hu hd
   simp only [den,lA] at hd
   subst hd
   rw [List.append_nil u]
   have hu2:Rg (E++[fre fr to]) (W0++[]) fr u:=hu
   exact Rg.free (e:=fre fr to) hu2 (by simp) (gv _ _) rfl
 · intro q h1 h2; omega
 · intro e he hf u hu
   simp at he; subst he
   simp only [fre] at hu ⊢
   rw [a7 k1] at hu
   rw [a7 k2]
   have:=Rg.job (j:=⟨.seq [],fr,to⟩) (v:=[]) hu aJ rfl (by simp only [den,lA])
   rwa [List.append_nil] at this
 · intro e he c hc ht; simp at he; subst he; rw [C3] at ht; cases ht
 · intro k hk; cases hk
theorem E8 {p:Rx} {w:List Nat}:lA [p] w↔den p w:=by
 simp only [lA,cat]
 constructor
 · rintro ⟨u,v,rfl,h1,rfl⟩; simpa using h1
 · intro h; exact ⟨w,[],by simp,h,rfl⟩
theorem K5 {p:Rx} (h:(Sys.mk n E (W0++[⟨.seq [p],fr,to⟩])).ok cls):(Sys.mk n (E++[]) (W0++[⟨p,fr,to⟩])).ok cls∧Sim ⟨n,E,W0++[⟨.seq [p],fr,to⟩]⟩ ⟨n,E++[],W0++[⟨p,fr,to⟩]⟩:=by
 have hw:Wf n E (W0++[_]):=h.wf
 obtain ⟨k1,k2⟩:=hw.jobs _ aJ
 have hj:=h.jb _ aJ
 simp only at k1 k2
 refine jH h (Nat.le_refl _) (fun _ _=>False) (uk hw (Nat.le_refl _) (fun e he=>by cases he) (fun k hk=>by simp at hk; subst hk; exact ⟨k1,k2⟩)) (E4 hw _ ?_ ?_ ?_ ?_ ?_) (fun q h1 h2=>by omega) ?_
 · intro u v hu hd
   simp only [den] at hd
   exact Rg.job (j:=⟨p,fr,to⟩) hu aJ rfl (E8.1 hd)
 · intro q h1 h2; omega
 · intro e he; cases he
 · intro e he; cases he
 · intro k hk u v hu hd
   simp at hk; subst hk
   simp only at hu ⊢
   rw [a7 k1] at hu
   rw [a7 k2]
   refine Rg.job (j:=⟨.seq [p],fr,to⟩) hu aJ rfl ?_
   simp only [den]
   exact E8.2 hd
 · intro k hk
   simp at hk; subst hk
   simp only [a7 k1]
   simp only [dM,tl] at hj
   exact hj.1
theorem K2 {p q0:Rx} {l:List Rx} (h:(Sys.mk n E (W0++[⟨.seq (p::q0::l),fr,to⟩])).ok cls):
 (Sys.mk (n + 1) (E++[]) (W0++[⟨p,fr,n⟩,⟨.seq (q0::l),n,to⟩])).ok cls∧Sim ⟨n,E,W0++[⟨.seq (p::q0::l),fr,to⟩]⟩ ⟨n + 1,E++[],W0++[⟨p,fr,n⟩,⟨.seq (q0::l),n,to⟩]⟩:=by
 have hw:Wf n E (W0++[_]):=h.wf
 obtain ⟨k1,k2⟩:=hw.jobs _ aJ
 have hj:=h.jb _ aJ
 simp only at k1 k2
 simp only [dM,tl,List.cons_ne_nil,reduceCtorEq,false_or] at hj
 simp only [Sys.P] at hj
 have hd:∀ w,den (.seq (p::q0::l)) w↔cat (den p) (den (.seq (q0::l))) w:=fun w=>by simp only [den,lA]
 refine jH h (Nat.le_succ _) (fun _=>cat (Rg E (W0++[⟨.seq (p::q0::l),fr,to⟩]) fr) (den p)) (uk hw (Nat.le_succ _) (fun e he=>by cases he) (fun k hk=>by
  simp at hk; rcases hk with rfl | rfl<;>simp only<;>omega)) (E4 hw _ ?_ ?_ ?_ ?_ ?_) (fun q h1 h2=>hj.2.1) ?_
 · intro u v hu hdv
   obtain ⟨a,b,rfl,h1,h2⟩:=(hd v).1 hdv
   rw [←List.append_assoc]
   refine Rg.job (j:=⟨.seq (q0::l),n,to⟩) (q:=n) ?_ (by simp) rfl h2
   exact Rg.job (j:=⟨p,fr,n⟩) hu (by simp) rfl h1
 · intro q h1 h2 u hg hu
   have:q=n:=by omega
   subst this
   obtain ⟨a,b,rfl,g1,g2⟩:=hu
   exact Rg.job (j:=⟨p,fr,q⟩) (hg a g1) (by simp) rfl g2
 · intro e he; cases he
 · intro e he; cases he
 · intro k hk u v hu hdv
   simp at hk
   rcases hk with rfl | rfl
   · simp only at hu ⊢
     rw [a7 k1] at hu
     rw [dP (by omega)]
     exact ⟨u,v,rfl,hu,hdv⟩
   · simp only at hu ⊢
     rw [dP (by omega)] at hu
     rw [a7 k2]
     obtain ⟨a,b,rfl,g1,g2⟩:=hu
     rw [List.append_assoc]
     exact Rg.job (j:=⟨.seq (p::q0::l),fr,to⟩) g1 aJ rfl ((hd _).2 ⟨b,v,rfl,g2,hdv⟩)
 · intro k hk
   simp at hk
   rcases hk with rfl | rfl
   · simp only [a7 k1]; exact hj.1
   · simp only
     rw [dP (by omega)]
     simp only [dM,tl]
     have:=hj.2.2
     exact this
theorem w4 {l:List Rx} {w:List Nat}:xX l w↔∃ p∈l,den p w:=by
 induction l with
 | nil=>simp [xX]
 | cons p l ih=>simp [xX,ih]
theorem DL {X:Lg} {l:List Rx}:BP cls X l↔∀ p∈l,dM cls X p:=by
 induction l with
 | nil=>simp [BP]
 | cons p l ih=>simp [BP,ih]
theorem K7 {l:List Rx} (h:(Sys.mk n E (W0++[⟨.alt l,fr,to⟩])).ok cls):(Sys.mk n (E++[]) (W0++l.map fun p=>⟨p,fr,to⟩)).ok cls∧Sim ⟨n,E,W0++[⟨.alt l,fr,to⟩]⟩ ⟨n,E++[],W0++l.map fun p=>⟨p,fr,to⟩⟩:=by
 have hw:Wf n E (W0++[_]):=h.wf
 obtain ⟨k1,k2⟩:=hw.jobs _ aJ
 have hj:=h.jb _ aJ
 simp only at k1 k2
 simp only [dM,Sys.P] at hj
 refine jH h (Nat.le_refl _) (fun _ _=>False) (uk hw (Nat.le_refl _) (fun e he=>by cases he) (fun k hk=>by simp at hk; obtain ⟨p,_,rfl⟩:=hk; exact ⟨k1,k2⟩)) (E4 hw _ ?_ ?_ ?_ ?_ ?_) (fun q h1 h2=>by omega) ?_
 · intro u v hu hd
   simp only [den] at hd
   obtain ⟨p,hp,hd⟩:=w4.1 hd
   exact Rg.job (j:=⟨p,fr,to⟩) hu (List.mem_append_right _ (List.mem_map.2 ⟨p,hp,rfl⟩)) rfl hd
 · intro q h1 h2; omega
 · intro e he; cases he
 · intro e he; cases he
 · intro k hk u v hu hd
   simp at hk; obtain ⟨p,hp,rfl⟩:=hk
   simp only at hu ⊢
   rw [a7 k1] at hu
   rw [a7 k2]
   refine Rg.job (j:=⟨.alt l,fr,to⟩) hu aJ rfl ?_
   simp only [den]
   exact w4.2 ⟨p,hp,hd⟩
 · intro k hk
   simp at hk; obtain ⟨p,hp,rfl⟩:=hk
   simp only [a7 k1]
   exact DL.1 hj p hp
theorem K4 {p:Rx} (h:(Sys.mk n E (W0++[⟨.rep p 63,fr,to⟩])).ok cls):(Sys.mk n (E++[fre fr to]) (W0++[⟨p,fr,to⟩])).ok cls∧Sim ⟨n,E,W0++[⟨.rep p 63,fr,to⟩]⟩ ⟨n,E++[fre fr to],W0++[⟨p,fr,to⟩]⟩:=by
 have hw:Wf n E (W0++[_]):=h.wf
 obtain ⟨k1,k2⟩:=hw.jobs _ aJ
 have hj:=h.jb _ aJ
 simp only at k1 k2
 simp only [dM,Sys.P,if_true] at hj
 have hd:∀ w,den (.rep p 63) w↔(w=[]∨den p w):=fun w=>by simp only [den,if_true]
 refine jH h (Nat.le_refl _) (fun _ _=>False) (uk hw (Nat.le_refl _) (fun e he=>by simp at he; subst he; exact ⟨k1,k2⟩) (fun k hk=>by simp at hk; subst hk; exact ⟨k1,k2⟩)) (E4 hw _ ?_ ?_ ?_ ?_ ?_) (fun q h1 h2=>by omega) ?_
 · intro u v hu hdv
   rcases (hd v).1 hdv with rfl | h1
   · rw [List.append_nil]
     exact Rg.free hu (e:=fre fr to) (by simp) (gv _ _) rfl
   · exact Rg.job (j:=⟨p,fr,to⟩) hu aJ rfl h1
 · intro q h1 h2; omega
 · intro e he hf u hu
   simp at he; subst he
   simp only [fre] at hu ⊢
   rw [a7 k1] at hu
   rw [a7 k2]
   have:=Rg.job (j:=⟨.rep p 63,fr,to⟩) (v:=[]) hu aJ rfl ((hd _).2 (.inl rfl))
   rwa [List.append_nil] at this
 · intro e he c hc ht; simp at he; subst he; rw [C3] at ht; cases ht
 · intro k hk u v hu hdv
   simp at hk; subst hk
   simp only at hu ⊢
   rw [a7 k1] at hu
   rw [a7 k2]
   exact Rg.job (j:=⟨.rep p 63,fr,to⟩) hu aJ rfl ((hd _).2 (.inr hdv))
 · intro k hk
   simp at hk; subst hk
   simp only [a7 k1]
   exact hj
theorem IG {p:Rx} (h:(Sys.mk n E (W0++[⟨.rep p 42,fr,to⟩])).ok cls):
 (Sys.mk (n + 1) (E++[fre fr n,fre n to]) (W0++[⟨p,n,n⟩])).ok cls∧Sim ⟨n,E,W0++[⟨.rep p 42,fr,to⟩]⟩ ⟨n + 1,E++[fre fr n,fre n to],W0++[⟨p,n,n⟩]⟩:=by
 have hw:Wf n E (W0++[_]):=h.wf
 obtain ⟨k1,k2⟩:=hw.jobs _ aJ
 have hj:=h.jb _ aJ
 simp only at k1 k2
 simp only [dM,Sys.P,if_true,if_neg (show ¬(42:Nat)=63 by omega)] at hj
 have hd:∀ w,den (.rep p 42) w↔Star (den p) w:=fun w=>by simp only [den,if_true,if_neg (show ¬(42:Nat)=63 by omega)]
 obtain ⟨A,hA⟩:∃ A,A=Rg E (W0++[⟨.rep p 42,fr,to⟩]) fr:=⟨_,rfl⟩
 rw [←hA] at hj
 have star:∀ {T:Nat→Lg},(∀ u v,T n u→den p v→T n (u++v))→∀ a b,T n a→Star (den p) b→T n (a++b):=by
  intro T hT a b ha hb
  induction hb with
  | nil=>rwa [List.append_nil]
  | snoc _ h2 ih=>rw [←List.append_assoc]; exact hT _ _ ih h2
 refine jH h (Nat.le_succ _) (fun _=>cat A (Star (den p))) (uk hw (Nat.le_succ _) (fun e he=>by simp at he; rcases he with rfl | rfl<;>simp only [fre]<;>omega) (fun k hk=>by simp at hk; subst hk; simp only; omega)) (E4 hw _ ?_ ?_ ?_ ?_ ?_) (fun q h1 h2=>hj.1) ?_
 · intro u v hu hdv
   refine Rg.free (q:=n) (e:=fre n to) ?_ (by simp) (gv _ _) rfl
   refine star (T:=Rg (E++[fre fr n,fre n to]) (W0++[⟨p,n,n⟩])) (fun u v h1 h2=>Rg.job (j:=⟨p,n,n⟩) h1 aJ rfl h2) _ _ ?_ ((hd v).1 hdv)
   exact Rg.free (e:=fre fr n) hu (by simp) (gv _ _) rfl
 · intro q h1 h2 u hg hu
   have:q=n:=by omega
   subst this
   obtain ⟨a,b,rfl,g1,g2⟩:=hu
   rw [hA] at g1
   refine star (T:=Rg (E++[fre fr q,fre q to]) (W0++[⟨p,q,q⟩])) (fun u v h1 h2=>Rg.job (j:=⟨p,q,q⟩) h1 aJ rfl h2) _ _ ?_ g2
   exact Rg.free (e:=fre fr q) (hg a g1) (by simp) (gv _ _) rfl
 · intro e he hf u hu
   simp at he
   rcases he with rfl | rfl
   · simp only [fre] at hu ⊢
     rw [a7 k1] at hu
     rw [dP (by omega)]
     exact Ie (by rw [hA]; exact hu)
   · simp only [fre] at hu ⊢
     rw [dP (by omega)] at hu
     rw [a7 k2]
     obtain ⟨a,b,rfl,g1,g2⟩:=hu
     rw [hA] at g1
     exact Rg.job (j:=⟨.rep p 42,fr,to⟩) g1 aJ rfl ((hd _).2 g2)
 · intro e he c hc ht; simp at he; rcases he with rfl | rfl<;>(rw [C3] at ht; cases ht)
 · intro k hk u v hu hdv
   simp at hk; subst hk
   simp only at hu ⊢
   rw [dP (by omega)] at hu ⊢
   exact MM hu hdv
 · intro k hk
   simp at hk; subst hk
   simp only
   rw [dP (by omega)]
   exact hj.2
theorem IF {p:Rx} {op:Nat} (ho:op≠63) (ho2:op≠42) (h:(Sys.mk n E (W0++[⟨.rep p op,fr,to⟩])).ok cls):
 (Sys.mk (n + 2) (E++[fre fr n,fre (n + 1) n,fre (n + 1) to]) (W0++[⟨p,n,n + 1⟩])).ok cls∧Sim ⟨n,E,W0++[⟨.rep p op,fr,to⟩]⟩ ⟨n + 2,E++[fre fr n,fre (n + 1) n,fre (n + 1) to],W0++[⟨p,n,n + 1⟩]⟩:=by
 have hw:Wf n E (W0++[_]):=h.wf
 obtain ⟨k1,k2⟩:=hw.jobs _ aJ
 have hj:=h.jb _ aJ
 simp only at k1 k2
 simp only [dM,Sys.P,if_neg ho,if_neg ho2] at hj
 have hd:∀ w,den (.rep p op) w↔IY (den p) w:=fun w=>by simp only [den,if_neg ho,if_neg ho2]
 obtain ⟨A,hA⟩:∃ A,A=Rg E (W0++[⟨.rep p op,fr,to⟩]) fr:=⟨_,rfl⟩
 rw [←hA] at hj
 obtain ⟨B,hB⟩:∃ B,B=Rg (E++[fre fr n,fre (n + 1) n,fre (n + 1) to]) (W0++[⟨p,n,n + 1⟩]):=⟨_,rfl⟩
 have b1:∀ u,B fr u→B n u:=fun u hu=>by rw [hB] at hu ⊢; exact Rg.free (e:=fre fr n) hu (by simp) (gv _ _) rfl
 have b2:∀ u,B (n + 1) u→B n u:=fun u hu=>by rw [hB] at hu ⊢; exact Rg.free (e:=fre (n + 1) n) hu (by simp) (gv _ _) rfl
 have b3:∀ u,B (n + 1) u→B to u:=fun u hu=>by rw [hB] at hu ⊢; exact Rg.free (e:=fre (n + 1) to) hu (by simp) (gv _ _) rfl
 have b4:∀ u v,B n u→den p v→B (n + 1) (u++v):=fun u v hu hv=>by rw [hB] at hu ⊢; exact Rg.job (j:=⟨p,n,n + 1⟩) hu aJ rfl hv
 have star:∀ a b,B n a→Star (den p) b→B n (a++b):=by
  intro a b ha hb
  induction hb with
  | nil=>rwa [List.append_nil]
  | snoc _ h2 ih=>rw [←List.append_assoc]; exact b2 _ (b4 _ _ ih h2)
 have hnm:∀ q,n≤q→q < n + 2→q=n∨q=n + 1:=fun q h1 h2=>by omega
 obtain ⟨F,hFn,hFm⟩:∃ F:Nat→Lg,F n=cat A (Star (den p))∧F (n + 1)=cat A (IY (den p)):=⟨fun q=>if q=n then cat A (Star (den p)) else cat A (IY (den p)),by simp,by simp⟩
 refine jH h (by omega) F (uk hw (by omega) (fun e he=>by simp at he; rcases he with rfl | rfl | rfl<;>simp only [fre]<;>omega) (fun k hk=>by simp at hk; subst hk; simp only; omega)) (E4 hw _ ?_ ?_ ?_ ?_ ?_) ?_ ?_
 · intro u v hu hdv
   rw [←hB] at hu ⊢
   obtain ⟨a,b,rfl,g1,g2⟩:=(hd v).1 hdv
   rw [←List.append_assoc]
   exact b3 _ (b4 _ _ (star _ _ (b1 _ hu) g1) g2)
 · intro q h1 h2 u hg hu
   rw [←hB] at hg ⊢
   rcases hnm q h1 h2 with rfl | rfl
   · rw [hFn] at hu
     obtain ⟨a,b,rfl,g1,g2⟩:=hu
     rw [hA] at g1
     exact star _ _ (b1 _ (hg a g1)) g2
   · rw [hFm] at hu
     obtain ⟨a,b,rfl,g1,c,d,rfl,g2,g3⟩:=hu
     rw [hA] at g1
     rw [←List.append_assoc]
     exact b4 _ _ (star _ _ (b1 _ (hg a g1)) g2) g3
 · intro e he hf u hu
   simp at he
   rcases he with rfl | rfl | rfl
   · simp only [fre] at hu ⊢
     rw [a7 k1] at hu
     rw [dP (by omega),hFn]
     exact Ie (by rw [hA]; exact hu)
   · simp only [fre] at hu ⊢
     rw [dP (by omega),hFm] at hu
     rw [dP (by omega),hFn]
     obtain ⟨a,b,rfl,g1,c,d,rfl,g2,g3⟩:=hu
     exact ⟨a,c++d,rfl,g1,.snoc g2 g3⟩
   · simp only [fre] at hu ⊢
     rw [dP (by omega),hFm] at hu
     rw [a7 k2]
     obtain ⟨a,b,rfl,g1,g2⟩:=hu
     rw [hA] at g1
     exact Rg.job (j:=⟨.rep p op,fr,to⟩) g1 aJ rfl ((hd _).2 g2)
 · intro e he c hc ht; simp at he; rcases he with rfl | rfl | rfl<;>(rw [C3] at ht; cases ht)
 · intro k hk u v hu hdv
   simp at hk; subst hk
   simp only at hu ⊢
   rw [dP (by omega),hFn] at hu
   rw [dP (by omega),hFm]
   obtain ⟨a,b,rfl,g1,g2⟩:=hu
   exact ⟨a,b++v,by simp,g1,b,v,rfl,g2,hdv⟩
 · intro q h1 h2
   rcases hnm q h1 h2 with rfl | rfl
   · rw [hFn]; exact hj.1
   · rw [hFm]; exact hj.2.1
 · intro k hk
   simp at hk; subst hk
   simp only
   rw [dP (by omega),hFn]
   exact hj.2.2
def mw (bs:List Bool):Nat→Nat→Nat
 | 0,i=>i
 | f + 1,i=>if i + 1 < 95∧bs[i + 1]?=some true then mw bs f (i + 1) else i
def jD (bs:List Bool) (fr to:Nat):Nat→Nat→List NEdge
 | 0,_=>[]
 | f + 1,i=>if i < 95 then (if bs[i]?=some true then ⟨fr,to,32 + i,32 + mw bs 95 i⟩::jD bs fr to f (mw bs 95 i + 1) else jD bs fr to f (i + 1)) else []
def Oy (bs:List Bool) (fr to:Nat):List NEdge:=jD bs fr to 95 0
theorem tn (bs:List Bool):∀ (f i:Nat),i < 95→bs[i]?=some true→i≤mw bs f i∧mw bs f i < 95∧∀ k,i≤k→k≤mw bs f i→bs[k]?=some true
 | 0,i,hi,hb=>by
   simp only [mw]
   exact ⟨Nat.le_refl _,hi,fun k h1 h2=>by rw [show k=i by omega]; exact hb⟩
 | f + 1,i,hi,hb=>by
   simp only [mw]
   split
   · rename_i h
     obtain ⟨h1,h2,h3⟩:=tn bs f (i + 1) h.1 h.2
     refine ⟨by omega,h2,fun k g1 g2=>?_⟩
     rcases Nat.eq_or_lt_of_le g1 with rfl | g1
     · exact hb
     · exact h3 k g1 g2
   · exact ⟨Nat.le_refl _,hi,fun k h1 h2=>by rw [show k=i by omega]; exact hb⟩
theorem kX (bs:List Bool) (fr to:Nat):∀ (f i:Nat),95≤f + i→(∀ e∈jD bs fr to f i,e.fr=fr∧e.to=to∧e.free=false∧e.low < 256∧e.high < 256)∧∀ c < 95,((∃ e∈jD bs fr to f i,tk e c=true)↔i≤c∧bs[c]?=some true)
 | 0,i,hf=>by
   simp only [jD]
   exact ⟨fun e he=>(by cases he),fun c hc=>⟨fun ⟨e,he,_⟩=>(by cases he),fun h=>by omega⟩⟩
 | f + 1,i,hf=>by
   simp only [jD]
   split
   · rename_i hi
     split
     · rename_i hb
       obtain ⟨h1,h2,h3⟩:=tn bs 95 i hi hb
       obtain ⟨g1,g2⟩:=kX bs fr to f (mw bs 95 i + 1) (by omega)
       refine ⟨fun e he=>?_,fun c hc=>?_⟩
       · rcases List.mem_cons.1 he with rfl | he
         · refine ⟨rfl,rfl,?_,?_,?_⟩
           · simp only [NEdge.free,decide_eq_false_iff_not]; omega
           · simp only; omega
           · simp only; omega
         · exact g1 e he
       · have e1:=g2 c hc
         constructor
         · rintro ⟨e,he,ht⟩
           rcases List.mem_cons.1 he with rfl | he
           · simp only [tk,decide_eq_true_eq] at ht
             exact ⟨by omega,h3 c (by omega) (by omega)⟩
           · obtain ⟨k1,k2⟩:=e1.1 ⟨e,he,ht⟩
             exact ⟨by omega,k2⟩
         · rintro ⟨k1,k2⟩
           by_cases hr:c≤mw bs 95 i
           · exact ⟨_,List.mem_cons_self,by simp only [tk,decide_eq_true_eq]; omega⟩
           · obtain ⟨e,he,ht⟩:=e1.2 ⟨by omega,k2⟩
             exact ⟨e,List.mem_cons_of_mem _ he,ht⟩
     · rename_i hb
       obtain ⟨g1,g2⟩:=kX bs fr to f (i + 1) (by omega)
       refine ⟨g1,fun c hc=>?_⟩
       rw [g2 c hc]
       constructor
       · rintro ⟨k1,k2⟩; exact ⟨by omega,k2⟩
       · rintro ⟨k1,k2⟩
         refine ⟨?_,k2⟩
         rcases Nat.eq_or_lt_of_le k1 with rfl | k1
         · exact absurd k2 hb
         · exact k1
   · rename_i hi
     exact ⟨fun e he=>(by cases he),fun c hc=>⟨fun ⟨e,he,_⟩=>(by cases he),fun h=>by omega⟩⟩
theorem tg (bs:List Bool) (fr to:Nat):∀ (f i:Nat),(jD bs fr to f i).length≤f
 | 0,i=>by simp [jD]
 | f + 1,i=>by
   simp only [jD]
   split
   · split
     · have:=tg bs fr to f (mw bs 95 i + 1); simp; omega
     · have:=tg bs fr to f (i + 1); omega
   · simp
def iU (to:Nat):Rx→List Rx→Nat→Nat→List Job
 | p,[],fr,_=>[⟨p,fr,to⟩]
 | p,q::l,fr,n=>⟨p,fr,n⟩::iU to q l n (n + 1)
def aW (j:Job) (n:Nat):Nat × List NEdge × List Job:=match j.p with
 | .set bs=>(n,Oy bs j.fr j.to,[])
 | .seq []=>(n,[fre j.fr j.to],[])
 | .seq (p::l)=>(n + l.length,[],iU j.to p l j.fr n)
 | .alt l=>(n,[],l.map fun p=>⟨p,j.fr,j.to⟩)
 | .rep p op=>if op=63 then (n,[fre j.fr j.to],[⟨p,j.fr,j.to⟩]) else if op=42 then (n + 1,[fre j.fr n,fre n j.to],[⟨p,n,n⟩])
   else (n + 2,[fre j.fr n,fre (n + 1) n,fre (n + 1) j.to],[⟨p,n,n + 1⟩])
def pH:Nat→Nat→List NEdge→List Job→Option (Nat × List NEdge)
 | 0,_,_,_=>none
 | f + 1,n,E,W=>match W.getLast? with
   | none=>some (n,E)
   | some j=>pH f (aW j n).1 (E++(aW j n).2.1) (W.dropLast++(aW j n).2.2)
mutual
def wfR:Rx→Bool
 | .set bs=>decide (bs.length=95)
 | .seq l=>jA l
 | .alt l=>jA l
 | .rep p _=>wfR p
def jA:List Rx→Bool
 | []=>true
 | p::l=>wfR p && jA l
end
mutual
def br:Rx→Nat
 | .set _=>1
 | .seq l=>1 + bC l
 | .alt l=>1 + bC l
 | .rep p _=>1 + br p
def bC:List Rx→Nat
 | []=>0
 | p::l=>br p + bC l
end
mutual
def bW:Rx→Nat
 | .set _=>0
 | .seq l=>(l.length - 1) + bM l
 | .alt l=>bM l
 | .rep p op=>(if op=63 then 0 else if op=42 then 1 else 2) + bW p
def bM:List Rx→Nat
 | []=>0
 | p::l=>bW p + bM l
end
theorem DD:∀ {l:List Rx},jA l=true↔∀ p∈l,wfR p=true
 | []=>by simp [jA]
 | p::l=>by simp [jA,DD (l:=l)]
variable {cls:List Nat→List Nat→Prop}
theorem HC {to:Nat}:∀ (l:List Rx) (p:Rx) (fr n:Nat) (E:List NEdge) (W0:List Job),(Sys.mk n E (W0++[⟨.seq (p::l),fr,to⟩])).ok cls→
 (Sys.mk (n + l.length) E (W0++iU to p l fr n)).ok cls∧Sim ⟨n,E,W0++[⟨.seq (p::l),fr,to⟩]⟩ ⟨n + l.length,E,W0++iU to p l fr n⟩
 | [],p,fr,n,E,W0,h=>by
   have:=K5 h
   simpa [iU] using this
 | q::l,p,fr,n,E,W0,h=>by
   obtain ⟨h1,h2⟩:=K2 h
   rw [List.append_nil] at h1 h2
   have e:W0++[⟨p,fr,n⟩,⟨.seq (q::l),n,to⟩]=(W0++[⟨p,fr,n⟩])++[(⟨.seq (q::l),n,to⟩:Job)]:=by simp
   rw [e] at h1 h2
   obtain ⟨h3,h4⟩:=HC l q n (n + 1) E (W0++[⟨p,fr,n⟩]) h1
   have e2:n + (q::l).length=n + 1 + l.length:=by simp; omega
   have e3:W0++iU to p (q::l) fr n=W0++[⟨p,fr,n⟩]++iU to q l n (n + 1):=by simp [iU]
   rw [e2,e3]
   exact ⟨h3,h2.trans h4⟩
theorem Pb {n:Nat} {E:List NEdge} {W0:List Job} {j:Job} (h:(Sys.mk n E (W0++[j])).ok cls) (hw:wfR j.p=true):
 (Sys.mk (aW j n).1 (E++(aW j n).2.1) (W0++(aW j n).2.2)).ok cls∧Sim ⟨n,E,W0++[j]⟩ ⟨(aW j n).1,E++(aW j n).2.1,W0++(aW j n).2.2⟩:=by
 obtain ⟨p,fr,to⟩:=j
 cases p with
 | set bs=>
   simp only [wfR,decide_eq_true_eq] at hw
   obtain ⟨g1,g2⟩:=kX bs fr to 95 0 (by omega)
   simp only [aW]
   refine K3 h (fun e he=>?_) (fun c hc=>?_) hw
   · obtain ⟨k1,k2,k3,_⟩:=g1 e he; exact ⟨k1,k2,k3⟩
   · have:=g2 c hc
     simp only [Nat.zero_le,true_and] at this
     exact this.symm
 | seq l=>
   cases l with
   | nil=>simp only [aW]; exact K6 h
   | cons p l=>
     simp only [aW]
     rw [List.append_nil]
     exact HC l p fr n E W0 h
 | alt l=>simp only [aW]; exact K7 h
 | rep p op=>
   simp only [aW]
   split
   · rename_i ho; subst ho; exact K4 h
   · split
     · rename_i ho; subst ho; exact IG h
     · rename_i h1 h2; exact IF h1 h2 h
theorem HB {to:Nat}:∀ (l:List Rx) (p:Rx) (fr n:Nat),wfR p=true→jA l=true→∀ k∈iU to p l fr n,wfR k.p=true
 | [],p,fr,n,h1,_,k,hk=>by simp [iU] at hk; subst hk; exact h1
 | q::l,p,fr,n,h1,h2,k,hk=>by
   simp only [jA,Bool.and_eq_true] at h2
   simp only [iU,List.mem_cons] at hk
   rcases hk with rfl | hk
   · exact h1
   · exact HB l q n (n + 1) h2.1 h2.2 k hk
theorem H7 {j:Job} {n:Nat} (hw:wfR j.p=true):∀ k∈(aW j n).2.2,wfR k.p=true:=by
 obtain ⟨p,fr,to⟩:=j
 cases p with
 | set bs=>simp [aW]
 | seq l=>
   cases l with
   | nil=>simp [aW]
   | cons p l=>
     simp only [wfR,jA,Bool.and_eq_true] at hw
     simp only [aW]
     exact HB l p fr n hw.1 hw.2
 | alt l=>
   simp only [wfR] at hw
   simp only [aW]
   intro k hk
   simp at hk
   obtain ⟨p,hp,rfl⟩:=hk
   exact DD.1 hw p hp
 | rep p op=>
   simp only [wfR] at hw
   simp only [aW]
   intro k hk
   split at hk
   · simp at hk; subst hk; exact hw
   · split at hk<;>(simp at hk; subst hk; exact hw)
def bh:List Job→Nat
 | []=>0
 | j::l=>br j.p + bh l
def aQ:List Job→Nat
 | []=>0
 | j::l=>bW j.p + aQ l
theorem ew:∀ (a b:List Job),bh (a++b)=bh a + bh b
 | [],b=>by simp [bh]
 | x::a,b=>by simp only [List.cons_append,bh,ew a b]; omega
theorem dV:∀ (a b:List Job),aQ (a++b)=aQ a + aQ b
 | [],b=>by simp [aQ]
 | x::a,b=>by simp only [List.cons_append,aQ,dV a b]; omega
theorem As {to:Nat}:∀ (l:List Rx) (p:Rx) (fr n:Nat),bh (iU to p l fr n)=br p + bC l∧aQ (iU to p l fr n)=bW p + bM l
 | [],p,fr,n=>by simp [iU,bh,aQ,bC,bM]
 | q::l,p,fr,n=>by
   obtain ⟨h1,h2⟩:=As (to:=to) l q n (n + 1)
   exact ⟨by simp only [iU,bh,h1,bC],by simp only [iU,aQ,h2,bM]⟩
theorem Fm {fr to:Nat}:∀ l:List Rx,bh (l.map fun p=>⟨p,fr,to⟩)=bC l∧aQ (l.map fun p=>⟨p,fr,to⟩)=bM l
 | []=>by simp [bh,aQ,bC,bM]
 | p::l=>by
   obtain ⟨h1,h2⟩:=Fm (fr:=fr) (to:=to) l
   exact ⟨by simp only [List.map_cons,bh,h1,bC],by simp only [List.map_cons,aQ,h2,bM]⟩
theorem Bj (j:Job) (n:Nat):bh (aW j n).2.2 + 1=br j.p∧(aW j n).1 + aQ (aW j n).2.2=n + bW j.p∧(aW j n).2.1.length≤95:=by
 obtain ⟨p,fr,to⟩:=j
 cases p with
 | set bs=>
   refine ⟨by simp [aW,bh,br],by simp [aW,aQ,bW],?_⟩
   simp only [aW]
   exact tg bs fr to 95 0
 | seq l=>
   cases l with
   | nil=>simp [aW,bh,aQ,br,bW,bC,bM]
   | cons p l=>
     obtain ⟨h1,h2⟩:=As (to:=to) l p fr n
     simp only [aW,br,bW,bC,bM,h1,h2]
     refine ⟨by omega,by simp; omega,by simp⟩
 | alt l=>
   obtain ⟨h1,h2⟩:=Fm (fr:=fr) (to:=to) l
   simp only [aW,br,bW,h1,h2]
   exact ⟨by omega,trivial,by simp⟩
 | rep p op=>
   simp only [aW,br,bW]
   split
   · simp [bh,aQ]; omega
   · split
     · simp [bh,aQ]; omega
     · simp [bh,aQ]; omega
theorem sr {W:List Job} {j:Job} (h:W.getLast?=some j):W=W.dropLast++[j]:=by
 rcases List.eq_nil_or_concat W with rfl | ⟨l,x,rfl⟩
 · simp at h
 · simp at h; subst h; simp
theorem wM:∀ (f n:Nat) (E:List NEdge) (W:List Job),(Sys.mk n E W).ok cls→(∀ j∈W,wfR j.p=true)→bh W < f→
 ∃ n' E',pH f n E W=some (n',E')∧(Sys.mk n' E' []).ok cls∧Sim ⟨n,E,W⟩ ⟨n',E',[]⟩∧n'=n + aQ W∧E'.length≤E.length + 95 * bh W
 | 0,_,_,_,_,_,hf=>by omega
 | f + 1,n,E,W,h,hw,hf=>by
   simp only [pH]
   cases hl:W.getLast? with
   | none=>
     have:W=[]:=by simpa using hl
     subst this
     exact ⟨n,E,rfl,h,⟨Nat.le_refl _,fun _ _=>rfl⟩,by simp [aQ],by simp⟩
   | some j=>
     have e:=sr hl
     obtain ⟨W0,hW0⟩:∃ W0,W0=W.dropLast:=⟨_,rfl⟩
     rw [←hW0] at e
     simp only [←hW0]
     subst e
     obtain ⟨h1,h2⟩:=Pb h (hw j (by simp))
     obtain ⟨s1,s2,s3⟩:=Bj j n
     have hz:bh (W0++[j])=bh W0 + br j.p:=by rw [ew]; simp [bh]
     have hz2:bh (W0++(aW j n).2.2)=bh W0 + bh (aW j n).2.2:=ew _ _
     have hz3:aQ (W0++[j])=aQ W0 + bW j.p:=by rw [dV]; simp [aQ]
     have hz4:aQ (W0++(aW j n).2.2)=aQ W0 + aQ (aW j n).2.2:=dV _ _
     obtain ⟨n',E',g1,g2,g3,g4,g5⟩:=wM f _ _ (W0++(aW j n).2.2) h1 (fun k hk=>by
      rcases List.mem_append.1 hk with hk | hk
      · exact hw k (by simp [hk])
      · exact H7 (hw j (by simp)) k hk) (by omega)
     refine ⟨n',E',g1,g2,h2.trans g3,by omega,?_⟩
     rw [List.length_append] at g5
     rw [hz2] at g5
     rw [hz,←s1]
     omega
theorem start_P {p:Rx}:∀ {q:Nat} {u:List Nat},Rg [] [⟨p,0,1⟩] q u↔(q=0∧u=[])∨(q=1∧den p u):=by
 intro q u
 constructor
 · intro h
   induction h with
   | start=>exact .inl ⟨rfl,rfl⟩
   | free _ he=>cases he
   | take _ he=>cases he
   | @job q u v j _ hj hf hd ih=>
     simp at hj
     subst hj
     rcases ih with ⟨h1,rfl⟩ | ⟨h1,_⟩
     · exact .inr ⟨rfl,by simpa using hd⟩
     · rw [h1] at hf; cases hf
 · rintro (⟨rfl,rfl⟩ | ⟨rfl,h⟩)
   · exact .start
   · have:=Rg.job (E:=[]) (W:=[⟨p,0,1⟩]) (j:=⟨p,0,1⟩) .start (by simp) rfl h
     simpa using this
theorem G4 (j:Job) (n:Nat):∀ e∈(aW j n).2.1,e.low < 256∧e.high < 256:=by
 obtain ⟨p,fr,to⟩:=j
 have hf:∀ a b,(fre a b).low < 256∧(fre a b).high < 256:=fun a b=>by simp [fre]
 cases p with
 | set bs=>
   simp only [aW]
   intro e he
   obtain ⟨_,_,_,h4,h5⟩:=(kX bs fr to 95 0 (by omega)).1 e he
   exact ⟨h4,h5⟩
 | seq l=>
   cases l with
   | nil=>simp only [aW]; intro e he; simp at he; subst he; exact hf _ _
   | cons p l=>simp [aW]
 | alt l=>simp [aW]
 | rep p op=>
   simp only [aW]
   intro e he
   split at he
   · simp at he; subst he; exact hf _ _
   · split at he
     · simp at he; rcases he with rfl | rfl<;>exact hf _ _
     · simp at he; rcases he with rfl | rfl | rfl<;>exact hf _ _
theorem uC:∀ (f n:Nat) (E:List NEdge) (W:List Job) (r:Nat × List NEdge),(∀ e∈E,e.low < 256∧e.high < 256)→pH f n E W=some r→∀ e∈r.2,e.low < 256∧e.high < 256
 | 0,_,_,_,_,_,h=>by simp [pH] at h
 | f + 1,n,E,W,r,hE,h=>by
   simp only [pH] at h
   split at h
   · cases h; exact hE
   · refine uC f _ _ _ r (fun e he=>?_) h
     rcases List.mem_append.1 he with he | he
     · exact hE e he
     · exact G4 _ _ e he
def D6 (p:Rx):Option Net:=(pH (br p + 1) 2 [] [⟨p,0,1⟩]).map fun x=>⟨x.1,0,1,x.2⟩
structure NetSpec (cls:List Nat→List Nat→Prop) (p:Rx) (N:Net):Prop where
 n:N.n=2 + bW p
 start:N.start=0
 stop:N.stop=1
 edges:∀ e∈N.edges,e.fr < N.n∧e.to < N.n
 bytes:∀ e∈N.edges,e.low < 256∧e.high < 256
 len:N.edges.length≤95 * br p
 lang:∀ u,Rg N.edges [] 1 u↔den p u
 sat:∀ q < N.n,sat cls (Rg N.edges [] q)
theorem wL {p:Rx} (hw:wfR p=true) (h0:sat cls fun u=>u=[]) (h1:sat cls (den p)) (h2:dM cls (fun u=>u=[]) p):∃ N,D6 p=some N∧NetSpec cls p N:=by
 have e0:Rg [] [⟨p,0,1⟩] 0=fun u=>u=[]:=funext fun u=>propext (start_P.trans (by simp))
 have e1:Rg [] [⟨p,0,1⟩] 1=den p:=funext fun u=>propext (start_P.trans (by simp))
 have hok:(Sys.mk 2 [] [⟨p,0,1⟩]).ok cls:=by
  refine ⟨⟨Nat.le_refl _,fun e he=>(by cases he),fun j hj=>by simp at hj; subst hj; simp⟩,fun q hq=>?_,fun j hj=>?_⟩
  · have:q=0∨q=1:=by simp only at hq; omega
    simp only [Sys.P]
    rcases this with rfl | rfl
    · rw [e0]; exact h0
    · rw [e1]; exact h1
  · simp at hj
    subst hj
    simp only [Sys.P]
    rw [e0]
    exact h2
 obtain ⟨n',E',g1,g2,g3,g4,g5⟩:=wM (br p + 1) 2 [] [⟨p,0,1⟩] hok (fun j hj=>by simp at hj; subst hj; exact hw) (by simp [bh])
 refine ⟨⟨n',0,1,E'⟩,by simp [D6,g1],⟨by simpa [aQ] using g4,rfl,rfl,g2.wf.edges,uC _ _ _ _ _ (fun e he=>(by cases he)) g1,by simpa [bh] using g5,fun u=>?_,fun q hq=>g2.st q hq⟩⟩
 have:=g3.eq 1 (by simp)
 simp only [Sys.P] at this
 rw [←this,e1]
end Go.Aut
end
section
set_option maxHeartbeats 1000000
set_option maxRecDepth 100000
namespace Go.Abs
open Go.Proofs Go.Aut
attribute [-simp] getElem?_pos Option.not_isSome List.map_map
attribute [-simp] cl nt
@[simp] theorem cl_int {k:IntKind} {n:Int}:cl (V.int k n)=[V.int k n]:=rfl
@[simp] theorem nt_int {k:IntKind} {n:Int}:nt (V.int k n)=true:=rfl
@[simp] theorem cl_bool {b:Bool}:cl (V.bool b)=[V.bool b]:=rfl
@[simp] theorem nt_bool {b:Bool}:nt (V.bool b)=true:=rfl
@[simp] theorem cl_str {s:List UInt8}:cl (V.str s)=[V.str s]:=rfl
@[simp] theorem nt_str {s:List UInt8}:nt (V.str s)=true:=rfl
@[simp] theorem cl_nil {z:Nat}:cl (V.nil z)=[V.nil z]:=rfl
@[simp] theorem nt_nil {z:Nat}:nt (V.nil z)=true:=rfl
@[simp] theorem cl_seq {z:Nat} {l:List V}:cl (V.seq z l)=[V.seq z l]:=rfl
@[simp] theorem nt_seq {z:Nat} {l:List V}:nt (V.seq z l)=true:=rfl
@[simp] theorem cl_ref {i n:Nat}:cl (V.ref i n)=[V.ref i n]:=rfl
@[simp] theorem nt_ref {i n:Nat}:nt (V.ref i n)=true:=rfl
@[simp] theorem cl_ptr {i o:Nat}:cl (V.ptr i o)=[V.ptr i o]:=rfl
@[simp] theorem nt_ptr {i o:Nat}:nt (V.ptr i o)=true:=rfl
@[simp] theorem cl_eptr {i n j o:Nat}:cl (V.eptr i n j o)=[V.eptr i n j o]:=rfl
@[simp] theorem nt_eptr {i n j o:Nat}:nt (V.eptr i n j o)=true:=rfl
@[simp] theorem cl_mref {i j n:Nat}:cl (V.mref i j n)=[V.mref i j n]:=rfl
@[simp] theorem nt_mref {i j n:Nat}:nt (V.mref i j n)=true:=rfl
@[simp] theorem cl_fseq {z:Nat} {l:List V}:cl (V.fseq z l)=[V.fseq z l]:=rfl
@[simp] theorem nt_fseq {z:Nat} {l:List V}:nt (V.fseq z l)=true:=rfl
@[simp] theorem cl_mptr {i n j k o:Nat}:cl (V.mptr i n j k o)=[V.mptr i n j k o]:=rfl
@[simp] theorem nt_mptr {i n j k o:Nat}:nt (V.mptr i n j k o)=true:=rfl
@[simp] theorem cl_sptr {x:V} {o:Nat}:cl (V.sptr x o)=[V.sptr x o]:=rfl
@[simp] theorem nt_sptr {x:V} {o:Nat}:nt (V.sptr x o)=true:=rfl
@[simp] theorem cl_nilptr :cl (V.nilptr)=[V.nilptr]:=rfl
@[simp] theorem nt_nilptr :nt (V.nilptr)=true:=rfl
@[simp] theorem cl_fn {f:Go.Fn} {a b:List V}:cl (V.fn f a b)=[V.fn f a b]:=rfl
@[simp] theorem nt_fn {f:Go.Fn} {a b:List V}:nt (V.fn f a b)=true:=rfl
@[simp] theorem cl_nilfn :cl (V.nilfn)=[V.nilfn]:=rfl
@[simp] theorem nt_nilfn :nt (V.nilfn)=true:=rfl
@[simp] theorem cl_iface {t:TypeId} {x:V}:cl (V.iface t x)=[V.iface t x]:=rfl
@[simp] theorem nt_iface {t:TypeId} {x:V}:nt (V.iface t x)=true:=rfl
@[simp] theorem PQ :cl (V.niliface)=[V.niliface]:=rfl
@[simp] theorem PN :nt (V.niliface)=true:=rfl
@[simp] theorem cl_tup {l:List V}:cl (V.tup l)=[V.tup l]:=rfl
@[simp] theorem nt_tup {l:List V}:nt (V.tup l)=false:=rfl
@[simp] theorem cl_junk :cl (V.junk)=[V.junk]:=rfl
@[simp] theorem nt_junk :nt (V.junk)=true:=rfl
@[simp] theorem cl_strct {l:List V}:cl (.strct l)=l:=rfl
@[simp] theorem nt_strct {l:List V}:nt (.strct l)=true:=rfl
theorem Fn.toH {P:Program} {f:FuncId} {us:List V} {r:V} (h:Fn P f us r) (hu:ai us=[]) (hp:purs [] us=some us):FnH P f [] us [] r []:=by
 intro M w κ cs J hJC hp hus o a Nx Q hN
 have hus2:aa M NX us cs.toList:=by
  have H:Rel 0 M (cI κ [] w [] cs J) w κ M ⟨[],[]⟩ { tmps:=#[],defers:=[] } w:=
   { dfr:=rfl,jst:=hp.jst,pin:=fun i hi=>(by cases hi),size:=rfl,regs:=fun t v ht=>(by simp [lk] at ht),heap:=hp.heap,inj:=hp.inj,snd:=hp.snd,sep:=hp.sep
     sub:=⟨fun _ _ h=>h,hp.fmS,fun _ _ _=>Nat.zero_le _,Nat.zero_le _,hp.gl⟩,new:=fun _ _ h=>.inl h,base:=rfl,blw:=Und.refl _ _ }
  exact bv H (fun _ _ h=>h) (fun id hid=>by rw [hu] at hid; cases hid) hus ‹_›
 refine h M w cs ⟨hp.snd,hp.gl⟩ hus2 o a Nx Q ?_
 intro c M' w' h1 h2 h3 h4 h5
 refine hN c M' w' ⟨fun _=>undef,fun _ _=>undef,fun _ _=>False,fun _=>none⟩ (aA h1) (Und.of_below h2 (Nat.le_refl _)) ?_ h4 (fun p v hv=>(h5 p v hv).imp_right Or.inl) (fun i hi=>by cases hi)
 exact { heap:=fun id ob h=>by simp at h,inj:=fun i j oi oj g h=>by simp at h,snd:=h3,sep:=fun p v _ id ob h=>by simp at h,fmS:=fun _ _ h=>(by cases h),gl:=hp.gl.mono h4,jst:=hp.jst }
mutual
def rxV:Rx→V
 | .set bs=>.iface ry (.strct (bs.map .bool))
 | .seq l=>.iface rz (.strct [.seq 1 (BR l)])
 | .alt l=>.iface rB (.strct [.seq 1 (BR l)])
 | .rep p op=>.iface rA (.strct [(rxV p),.int .u8 op])
def BR:List Rx→List V
 | []=>[]
 | p::l=>(rxV p)::BR l
end
theorem mQ:∀ l:List Rx,BR l=l.map rxV
 | []=>by simp [BR]
 | p::l=>by simp [BR,mQ l]
def rxP (x:Rx):V:=.sptr (.strct [rxV x]) 0
theorem FW (x:Rx):∃ t y,rxV x=V.iface t y:=by cases x<;>(simp only [rxV]; exact ⟨_,_,rfl⟩)
def tY:Rx:=.set (List.replicate 95 false)
def cx (c:Nat):List Bool:=(List.replicate 95 false).set c true
def ik:List Rx→Rx
 | [p]=>p
 | l=>.seq l
def aM:List Rx→Rx
 | []=>tY
 | [p]=>p
 | l=>.alt l
@[simp high] theorem cl_rx (x:Rx):cl (rxV x)=[rxV x]:=by obtain ⟨t,y,h⟩:=(FW x); rw [h]; rfl
@[simp high] theorem cl_rxp (x:Rx):cl (rxP x)=[(rxP x)]:=rfl
@[simp] theorem nt_rx (x:Rx):nt (rxV x)=true:=by obtain ⟨t,y,h⟩:=(FW x); rw [h]; rfl
@[simp] theorem nt_rxp (x:Rx):nt (rxP x)=true:=rfl
mutual
theorem FU:∀ (x:Rx) (h:List (Option Ob)),pur h (rxV x)=some (rxV x)
 | .set bs,h=>by
   have:∀ l:List Bool,purs h (l.map .bool)=some (l.map .bool):=fun l=>by induction l<;>simp [purs,pur, *]
   simp only [rxV,pur,this,Option.map_some]
 | .seq l,h=>by simp [rxV,pur,purs]
 | .alt l,h=>by simp [rxV,pur,purs]
 | .rep p op,h=>by simp [rxV,pur,purs,FU p h]
end
mutual
theorem BQ:∀ (x:Rx),aq (rxV x)=[]
 | .set bs=>by
   have:∀ l:List Bool,ai (l.map .bool)=[]:=fun l=>by induction l<;>simp [ai,aq, *]
   simp only [rxV,aq,this]
 | .seq l=>by simp [rxV,aq,ai]
 | .alt l=>by simp [rxV,aq,ai]
 | .rep p op=>by simp [rxV,aq,ai,BQ p]
end
mutual
theorem FT:∀ (x:Rx) (m:List Nat),ren m (rxV x)=(rxV x)
 | .set bs,m=>by
   have:∀ l:List Bool,cW m (l.map .bool)=l.map .bool:=fun l=>by induction l<;>simp [cW,ren, *]
   simp only [rxV,ren,this]
 | .seq l,m=>by simp [rxV,ren,cW]
 | .alt l,m=>by simp [rxV,ren,cW]
 | .rep p op,m=>by simp [rxV,ren,cW,FT p m]
end
mutual
theorem FV:∀ (x:Rx) (m:List Nat),bck m (rxV x)=(rxV x)
 | .set bs,m=>by
   have:∀ l:List Bool,kM m (l.map .bool)=l.map .bool:=fun l=>by induction l<;>simp [kM,bck, *]
   simp only [rxV,bck,this]
 | .seq l,m=>by simp [rxV,bck,kM]
 | .alt l,m=>by simp [rxV,bck,kM]
 | .rep p op,m=>by simp [rxV,bck,kM,FV p m]
end
attribute [simp] FU BQ FT FV
theorem fR (x:Rx):∃ t y,rxV x=.iface t y∧(∀ h,pur h y=some y)∧aq y=[]∧(∀ m,ren m y=y)∧∀ m,bck m y=y:=by
 obtain ⟨t,y,h⟩:=FW x
 have h1:=fun hh=>FU x hh
 have h2:=BQ x
 have h3:=fun m=>FT x m
 have h4:=fun m=>FV x m
 rw [h] at h1 h2 h3 h4
 refine ⟨t,y,h,fun hh=>?_,h2,fun m=>?_,fun m=>?_⟩
 · have:=h1 hh
   simp only [pur] at this
   obtain ⟨u,g1,g2⟩:=Option.map_eq_some_iff.1 this
   cases g2
   exact g1
 · have:=h3 m; simp only [ren] at this; exact (V.iface.inj this).2
 · have:=h4 m; simp only [bck] at this; exact (V.iface.inj this).2
@[simp] theorem rxp_pur (x:Rx) (h:List (Option Ob)):pur h (rxP x)=some (rxP x):=rfl
@[simp] theorem rxp_vids (x:Rx):aq (rxP x)=[]:=rfl
@[simp] theorem rxp_ren (x:Rx) (m:List Nat):ren m (rxP x)=(rxP x):=rfl
@[simp] theorem rxp_bck (x:Rx) (m:List Nat):bck m (rxP x)=(rxP x):=rfl
theorem xI (c:UInt8):Fn Tryz.prog nc [.int .u8 c.toNat] (.bool (decide (32≤c.toNat) && decide (c.toNat≤126))):=by
 refine Fn.of_image mixed nC nq rfl fun ho=>?_
 unfold jj
 simp only [oks,ok,and_true] at ho
 clear ho
 simp (disch:=omega) [-List.reduceReplicate]
 repeat' (first | (refine BrKd.mk (fun h=>?_) (fun h=>?_)<;>simp (disch:=omega) [*]) | (refine BrK.mk (fun h=>?_) (fun h=>?_)<;>simp (disch:=omega) [*]))
theorem xH (c:Nat) (h1:32≤c) (h2:c≤126):Fn Tryz.prog nb [.int .u8 c] (.strct ((cx (c - 32)).map .bool)):=by
 refine Fn.of_image mixed nB np rfl fun ho=>?_
 unfold ji
 simp only [oks,ok,and_true] at ho
 clear ho
 have e:((c:Int) - 32).toNat=c - 32:=by omega
 have e2:eA (List.replicate 95 (V.bool false)) (c - 32) [V.bool true]=some ((cx (c - 32)).map .bool):=by
  unfold eA
  rw [if_pos (by rw [List.length_replicate]; show c - 32 + 1≤95; omega),cx,List.map_set,List.map_replicate,List.set_eq_take_append_cons_drop,if_pos (by rw [List.length_replicate]; omega)]
  simp
 have e3:((cx (c - 32)).map V.bool).length=95:=by simp [cx,-List.reduceReplicate]
 have e4:List.take 95 ((cx (c - 32)).map V.bool)=(cx (c - 32)).map V.bool:=List.take_of_length_le (by omega)
 have e5:eA (List.replicate 95 (V.bool false)) 0 ((cx (c - 32)).map V.bool)=some ((cx (c - 32)).map .bool):=by
  unfold eA
  rw [if_pos (by rw [e3,List.length_replicate]; omega),e3]
  simp [-List.reduceReplicate]
 simp (disch:=omega) [-List.reduceReplicate,e,e2,e3,e4,e5,zs,-eA]
theorem uR (l:List Rx) (hl:l.length≤1000000):Fn Tryz.prog uD [.seq 1 (l.map rxV)] (rxV (ik l)):=by
 refine Fn.of_image mixed uN uM rfl fun ho=>?_
 unfold n5
 simp only [oks,ok,and_true] at ho
 clear ho
 rcases l with _ | ⟨p,_ | ⟨q,l⟩⟩
 · simp (disch:=omega) [-List.reduceReplicate,ik,rxV,BR]
 · obtain ⟨t,y,h,h1,h2,h3,h4⟩:=fR p
   simp (disch:=omega) [-List.reduceReplicate,ik,h,h1]
 · simp (disch:=omega) [-List.reduceReplicate,ik,rxV,BR,mQ]
theorem xJ (l:List Rx) (hl:l.length≤1000000):Fn Tryz.prog nd [.seq 1 (l.map rxV)] (rxV (aM l)):=by
 refine Fn.of_image mixed nD nr rfl fun ho=>?_
 unfold jl
 simp only [oks,ok,and_true] at ho
 clear ho
 rcases l with _ | ⟨p,_ | ⟨q,l⟩⟩
 · have hz:purs [] (List.replicate 95 (V.bool false))=some (List.replicate 95 (V.bool false)):=by kernel_rfl
   simp (disch:=omega) [-List.reduceReplicate,aM,rxV,tY,List.map_replicate,zs,hz]
 · obtain ⟨t,y,h,h1,h2,h3,h4⟩:=fR p
   simp (disch:=omega) [-List.reduceReplicate,aM,h,h1]
 · simp (disch:=omega) [-List.reduceReplicate,aM,rxV,BR,mQ]
theorem pQ (x:Rx):Fn Tryz.prog pI [(rxP x)] (rxV x):=by
 refine Fn.of_image mixed pM pL rfl fun ho=>?_
 unfold j3
 simp only [oks,ok,and_true] at ho
 clear ho
 obtain ⟨t,y,h,h1,h2,h3,h4⟩:=fR x
 simp (disch:=omega) [-List.reduceReplicate,rxP,h,h1,St.isNil]
theorem pP (l:List Rx) (hl:l.length≤1000000):Fn Tryz.prog yC [.seq 1 (l.map rxP)] (.seq 1 (l.map rxV)):=by
 refine Fn.of_image mixed zu yZ rfl fun ho=>?_
 unfold p5
 simp only [oks,ok,and_true] at ho
 clear ho
 simp (disch:=omega) [-List.reduceReplicate]
 refine ak (fun k:Nat=>⟨[(3,.ref 0 k),(9,.seq 1 (l.map rxP)),(10,.int .i64 l.length),(11,.int .i64 k)],[some (.arr jU 1 ((l.take k).map rxV))]⟩) (fun k=>k≤l.length) (fun k=>l.length - k) [] _ 0 rfl (by simp) (by simp) ?_
 intro k hk N hN
 rcases Nat.lt_or_ge k l.length with hlt | hge
 · obtain ⟨x,hx⟩:=ap hlt
   have hkl:((l.take k).map rxV).length=k:=by simp; omega
   simp (disch:=omega) [-List.reduceReplicate,hx]
   refine aj (pQ x) (by simp) fun _=>?_
   simp (disch:=omega) [-List.reduceReplicate,hkl]
   exact hN.out _<|Nx.mk (k + 1) (by simp [aS hx]) (by omega) (by omega)
 · have:k=l.length:=by omega
   subst this
   simp (disch:=omega) [-List.reduceReplicate]
def tB (s:Str):Rx:=ik (s.map fun c=>.set (cx (c.toNat - 32)))
theorem JA (s:Str) (hs:∀ c∈s,32≤c.toNat∧c.toNat≤126) (hl:s.length≤1000000):FnH Tryz.prog lW [] [.str s] [] (.ptr 0 0) [some (.box [(rxV (tB s))])]:=by
 refine FnH.of_image mixed vp vh rfl fun ho hh=>?_
 unfold mj
 clear ho hh
 simp (disch:=omega) [-List.reduceReplicate]
 obtain ⟨l,hld⟩:∃ l:List Rx,l=s.map fun c=>.set (cx (c.toNat - 32)):=⟨_,rfl⟩
 have hll:l.length=s.length:=by simp [hld]
 refine ak (fun k:Nat=>⟨[(0,.str s),(3,.ref 0 k),(4,.int .i64 k)],[some (.arr jU 1 ((l.take k).map rxV))]⟩) (fun k=>k≤s.length) (fun k=>s.length - k) [] _ 0 rfl (by simp) (by simp) ?_
 intro k hk N hN
 rcases Nat.lt_or_ge k s.length with hlt | hge
 · obtain ⟨x,hx⟩:=ap hlt
   obtain ⟨g1,g2⟩:=hs x (List.mem_of_getElem? hx)
   have hlx:l[k]?=some (.set (cx (x.toNat - 32))):=by rw [hld,List.getElem?_map,hx]; rfl
   have hkl:((l.take k).map rxV).length=k:=by simp; omega
   simp (disch:=omega) [-List.reduceReplicate,hx]
   refine ae (r:=.bool true) (by have:=xI x; simpa [g1,g2] using this) rfl fun _=>?_
   simp (disch:=omega) [-List.reduceReplicate,hx]
   refine ae (xH x.toNat g1 g2) (by simp [bY]) fun _=>?_
   simp (disch:=omega) [-List.reduceReplicate,hkl]
   exact hN.out _<|Nx.mk (k + 1) (by simp [aS hlx,rxV]) (by omega) (by omega)
 · have:k=s.length:=by omega
   subst this
   have e:(l.take s.length)=l:=List.take_of_length_le (by omega)
   have hr:=uR l (by omega)
   simp (disch:=omega) [-List.reduceReplicate,e,hll]
   refine wa hr fun _=>?_
   simp (disch:=omega) [-List.reduceReplicate,tB,hld]
theorem vA (s:Str) (hs:∀ c∈s,32≤c.toNat∧c.toNat≤126) (hl:s.length≤1000000):Fn Tryz.prog lW [.str s] (rxP (tB s)):=
 (JA s hs hl).boxed1 (cs:=[(rxV (tB s))]) (by simp) (by simp [purs])
theorem rf (l:List Rx) (hl:l.length≤1000000):Fn Tryz.prog wO [.seq 1 (l.map rxP)] (rxP (aM l)):=by
 have key:FnH Tryz.prog wO [] [.seq 1 (l.map rxP)] [] (.ptr 0 0) [some (.box [(rxV (aM l))])]:=by
  refine FnH.of_image mixed Gu Gm rfl fun ho hh=>?_
  unfold ye
  clear ho hh
  simp (disch:=omega) [-List.reduceReplicate]
  refine aj (pP l hl) (by simp) fun _=>?_
  simp (disch:=omega) [-List.reduceReplicate]
  refine aj (xJ l hl) (by simp) fun _=>?_
  simp (disch:=omega) [-List.reduceReplicate]
 exact key.boxed1 (cs:=[(rxV (aM l))]) (by simp) (by simp [purs])
theorem C9 (l:List Rx) (hl:l.length≤1000000):Fn Tryz.prog r4 [.seq 1 (l.map rxP)] (rxP (ik l)):=by
 have key:FnH Tryz.prog r4 [] [.seq 1 (l.map rxP)] [] (.ptr 0 0) [some (.box [(rxV (ik l))])]:=by
  refine FnH.of_image mixed CI Co rfl fun ho hh=>?_
  unfold sM
  clear ho hh
  simp (disch:=omega) [-List.reduceReplicate]
  refine aj (pP l hl) (by simp) fun _=>?_
  simp (disch:=omega) [-List.reduceReplicate]
  refine aj (uR l hl) (by simp) fun _=>?_
  simp (disch:=omega) [-List.reduceReplicate]
 exact key.boxed1 (cs:=[(rxV (ik l))]) (by simp) (by simp [purs])
end Go.Abs
end
section
set_option maxHeartbeats 1000000
set_option maxRecDepth 100000
namespace Go.Abs
open Go.Proofs Go.Aut
attribute [-simp] getElem?_pos Option.not_isSome List.map_map cl nt
@[simp] def tD (j:Job):V:=.strct [rxV j.p,nV j.fr,nV j.to]
def MK (n:Nat) (E:List NEdge) (W:List Job):List (Option Ob):=[some (.box [nV n,.ref 1 E.length,.ref 2 W.length]),some (.arr cG 4 (E.map NEdge.v)),some (.arr b5 3 (W.map tD))]
theorem dG (n:Nat) (E:List NEdge) (W:List Job) (x:Rx) (fr to:Nat) (hW:W.length≤1000000):FnH Tryz.prog dO [0] [.ptr 0 0,rxV x,nV fr,nV to] (MK n E W) (.tup []) (MK n E (W++[⟨x,fr,to⟩])):=by
 refine FnH.of_image mixed dR dQ rfl fun ho hh=>?_
 unfold cr
 clear ho hh
 obtain ⟨t,y,h,h1,h2,h3,h4⟩:=fR x
 simp (disch:=omega) [-List.reduceReplicate,MK,h,h1,h2,h3]
theorem Aa (n:Nat) (x:Rx) (fr to:Nat):FnH Tryz.prog dO [0] [.ptr 0 0,rxV x,nV fr,nV to] [some (.box [nV n,.nil 4,.nil 3])] (.tup []) [some (.box [nV n,.nil 4,.ref 1 1]),some (.arr b5 3 [tD ⟨x,fr,to⟩])]:=by
 refine FnH.of_image mixed dR dQ rfl fun ho hh=>?_
 unfold cr
 clear ho hh
 obtain ⟨t,y,h,h1,h2,h3,h4⟩:=fR x
 simp (disch:=omega) [-List.reduceReplicate,h,h1,h2,h3]
theorem fY (n:Nat) (E:List NEdge) (W:List Job) (hn:n≤1000000):FnH Tryz.prog gg [0] [.ptr 0 0] (MK n E W) (nV n) (MK (n + 1) E W):=by
 refine FnH.of_image mixed gr gp rfl fun ho hh=>?_
 unfold dz
 clear ho hh
 simp (disch:=omega) [-List.reduceReplicate,MK]
theorem cQ (n:Nat) (E:List NEdge) (W:List Job) (fr to:Nat) (hE:E.length≤1000000):FnH Tryz.prog gU [0] [.ptr 0 0,nV fr,nV to] (MK n E W) (.tup []) (MK n (E++[Aut.fre fr to]) W):=by
 refine FnH.of_image mixed gW gV rfl fun ho hh=>?_
 unfold dU
 clear ho hh
 simp (disch:=omega) [-List.reduceReplicate,MK,Aut.fre,NEdge.v]
theorem JE (bs:List Bool) (hb:bs.length=95) (i:Nat) (hi:i < 95):FnH Tryz.prog ko [0] [.ptr 0 0,nV i] [some (.box (bs.map .bool))] (nV (mw bs 95 i)) [some (.box (bs.map .bool))]:=by
 refine FnH.of_image mixed kB kA rfl fun ho hh=>?_
 unfold fM
 clear ho hh
 simp (disch:=omega) [-List.reduceReplicate]
 obtain ⟨R,hR⟩:∃ R,R=mw bs 95 i:=⟨_,rfl⟩
 rw [←hR]
 refine ak (fun (x:Nat × Nat)=>⟨[(0,.ptr 0 0),(1,nV x.2)],[some (.box (bs.map .bool))]⟩) (fun x=>x.2 < 95∧95≤x.1 + x.2∧mw bs x.1 x.2=R) (fun x=>x.1) [] _ (95,i) rfl (by simp) ⟨hi,by simp,by simp [hR]⟩ ?_
 rintro ⟨f,k⟩ ⟨hk,hf,hr⟩ N hN
 simp only at hk hf hr
 obtain ⟨f,rfl⟩:∃ g,f=g + 1:=⟨f - 1,by omega⟩
 simp only [mw] at hr
 rcases Nat.lt_or_ge (k + 1) 95 with h1 | h1
 · obtain ⟨b,hb1⟩:=ap (l:=bs) (k:=k + 1) (by omega)
   have e1:((k:Int) + 1).toNat=k + 1:=by omega
   have e0:cut (bs.map V.bool) (k + 1) 1=some [.bool b]:=by
    unfold cut
    have hd:=List.drop_eq_getElem_cons (l:=bs.map V.bool) (i:=k + 1) (by simp; omega)
    rw [if_pos (by simp; omega),hd]
    have hg:=(List.getElem?_eq_some_iff.1 hb1).2
    simp [hg]
   cases b with
   | true=>
     rw [if_pos ⟨h1,hb1⟩] at hr
     simp (disch:=omega) [-List.reduceReplicate,e1,e0,-cut]
     exact hN.out _<|Nx.mk (f,k + 1) (by simp) ⟨by simp only; omega,by simp only; omega,hr⟩ (by simp only; omega)
   | false=>
     rw [if_neg (by rw [hb1]; simp)] at hr
     subst hr
     simp (disch:=omega) [-List.reduceReplicate,e1,e0,-cut]
 · rw [if_neg (by omega)] at hr
   subst hr
   simp (disch:=omega) [-List.reduceReplicate,h1]
theorem JF (bs:List Bool) (hb:bs.length=95) (n fr to:Nat) (E:List NEdge) (W:List Job) (hE:E.length≤1000000):
 FnH Tryz.prog lS [1] [.strct (bs.map .bool),.ptr 0 0,nV fr,nV to] (MK n E W) (.tup []) (MK n (E++Oy bs fr to) W):=by
 refine FnH.of_image mixed l9 l4 rfl fun ho hh=>?_
 unfold gO
 clear ho hh
 obtain ⟨R,hR⟩:∃ R,R=E++Oy bs fr to:=⟨_,rfl⟩
 rw [←hR]
 simp (disch:=omega) [-List.reduceReplicate,MK]
 refine ak (fun (x:Nat × Nat × List NEdge)=>⟨[(1,.ptr 0 0),(2,nV fr),(3,nV to),(4,.ptr 1 0),(8,nV x.2.1)],[some (.box [nV n,.ref 2 x.2.2.length,.ref 3 W.length]),some (.box (bs.map .bool)),some (.arr cG 4 (x.2.2.map NEdge.v)),some (.arr b5 3 (W.map tD))]⟩)
  (fun x=>x.2.1≤95∧95≤x.1 + x.2.1∧x.2.2.length≤1000000 + x.2.1∧x.2.2++jD bs fr to x.1 x.2.1=R) (fun x=>95 - x.2.1) [] _ (95,0,E) rfl (by simp) ⟨by simp,by simp,by simp only; omega,by simp [hR,Oy]⟩ ?_
 rintro ⟨f,k,E1⟩ ⟨hk,hf,hl,hr⟩ N hN
 simp only at hk hf hl hr
 rcases Nat.lt_or_ge k 95 with h1 | h1
 · obtain ⟨f,rfl⟩:∃ g,f=g + 1:=⟨f - 1,by omega⟩
   simp only [jD,if_pos h1] at hr
   obtain ⟨b,hb1⟩:=ap (l:=bs) (k:=k) (by omega)
   have e0:cut (bs.map V.bool) k 1=some [.bool b]:=by
    unfold cut
    have hd:=List.drop_eq_getElem_cons (l:=bs.map V.bool) (i:=k) (by simp; omega)
    rw [if_pos (by simp; omega),hd]
    have hg:=(List.getElem?_eq_some_iff.1 hb1).2
    simp [hg]
   cases b with
   | true=>
     rw [if_pos hb1] at hr
     obtain ⟨g1,g2,_⟩:=tn bs 95 k h1 hb1
     have e1:((32:Int) + (mw bs 95 k:Nat)).toNat=32 + mw bs 95 k:=by omega
     simp (disch:=omega) [-List.reduceReplicate,e0,-cut]
     refine ah [0] 1 [1] (by simp) (by simp) (by simp) (by simp) (JE bs hb k h1) (by simp) fun _ _=>?_
     generalize hq:mw bs 95 k=q at *
     simp (disch:=omega) [-List.reduceReplicate]
     exact hN.out _<|Nx.mk (f,q + 1,E1++[⟨fr,to,32 + k,32 + q⟩]) (by simp [NEdge.v]) ⟨by simp only; omega,by simp only; omega,by simp; omega,by simpa using hr⟩ (by simp only; omega)
   | false=>
     rw [if_neg (by rw [hb1]; simp)] at hr
     simp (disch:=omega) [-List.reduceReplicate,e0,-cut]
     exact hN.out _<|Nx.mk (f,k + 1,E1) (by simp) ⟨by simp only; omega,by simp only; omega,by simp only; omega,hr⟩ (by simp only; omega)
 · have:k=95:=by omega
   subst this
   have:jD bs fr to f 95=[]:=by cases f<;>simp [jD]
   rw [this,List.append_nil] at hr
   subst hr
   simp (disch:=omega) [-List.reduceReplicate]
theorem JG (l:List Rx) (hl:l.length≤100000) (n fr to:Nat) (E:List NEdge) (W:List Job) (hn:n≤100000) (hE:E.length≤1000000) (hW:W.length≤500000):
 FnH Tryz.prog lT [1] [.strct [.seq 1 (l.map rxV)],.ptr 0 0,nV fr,nV to] (MK n E W) (.tup []) (MK (aW ⟨.seq l,fr,to⟩ n).1 (E++(aW ⟨.seq l,fr,to⟩ n).2.1) (W++(aW ⟨.seq l,fr,to⟩ n).2.2)):=by
 refine FnH.of_image mixed ma l5 rfl fun ho hh=>?_
 unfold gP
 clear ho hh
 cases l with
 | nil=>
   simp only [aW,List.append_nil]
   simp (disch:=omega) [-List.reduceReplicate,MK]
   refine ah [0] 1 [0,1,2] (by simp) (by simp) (by simp) (by simp [MK]) (cQ n E W fr to hE) (by simp [MK]) fun _ _=>?_
   simp (disch:=omega) [-List.reduceReplicate,MK,Aut.fre,NEdge.v]
 | cons p l=>
   have hl2:l.length≤99999:=by simp only [List.length_cons] at hl; omega
   clear hl
   simp only [aW,List.append_nil]
   obtain ⟨R,hR⟩:∃ R,R=W++iU to p l fr n:=⟨_,rfl⟩
   rw [←hR]
   obtain ⟨ps,hps⟩:∃ ps,ps=p::l:=⟨_,rfl⟩
   have hpl:ps.length=l.length + 1:=by simp [hps]
   rw [←hps]
   have htk:(ps.take l.length).map rxV=(ps.map rxV).take l.length:=by rw [List.map_take]
   have hv:bR .sub .i64 ((l.length:Int) + 1) 1=some (.int .i64 l.length):=by simp (disch:=omega) [bR,kP]
   simp (disch:=omega) [-List.reduceReplicate,MK,hpl,hv]
   have hjl:∀ (l:List Rx) (p:Rx) (fr n:Nat),(iU to p l fr n).length=l.length + 1:=fun l=>by
    induction l with
    | nil=>intro p fr n; simp [iU]
    | cons q l ih=>intro p fr n; simp [iU,ih]
   have hRl:R.length=W.length + (l.length + 1):=by rw [hR]; simp [hjl]
   refine ak (fun (x:Nat × Nat × List Job)=>⟨[(1,.ptr 0 0),(2,nV x.2.1),(3,nV to),(4,.ptr 1 0),(8,nV l.length),(27,.seq 1 ((ps.map rxV).take l.length)),(28,nV l.length),(29,nV x.1)],
    [some (.box [nV (n + x.1),.ref 2 E.length,.ref 3 x.2.2.length]),some (.box [.seq 1 (ps.map rxV)]),some (.arr cG 4 (E.map NEdge.v)),some (.arr b5 3 (x.2.2.map tD))]⟩)
    (fun x=>x.1≤l.length∧∃ a rest,ps.drop x.1=a::rest∧x.2.2++iU to a rest x.2.1 (n + x.1)=R) (fun x=>l.length - x.1) [] _ (0,fr,W) rfl (by simp) ⟨by simp,p,l,by simp [hps],by simp [hR]⟩ ?_
   rintro ⟨k,f,W1⟩ ⟨hk,a,rest,hd,hr⟩ N hN
   simp only at hk hd hr
   have hdl:=congrArg List.length hd
   simp [hpl] at hdl
   have hpa:ps[k]?=some a:=by
    have:=congrArg (·[0]?) hd
    simpa [List.getElem?_drop] using this
   have hpt:((ps.map rxV).take l.length)[k]?=if k < l.length then some (rxV a) else none:=by
    rw [List.getElem?_take]
    split
    · rw [List.getElem?_map,hpa]; rfl
    · rfl
   have hWl:W1.length≤R.length:=by rw [←hr]; simp
   have hWl2:W1.length≤700000:=by omega
   clear hWl
   obtain ⟨t,y,h,h1,h2,h3,h4⟩:=fR a
   rcases Nat.lt_or_ge k l.length with hlt | hge
   · obtain ⟨b,rest2,rfl⟩:∃ b rest2,rest=b::rest2:=by
      cases rest with
      | nil=>simp at hdl; omega
      | cons b r=>exact ⟨b,r,rfl⟩
     have hd2:ps.drop (k + 1)=b::rest2:=by
      have:=congrArg List.tail hd
      simpa [List.tail_drop] using this
     simp only [iU] at hr
     rw [if_pos hlt] at hpt
     simp (disch:=omega) [-List.reduceReplicate,hpt]
     refine ah [0] 1 [0,2,3] (by simp) (by simp) (by simp) (by simp [MK]) (fY (n + k) E W1 (by omega)) (by simp [MK]) fun _ _=>?_
     simp (disch:=omega) [-List.reduceReplicate,MK]
     refine ah [0] 1 [0,4,5] (by simp) (by simp) (by simp) (by simp [MK]) (dG (n + k + 1) E W1 a f (n + k) (by omega)) (by simp [MK]) fun _ _=>?_
     simp (disch:=omega) [-List.reduceReplicate,MK]
     exact hN.out _<|Nx.mk (k + 1,n + k,W1++[⟨a,f,n + k⟩]) (by simp (disch:=omega) [Nat.add_assoc]; omega) ⟨by simp only; omega,b,rest2,hd2,by simpa [Nat.add_assoc] using hr⟩ (by simp only; omega)
   · have hkk:k=l.length:=by omega
     subst hkk
     have:rest=[]:=by
      cases rest with
      | nil=>rfl
      | cons b r=>simp at hdl
     subst this
     simp only [iU] at hr
     subst hr
     simp (disch:=omega) [-List.reduceReplicate,hpa]
     refine ah [0] 1 [0,2,3] (by simp) (by simp) (by simp) (by simp [MK]) (dG (n + l.length) E W1 a f to (by omega)) (by simp [MK]) fun _ _=>?_
     simp (disch:=omega) [-List.reduceReplicate,MK]
theorem JK (l:List Rx) (hl:l.length≤100000) (n fr to:Nat) (E:List NEdge) (W:List Job) (hW:W.length≤500000):
 FnH Tryz.prog lV [1] [.strct [.seq 1 (l.map rxV)],.ptr 0 0,nV fr,nV to] (MK n E W) (.tup []) (MK n E (W++l.map fun p=>⟨p,fr,to⟩)):=by
 refine FnH.of_image mixed md l7 rfl fun ho hh=>?_
 unfold gR
 clear ho hh
 obtain ⟨ps,hps⟩:∃ ps:List Job,ps=l.map fun p=>⟨p,fr,to⟩:=⟨_,rfl⟩
 rw [←hps]
 have hpl:ps.length=l.length:=by simp [hps]
 simp (disch:=omega) [-List.reduceReplicate,MK]
 refine ak (fun (k:Nat)=>⟨[(1,.ptr 0 0),(2,nV fr),(3,nV to),(11,.seq 1 (l.map rxV)),(12,nV l.length),(13,nV k)],
  [some (.box [nV n,.ref 1 E.length,.ref 2 (W++ps.take k).length]),some (.arr cG 4 (E.map NEdge.v)),some (.arr b5 3 ((W++ps.take k).map tD))]⟩)
  (fun k=>k≤l.length) (fun k=>l.length - k) [] _ 0 rfl (by simp) (by simp) ?_
 intro k hk N hN
 rcases Nat.lt_or_ge k l.length with hlt | hge
 · obtain ⟨a,ha⟩:=ap hlt
   have hpa:ps[k]?=some ⟨a,fr,to⟩:=by rw [hps,List.getElem?_map,ha]; rfl
   obtain ⟨t,y,h,h1,h2,h3,h4⟩:=fR a
   have hwl:(W++ps.take k).length≤1000000:=by simp; omega
   have e:W++ps.take (k + 1)=(W++ps.take k)++[⟨a,fr,to⟩]:=by rw [aS hpa,List.append_assoc]
   generalize W++ps.take k=W1 at *
   simp (disch:=omega) [-List.reduceReplicate,ha]
   refine ah [0] 1 [0,1,2] (by simp) (by simp) (by simp) (by simp [MK]) (dG n E W1 a fr to hwl) (by simp [MK]) fun _ _=>?_
   simp (disch:=omega) [-List.reduceReplicate,MK]
   exact hN.out _<|Nx.mk (k + 1) (by simp [e]) (by omega) (by omega)
 · have hkk:k=l.length:=by omega
   subst hkk
   have e:ps.take l.length=ps:=List.take_of_length_le (by omega)
   simp (disch:=omega) [-List.reduceReplicate,e]
theorem JH (p:Rx) (op:Nat) (n fr to:Nat) (E:List NEdge) (W:List Job) (hn:n≤100000) (hE:E.length≤500000) (hW:W.length≤500000):
 FnH Tryz.prog lU [1] [.strct [rxV p,.int .u8 op],.ptr 0 0,nV fr,nV to] (MK n E W) (.tup []) (MK (aW ⟨.rep p op,fr,to⟩ n).1 (E++(aW ⟨.rep p op,fr,to⟩ n).2.1) (W++(aW ⟨.rep p op,fr,to⟩ n).2.2)):=by
 refine FnH.of_image mixed mc l6 rfl fun ho hh=>?_
 unfold gQ
 clear ho hh
 obtain ⟨t,y,h,h1,h2,h3,h4⟩:=fR p
 by_cases h63:op=63
 · subst h63
   simp only [aW,if_true]
   simp (disch:=omega) [-List.reduceReplicate,MK]
   refine ah [0] 1 [0,1,2] (by simp) (by simp) (by simp) (by simp [MK]) (cQ n E W fr to (by omega)) (by simp [MK]) fun _ _=>?_
   simp (disch:=omega) [-List.reduceReplicate,MK]
   refine ah [0] 1 [0,4,5] (by simp) (by simp) (by simp) (by simp [MK]) (dG n (E++[Aut.fre fr to]) W p fr to (by omega)) (by simp [MK]) fun _ _=>?_
   simp (disch:=omega) [-List.reduceReplicate,MK]
 · by_cases h42:op=42
   · subst h42
     simp only [aW,if_true,if_neg (show ¬(42:Nat)=63 by omega)]
     simp (disch:=omega) [-List.reduceReplicate,MK]
     refine ah [0] 1 [0,1,2] (by simp) (by simp) (by simp) (by simp [MK]) (fY n E W (by omega)) (by simp [MK]) fun _ _=>?_
     simp (disch:=omega) [-List.reduceReplicate,MK]
     refine ah [0] 1 [0,4,5] (by simp) (by simp) (by simp) (by simp [MK]) (cQ (n + 1) E W fr n (by omega)) (by simp [MK]) fun _ _=>?_
     simp (disch:=omega) [-List.reduceReplicate,MK]
     refine ah [0] 1 [0,6,7] (by simp) (by simp) (by simp) (by simp [MK]) (dG (n + 1) (E++[Aut.fre fr n]) W p n n (by omega)) (by simp [MK]) fun _ _=>?_
     simp (disch:=omega) [-List.reduceReplicate,MK]
     refine ah [0] 1 [0,8,9] (by simp) (by simp) (by simp) (by simp [MK]) (cQ (n + 1) (E++[Aut.fre fr n]) (W++[⟨p,n,n⟩]) n to (by simp; omega)) (by simp [MK]) fun _ _=>?_
     simp (disch:=omega) [-List.reduceReplicate,MK]
   · simp only [aW,if_neg h63,if_neg h42]
     have z63:¬((op:Int)=63):=by omega
     have z42:¬((op:Int)=42):=by omega
     simp (disch:=omega) [-List.reduceReplicate,MK,z63,z42]
     refine ah [0] 1 [0,1,2] (by simp) (by simp) (by simp) (by simp [MK]) (fY n E W (by omega)) (by simp [MK]) fun _ _=>?_
     simp (disch:=omega) [-List.reduceReplicate,MK]
     refine ah [0] 1 [0,4,5] (by simp) (by simp) (by simp) (by simp [MK]) (fY (n + 1) E W (by omega)) (by simp [MK]) fun _ _=>?_
     simp (disch:=omega) [-List.reduceReplicate,MK]
     refine ah [0] 1 [0,6,7] (by simp) (by simp) (by simp) (by simp [MK]) (cQ (n + 1 + 1) E W fr n (by omega)) (by simp [MK]) fun _ _=>?_
     simp (disch:=omega) [-List.reduceReplicate,MK]
     refine ah [0] 1 [0,8,9] (by simp) (by simp) (by simp) (by simp [MK]) (dG (n + 1 + 1) (E++[Aut.fre fr n]) W p n (n + 1) (by omega)) (by simp [MK]) fun _ _=>?_
     simp (disch:=omega) [-List.reduceReplicate,MK]
     refine ah [0] 1 [0,10,11] (by simp) (by simp) (by simp) (by simp [MK]) (cQ (n + 1 + 1) (E++[Aut.fre fr n]) (W++[⟨p,n,n + 1⟩]) (n + 1) n (by simp; omega)) (by simp [MK]) fun _ _=>?_
     simp (disch:=omega) [-List.reduceReplicate,MK]
     refine ah [0] 1 [0,12,13] (by simp) (by simp) (by simp) (by simp [MK]) (cQ (n + 1 + 1) (E++[Aut.fre fr n]++[Aut.fre (n + 1) n]) (W++[⟨p,n,n + 1⟩]) (n + 1) to (by simp; omega)) (by simp [MK]) fun _ _=>?_
     simp (disch:=omega) [-List.reduceReplicate,MK]
     omega
theorem Av (x:Rx):1≤br x:=by cases x<;>simp only [br]<;>omega
theorem qy:∀ l:List Rx,l.length≤bC l
 | []=>by simp [bC]
 | p::l=>by have h1:=Av p; have h2:=qy l; simp only [bC,List.length_cons]; omega
theorem Ai:∀ l:List Job,l.length≤bh l
 | []=>by simp [bh]
 | p::l=>by have h1:=Av p.p; have h2:=Ai l; simp only [bh,List.length_cons]; omega
theorem wtrc {Φ:Ctr} {d:Option Nat} {x hi:AO} {sz id n:Nat} {k:IntKind} {b:Int} {e:Nat} {l:List V} {K:St→Prop} {σ:St} (hx:σ.ev x=some (.ref id n)) (hb:σ.ev hi=some (.int k b)) (ha:σ.arr? id=some (e,sz,l)) (hn:n=l.length) (h0:0≤b) (hbn:b≤n)
 (h:K (St.put { σ with h:=σ.h.set id none++[some (Ob.arr e sz (l.take b.toNat))] } d (.ref σ.h.length b.toNat))):af Φ d (.trc x hi sz) K σ:=by
 simp only [af,hx,hb,ha]
 exact ⟨trivial,hn,h0,hbn,h⟩
theorem f_Net (x:Rx) (N0:Net) (hx:wfR x=true) (hN0:D6 x=some N0) (hs:br x≤2000) (hfr:bW x≤2000):Fn Tryz.prog d7 [rxP x] (.strct (Net.c N0)):=by
 refine Fn.of_imageE mixed ja i7 rfl fun ho=>?_
 unfold eb
 simp only [oks,ok,and_true] at ho
 clear ho
 obtain ⟨C,hC⟩:∃ C:List V,C=Net.c N0:=⟨_,rfl⟩
 rw [←hC]
 simp only [D6,Option.map_eq_some_iff] at hN0
 obtain ⟨⟨n1,E1⟩,hgo,hN1⟩:=hN0
 simp only at hN1
 obtain ⟨t,y,h,h1,h2,h3,h4⟩:=fR x
 simp (disch:=omega) [-List.reduceReplicate]
 refine ah [] 0 [] (by simp) (by simp) (by simp) (by simp) ((pQ x).toH (by simp [ai]) (by simp [purs])) (by simp) fun _ _=>?_
 simp (disch:=omega) [-List.reduceReplicate]
 refine ah [0] 1 [1] (by simp) (by simp) (by simp) (by simp) (Aa 2 x 0 1) (by simp) fun _ _=>?_
 simp (disch:=omega) [-List.reduceReplicate]
 refine ak (fun (x:Nat × Nat × List NEdge × List Job)=>⟨[(2,.ptr 0 0),(3,.ptr 1 0)],[some (.box [nV 0,nV 0,nV 0,.nil 4]),some (.box [nV x.2.1,.ref 2 x.2.2.1.length,.ref 3 x.2.2.2.length]),some (.arr cG 4 (x.2.2.1.map NEdge.v)),some (.arr b5 3 (x.2.2.2.map tD))]⟩)
  (fun x=>pH x.1 x.2.1 x.2.2.1 x.2.2.2=some (n1,E1)∧x.2.1 + aQ x.2.2.2≤2002∧x.2.2.1.length + 95 * bh x.2.2.2≤190000∧∀ j∈x.2.2.2,wfR j.p=true) (fun x=>x.1) [.b 1 1 cG 4] _ (br x + 1,2,[],[⟨x,0,1⟩]) rfl (by simp) ⟨hgo,by simp [aQ]; omega,by simp [bh]; omega,fun j hj=>by simp at hj; subst hj; exact hx⟩ ?_
 rintro ⟨f,n,E,W⟩ ⟨hg,hf1,hf2,hw⟩ N hN
 simp only at hg hf1 hf2 hw
 cases f with
 | zero=>simp [pH] at hg
 | succ f=>
   have hwl:=Ai W
   simp only [pH] at hg
   cases hl:W.getLast? with
   | none=>
     have:W=[]:=by simpa using hl
     subst this
     rw [hl] at hg
     simp only [Option.some.injEq,Prod.mk.injEq] at hg
     obtain ⟨rfl,rfl⟩:=hg
     clear hN
     simp (disch:=omega) [-List.reduceReplicate]
     simp [hC,←hN1]
   | some j=>
     have e:=sr hl
     rw [hl] at hg
     simp only at hg
     obtain ⟨W0,hW0⟩:∃ W0,W0=W.dropLast:=⟨_,rfl⟩
     rw [←hW0] at e hg
     clear hW0 hl
     subst e
     obtain ⟨s1,s2,s3⟩:=Bj j n
     have hz:bh (W0++[j])=bh W0 + br j.p:=by rw [ew]; simp [bh]
     have hz2:bh (W0++(aW j n).2.2)=bh W0 + bh (aW j n).2.2:=ew _ _
     have hz3:aQ (W0++[j])=aQ W0 + bW j.p:=by rw [dV]; simp [aQ]
     have hz4:aQ (W0++(aW j n).2.2)=aQ W0 + aQ (aW j n).2.2:=dV _ _
     have hjm:((W0++[j]).map tD)[W0.length]?=some (tD j):=by rw [List.map_append,List.getElem?_append_right (by simp)]; simp
     have htk:((W0++[j]).map tD).take W0.length=W0.map tD:=by simp
     have hln:(W0++[j]).length=W0.length + 1:=by simp
     have hv:bR .sub .i64 ((W0.length:Int) + 1) 1=some (.int .i64 W0.length):=by simp (disch:=omega) [bR,kP]
     have fin:∀ τ:St,τ.nrm [2,3]=⟨[(2,.ptr 0 0),(3,.ptr 1 0)],[some (.box [nV 0,nV 0,nV 0,.nil 4]),some (.box [nV (aW j n).1,.ref 2 (E++(aW j n).2.1).length,.ref 3 (W0++(aW j n).2.2).length]),some (.arr cG 4 ((E++(aW j n).2.1).map NEdge.v)),some (.arr b5 3 ((W0++(aW j n).2.2).map tD))]⟩→N τ:=by
      intro τ hτ
      refine hN.out τ<|Nx.mk (f,(aW j n).1,E++(aW j n).2.1,W0++(aW j n).2.2) hτ ⟨hg,by simp only; omega,by simp only [List.length_append] at hf2 ⊢; omega,fun k hk=>?_⟩ (by simp only; omega)
      rcases List.mem_append.1 hk with hk | hk
      · exact hw k (by simp [hk])
      · exact H7 (hw j (by simp)) k hk
     have hwj:=hw j (by simp)
     replace fin:=hid fin
     have hEl:E.length≤190000:=by omega
     have hWl:W0.length≤10000:=by rw [hln] at hwl; omega
     have hnl:n≤2002:=by omega
     have hsj:br j.p≤2000:=by omega
     clear hN s1 s2 s3 hz hz2 hz3 hz4 hw hg hf1 hf2 hwl
     obtain ⟨p,fr,to⟩:=j
     obtain ⟨t,y,h,h1,h2,h3,h4⟩:=fR p
     generalize hWW:W0++[(⟨p,fr,to⟩:Job)]=WW at *
     simp (disch:=omega) [-List.reduceReplicate,hjm,htk,hln,hv,tD]
     refine wtrc (id:=3) (n:=W0.length + 1) (b:=(W0.length:Int)) (l:=WW.map tD) rfl rfl rfl (by simp [hln]) (by omega) (by omega) ?_
     simp (disch:=omega) [-List.reduceReplicate,htk]
     cases p with
     | set bs=>
       simp only [wfR,decide_eq_true_eq] at hwj
       simp only [aW,List.append_nil] at fin
       simp (disch:=omega) [-List.reduceReplicate,rxV]
       refine ah [1] 1 [1,2,5] (by simp) (by simp) (by simp [MK]) (by simp [MK]) (JF bs hwj n fr to E W0 (by omega)) (by simp [MK]) fun _ _=>?_
       simp (disch:=omega) [-List.reduceReplicate,MK]
       exact fin.out _ (by simp)
     | seq l=>
       have hll:=qy l
       simp only [br] at hsj
       have hvs:=mQ l
       simp (disch:=omega) [-List.reduceReplicate,rxV,hvs]
       refine ah [1] 1 [1,2,5] (by simp) (by simp) (by simp [MK]) (by simp [MK]) (JG l (by omega) n fr to E W0 (by omega) (by omega) (by omega)) (by simp [MK]) fun _ _=>?_
       simp (disch:=omega) [-List.reduceReplicate,MK]
       exact fin.out _ (by simp)
     | alt l=>
       have hll:=qy l
       simp only [br] at hsj
       have hvs:=mQ l
       simp only [aW,List.append_nil] at fin
       simp (disch:=omega) [-List.reduceReplicate,rxV,hvs]
       refine ah [1] 1 [1,2,5] (by simp) (by simp) (by simp [MK]) (by simp [MK]) (JK l (by omega) n fr to E W0 (by omega)) (by simp [MK]) fun _ _=>?_
       simp (disch:=omega) [-List.reduceReplicate,MK]
       exact fin.out _ (by simp)
     | rep p op=>
       simp (disch:=omega) [-List.reduceReplicate,rxV]
       refine ah [1] 1 [1,2,5] (by simp) (by simp) (by simp [MK]) (by simp [MK]) (JH p op n fr to E W0 (by omega) (by omega) (by omega)) (by simp [MK]) fun _ _=>?_
       simp (disch:=omega) [-List.reduceReplicate,MK]
       exact fin.out _ (by simp)
def J4:List Bool:=List.replicate 95 true
def LJ (c:Nat):List Bool:=J4.set c false
def digS:List Bool:=List.replicate 16 false++List.replicate 10 true++List.replicate 69 false
def rx0:Rx:=.rep (.set (cx 65)) 42
def rx1:Rx:=.rep (.alt [(.set (cx 65)),(.set (cx 66))]) 43
def rx2:Rx:=.rep (.set digS) 43
def rx3:Rx:=.seq [(.set (cx 88)),.set J4,(.set (cx 89))]
def rx4:Rx:=.rep (.set (LJ 65)) 42
def rx5:Rx:=.seq []
def rx6:Rx:=.alt [(.set (cx 65)),.seq [(.set (cx 66)),(.set (cx 66))],(.set (cx 67))]
def rx7:Rx:=.rep (.set J4) 42
def rx8:Rx:=.rep (.set (LJ 26)) 42
def dt:List (Str × Rx):=[([97,42],rx0),([40,97,124,98,41,43],rx1),([91,48,45,57,93,43],rx2),([120,46,121],rx3),([91,94,97,93,42],rx4),([],rx5),([97,124,98,98,124,99],rx6),([46,42],rx7),([91,94,58,93,42],rx8)]
theorem QR:(oZ wi 300 16).h av [.str [97,42]] []=some (.tup [.ptr 0 0,.int .i64 0],[some (.box [(rxV rx0)])]):=by kernel_rfl
theorem GS:Fn Tryz.prog av [.str [97,42]] (.tup [rxP rx0,.int .i64 0]):=
 ((cK mixed ij 300 16).h _ _ _ _ _ _ (by kernel_rfl) QR).boxed2 (cs':=[rxV rx0]) (by simp [bY]) rfl (by kernel_rfl)
theorem QQ:(oZ wi 300 16).h av [.str [40,97,124,98,41,43]] []=some (.tup [.ptr 0 0,.int .i64 0],[some (.box [(rxV rx1)])]):=by kernel_rfl
theorem GR:Fn Tryz.prog av [.str [40,97,124,98,41,43]] (.tup [rxP rx1,.int .i64 0]):=
 ((cK mixed ij 300 16).h _ _ _ _ _ _ (by kernel_rfl) QQ).boxed2 (cs':=[rxV rx1]) (by simp [bY]) rfl (by kernel_rfl)
theorem QP:(oZ wi 300 16).h av [.str [91,48,45,57,93,43]] []=some (.tup [.ptr 0 0,.int .i64 0],[some (.box [(rxV rx2)])]):=by kernel_rfl
theorem GQ:Fn Tryz.prog av [.str [91,48,45,57,93,43]] (.tup [rxP rx2,.int .i64 0]):=
 ((cK mixed ij 300 16).h _ _ _ _ _ _ (by kernel_rfl) QP).boxed2 (cs':=[rxV rx2]) (by simp [bY]) rfl (by kernel_rfl)
theorem QO:(oZ wi 300 16).h av [.str [120,46,121]] []=some (.tup [.ptr 0 0,.int .i64 0],[some (.box [(rxV rx3)])]):=by kernel_rfl
theorem GP:Fn Tryz.prog av [.str [120,46,121]] (.tup [rxP rx3,.int .i64 0]):=
 ((cK mixed ij 300 16).h _ _ _ _ _ _ (by kernel_rfl) QO).boxed2 (cs':=[rxV rx3]) (by simp [bY]) rfl (by kernel_rfl)
theorem QN:(oZ wi 300 16).h av [.str [91,94,97,93,42]] []=some (.tup [.ptr 0 0,.int .i64 0],[some (.box [(rxV rx4)])]):=by kernel_rfl
theorem GO:Fn Tryz.prog av [.str [91,94,97,93,42]] (.tup [rxP rx4,.int .i64 0]):=
 ((cK mixed ij 300 16).h _ _ _ _ _ _ (by kernel_rfl) QN).boxed2 (cs':=[rxV rx4]) (by simp [bY]) rfl (by kernel_rfl)
theorem QM:(oZ wi 300 16).h av [.str []] []=some (.tup [.ptr 0 0,.int .i64 0],[some (.box [(rxV rx5)])]):=by kernel_rfl
theorem GN:Fn Tryz.prog av [.str []] (.tup [rxP rx5,.int .i64 0]):=
 ((cK mixed ij 300 16).h _ _ _ _ _ _ (by kernel_rfl) QM).boxed2 (cs':=[rxV rx5]) (by simp [bY]) rfl (by kernel_rfl)
theorem QL:(oZ wi 300 16).h av [.str [97,124,98,98,124,99]] []=some (.tup [.ptr 0 0,.int .i64 0],[some (.box [(rxV rx6)])]):=by kernel_rfl
theorem GM:Fn Tryz.prog av [.str [97,124,98,98,124,99]] (.tup [rxP rx6,.int .i64 0]):=
 ((cK mixed ij 300 16).h _ _ _ _ _ _ (by kernel_rfl) QL).boxed2 (cs':=[rxV rx6]) (by simp [bY]) rfl (by kernel_rfl)
theorem QK:(oZ wi 300 16).h av [.str [46,42]] []=some (.tup [.ptr 0 0,.int .i64 0],[some (.box [(rxV rx7)])]):=by kernel_rfl
theorem GK:Fn Tryz.prog av [.str [46,42]] (.tup [rxP rx7,.int .i64 0]):=
 ((cK mixed ij 300 16).h _ _ _ _ _ _ (by kernel_rfl) QK).boxed2 (cs':=[rxV rx7]) (by simp [bY]) rfl (by kernel_rfl)
theorem QJ:(oZ wi 300 16).h av [.str [91,94,58,93,42]] []=some (.tup [.ptr 0 0,.int .i64 0],[some (.box [(rxV rx8)])]):=by kernel_rfl
theorem GJ:Fn Tryz.prog av [.str [91,94,58,93,42]] (.tup [rxP rx8,.int .i64 0]):=
 ((cK mixed ij 300 16).h _ _ _ _ _ _ (by kernel_rfl) QJ).boxed2 (cs':=[rxV rx8]) (by simp [bY]) rfl (by kernel_rfl)
theorem H6 {s:Str} {x:Rx} (h:(s,x)∈dt):Fn Tryz.prog av [.str s] (.tup [rxP x,.int .i64 0]):=by
 simp only [dt,List.mem_cons,Prod.mk.injEq,List.not_mem_nil,or_false] at h
 rcases h with ⟨rfl,rfl⟩ | ⟨rfl,rfl⟩ | ⟨rfl,rfl⟩ | ⟨rfl,rfl⟩ | ⟨rfl,rfl⟩ | ⟨rfl,rfl⟩ | ⟨rfl,rfl⟩ | ⟨rfl,rfl⟩ | ⟨rfl,rfl⟩
 · exact GS
 · exact GR
 · exact GQ
 · exact GP
 · exact GO
 · exact GN
 · exact GM
 · exact GK
 · exact GJ
theorem j1 {s:Str} {x:Rx} (h:(s,x)∈dt):Fn Tryz.prog yQ [.str s] (rxP x):=by
 refine Fn.of_image mixed zL zl rfl fun ho=>?_
 unfold qh
 simp only [oks,ok,and_true] at ho
 clear ho
 simp (disch:=omega) [-List.reduceReplicate]
 refine aj (H6 h) (by simp) fun _=>?_
 simp (disch:=omega) [-List.reduceReplicate]
theorem xP (c:V) (hc:pur [] c=some c) (hv:aq c=[]) (hn:nt c=true):Fn Tryz.prog gK [c] (rxP rx7):=by
 refine Fn.of_image mixed vt vk rfl fun ho=>?_
 unfold mq
 simp only [oks,ok,and_true] at ho
 clear ho
 simp (disch:=omega) [-List.reduceReplicate,hc,hv,hn]
 refine aj (j1 (s:=[46,42]) (x:=rx7) (by simp [dt])) (by simp) fun _=>?_
 simp (disch:=omega) [-List.reduceReplicate]
def i3 (e:Str) (w:Str):Rx:=tB (w++e)
theorem mh (l:List Str) (e:Str) (hl:l.length≤1000) (he:e.length≤1000) (hs:∀ w∈l,(∀ c∈w++e,32≤c.toNat∧c.toNat≤126)∧w.length≤1000):Fn Tryz.prog vf [.seq 1 (l.map .str),.str e] (.seq 1 ((l.map (i3 e)).map rxP)):=by
 refine Fn.of_image mixed vr vj rfl fun ho=>?_
 unfold mo
 simp only [oks,ok,and_true] at ho
 clear ho
 obtain ⟨R,hR⟩:∃ R,R=l.map (i3 e):=⟨_,rfl⟩
 have hRl:R.length=l.length:=by simp [hR]
 rw [←hR]
 simp (disch:=omega) [-List.reduceReplicate]
 refine ak (fun k:Nat=>⟨[(1,.str e),(5,.ref 0 k),(8,.seq 1 (l.map .str)),(9,.int .i64 l.length),(10,.int .i64 k)],[some (.arr gG 1 ((R.take k).map rxP))]⟩) (fun k=>k≤l.length) (fun k=>l.length - k) [.r 5 gG 1] _ 0 rfl (by simp) (by simp) ?_
 intro k hk N hN
 rcases Nat.lt_or_ge k l.length with hlt | hge
 · obtain ⟨w,hw⟩:=ap hlt
   obtain ⟨g1,g2⟩:=hs w (List.mem_of_getElem? hw)
   have hRk:R[k]?=some (i3 e w):=by rw [hR,List.getElem?_map,hw]; rfl
   have hkl:((R.take k).map rxP).length=k:=by simp; omega
   simp (disch:=omega) [-List.reduceReplicate,hw]
   refine aj (vA (w++e) g1 (by simp; omega)) (by simp) fun _=>?_
   simp (disch:=omega) [-List.reduceReplicate,hkl]
   exact hN.out _<|Nx.mk (k + 1) (by simp [aS hRk,i3]) (by omega) (by omega)
 · have:k=l.length:=by omega
   subst this
   have e1:R.take l.length=R:=List.take_of_length_le (by omega)
   simp (disch:=omega) [-List.reduceReplicate,e1,hRl]
def cV3 (k:Int) (ws:List Str) (rx:Str):V:=.strct [.int .i64 k,.seq 1 (ws.map .str),.str rx]
theorem EW (k:Int) (ws:List Str) (rx:Str) (hl:ws.length≤1000) (hs:∀ w∈ws,(∀ c∈w,32≤c.toNat∧c.toNat≤126)∧w.length≤1000):Fn Tryz.prog fG [cV3 k ws rx] (rxP (aM (ws.map (i3 [])))):=by
 refine Fn.of_image mixed tL tG rfl fun ho=>?_
 unfold kK
 simp only [oks,ok,and_true] at ho
 clear ho
 simp (disch:=omega) [-List.reduceReplicate,cV3]
 refine aj (mh ws [] hl (by simp) (by simpa using hs)) (by simp) fun _=>?_
 simp (disch:=omega) [-List.reduceReplicate]
 refine aj (rf (ws.map (i3 [])) (by simp; omega)) (by simp) fun _=>?_
 simp (disch:=omega) [-List.reduceReplicate]
def BN (ws:List Str):Rx:=aM [rx8,ik [aM (ws.map (i3 [58])),rx7]]
theorem Ac (k:Int) (ws:List Str) (rx:Str) (hl:ws.length≤1000) (hs:∀ w∈ws,(∀ c∈w,32≤c.toNat∧c.toNat≤126)∧w.length≤900):Fn Tryz.prog d8 [cV3 k ws rx] (rxP (BN ws)):=by
 refine Fn.of_image mixed qV qP rfl fun ho=>?_
 unfold jq
 simp only [oks,ok,and_true] at ho
 clear ho
 obtain ⟨R,hR⟩:∃ R,R=BN ws:=⟨_,rfl⟩
 rw [←hR]
 simp (disch:=omega) [-List.reduceReplicate,cV3]
 refine aj (mh ws [58] hl (by simp) (fun w hw=>by
  obtain ⟨g1,g2⟩:=hs w hw
  refine ⟨fun c hc=>?_,by omega⟩
  rcases List.mem_append.1 hc with h | h
  · exact g1 c h
  · simp at h; subst h; decide)) (by simp) fun _=>?_
 simp (disch:=omega) [-List.reduceReplicate]
 refine aj (rf (ws.map (i3 [58])) (by simp; omega)) (by simp) fun _=>?_
 obtain ⟨S,hS⟩:∃ S,S=aM (ws.map (i3 [58])):=⟨_,rfl⟩
 have hR2:R=aM [rx8,ik [S,rx7]]:=by rw [hR,hS]; rfl
 rw [←hS]
 clear hS hR
 have k1:=j1 (s:=[91,94,58,93,42]) (x:=rx8) (by simp [dt])
 have k2:=xP (cV3 k ws rx) (by simp [cV3]) (by simp [cV3,aq,ai]) rfl
 have k3:=C9 [S,rx7] (by simp)
 have k4:=rf [rx8,ik [S,rx7]] (by simp)
 simp [cV3] at k2
 simp at k3 k4
 simp (disch:=omega) [-List.reduceReplicate,cV3]
 refine aF k1 (by simp) ?_
 simp (disch:=omega) [-List.reduceReplicate]
 refine aF k2 (by simp) ?_
 simp (disch:=omega) [-List.reduceReplicate,bo]
 refine aF k3 (by simp) ?_
 simp (disch:=omega) [-List.reduceReplicate,bo]
 refine aF k4 (by simp) ?_
 simp (disch:=omega) [-List.reduceReplicate,hR2]
theorem Dh (k:Int) (ws:List Str) (rx:Str) {x:Rx} (h:(rx,x)∈dt):Fn Tryz.prog eE [cV3 k ws rx] (rxP x):=by
 refine Fn.of_image mixed sl sh rfl fun ho=>?_
 unfold jQ
 simp only [oks,ok,and_true] at ho
 clear ho
 simp (disch:=omega) [-List.reduceReplicate,cV3]
 refine aj (j1 h) (by simp) fun _=>?_
 simp (disch:=omega) [-List.reduceReplicate]
def li:List (V × V):=[(.int .i64 1,.fn (.func gK) [] []),(.int .i64 2,.fn (.func fG) [] []),(.int .i64 3,.fn (.func d8) [] []),(.int .i64 4,.fn (.func eE) [] [])]
theorem Me:FnH Tryz.prog yR [] [] [] (.ref 0 0) [some (.mp ⟨false,[.i .i64]⟩ li)]:=by
 refine FnH.of_image mixed zM zm rfl fun ho hh=>?_
 unfold qi
 clear ho hh
 simp (disch:=omega) [-List.reduceReplicate,li,io,eqK,jf,eqC]
theorem Ad (s:Str):Fn Tryz.prog pK [.str s] (.bool (s.all F.sign && decide (s.length≤40))):=by
 refine Fn.of_image mixed zN zn rfl fun ho=>?_
 unfold qj
 simp only [oks,ok,and_true] at ho
 clear ho
 simp (disch:=omega) [-List.reduceReplicate]
 refine BrKd.mk (fun h=>?_) (fun h=>?_)
 · simp (disch:=omega) [-List.reduceReplicate,h]
   refine ae (F.f_lang_isValue s) rfl fun _=>?_
   simp (disch:=omega) [-List.reduceReplicate,h]
 · simp (disch:=omega) [-List.reduceReplicate,h]
theorem vC (s:Str):Fn Tryz.prog lY [.str s] (.bool (F.scheme s)):=by
 refine Fn.of_image mixed vu vl rfl fun ho=>?_
 unfold mr
 simp only [oks,ok,and_true] at ho
 simp (disch:=omega) [-List.reduceReplicate]
 generalize hr:F.scheme s=r
 refine ak (fun k:Nat=>⟨[(0,.str s),(3,.int .i64 k)],[]⟩) (fun k=>k≤s.length∧((s.drop k).all F.small && (1≤s.length && s.length≤16))=r) (fun k=>s.length - k) [] _ 0 rfl (by simp [*]) (by simp [*,←hr,F.scheme]) ?_
 rintro k ⟨hk,hi⟩ N hN
 rcases place s k hk with ⟨he,hd⟩ | ⟨hlt,x,hx,hd⟩<;>rw [hd] at hi<;>replace hi:=hid hi
 · simp (disch:=omega) [-List.reduceReplicate,he]
   repeat' (first | (refine BrKd.mk (fun h=>?_) (fun h=>?_)<;>simp (disch:=omega) [*]) | (refine BrK.mk (fun h=>?_) (fun h=>?_)<;>simp (disch:=omega) [*]))
   all_goals (first | simpa (disch:=omega) [*,decide_eq_true,decide_eq_false,] using hi.out.symm | simpa (disch:=omega) [*,decide_eq_true,decide_eq_false,] using hi.out)
 · simp (disch:=omega) [-List.reduceReplicate,hx]
   repeat' (first | (refine BrKd.mk (fun h=>?_) (fun h=>?_)<;>simp (disch:=omega) [*]) | (refine BrK.mk (fun h=>?_) (fun h=>?_)<;>simp (disch:=omega) [*]))
   all_goals first
    | (refine hN.out _<|Nx.mk (k + 1) (by simp [*]) ⟨by omega,?_⟩ (by omega); simpa (disch:=omega) [*,decide_eq_true,decide_eq_false,F.small] using hi.out)
    | (first | simpa (disch:=omega) [*,decide_eq_true,decide_eq_false,F.small] using hi.out.symm | simpa (disch:=omega) [*,decide_eq_true,decide_eq_false,F.small] using hi.out)
theorem sH (sch:Bool) (is:FuncId) (his:∀ s,Fn Tryz.prog is [.str s] (.bool (F.wordOK sch s))) (l:List Str) (h:F.words l sch=true):Fn Tryz.prog B7 [.seq 1 (l.map .str),.fn (.func is) [] []] (.bool true):=by
 refine Fn.of_image mixed CS Cy rfl fun ho=>?_
 unfold sQ
 simp only [oks,ok,and_true] at ho
 clear ho
 simp only [F.words,Bool.and_eq_true,decide_eq_true_eq] at h
 obtain ⟨h1,h2⟩:=h
 simp (disch:=omega) [-List.reduceReplicate]
 refine ak (fun k:Nat=>⟨[(0,.seq 1 (l.map .str)),(1,.fn (.func is) [] []),(10,.seq 1 (l.map .str)),(11,.int .i64 l.length),(12,.int .i64 k)],[]⟩) (fun k=>k≤l.length∧F.wordsGo sch (l.take k) (l.drop k)=true) (fun k=>l.length - k) [] _ 0 rfl (by simp) (by simp [h1]) ?_
 rintro k ⟨hk,hi⟩ N hN
 rcases place l k hk with ⟨he,hd⟩ | ⟨hlt,x,hx,hd⟩<;>rw [hd] at hi
 · simp (disch:=omega) [-List.reduceReplicate,he]
 · simp only [F.wordsGo,Bool.and_eq_true,Bool.not_eq_true'] at hi
   obtain ⟨g1,g2,g3⟩:=hi
   have hw:=his x
   rw [g1] at hw
   have hc:=F.f_slices_Contains_string (l.take k) x
   rw [g2] at hc
   rw [List.map_take] at hc
   simp (disch:=omega) [-List.reduceReplicate,hx]
   refine ae hw rfl fun _=>?_
   simp (disch:=omega) [-List.reduceReplicate,hx]
   refine ae hc rfl fun _=>?_
   simp (disch:=omega) [-List.reduceReplicate]
   exact hN.out _<|Nx.mk (k + 1) (by simp) ⟨by omega,by rw [aS hx]; exact g3⟩ (by omega)
end Go.Abs
end
