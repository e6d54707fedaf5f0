/-
  Automata, plainly: walks that number what they meet, and what they tell. No condition.
  Automata, plainly: languages, the form that a language alone determines, classes of states. No condition.
  What the first functions of layer 11 answer. No condition.
  What meets states answers: their numbers, as they were first met. No condition.
  What a walk through an automaton's states answers. No condition.
  What a walk through an automaton's states answers. No condition.
  What meets keys answers: their numbers, as they were first met. No condition.
  What an automaton's classes are. No condition.
  What an automaton's form is. No condition.
-/
import Derived.Test.YtloaikaippankaaGreatDoorTCodeD
set_option linter.unusedVariables false
set_option linter.unusedSimpArgs false
set_option linter.unusedSectionVars false
section
namespace Go.Aut
section
variable {K:Type}
def pos (e:K→K→Bool) (k:K):List K→Option Nat
 | []=>none
 | x::l=>if e x k=true then some 0 else (pos e k l).map (· + 1)
def fP (e:K→K→Bool) (l:List K) (k:K):Nat:=(pos e k l).getD l.length
def bF (e:K→K→Bool) (l:List K) (k:K):List K:=if (pos e k l).isSome=true then l else l++[k]
def aB (e:K→K→Bool) (f:Nat→K):Nat→Nat→List K→List Nat × List K
 | 0,_,l=>([],l)
 | m + 1,c,l=>(fP e l (f c)::(aB e f m (c + 1) (bF e l (f c))).1,(aB e f m (c + 1) (bF e l (f c))).2)
def bI (e:K→K→Bool) (step:K→Nat→K) (most:Nat):Nat→Nat→List K→List (List Nat)→Option (List K × List (List Nat))
 | 0,_,_,_=>none
 | f + 1,i,l,rows=>match l[i]? with
   | none=>some (l,rows)
   | some q=>if most < (aB e (step q) 95 0 l).2.length then none else bI e step most f (i + 1) (aB e (step q) 95 0 l).2 (rows++[(aB e (step q) 95 0 l).1])
def um (e:K→K→Bool) (step:K→Nat→K) (start:K) (most:Nat):Option (List K × List (List Nat)):=bI e step most (most + 2) 0 [start] []
variable {e:K→K→Bool}
theorem m5 {k:K}:∀ {l:List K} {i:Nat},pos e k l=some i→∃ x,l[i]?=some x∧e x k=true
 | [],i,h=>by simp [pos] at h
 | y::l,i,h=>by
   simp only [pos] at h
   split at h
   · rename_i hy; cases h; exact ⟨y,rfl,hy⟩
   · cases hp:pos e k l with
     | none=>simp [hp] at h
     | some j=>simp [hp] at h; subst h; simpa using m5 hp
theorem rS {k:K}:∀ {l:List K},pos e k l=none→∀ x∈l,e x k=false
 | [],_,x,hx=>by cases hx
 | y::l,h,x,hx=>by
   simp only [pos] at h
   split at h
   · cases h
   · rename_i hy
     simp at h
     rcases List.mem_cons.1 hx with rfl | hx
     · simpa using hy
     · exact rS h x hx
theorem Q2 {k:K} {l:List K} {i:Nat} (h:pos e k l=some i):i < l.length:=by
 obtain ⟨x,hx,_⟩:=m5 h
 exact (List.getElem?_eq_some_iff.1 hx).1
theorem M3 (l:List K) (k:K):∃ t,bF e l k=l++t:=by
 unfold bF; split
 · exact ⟨[],by simp⟩
 · exact ⟨[k],rfl⟩
theorem MZ (he:∀ a,e a a=true) (l:List K) (k:K):∃ x,(bF e l k)[fP e l k]?=some x∧e x k=true:=by
 unfold bF fP
 cases hp:pos e k l with
 | none=>exact ⟨k,by simp,he k⟩
 | some i=>obtain ⟨x,hx,h⟩:=m5 hp; exact ⟨x,by simpa using hx,h⟩
theorem oy {l:List K} {k x:K} (h:x∈bF e l k):x∈l∨x=k:=by
 unfold bF at h; split at h
 · exact .inl h
 · simpa using h
def gF (e:K→K→Bool) (l:List K):Prop:=∀ (i j:Nat) (x y:K),i < j→l[i]?=some x→l[j]?=some y→e x y=false
theorem gF.add {l:List K} (h:gF e l) (k:K):gF e (bF e l k):=by
 unfold bF; split
 · exact h
 · rename_i hp
   have hp:pos e k l=none:=by simpa using hp
   intro i j x y hij hx hy
   have hj:=(List.getElem?_eq_some_iff.1 hy).1
   simp at hj
   rcases Nat.lt_or_ge j l.length with hjl | hjl
   · rw [List.getElem?_append_left hjl] at hy
     rw [List.getElem?_append_left (by omega)] at hx
     exact h i j x y hij hx hy
   · have:j=l.length:=by omega
     subst this
     simp at hy
     subst hy
     rw [List.getElem?_append_left hij] at hx
     exact rS hp x (List.mem_of_getElem? hx)
theorem gF.one (k:K):gF e [k]:=by
 intro i j x y hij hx hy
 have:=(List.getElem?_eq_some_iff.1 hy).1
 simp at this
 omega
theorem LA (hs:∀ a b,e a b=true→e b a=true) (ht:∀ a b c,e a b=true→e b c=true→e a c=true) {l:List K} (h:gF e l) {i:Nat} {x k:K} (hx:l[i]?=some x) (hk:e x k=true):pos e k l=some i:=by
 cases hp:pos e k l with
 | none=>have:=rS hp x (List.mem_of_getElem? hx); simp [hk] at this
 | some j=>
   obtain ⟨y,hy,hyk⟩:=m5 hp
   rcases Nat.lt_trichotomy i j with hij | hij | hij
   · have:=h i j x y hij hx hy; simp [ht x k y hk (hs _ _ hyk)] at this
   · rw [hij]
   · have:=h j i y x hij hy hx; simp [ht y k x hyk (hs _ _ hk)] at this
theorem oK (f:Nat→K):∀ (m c:Nat) (l:List K),(aB e f m c l).1.length=m
 | 0,_,_=>rfl
 | m + 1,c,l=>by simp [aB,oK f m]
theorem ki (f:Nat→K):∀ (m c:Nat) (l:List K),∃ t,(aB e f m c l).2=l++t
 | 0,_,l=>⟨[],by simp [aB]⟩
 | m + 1,c,l=>by
   obtain ⟨t,ht⟩:=M3 (e:=e) l (f c)
   obtain ⟨u,hu⟩:=ki f m (c + 1) (bF e l (f c))
   exact ⟨t++u,by simp only [aB]; rw [hu,ht]; simp⟩
theorem oJ (f:Nat→K):∀ (m c:Nat) (l:List K) (x:K),x∈(aB e f m c l).2→x∈l∨∃ d,c≤d∧d < c + m∧x=f d
 | 0,_,l,x,h=>.inl h
 | m + 1,c,l,x,h=>by
   simp only [aB] at h
   rcases oJ f m (c + 1) _ x h with h | ⟨d,h1,h2,h3⟩
   · rcases oy h with h | h
     · exact .inl h
     · exact .inr ⟨c,by omega,by omega,h⟩
   · exact .inr ⟨d,by omega,by omega,h3⟩
theorem iH (he:∀ a,e a a=true) (f:Nat→K):∀ (m c:Nat) (l:List K) (d:Nat),d < m→∃ k x,(aB e f m c l).1[d]?=some k∧(aB e f m c l).2[k]?=some x∧e x (f (c + d))=true
 | 0,_,_,_,h=>by omega
 | m + 1,c,l,d,h=>by
   simp only [aB]
   cases d with
   | zero=>
     obtain ⟨x,hx,hxe⟩:=MZ he l (f c)
     obtain ⟨u,hu⟩:=ki (e:=e) f m (c + 1) (bF e l (f c))
     refine ⟨_,x,rfl,?_,hxe⟩
     rw [hu,List.getElem?_append_left (List.getElem?_eq_some_iff.1 hx).1]; exact hx
   | succ d=>
     obtain ⟨k,x,h1,h2,h3⟩:=iH he f m (c + 1) (bF e l (f c)) d (by omega)
     exact ⟨k,x,by simpa using h1,h2,by rw [show c + (d + 1)=c + 1 + d by omega]; exact h3⟩
theorem dq (f:Nat→K):∀ (m c:Nat) (l:List K),gF e l→gF e (aB e f m c l).2
 | 0,_,_,h=>h
 | m + 1,c,l,h=>dq f m (c + 1) _ (h.add _)
structure WInv (e:K→K→Bool) (step:K→Nat→K) (D:K→Prop) (i:Nat) (l:List K) (rows:List (List Nat)):Prop where
 len:rows.length=i
 le:i≤l.length
 dom:∀ x∈l,D x
 apart:gF e l
 row:∀ j < i,∃ q r,l[j]?=some q∧rows[j]?=some r∧r.length=95∧∀ c < 95,∃ k x,r[c]?=some k∧l[k]?=some x∧e x (step q c)=true
theorem WInv.next (he:∀ a,e a a=true) {step:K→Nat→K} {D:K→Prop} (hD:∀ q c,D q→c < 95→D (step q c)) {i:Nat} {l:List K} {rows:List (List Nat)} (h:WInv e step D i l rows) {q:K} (hq:l[i]?=some q):
 WInv e step D (i + 1) (aB e (step q) 95 0 l).2 (rows++[(aB e (step q) 95 0 l).1]):=by
 obtain ⟨t,ht⟩:=ki (e:=e) (step q) 95 0 l
 have hi:=(List.getElem?_eq_some_iff.1 hq).1
 refine ⟨by simp [h.len],by rw [ht]; simp; omega,?_,dq _ _ _ _ h.apart,?_⟩
 · intro x hx
   rcases oJ _ _ _ _ _ hx with hx | ⟨d,_,hd,rfl⟩
   · exact h.dom x hx
   · exact hD _ _ (h.dom q (List.mem_of_getElem? hq)) (by omega)
 · intro j hj
   rcases Nat.lt_or_ge j i with hji | hji
   · obtain ⟨p,r,h1,h2,h3,h4⟩:=h.row j hji
     refine ⟨p,r,by rw [ht,List.getElem?_append_left (by omega)]; exact h1,by rw [List.getElem?_append_left (by rw [h.len]; omega)]; exact h2,h3,fun c hc=>?_⟩
     obtain ⟨k,x,g1,g2,g3⟩:=h4 c hc
     exact ⟨k,x,g1,by rw [ht,List.getElem?_append_left (List.getElem?_eq_some_iff.1 g2).1]; exact g2,g3⟩
   · have:j=i:=by omega
     subst this
     refine ⟨q,(aB e (step q) 95 0 l).1,by rw [ht,List.getElem?_append_left hi]; exact hq,by simp [←h.len],oK _ _ _ _,fun c hc=>?_⟩
     simpa using iH he (step q) 95 0 l c hc
theorem iP (he:∀ a,e a a=true) {step:K→Nat→K} {most:Nat} {D:K→Prop} (hD:∀ q c,D q→c < 95→D (step q c)):∀ (f i:Nat) (l:List K) (rows:List (List Nat)) (l':List K) (rows':List (List Nat)),
 WInv e step D i l rows→bI e step most f i l rows=some (l',rows')→WInv e step D l'.length l' rows'∧∃ t,l'=l++t
 | 0,_,_,_,_,_,_,h=>by simp [bI] at h
 | f + 1,i,l,rows,l',rows',hI,h=>by
   simp only [bI] at h
   cases hq:l[i]? with
   | none=>
     simp only [hq,Option.some.injEq,Prod.mk.injEq] at h
     obtain ⟨rfl,rfl⟩:=h
     have:i=l.length:=by have:=List.getElem?_eq_none_iff.1 hq; have:=hI.le; omega
     rw [←this]
     exact ⟨hI,[],by simp⟩
   | some q=>
     simp only [hq] at h
     split at h
     · cases h
     · obtain ⟨h1,t,h2⟩:=iP he hD f _ _ _ _ _ (hI.next he hD hq) h
       obtain ⟨u,hu⟩:=ki (e:=e) (step q) 95 0 l
       exact ⟨h1,u++t,by rw [h2,hu]; simp⟩
section
variable {K':Type} [DecidableEq K'] {φ:K→K'} {D:K→Prop}
def eqB [DecidableEq K'] (a b:K'):Bool:=decide (a=b)
theorem BT (hφ:∀ a b,D a→D b→(e a b=true↔φ a=φ b)) {k:K} (hk:D k):∀ {l:List K},(∀ x∈l,D x)→pos eqB (φ k) (l.map φ)=pos e k l
 | [],_=>rfl
 | x::l,h=>by
   have hx:=hφ x k (h x (by simp)) hk
   have ih:=BT hφ hk (l:=l) (fun y hy=>h y (by simp [hy]))
   simp only [List.map_cons,pos,ih]
   by_cases hc:e x k=true
   · simp [hc,eqB,hx.1 hc]
   · have:φ x≠φ k:=fun h=>hc (hx.2 h)
     simp [hc,eqB,this]
theorem MY (hφ:∀ a b,D a→D b→(e a b=true↔φ a=φ b)) {k:K} (hk:D k) {l:List K} (h:∀ x∈l,D x):fP eqB (l.map φ) (φ k)=fP e l k:=by
 simp [fP,BT hφ hk h]
theorem M4 (hφ:∀ a b,D a→D b→(e a b=true↔φ a=φ b)) {k:K} (hk:D k) {l:List K} (h:∀ x∈l,D x):bF eqB (l.map φ) (φ k)=(bF e l k).map φ:=by
 simp only [bF,BT hφ hk h]; split<;>simp
theorem M5 {l:List K} (h:∀ x∈l,D x) {k:K} (hk:D k):∀ x∈bF e l k,D x:=fun x hx=>by
 rcases oy hx with hx | rfl
 · exact h x hx
 · exact hk
theorem Az (hφ:∀ a b,D a→D b→(e a b=true↔φ a=φ b)) {f:Nat→K} {g:Nat→K'}:∀ (m c:Nat) (l:List K),(∀ d,c≤d→d < c + m→D (f d)∧g d=φ (f d))→(∀ x∈l,D x)→
 aB eqB g m c (l.map φ)=((aB e f m c l).1,(aB e f m c l).2.map φ)
 | 0,_,_,_,_=>rfl
 | m + 1,c,l,hf,h=>by
   obtain ⟨h1,h2⟩:=hf c (by omega) (by omega)
   simp only [aB,h2,MY hφ h1 h,M4 hφ h1 h]
   rw [Az hφ m (c + 1) _ (fun d hd hd'=>hf d (by omega) (by omega)) (M5 h h1)]
theorem wb (he:∀ a,e a a=true) (hφ:∀ a b,D a→D b→(e a b=true↔φ a=φ b)) {step:K→Nat→K} {step':K'→Nat→K'} (hD:∀ q c,D q→c < 95→D (step q c)) (hs:∀ q c,D q→c < 95→step' (φ q) c=φ (step q c)) {most:Nat}:
 ∀ (f i:Nat) (l:List K) (rows:List (List Nat)),(∀ x∈l,D x)→bI eqB step' most f i (l.map φ) rows=(bI e step most f i l rows).map fun r=>(r.1.map φ,r.2)
 | 0,_,_,_,_=>rfl
 | f + 1,i,l,rows,h=>by
   simp only [bI,List.getElem?_map]
   cases hq:l[i]? with
   | none=>simp
   | some q=>
     have hq':=h q (List.mem_of_getElem? hq)
     simp only [Option.map_some,Az hφ (f:=step q) (g:=step' (φ q)) 95 0 l (fun d _ hd=>⟨hD q d hq' (by omega),hs q d hq' (by omega)⟩) h]
     simp only [List.length_map]
     split
     · simp
     · refine wb he hφ hD hs f _ _ _ fun x hx=>?_
       rcases oJ _ _ _ _ _ hx with hx | ⟨d,_,hd,rfl⟩
       · exact h x hx
       · exact hD _ _ hq' (by omega)
end
theorem uo (he:∀ a,e a a=true) {step:K→Nat→K} {most:Nat} {D:K→Prop} (hD:∀ q c,D q→c < 95→D (step q c)) (hN:∀ l:List K,(∀ x∈l,D x)→gF e l→l.length≤most):
 ∀ (f i:Nat) (l:List K) (rows:List (List Nat)),(∀ x∈l,D x)→gF e l→i≤l.length→most + 1≤f + i→∃ r,bI e step most f i l rows=some r
 | 0,i,l,rows,h,ha,hi,hf=>by have:=hN l h ha; omega
 | f + 1,i,l,rows,h,ha,hi,hf=>by
   simp only [bI]
   cases hq:l[i]? with
   | none=>exact ⟨_,rfl⟩
   | some q=>
     have hq':=h q (List.mem_of_getElem? hq)
     have hd:∀ x∈(aB e (step q) 95 0 l).2,D x:=fun x hx=>by
      rcases oJ _ _ _ _ _ hx with hx | ⟨d,_,hd,rfl⟩
      · exact h x hx
      · exact hD _ _ hq' (by omega)
     have ha':=dq (e:=e) (step q) 95 0 l ha
     have:=hN _ hd ha'
     obtain ⟨t,ht⟩:=ki (e:=e) (step q) 95 0 l
     have hi':=(List.getElem?_eq_some_iff.1 hq).1
     simp only
     rw [if_neg (by omega)]
     exact uo he hD hN f (i + 1) _ _ hd ha' (by rw [ht]; simp; omega) (by omega)
end
end Go.Aut
end
section
namespace Go.Aut
theorem ua:∀ (N:Nat) (l:List Nat),(∀ v < N,v∈l)→N≤l.length
 | 0,_,_=>Nat.zero_le _
 | N + 1,l,h=>by
   have h1:=ua N (l.erase N) fun v hv=>(List.mem_erase_of_ne (by omega)).2 (h v (by omega))
   have h2:=h N (by omega)
   have h3:=List.length_erase_of_mem h2
   have h4:0 < l.length:=List.length_pos_of_mem h2
   omega
theorem x7 {N:Nat} {l:List Nat} (h:∀ v < N,v∈l) (hl:l.length=N) {i j:Nat} (hij:i < j) {x:Nat} (hi:l[i]?=some x) (hj:l[j]?=some x):False:=by
 have h1:=ua N (l.eraseIdx j) fun v hv=>by
  obtain ⟨m,hm⟩:=List.mem_iff_getElem?.1 (h v hv)
  rw [List.mem_eraseIdx_iff_getElem?]
  by_cases hmj:m=j
  · subst hmj
    rw [hj] at hm
    cases hm
    exact ⟨i,by omega,hi⟩
  · exact ⟨m,hmj,hm⟩
 have hjl:=(List.getElem?_eq_some_iff.1 hj).1
 rw [List.length_eraseIdx_of_lt hjl] at h1
 omega
theorem cA:∀ (N:Nat) (l:List Nat),l.Nodup→(∀ x∈l,x < N)→l.length≤N
 | 0,l,_,h=>by
   cases l with
   | nil=>simp
   | cons x l=>have:=h x (by simp); omega
 | N + 1,l,hn,h=>by
   have h1:=cA N (l.erase N) (hn.erase N) fun x hx=>by
    have:=(hn.mem_erase_iff).1 hx
    have:=h x this.2
    omega
   by_cases hm:N∈l
   · have:=List.length_erase_of_mem hm; omega
   · rw [List.erase_of_not_mem hm] at h1; omega
section
variable {K:Type} [DecidableEq K]
theorem ly {a b:K}:eqB a b=true↔a=b:=by simp [eqB]
theorem b6:∀ a:K,(eqB:K→K→Bool) a a=true:=fun a=>by simp [eqB]
theorem er {l:List K} (h:gF eqB l):l.Nodup:=by
 rw [List.nodup_iff_pairwise_ne,List.pairwise_iff_getElem]
 intro i j hi hj hij he
 have:=h i j _ _ hij (List.getElem?_eq_getElem hi) (List.getElem?_eq_getElem hj)
 simp [eqB] at this
 exact this he
end
def pA:Type:=List Nat→Bool
noncomputable instance:DecidableEq pA:=fun a b=>Classical.propDecidable (a=b)
def uI (L:pA) (c:Nat):pA:=fun w=>L (c::w)
def lang (δ:Nat→Nat→Nat) (F:Nat→Bool):Nat→List Nat→Bool
 | q,[]=>F q
 | q,c::w=>if c < 95 then lang δ F (δ q c) w else false
def nl (δ:Nat→Nat→Nat) (F:Nat→Bool) (q:Nat):pA:=fun w=>lang δ F q w
theorem qJ {δ:Nat→Nat→Nat} {F:Nat→Bool} {q c:Nat} (hc:c < 95):uI (nl δ F q) c=nl δ F (δ q c):=by
 funext w
 simp [uI,nl,lang,hc]
structure Aut where
 next:List (List Nat)
 final:List Bool
def dl (next:List (List Nat)) (q c:Nat):Nat:=((next[q]?.getD [])[c]?).getD 0
def fin (final:List Bool) (q:Nat):Bool:=(final[q]?).getD false
def wq (n:Nat) (next:List (List Nat)):Prop:=∀ r∈next,r.length=95∧∀ x∈r,x < n
theorem wq.dl {n:Nat} {next:List (List Nat)} (h:wq n next) {q c:Nat} (hq:q < next.length) (hc:c < 95):∃ r x,next[q]?=some r∧r[c]?=some x∧dl next q c=x∧x < n:=by
 obtain ⟨r,hr⟩:∃ r,next[q]?=some r:=⟨_,List.getElem?_eq_getElem hq⟩
 obtain ⟨h1,h2⟩:=h r (List.mem_of_getElem? hr)
 obtain ⟨x,hx⟩:∃ x,r[c]?=some x:=⟨_,List.getElem?_eq_getElem (by omega)⟩
 exact ⟨r,x,hr,hx,by simp [Aut.dl,hr,hx],h2 x (List.mem_of_getElem? hx)⟩
namespace Aut
def n (a:Aut):Nat:=a.next.length
def δ (a:Aut):Nat→Nat→Nat:=dl a.next
def F (a:Aut):Nat→Bool:=fin a.final
structure ok (a:Aut):Prop where
 pos:0 < a.n
 fin:a.final.length=a.n
 rows:wq a.n a.next
def L (a:Aut) (q:Nat):pA:=nl a.δ a.F q
theorem ok.lt {a:Aut} (h:a.ok) {q c:Nat} (hq:q < a.n) (hc:c < 95):a.δ q c < a.n:=by
 obtain ⟨r,x,h1,h2,h3,h4⟩:=h.rows.dl hq hc
 show dl a.next q c < a.n
 omega
end Aut
noncomputable def Pk (most f:Nat) (L:pA):Option (List pA × List (List Nat)):=bI eqB uI most f 0 [L] []
def s5 (L:pA) (b:Aut):Prop:=∃ most f ls,Pk most f L=some (ls,b.next)∧b.final=ls.map fun M=>M []
theorem kQ {K:Type} {e:K→K→Bool} {step:K→Nat→K} {D:K→Prop} {q:K} (h:D q):WInv e step D 0 [q] []:=
 ⟨rfl,by simp,by simpa using h,gF.one q,fun j hj=>by omega⟩
theorem s5.inv {L:pA} {b:Aut} (h:s5 L b):∃ ls:List pA,WInv eqB uI (fun _=>True) ls.length ls b.next∧ls[0]?=some L∧b.final=ls.map fun M=>M []:=by
 obtain ⟨m,f,ls,h1,h2⟩:=h
 obtain ⟨h3,t,h4⟩:=iP b6 (D:=fun _=>True) (fun _ _ _ _=>trivial) _ _ _ _ _ _ (kQ trivial) h1
 exact ⟨ls,h3,by simp [h4],h2⟩
theorem s5.ok {L:pA} {b:Aut} (h:s5 L b):b.ok:=by
 obtain ⟨ls,h1,h2,h3⟩:=h.inv
 have hl:b.n=ls.length:=h1.len
 refine ⟨?_,by rw [h3,hl]; simp,?_⟩
 · have:=(List.getElem?_eq_some_iff.1 h2).1; omega
 · intro r hr
   obtain ⟨j,hj⟩:=List.mem_iff_getElem?.1 hr
   have hjl:=(List.getElem?_eq_some_iff.1 hj).1
   obtain ⟨q,r',g1,g2,g3,g4⟩:=h1.row j (by have:=h1.len; omega)
   rw [hj] at g2; cases g2
   refine ⟨g3,fun x hx=>?_⟩
   obtain ⟨c,hc⟩:=List.mem_iff_getElem?.1 hx
   obtain ⟨k,y,f1,f2,f3⟩:=g4 c (by have:=(List.getElem?_eq_some_iff.1 hc).1; omega)
   rw [hc] at f1; cases f1
   have:=(List.getElem?_eq_some_iff.1 f2).1
   omega
def BJ (L:pA):Prop:=∀ w:List Nat,(∃ c∈w,95≤c)→L w=false
theorem qM (δ:Nat→Nat→Nat) (F:Nat→Bool):∀ (w:List Nat) (q:Nat),(∃ c∈w,95≤c)→lang δ F q w=false
 | [],_,h=>by simp at h
 | d::w,q,h=>by
   simp only [lang]
   split
   · refine qM δ F w _ ?_
     obtain ⟨c,hc,h2⟩:=h
     rcases List.mem_cons.1 hc with rfl | hc
     · omega
     · exact ⟨c,hc,h2⟩
   · rfl
theorem mN (δ:Nat→Nat→Nat) (F:Nat→Bool) (q:Nat):BJ (nl δ F q):=fun w h=>qM δ F w q h
theorem s5.lang {L:pA} {b:Aut} (h:s5 L b) (hL:BJ L):b.L 0=L:=by
 obtain ⟨ls,h1,h2,h3⟩:=h.inv
 have key:∀ (w:List Nat) (j:Nat) (M:pA),(∀ c∈w,c < 95)→ls[j]?=some M→b.L j w=M w:=by
  intro w
  induction w with
  | nil=>
    intro j M _ hj
    simp [Aut.L,nl,Aut.lang,Aut.F,fin,h3,hj]
  | cons c w ih=>
    intro j M hw hj
    have hc:=hw c (by simp)
    obtain ⟨q,r,g1,g2,g3,g4⟩:=h1.row j (List.getElem?_eq_some_iff.1 hj).1
    rw [hj] at g1; cases g1
    obtain ⟨k,x,f1,f2,f3⟩:=g4 c hc
    have hx:=ly.1 f3
    subst hx
    have:=ih k _ (fun d hd=>hw d (by simp [hd])) f2
    show Aut.lang b.δ b.F j (c::w)=_
    simp only [Aut.lang,if_pos hc]
    rw [show b.δ j c=k by simp [Aut.δ,dl,g2,f1]]
    exact this
 funext w
 by_cases hw:∀ c∈w,c < 95
 · exact key w 0 L hw h2
 · have:∃ c∈w,95≤c:=by
    apply Classical.byContradiction
    intro hn
    exact hw fun c hc=>by
     apply Classical.byContradiction
     intro hc2
     exact hn ⟨c,hc,by omega⟩
   rw [hL w this]
   exact qM _ _ w 0 this
theorem FB {K:Type} {e:K→K→Bool} {step:K→Nat→K} {D:K→Prop} {φ:K→pA} (he:∀ a,e a a=true) (hφ:∀ a b,D a→D b→(e a b=true↔φ a=φ b)) (hD:∀ q c,D q→c < 95→D (step q c)) (hs:∀ q c,D q→c < 95→uI (φ q) c=φ (step q c))
 {start:K} (h0:D start) {most f:Nat} {l:List K} {rows:List (List Nat)} (h:bI e step most f 0 [start] []=some (l,rows)):s5 (φ start) ⟨rows,l.map fun k=>φ k []⟩:=by
 refine ⟨most,f,l.map φ,?_,by simp⟩
 have:=wb (D:=D) (φ:=φ) he hφ hD hs (most:=most) f 0 [start] [] (by simpa using h0)
 rw [h] at this
 exact this
def keyOf (next:List (List Nat)) (cls:List Nat) (q:Nat):List Nat:=(cls[q]?).getD 0::(next[q]?.getD []).map fun t=>(cls[t]?).getD 0
def nZ (next:List (List Nat)):Nat→List Nat→Nat→Option (List Nat)
 | 0,_,_=>none
 | f + 1,cls,cnt=>if (aB eqB (keyOf next cls) next.length 0 []).2.length=cnt then some (aB eqB (keyOf next cls) next.length 0 []).1
   else nZ next f (aB eqB (keyOf next cls) next.length 0 []).1 (aB eqB (keyOf next cls) next.length 0 []).2.length
def b01 (b:Bool):Nat:=if b=true then 1 else 0
def n0 (next:List (List Nat)) (final:List Bool):Option (List Nat):=nZ next (next.length + 2) (final.map b01) 0
theorem qz {K:Type} {e:K→K→Bool} (f:Nat→K):∀ (m c:Nat) (l:List K),(aB e f m c l).2.length≤l.length + m
 | 0,_,_=>by simp [aB]
 | m + 1,c,l=>by
   simp only [aB]
   have h1:=qz (e:=e) f m (c + 1) (bF e l (f c))
   have h2:(bF e l (f c)).length≤l.length + 1:=by unfold bF; split<;>simp
   omega
theorem wu {K:Type} {e:K→K→Bool} (he:∀ a,e a a=true) (f:Nat→K) (m:Nat) (l:List K) (c:Nat) {v:Nat} (h:v∈(aB e f m c l).1):v < (aB e f m c l).2.length:=by
 obtain ⟨d,hd⟩:=List.mem_iff_getElem?.1 h
 obtain ⟨k,x,h1,h2,_⟩:=iH he f m c l d (by have:=(List.getElem?_eq_some_iff.1 hd).1; rw [oK] at this; exact this)
 rw [hd] at h1; cases h1
 exact (List.getElem?_eq_some_iff.1 h2).1
section
variable {a:Aut} (ha:a.ok)
structure CInv (a:Aut) (cls:List Nat) (cnt:Nat):Prop where
 len:cls.length=a.n
 cover:∀ v < cnt,v∈cls
 fin:∀ p q,p < a.n→q < a.n→cls[p]?=cls[q]?→a.F p=a.F q
 snd:∀ p q,p < a.n→q < a.n→a.L p=a.L q→cls[p]?=cls[q]?
theorem se {next:List (List Nat)} {cls:List Nat} {q:Nat} {r:List Nat} (h:next[q]?=some r):keyOf next cls q=(cls[q]?).getD 0::r.map fun t=>(cls[t]?).getD 0:=by
 simp [keyOf,h]
include ha in
theorem Ci {cls:List Nat} (hl:cls.length=a.n) {p q:Nat} (hp:p < a.n) (hq:q < a.n):
 keyOf a.next cls p=keyOf a.next cls q↔(cls[p]?=cls[q]?∧∀ c < 95,cls[a.δ p c]?=cls[a.δ q c]?):=by
 obtain ⟨r,hr⟩:∃ r,a.next[p]?=some r:=⟨_,List.getElem?_eq_getElem hp⟩
 obtain ⟨s,hs⟩:∃ s,a.next[q]?=some s:=⟨_,List.getElem?_eq_getElem hq⟩
 have hr1:=ha.rows r (List.mem_of_getElem? hr)
 have hs1:=ha.rows s (List.mem_of_getElem? hs)
 have gd:∀ t,t < a.n→cls[t]?=some ((cls[t]?).getD 0):=fun t ht=>by rw [List.getElem?_eq_getElem (by omega)]; rfl
 rw [se hr,se hs]
 simp only [List.cons.injEq]
 refine and_congr ⟨fun h=>by rw [gd p hp,gd q hq,h],fun h=>congrArg (fun o:Option Nat=>o.getD 0) h⟩ ?_
 constructor
 · intro h c hc
   have:=congrArg (fun l=>l[c]?) h
   obtain ⟨x,hx⟩:∃ x,r[c]?=some x:=⟨_,List.getElem?_eq_getElem (by omega)⟩
   obtain ⟨y,hy⟩:∃ y,s[c]?=some y:=⟨_,List.getElem?_eq_getElem (by omega)⟩
   simp only [List.getElem?_map,hx,hy,Option.map_some,Option.some.injEq] at this
   have e1:a.δ p c=x:=by simp [Aut.δ,dl,hr,hx]
   have e2:a.δ q c=y:=by simp [Aut.δ,dl,hs,hy]
   rw [e1,e2,gd x (hr1.2 x (List.mem_of_getElem? hx)),gd y (hs1.2 y (List.mem_of_getElem? hy)),this]
 · intro h
   refine List.ext_getElem? fun c=>?_
   simp only [List.getElem?_map]
   rcases Nat.lt_or_ge c 95 with hc | hc
   · obtain ⟨x,hx⟩:∃ x,r[c]?=some x:=⟨_,List.getElem?_eq_getElem (by omega)⟩
     obtain ⟨y,hy⟩:∃ y,s[c]?=some y:=⟨_,List.getElem?_eq_getElem (by omega)⟩
     have e1:a.δ p c=x:=by simp [Aut.δ,dl,hr,hx]
     have e2:a.δ q c=y:=by simp [Aut.δ,dl,hs,hy]
     have:=h c hc
     rw [e1,e2] at this
     simp [hx,hy,this]
   · rw [List.getElem?_eq_none (by omega),List.getElem?_eq_none (by omega)]
theorem FY {K:Type} [DecidableEq K] (f:Nat→K) (m:Nat) {p q:Nat} (hp:p < m) (hq:q < m):(aB eqB f m 0 []).1[p]?=(aB eqB f m 0 []).1[q]?↔f p=f q:=by
 obtain ⟨k,x,h1,h2,h3⟩:=iH b6 f m 0 [] p hp
 obtain ⟨k',x',h4,h5,h6⟩:=iH b6 f m 0 [] q hq
 have hx:=ly.1 h3
 have hx':=ly.1 h6
 simp only [Nat.zero_add] at hx hx'
 rw [h1,h4]
 simp only [Option.some.injEq]
 constructor
 · rintro rfl
   rw [h2] at h5
   cases h5
   rw [←hx,←hx']
 · intro h
   have ha:gF eqB (aB eqB f m 0 []).2:=dq f m 0 [] (fun i j x y _ hi=>by simp at hi)
   rcases Nat.lt_trichotomy k k' with hk | hk | hk
   · have:=ha k k' x x' hk h2 h5; rw [hx,hx',h] at this; simp [eqB] at this
   · exact hk
   · have:=ha k' k x' x hk h5 h2; rw [hx,hx',h] at this; simp [eqB] at this
theorem DQ {K:Type} [DecidableEq K] (f:Nat→K):∀ (m c:Nat) (l:List K) (v:Nat),v < (aB eqB f m c l).2.length→v < l.length∨v∈(aB eqB f m c l).1
 | 0,_,_,_,h=>.inl h
 | m + 1,c,l,v,h=>by
   simp only [aB] at h ⊢
   rcases DQ f m (c + 1) (bF eqB l (f c)) v h with h | h
   · unfold bF at h
     cases hp:pos eqB (f c) l with
     | none=>
       simp [hp] at h
       rcases Nat.lt_or_ge v l.length with hv | hv
       · exact .inl hv
       · refine .inr (List.mem_cons.2 (.inl ?_))
         simp [fP,hp]; omega
     | some i=>simp [hp] at h; exact .inl h
   · exact .inr (List.mem_cons.2 (.inr h))
include ha in
theorem CInv.next {cls:List Nat} {cnt:Nat} (h:CInv a cls cnt):CInv a (aB eqB (keyOf a.next cls) a.n 0 []).1 (aB eqB (keyOf a.next cls) a.n 0 []).2.length:=by
 refine ⟨oK _ _ _ _,fun v hv=>by simpa using DQ (keyOf a.next cls) a.n 0 [] v hv,fun p q hp hq he=>?_,fun p q hp hq he=>?_⟩
 · rw [FY _ _ hp hq,Ci ha h.len hp hq] at he
   exact h.fin p q hp hq he.1
 · rw [FY _ _ hp hq,Ci ha h.len hp hq]
   refine ⟨h.snd p q hp hq he,fun c hc=>h.snd _ _ (ha.lt hp hc) (ha.lt hq hc) ?_⟩
   have:uI (a.L p) c=uI (a.L q) c:=by rw [he]
   rwa [Aut.L,Aut.L,qJ hc,qJ hc] at this
include ha in
theorem CInv.grows {cls:List Nat} {cnt:Nat} (h:CInv a cls cnt):cnt≤(aB eqB (keyOf a.next cls) a.n 0 []).2.length∧
 ((aB eqB (keyOf a.next cls) a.n 0 []).2.length=cnt→∀ p q,p < a.n→q < a.n→cls[p]?=cls[q]?→keyOf a.next cls p=keyOf a.next cls q):=by
 obtain ⟨ks,hks⟩:∃ ks,ks=(aB eqB (keyOf a.next cls) a.n 0 []).2:=⟨_,rfl⟩
 have hcov:∀ q < a.n,keyOf a.next cls q∈ks:=by
  intro q hq
  obtain ⟨k,x,h1,h2,h3⟩:=iH b6 (keyOf a.next cls) a.n 0 [] q hq
  have:=ly.1 h3
  rw [Nat.zero_add] at this
  rw [←this,hks]
  exact List.mem_of_getElem? h2
 have hh:∀ v < cnt,v∈ks.map fun k=>k.headD 0:=by
  intro v hv
  obtain ⟨q,hq⟩:=List.mem_iff_getElem?.1 (h.cover v hv)
  have hql:=(List.getElem?_eq_some_iff.1 hq).1
  refine List.mem_map.2 ⟨keyOf a.next cls q,hcov q (by have:=h.len; omega),by simp [keyOf,hq]⟩
 rw [←hks]
 refine ⟨by simpa using ua cnt _ hh,fun hc p q hp hq he=>?_⟩
 obtain ⟨i,hi⟩:=List.mem_iff_getElem?.1 (hcov p hp)
 obtain ⟨j,hj⟩:=List.mem_iff_getElem?.1 (hcov q hq)
 have e1:(ks.map fun k=>k.headD 0)[i]?=some ((cls[p]?).getD 0):=by simp [hi,keyOf]
 have e2:(ks.map fun k=>k.headD 0)[j]?=some ((cls[p]?).getD 0):=by rw [he]; simp [hj,keyOf]
 rcases Nat.lt_trichotomy i j with hij | hij | hij
 · exact (x7 hh (by simpa using hc) hij e1 e2).elim
 · subst hij; rw [hi] at hj; exact Option.some.inj hj
 · exact (x7 hh (by simpa using hc) hij e2 e1).elim
structure IsCls (a:Aut) (cls:List Nat):Prop where
 len:cls.length=a.n
 lt:∀ v∈cls,v < a.n
 cover:∀ v∈cls,∀ u < v,u∈cls
 eq:∀ p q,p < a.n→q < a.n→(cls[p]?=cls[q]?↔a.L p=a.L q)
include ha in
theorem x9:∀ (f:Nat) (cls:List Nat) (cnt:Nat),CInv a cls cnt→a.n + 2≤f + cnt→cnt≤a.n→∃ cls',nZ a.next f cls cnt=some cls'∧IsCls a cls'
 | 0,_,_,_,_,_=>by omega
 | f + 1,cls,cnt,h,hf,hle=>by
   have hn:a.next.length=a.n:=rfl
   obtain ⟨hg,hg2⟩:=h.grows ha
   have hnx:=h.next ha
   have hlen:=qz (e:=eqB) (keyOf a.next cls) a.n 0 []
   simp only [List.length_nil,Nat.zero_add] at hlen
   simp only [nZ,hn]
   split
   · rename_i hc
     have st:=hg2 hc
     refine ⟨_,rfl,hnx.len,fun v hv=>?_,fun v hv u hu=>?_,fun p q hp hq=>⟨fun he=>?_,hnx.snd p q hp hq⟩⟩
     · have:=wu b6 _ _ _ _ hv; omega
     · have:=wu b6 _ _ _ _ hv; exact hnx.cover u (by omega)
     · rw [FY _ _ hp hq,Ci ha h.len hp hq] at he
       have bis:∀ (w:List Nat) (p q:Nat),p < a.n→q < a.n→cls[p]?=cls[q]?→a.L p w=a.L q w:=by
        intro w
        induction w with
        | nil=>intro p q hp hq he; simpa [Aut.L,nl,lang] using h.fin p q hp hq he
        | cons c w ih=>
          intro p q hp hq he
          show lang _ _ p (c::w)=lang _ _ q (c::w)
          simp only [lang]
          split
          · rename_i hcl
            have:=st p q hp hq he
            rw [Ci ha h.len hp hq] at this
            exact ih _ _ (ha.lt hp hcl) (ha.lt hq hcl) (this.2 c hcl)
          · rfl
       funext w
       exact bis w p q hp hq he.1
   · rename_i hc
     exact x9 f _ _ hnx (by omega) hlen
include ha in
theorem p4:∃ cls,n0 a.next a.final=some cls∧IsCls a cls:=by
 have hn:a.next.length=a.n:=rfl
 refine x9 ha _ _ _ ⟨by simpa using ha.fin,fun v hv=>by omega,fun p q hp hq he=>?_,fun p q hp hq he=>?_⟩ (by omega) (by omega)
 · have g:∀ t,t < a.n→a.final[t]?=some (a.F t):=fun t ht=>by simp [Aut.F,fin,List.getElem?_eq_getElem (show t < a.final.length by rw [ha.fin]; exact ht)]
   simp only [List.getElem?_map,g p hp,g q hq,Option.map_some,Option.some.injEq] at he
   revert he
   cases a.F p<;>cases a.F q<;>simp [b01]
 · have g:∀ t,t < a.n→a.final[t]?=some (a.F t):=fun t ht=>by simp [Aut.F,fin,List.getElem?_eq_getElem (show t < a.final.length by rw [ha.fin]; exact ht)]
   have:a.L p []=a.L q []:=by rw [he]
   simp only [Aut.L,nl,lang] at this
   simp [g p hp,g q hq,this]
end
def yB:Nat→List Nat→List Nat→List Nat
 | _,[],o=>o
 | q,c::cls,o=>yB (q + 1) cls (o.set c q)
theorem oQ:∀ (cls o full:List Nat) (q:Nat),(∀ j c,cls[j]?=some c→full[q + j]?=some c)→(∀ c∈cls,c < o.length)→∀ c:Nat,(c∈cls∨∃ p,o[c]?=some p∧full[p]?=some c)→∃ p,(yB q cls o)[c]?=some p∧full[p]?=some c
 | [],o,full,q,_,_,c,h=>by
   rcases h with h | h
   · cases h
   · exact h
 | d::cls,o,full,q,hf,hl,c,h=>by
   simp only [yB]
   refine oQ cls (o.set d q) full (q + 1) (fun j c hj=>by have:=hf (j + 1) c (by simpa using hj); rwa [show q + 1 + j=q + (j + 1) by omega]) (fun c hc=>by simpa using hl c (by simp [hc])) c ?_
   by_cases hcd:c=d
   · subst hcd
     refine .inr ⟨q,by rw [List.getElem?_set_self (hl c (by simp))],?_⟩
     simpa using hf 0 c (by simp)
   · rcases h with h | ⟨p,h1,h2⟩
     · rcases List.mem_cons.1 h with h | h
       · exact absurd h hcd
       · exact .inl h
     · exact .inr ⟨p,by rw [List.getElem?_set_ne (fun h=>hcd h.symm)]; exact h1,h2⟩
def aH (l:List Nat) (i:Nat):Nat:=(l[i]?).getD 0
def EL (next:List (List Nat)) (final:List Bool):Option Aut:=
 match um eqB (dl next) 0 next.length with
 | none=>none
 | some (list,nx)=>match n0 nx (list.map (fin final)) with
   | none=>none
   | some cls=>match um eqB (fun c s=>aH cls (dl nx (aH (yB 0 cls (List.replicate list.length 0)) c) s)) (aH cls 0) list.length with
     | none=>none
     | some (l2,rows)=>some ⟨rows,l2.map fun c=>fin (list.map (fin final)) (aH (yB 0 cls (List.replicate list.length 0)) c)⟩
theorem qr {K:Type} {e:K→K→Bool} (he:∀ a,e a a=true) {step:K→Nat→K} {most:Nat} {D:K→Prop} (hD:∀ q c,D q→c < 95→D (step q c)) (hN:∀ l:List K,(∀ x∈l,D x)→gF e l→l.length≤most) {start:K} (h0:D start):
 ∃ l rows,um e step start most=some (l,rows)∧WInv e step D l.length l rows∧l[0]?=some start:=by
 obtain ⟨⟨l,rows⟩,h⟩:=uo he hD hN (most + 2) 0 [start] [] (by simpa using h0) (gF.one _) (by simp) (by omega)
 obtain ⟨h3,t,h4⟩:=iP he hD _ _ _ _ _ _ (kQ h0) h
 exact ⟨l,rows,h,h3,by simp [h4]⟩
theorem ru {K:Type} [DecidableEq K] {step:K→Nat→K} {D:K→Prop} {l:List K} {rows:List (List Nat)} {good:K→Bool} (h:WInv eqB step D l.length l rows) (h0:0 < l.length):
 (Aut.mk rows (l.map good)).ok∧∀ (w:List Nat) (j:Nat) (q:K),(∀ c∈w,c < 95)→l[j]?=some q→(Aut.mk rows (l.map good)).L j w=good (w.foldl step q):=by
 constructor
 · refine ⟨by have:=h.len; simp only [Aut.n]; omega,by simp [Aut.n,h.len],?_⟩
   intro r hr
   obtain ⟨j,hj⟩:=List.mem_iff_getElem?.1 hr
   have hjl:=(List.getElem?_eq_some_iff.1 hj).1
   have hlen:=h.len
   simp only at hj hjl
   obtain ⟨q,r',g1,g2,g3,g4⟩:=h.row j (by omega)
   rw [hj] at g2; cases g2
   refine ⟨g3,fun x hx=>?_⟩
   obtain ⟨c,hc⟩:=List.mem_iff_getElem?.1 hx
   obtain ⟨k,y,f1,f2,f3⟩:=g4 c (by have:=(List.getElem?_eq_some_iff.1 hc).1; omega)
   rw [hc] at f1; cases f1
   have:=(List.getElem?_eq_some_iff.1 f2).1
   simp only [Aut.n]
   omega
 · intro w
   induction w with
   | nil=>
     intro j q _ hj
     simp [Aut.L,nl,lang,Aut.F,fin,hj]
   | cons c w ih=>
     intro j q hw hj
     have hc:=hw c (by simp)
     obtain ⟨q',r,g1,g2,g3,g4⟩:=h.row j (List.getElem?_eq_some_iff.1 hj).1
     rw [hj] at g1; cases g1
     obtain ⟨k,x,f1,f2,f3⟩:=g4 c hc
     have hx:=ly.1 f3
     subst hx
     have:=ih k _ (fun d hd=>hw d (by simp [hd])) f2
     show lang _ _ j (c::w)=_
     simp only [lang,if_pos hc]
     rw [show (Aut.mk rows (l.map good)).δ j c=k by simp [Aut.δ,dl,g2,f1]]
     exact this
theorem LG {a:Aut} (ha:a.ok):∀ (w:List Nat) (q:Nat),(∀ c∈w,c < 95)→q < a.n→a.L q w=a.F (w.foldl a.δ q)∧w.foldl a.δ q < a.n
 | [],q,_,hq=>⟨rfl,hq⟩
 | c::w,q,hw,hq=>by
   have hc:=hw c (by simp)
   have:=LG ha w (a.δ q c) (fun d hd=>hw d (by simp [hd])) (ha.lt hq hc)
   refine ⟨?_,this.2⟩
   rw [←show a.L (a.δ q c) w=a.L q (c::w) by simp [Aut.L,nl,lang,hc]]
   exact this.1
theorem L1 {L M:pA} (hL:BJ L) (hM:BJ M) (h:∀ w:List Nat,(∀ c∈w,c < 95)→L w=M w):L=M:=by
 funext w
 by_cases hw:∀ c∈w,c < 95
 · exact h w hw
 · have:∃ c∈w,95≤c:=by
    apply Classical.byContradiction
    intro hn
    exact hw fun c hc=>by
     apply Classical.byContradiction
     intro hc2
     exact hn ⟨c,hc,by omega⟩
   rw [hL w this,hM w this]
theorem EK {a:Aut} (ha:a.ok):∃ b,EL a.next a.final=some b∧s5 (a.L 0) b∧b.n≤a.n:=by
 obtain ⟨list,nx,hw,hI,h0⟩:=qr b6 (step:=dl a.next) (most:=a.next.length) (D:=fun q=>q < a.n) (fun q c hq hc=>ha.lt hq hc)
  (fun l h1 h2=>cA _ l (er h2) h1) (start:=0) ha.pos
 have hlpos:0 < list.length:=(List.getElem?_eq_some_iff.1 h0).1
 have hle:list.length≤a.n:=cA _ list (er hI.apart) hI.dom
 obtain ⟨hb,hrun⟩:=ru (good:=fin a.final) hI hlpos
 obtain ⟨b,hbe⟩:∃ b:Aut,b=⟨nx,list.map (fin a.final)⟩:=⟨_,rfl⟩
 rw [←hbe] at hb hrun
 have hbn:b.n=list.length:=by rw [hbe]; exact hI.len
 obtain ⟨cls,hc,hC⟩:=p4 hb
 have hc':n0 nx (list.map (fin a.final))=some cls:=by rw [hbe] at hc; exact hc
 obtain ⟨o,ho⟩:∃ o,o=yB 0 cls (List.replicate list.length 0):=⟨_,rfl⟩
 have hof:∀ c∈cls,∃ p,o[c]?=some p∧cls[p]?=some c:=fun c hcm=>by
  rw [ho]
  exact oQ cls _ cls 0 (fun j c hj=>by simpa using hj) (fun c hc=>by have:=hC.lt c hc; simp; omega) c (.inl hcm)
 have hst:∀ c s,c∈cls→s < 95→aH cls (dl nx (aH o c) s)∈cls∧uI (b.L (aH o c)) s=b.L (aH o (aH cls (dl nx (aH o c) s))):=by
  intro c s hcm hs
  obtain ⟨p,hp1,hp2⟩:=hof c hcm
  have hpl:p < b.n:=by have:=(List.getElem?_eq_some_iff.1 hp2).1; have:=hC.len; omega
  have e1:aH o c=p:=by simp [aH,hp1]
  have hd:=hb.lt hpl hs
  have e2:dl nx p s=b.δ p s:=by rw [hbe]; rfl
  obtain ⟨v,hv⟩:∃ v,cls[b.δ p s]?=some v:=⟨_,List.getElem?_eq_getElem (by have:=hC.len; omega)⟩
  have hvm:=List.mem_of_getElem? hv
  obtain ⟨p',hp3,hp4⟩:=hof v hvm
  have e3:aH cls (dl nx (aH o c) s)=v:=by rw [e1,e2]; simp [aH,hv]
  rw [e3]
  refine ⟨hvm,?_⟩
  rw [e1,show aH o v=p' by simp [aH,hp3]]
  rw [Aut.L,qJ hs]
  exact (hC.eq _ _ hd (by have:=(List.getElem?_eq_some_iff.1 hp4).1; have:=hC.len; omega)).1 (by rw [hv,hp4])
 have hφ:∀ c d,c∈cls→d∈cls→(eqB c d=true↔b.L (aH o c)=b.L (aH o d)):=by
  intro c d hcm hdm
  obtain ⟨p,hp1,hp2⟩:=hof c hcm
  obtain ⟨q,hq1,hq2⟩:=hof d hdm
  have hpl:p < b.n:=by have:=(List.getElem?_eq_some_iff.1 hp2).1; have:=hC.len; omega
  have hql:q < b.n:=by have:=(List.getElem?_eq_some_iff.1 hq2).1; have:=hC.len; omega
  rw [show aH o c=p by simp [aH,hp1],show aH o d=q by simp [aH,hq1],←hC.eq p q hpl hql,hp2,hq2,ly]
  simp
 have hc0:aH cls 0∈cls:=by
  have:0 < cls.length:=by have:=hC.len; omega
  rw [aH,List.getElem?_eq_getElem this]
  simp
 obtain ⟨l2,rows,hw2,hI2,h02⟩:=qr b6 (step:=fun c s=>aH cls (dl nx (aH o c) s)) (most:=list.length) (D:=fun c=>c∈cls) (fun q c hq hc=>(hst q c hq hc).1)
  (fun l h1 h2=>cA _ l (er h2) fun x hx=>by have:=hC.lt x (h1 x hx); omega) (start:=aH cls 0) hc0
 have hcan:=FB (φ:=fun c=>b.L (aH o c)) b6 hφ (fun q c hq hc=>(hst q c hq hc).1) (fun q c hq hc=>(hst q c hq hc).2) hc0 hw2
 refine ⟨⟨rows,l2.map fun c=>fin (list.map (fin a.final)) (aH o c)⟩,?_,?_,?_⟩
 · unfold EL; rw [hw]; dsimp only; rw [hc']; dsimp only; rw [←ho,hw2]
 · have e1:b.L (aH o (aH cls 0))=a.L 0:=by
    obtain ⟨p,hp1,hp2⟩:=hof _ hc0
    have hpl:p < b.n:=by have:=(List.getElem?_eq_some_iff.1 hp2).1; have:=hC.len; omega
    have h0l:0 < cls.length:=by have:=hC.len; omega
    rw [show aH o (aH cls 0)=p by rw [aH,hp1]; rfl,(hC.eq p 0 hpl hb.pos).1 (by rw [hp2,aH,List.getElem?_eq_getElem h0l]; rfl)]
    refine L1 (mN _ _ _) (mN _ _ _) fun w hw=>?_
    rw [hrun w 0 0 hw h0]
    exact (LG ha w 0 hw ha.pos).1.symm
   rw [e1] at hcan
   have e2:(l2.map fun c=>fin (list.map (fin a.final)) (aH o c))=l2.map fun c=>b.L (aH o c) []:=by
    refine List.map_congr_left fun c _=>?_
    rw [hbe]
    rfl
   rw [e2]
   exact hcan
 · show rows.length≤a.n
   rw [hI2.len]
   have:=cA list.length l2 (er hI2.apart) fun x hx=>by have:=hC.lt x (hI2.dom x hx); omega
   omega
end Go.Aut
end
section
set_option maxHeartbeats 4000000
set_option maxRecDepth 100000
namespace Go.Abs
open Go.Proofs
attribute [-simp] getElem?_pos Option.not_isSome List.map_map
theorem mixed:Tryz.prog.follows .mixedOrders=true:=by kernel_rfl
abbrev Str:=List UInt8
theorem aS {α:Type} {l:List α} {k:Nat} {x:α} (h:l[k]?=some x):l.take (k + 1)=l.take k++[x]:=by rw [List.take_add_one,h]; rfl
theorem HM:∀ {l:List V} {v:V},oks l→v∈l→ok v
 | [],_,_,h=>by cases h
 | u::l,v,h,hv=>by
   simp only [oks] at h
   rcases List.mem_cons.1 hv with rfl | hv
   · exact h.1
   · exact HM h.2 hv
def zV (n:Int):V:=.int .i64 n
@[simp] def Lk (r:List Int):V:=.seq 1 (r.map zV)
def ox (nx:List (List Int)) (fi:List Bool):List V:=[.seq 1 (nx.map Lk),.seq 1 (fi.map .bool)]
def n3 (n:Nat) (q:Int):Bool:=decide (0≤q) && decide (q < n)
def wt (n:Nat) (r:List Int):Bool:=decide (r.length=95) && r.all (n3 n)
def Jd (nx:List (List Int)) (fi:List Bool):Bool:=(decide (1≤nx.length) && (decide (nx.length≤500) && decide (fi.length=nx.length))) && nx.all (wt nx.length)
def err01 (b:Bool):Int:=if b=true then 0 else 1
theorem JJ (nx:List (List Int)) (fi:List Bool):Fn Tryz.prog tA [.strct (ox nx fi)] (.int .i64 (err01 (Jd nx fi))):=by
 refine Fn.of_image mixed Jz Jv rfl fun ho=>?_
 unfold Bq
 simp only [oks,ok,and_true] at ho
 obtain ⟨R,hR⟩:∃ R,R=Jd nx fi:=⟨_,rfl⟩
 have hl1:nx.length≤140737488355328:=by have:=ho; simp [ox,oks,ok] at this; exact this.1.1
 have hl2:∀ r∈nx,r.length≤140737488355328:=fun r hr=>by
  have:=ho; simp [ox,oks,ok] at this
  have:=HM this.1.2 (List.mem_map_of_mem hr)
  simp [ok] at this; exact this.1
 clear ho
 rw [←hR]
 have go:((1≤nx.length∧nx.length≤500)∧fi.length=nx.length)→nx.all (wt nx.length)=R:=fun h=>by rw [hR,Jd,decide_eq_true h.1.1,decide_eq_true h.1.2,decide_eq_true h.2]; rfl
 have no:¬((1≤nx.length∧nx.length≤500)∧fi.length=nx.length)→R=false:=fun h=>by rw [hR,Jd]; simp; omega
 clear hR
 replace go:=hid go
 replace no:=hid no
 simp (disch:=omega) [-List.reduceReplicate,ox]
 repeat' (first | (refine BrKd.mk (fun h=>?_) (fun h=>?_)<;>simp (disch:=omega) [*]) | (refine BrK.mk (fun h=>?_) (fun h=>?_)<;>simp (disch:=omega) [*]))
 · rw [no.out (by simp [*])]; rfl
 · rw [no.out (by omega)]; rfl
 · have h0:0 < nx.length:=List.length_pos_iff.2 ‹_›
   have hg:=go.out ⟨⟨by omega,by omega⟩,by omega⟩
   clear go no
   refine ak (fun k:Nat=>⟨[(3,.int .i64 nx.length),(25,.seq 1 (nx.map Lk)),(26,.int .i64 nx.length),(27,.int .i64 k)],[]⟩) (fun k=>k≤nx.length∧(nx.drop k).all (wt nx.length)=R) (fun k=>nx.length - k) [] _ 0 rfl (by simp) (by simp [hg]) ?_
   rintro k ⟨hk,hi⟩ N hN
   rcases place nx k hk with ⟨he,hd⟩ | ⟨hlt,x,hx,hd⟩<;>rw [hd] at hi
   · simp at hi
     subst hi
     simp (disch:=omega) [-List.reduceReplicate,he]
     rfl
   · have hxl:=hl2 x (List.mem_of_getElem? hx)
     simp only [List.all_cons] at hi
     replace hi:=hid hi
     simp (disch:=omega) [-List.reduceReplicate,hx]
     refine BrKd.mk (fun h95=>?_) (fun h95=>?_)
     · simp (disch:=omega) [-List.reduceReplicate,h95]
       refine ak (fun j:Nat=>⟨[(3,.int .i64 nx.length),(25,.seq 1 (nx.map Lk)),(26,.int .i64 nx.length),(27,.int .i64 k),(34,.seq 1 (x.map zV)),(35,.int .i64 x.length),(36,.int .i64 j)],[]⟩) (fun j=>j≤x.length∧x.all (n3 nx.length)=(x.drop j).all (n3 nx.length)) (fun j=>x.length - j) [] _ 0 rfl (by simp [h95]) (by simp) ?_
       rintro j ⟨hj,hi2⟩ M hM
       rcases place x j hj with ⟨he,hd2⟩ | ⟨hlt2,y,hy,hd2⟩<;>rw [hd2] at hi2
       · simp (disch:=omega) [-List.reduceReplicate,he]
         have hi:=hi.out
         rw [wt,decide_eq_true (by omega),hi2] at hi
         exact hN.out _<|Nx.mk (k + 1) (by simp) ⟨by omega,by simpa using hi⟩ (by omega)
       · simp only [List.all_cons] at hi2
         replace hi2:=hid hi2
         have bad:n3 nx.length y=false→R=false:=fun h=>by have:=hi.out; rw [wt,hi2.out,h] at this; simpa using this.symm
         replace bad:=hid bad
         simp (disch:=omega) [-List.reduceReplicate,hy,zV]
         repeat' (first | (refine BrKd.mk (fun h=>?_) (fun h=>?_)<;>simp (disch:=omega) [*]) | (refine BrK.mk (fun h=>?_) (fun h=>?_)<;>simp (disch:=omega) [*]))
         all_goals first
          | (rw [bad.out (by simp [n3]; omega)]; rfl)
          | (refine hM.out _<|Nx.mk (j + 1) (by simp [h95]) ⟨by omega,?_⟩ (by omega)
             have:=hi2.out
             rwa [show n3 nx.length y=true by simp [n3]; omega,Bool.true_and] at this)
     · simp (disch:=omega) [-List.reduceReplicate,h95]
       have hi:=hi.out
       rw [wt,decide_eq_false (by omega)] at hi
       simp at hi
       rw [hi]; rfl
 · rw [no.out (by omega)]; rfl
open Go.Aut
def nV (n:Nat):V:=.int .i64 n
def bL (r:List Nat):V:=.seq 1 (r.map nV)
def dh (nx:List (List Nat)):V:=.seq 1 (nx.map bL)
def C6 (fi:List Bool):V:=.seq 1 (fi.map .bool)
def Aut.c (a:Aut):List V:=[dh a.next,C6 a.final]
theorem OC (r:List Nat):bL r=Lk (r.map fun (n:Nat)=>(n:Int)):=by simp only [bL,Lk,List.map_map]; rfl
theorem Aut.c_eq (a:Aut):Aut.c a=ox (a.next.map fun r=>r.map fun (n:Nat)=>(n:Int)) a.final:=by
 simp only [Aut.c,ox,dh,C6,List.map_map]
 congr 2
 refine List.map_congr_left fun r _=>?_
 simp only [Function.comp]
 exact OC r
theorem OY {a:Aut} (h:a.ok) (hn:a.n≤500):Jd (a.next.map fun r=>r.map fun (n:Nat)=>(n:Int)) a.final=true:=by
 have h1:=h.pos
 have h2:=h.fin
 simp only [Aut.n] at h1 hn h2
 simp only [Jd,List.length_map,Bool.and_eq_true,decide_eq_true_eq,List.all_map,List.all_eq_true]
 refine ⟨⟨by omega,by omega,by omega⟩,fun r hr=>?_⟩
 obtain ⟨h3,h4⟩:=h.rows r hr
 simp only [Function.comp,wt,Bool.and_eq_true,decide_eq_true_eq,List.length_map,List.all_map,List.all_eq_true]
 refine ⟨h3,fun x hx=>?_⟩
 have:=h4 x hx
 simp only [Aut.n] at this
 simp [n3]; omega
theorem lw {a:Aut} (h:a.ok) (hn:a.n≤500):Fn Tryz.prog tA [.strct (Aut.c a)] (.int .i64 0):=by
 have:=JJ (a.next.map fun r=>r.map fun (n:Nat)=>(n:Int)) a.final
 rw [←Aut.c_eq,OY h hn] at this
 exact this
end Go.Abs
end
section
set_option maxHeartbeats 4000000
set_option maxRecDepth 100000
namespace Go.Abs
open Go.Proofs Go.Aut
attribute [-simp] getElem?_pos Option.not_isSome List.map_map
theorem Q0 (n:Nat):List.range' n 2=[n,n + 1]:=rfl
theorem QZ (n:Nat):List.range' n 3=[n,n + 1,n + 2]:=rfl
theorem QY (n:Nat):List.range' n 4=[n,n + 1,n + 2,n + 3]:=rfl
theorem QX (n:Nat):List.range' n 5=[n,n + 1,n + 2,n + 3,n + 4]:=rfl
attribute [simp] Q0 QZ QY QX nV
section
variable {K:Type} [DecidableEq K] (kv:K→V)
def cn:Nat→List K→List (V × V)
 | _,[]=>[]
 | i,k::l=>(kv k,nV i)::cn (i + 1) l
variable {kv}
theorem ku (he:∀ a b,eqK (kv a) (kv b)=decide (a=b)) (k:K):∀ (l:List K) (i:Nat),gk (kv k) (cn kv i l)=(pos eqB k l).map fun j=>nV (i + j)
 | [],i=>rfl
 | x::l,i=>by
   have ih:=ku he k l (i + 1)
   have hx:(eqB x k=true)=(x=k):=by simp [eqB]
   simp only [cn,gk,pos,he,ih,hx,decide_eq_true_eq]
   by_cases h:x=k
   · simp [h]
   · rw [if_neg (fun e=>h e.symm),if_neg h]
     cases pos eqB k l<;>simp [Nat.add_assoc,Nat.add_comm 1]
theorem kq (he:∀ a b,eqK (kv a) (kv b)=decide (a=b)) (k:K):∀ (l:List K) (i:Nat),pos eqB k l=none→io (kv k) (nV (i + l.length)) (cn kv i l)=cn kv i (l++[k])
 | [],i,_=>rfl
 | x::l,i,h=>by
   simp only [pos] at h
   split at h
   · cases h
   · rename_i hx
     have h':pos eqB k l=none:=by simpa using h
     have ih:=kq he k l (i + 1) h'
     simp only [List.cons_append,cn,io,he]
     rw [if_neg (by simp only [eqB] at hx; simpa using fun e=>hx (by simp [e])),←ih]
     congr 3
     simp; omega
end
@[simp] def c8 (kt:KT) (e sz:Nat) {K:Type} (kv:K→V) (l:List K):List (Option Ob):=[some (.box [.ref 1 0,.ref 2 l.length]),some (.mp kt (cn kv 0 l)),some (.arr e sz (l.map kv))]
@[simp] def lh (kt:KT) (sz:Nat):List (Option Ob):=[some (.box [.ref 1 0,.nil sz]),some (.mp kt [])]
theorem Mv (a b:Nat):eqK (nV a) (nV b)=decide (a=b):=by
 have:((a:Int)=b)↔a=b:=by omega
 simp [eqK,jf,nV,cl,eqC,this]
def ktI:KT:=⟨false,[.i .i64]⟩
theorem sG (q:Nat):FnH Tryz.prog iY [0] [.ptr 0 0,nV q] (lh ktI 1) (nV 0) (c8 ktI aw 1 nV [q]):=by
 refine FnH.of_image mixed jc i8 rfl fun ho hh=>?_
 unfold ee
 clear ho hh
 simp (disch:=omega) [-List.reduceReplicate,lh,c8,ktI,nV,gk,io,cn,aZ,kOf,ay,aO,dA]
theorem fw {K:Type} [DecidableEq K] {l:List K} {q:K} {i:Nat} (hp:pos eqB q l=some i):fP eqB l q=i∧bF eqB l q=l:=by simp [fP,bF,hp]
theorem kN {K:Type} [DecidableEq K] {l:List K} {q:K} (hp:pos eqB q l=none):fP eqB l q=l.length∧bF eqB l q=l++[q]:=by simp [fP,bF,hp]
theorem pY (l:List Nat) (q:Nat) (hl:l.length≤1000000):FnH Tryz.prog iY [0] [.ptr 0 0,nV q] (c8 ktI aw 1 nV l) (nV (fP eqB l q)) (c8 ktI aw 1 nV (bF eqB l q)):=by
 refine FnH.of_image mixed jc i8 rfl fun ho hh=>?_
 unfold ee
 clear ho hh
 have hm:=ku Mv q l 0
 cases hp:pos eqB q l with
 | some i=>
   rw [hp] at hm
   replace hm:gk (.int .i64 (q:Int)) (cn nV 0 l)=some (.int .i64 (i:Int)):=by simpa [nV] using hm
   obtain ⟨h1,h2⟩:=fw hp
   rw [h1,h2]
   simp (disch:=omega) [-List.reduceReplicate,c8,ktI,nV,aZ,kOf,ay,aO,dA,hm]
 | none=>
   rw [hp] at hm
   replace hm:gk (.int .i64 (q:Int)) (cn nV 0 l)=none:=by simpa [nV] using hm
   have hpt:=kq Mv q l 0 hp
   replace hpt:io (.int .i64 (q:Int)) (.int .i64 (l.length:Int)) (cn nV 0 l)=cn nV 0 (l++[q]):=by simpa [nV] using hpt
   obtain ⟨h1,h2⟩:=kN hp
   rw [h1,h2]
   simp (disch:=omega) [-List.reduceReplicate,c8,ktI,nV,aZ,kOf,ay,aO,dA,hm,hpt]
theorem xN (q:Nat):FnH Tryz.prog wW [] [.seq 1 [nV q]] [] (.ptr 0 0) (c8 ktI aw 1 nV [q]):=by
 refine FnH.of_image mixed xy xj rfl fun ho hh=>?_
 unfold om
 clear ho hh
 simp (disch:=omega) [-List.reduceReplicate]
 refine ak (fun k:Nat=>if k=0 then ⟨[(3,.ptr 0 0),(9,.seq 1 [nV q]),(10,.int .i64 1),(11,.int .i64 0)],lh ktI 1⟩ else ⟨[(3,.ptr 0 0),(9,.seq 1 [nV q]),(10,.int .i64 1),(11,.int .i64 1)],c8 ktI aw 1 nV [q]⟩) (fun k=>k≤1) (fun k=>1 - k) [] _ 0 rfl (by simp [lh,ktI]) (by simp) ?_
 intro k hk N hN
 rcases (show k=0∨k=1 by omega) with rfl | rfl
 · simp (disch:=omega) [-List.reduceReplicate,lh,nV]
   refine ah [0] 1 [0,1] (by simp) (by simp) (by simp) (by simp) (sG q) (by simp [c8]) fun _ _=>?_
   simp (disch:=omega) [-List.reduceReplicate,c8,lh]
   exact hN.out _<|Nx.mk 1 (by simp [c8,nV]) (by simp) (by simp)
 · simp (disch:=omega) [-List.reduceReplicate,c8]
attribute [simp] bL dh C6
theorem Dm {nx:List (List Nat)} {q c:Nat} {r:List Nat} {x:Nat} (hr:nx[q]?=some r) (hx:r[c]?=some x):FnH Tryz.prog eK [2] [nV q,nV c,.ptr 0 0] [some (.box [dh nx])] (nV x) [some (.box [dh nx])]:=by
 refine FnH.of_image mixed CX CD rfl fun ho hh=>?_
 unfold sV
 clear ho hh
 simp (disch:=omega) [-List.reduceReplicate,hr,hx]
def gx (acc:List Nat):List V:=(acc++List.replicate (95 - acc.length) 0).map nV
theorem iL {acc:List Nat} (h:acc.length≤95):(gx acc).length=95:=by simp [gx]; omega
theorem tN {acc:List Nat} (h:acc.length < 95) (k:Nat):(gx acc).set acc.length (nV k)=gx (acc++[k]):=by
 obtain ⟨m,hm⟩:∃ m,95 - acc.length=m + 1:=⟨94 - acc.length,by omega⟩
 have h2:95 - (acc++[k]).length=m:=by simp; omega
 simp only [gx,hm,h2,List.replicate_succ,List.map_append,List.map_cons,List.append_assoc]
 rw [List.set_append_right _ _ (by simp)]
 simp
theorem iM {acc:List Nat} (h:acc.length < 95):(gx acc)[acc.length]?=some (.int .i64 0):=by
 obtain ⟨m,hm⟩:∃ m,95 - acc.length=m + 1:=⟨94 - acc.length,by omega⟩
 simp only [gx,hm,List.replicate_succ,List.map_append,List.map_cons]
 rw [List.getElem?_append_right (by simp)]
 simp [nV]
theorem ra {acc:List Nat} (h:acc.length=95):gx acc=acc.map nV:=by simp [gx,h]
theorem tO:List.replicate 95 (V.int .i64 0)=gx []:=by simp [gx]
theorem vK {K:Type} [DecidableEq K] {l:List K} (h:gF eqB l) {i:Nat} {q:K} (hq:l[i]?=some q):pos eqB q l=some i:=
 LA (fun a b h=>by simp [eqB] at h ⊢; exact h.symm) (fun a b c h1 h2=>by simp [eqB] at h1 h2 ⊢; rw [h1,h2]) h hq (b6 q)
theorem wA {K:Type} [DecidableEq K] {q:K}:∀ {l:List K},pos eqB q l=none→pos eqB q (l++[q])=some l.length
 | [],_=>by simp [pos,eqB]
 | x::l,h=>by
   simp only [pos] at h
   split at h
   · cases h
   · rename_i hx
     have h':pos eqB q l=none:=by simpa using h
     simp only [List.cons_append,pos,hx,wA h']
     simp
theorem BU {K:Type} [DecidableEq K] (l:List K) (q:K):pos eqB q (bF eqB l q)=some (fP eqB l q):=by
 cases hp:pos eqB q l with
 | some i=>obtain ⟨h1,h2⟩:=fw hp; rw [h1,h2,hp]
 | none=>obtain ⟨h1,h2⟩:=kN hp; rw [h1,h2,wA hp]
theorem vV {K:Type} [DecidableEq K] (l:List K) (q:K):(bF eqB l q).length≤l.length + 1:=by unfold bF; split<;>simp
theorem yr {K:Type} [DecidableEq K] {l:List K} {q x:K} {i:Nat} (h:l[i]?=some x):(bF eqB l q)[i]?=some x:=by
 unfold bF; split
 · exact h
 · rw [List.getElem?_append_left (List.getElem?_eq_some_iff.1 h).1]; exact h
def wkH (X:Option Ob) (rows:List (List Nat)) (l:List Nat):List (Option Ob):=[X,some (.box [.ref 3 0,.ref 4 l.length]),some (.arr aD 1 (rows.map bL)),some (.mp ktI (cn nV 0 l)),some (.arr aw 1 (l.map nV))]
def wkI (X:Option Ob) (rows:List (List Nat)) (l:List Nat) (acc:List Nat):List (Option Ob):=[X,some (.box [.ref 4 0,.ref 5 l.length]),some (.arr aD 1 (rows.map bL)),some (.arr aw 1 (gx acc)),some (.mp ktI (cn nV 0 l)),some (.arr aw 1 (l.map nV))]
theorem zU (nx:List (List Nat)) (n:Nat) (hn:wq n nx) (hnl:nx.length=n) (most:Nat) (hm:most≤100000) (start:Nat) (h0:start < n) (list:List Nat) (rows:List (List Nat)) (hw:um eqB (dl nx) start most=some (list,rows)):
 FnH Tryz.prog nh [1] [nV start,.fn (.func eK) [] [.ptr 0 0],nV most] [some (.box [dh nx])] (.tup [.ref 1 list.length,.ref 2 rows.length,.bool true]) [some (.box [dh nx]),some (.arr aw 1 (list.map nV)),some (.arr aD 1 (rows.map bL))]:=by
 refine FnH.of_image mixed nG ny rfl fun ho hh=>?_
 unfold jr
 clear ho hh
 obtain ⟨R,hR⟩:∃ R,R=(V.tup [.ref 1 list.length,.ref 2 rows.length,.bool true]):=⟨_,rfl⟩
 rw [←hR]
 simp (disch:=omega) [-List.reduceReplicate]
 refine ah [] 0 [] (by simp) (by simp) (by simp) (by simp) (xN start) (by simp) fun _ _=>?_
 simp (disch:=omega) [-List.reduceReplicate]
 refine ak (fun (x:Nat × Nat × List Nat × List (List Nat))=>⟨[(1,.fn (.func eK) [] [.ptr 0 0]),(2,nV most),(9,.ptr 1 0),(10,.ref 2 x.2.2.2.length),(11,nV x.2.1)],wkH (some (.box [dh nx])) x.2.2.2 x.2.2.1⟩)
  (fun x=>(∀ q∈x.2.2.1,q < n)∧gF eqB x.2.2.1∧x.2.1≤x.2.2.1.length∧x.2.2.2.length=x.2.1∧x.2.2.1.length≤most + 1∧bI eqB (dl nx) most x.1 x.2.1 x.2.2.1 x.2.2.2=some (list,rows)) (fun x=>x.1) [.r 10 aD 1] _ (most + 2,0,[start],[]) rfl (by simp [wkH,cn]) ⟨by simpa using h0,gF.one _,by simp,rfl,by simp,hw⟩ ?_
 rintro ⟨f,i,l,rw⟩ ⟨hd,hap,hil,hrl,hlm,hi⟩ N hN
 simp only at hd hap hil hrl hlm hi
 cases f with
 | zero=>simp [bI] at hi
 | succ f=>
 simp only [bI] at hi
 rcases Nat.lt_or_ge i l.length with hlt | hge
 · obtain ⟨q,hq⟩:=ap hlt
   rw [hq] at hi
   simp only at hi
   have hqn:=hd q (List.mem_of_getElem? hq)
   obtain ⟨T,hT⟩:∃ T,T=aB eqB (dl nx q) 95 0 l:=⟨_,rfl⟩
   rw [←hT] at hi
   replace hi:=hid hi
   simp (disch:=omega) [-List.reduceReplicate,wkH,hq]
   refine ak (fun (x:List Nat × List Nat × Nat × Nat)=>⟨[(1,.fn (.func eK) [] [.ptr 0 0]),(2,nV most),(9,.ptr 1 0),(10,.ref 2 rw.length),(11,nV i),(12,.ref 3 95),(13,nV x.2.2.1),(14,nV x.2.2.2),(39,.int .i64 95),(40,nV x.1.length)],wkI (some (.box [dh nx])) rw x.2.1 x.1⟩)
    (fun x=>(∀ q∈x.2.1,q < n)∧x.1.length≤95∧x.2.1[i]?=some q∧x.2.1.length≤most + 1 + x.1.length∧pos eqB x.2.2.1 x.2.1=some x.2.2.2∧(x.1++(aB eqB (dl nx q) (95 - x.1.length) x.1.length x.2.1).1,(aB eqB (dl nx q) (95 - x.1.length) x.1.length x.2.1).2)=T)
    (fun x=>95 - x.1.length) [] _ ([],l,q,i) rfl (by simp [wkI,tO]) ⟨hd,by simp,hq,by simp; omega,vK hap hq,by simp [hT]⟩ ?_
   rintro ⟨acc,l',last,num⟩ ⟨hd',hc,hq',hl',hp,hi'⟩ M hM
   simp only at hd' hc hq' hl' hp hi'
   rcases Nat.lt_or_ge acc.length 95 with hc95 | hc95
   · obtain ⟨rr,t,hr1,hr2,hr3,hr4⟩:=hn.dl (q:=q) (c:=acc.length) (by omega) hc95
     obtain ⟨m',hm'⟩:∃ m',95 - acc.length=m' + 1:=⟨94 - acc.length,by omega⟩
     have hm2:95 - (acc.length + 1)=m':=by omega
     rw [hm'] at hi'
     simp only [aB,hr3] at hi'
     have hset:=tN hc95
     have hfl:=iL (acc:=acc) (by omega)
     replace hi':=hid hi'
     have hil':=(List.getElem?_eq_some_iff.1 hq').1
     simp (disch:=omega) [-List.reduceReplicate,wkI,hq']
     refine ah [2] 1 [0] (by simp) (by simp) (by simp) (by simp) (Dm hr1 hr2) (by simp) fun _ _=>?_
     simp (disch:=omega) [-List.reduceReplicate,hq']
     have next:∀ (num':Nat) (last':Nat),pos eqB last' (bF eqB l' t)=some num'→num'=fP eqB l' t→∀ τ:St,τ.nrm [1,2,9,10,11,12,13,14,39,40]=⟨[(1,.fn (.func eK) [] [.ptr 0 0]),(2,nV most),(9,.ptr 1 0),(10,.ref 2 rw.length),(11,nV i),(12,.ref 3 95),(13,nV last'),(14,nV num'),(39,.int .i64 95),(40,.int .i64 ((acc.length:Int) + 1))],wkI (some (.box [dh nx])) rw (bF eqB l' t) (acc++[num'])⟩→M τ:=by
      intro num' last' h1 h2 τ hτ
      have h3:=vV l' t
      refine hM.out τ<|Nx.mk (acc++[num'],bF eqB l' t,last',num') (by simpa using hτ) ⟨?_,by simp; omega,yr hq',by simp; omega,h1,?_⟩ (by simp; omega)
      · intro x hx
        rcases oy hx with hx | rfl
        · exact hd' x hx
        · exact hr4
      · have:=hi'.out
        rw [←this]
        simp [hm2,h2]
     replace next:=hid next
     by_cases hlt2:t=last
     · subst hlt2
       obtain ⟨e1,e2⟩:=fw hp
       have hs:=hset num
       simp only [nV] at hs
       simp (disch:=omega) [-List.reduceReplicate,hfl,hs,iM hc95]
       exact next.out num t (by rw [e2]; exact hp) e1.symm _ (by simp [wkI,e2])
     · simp (disch:=omega) [-List.reduceReplicate,hlt2]
       refine ah [0] 1 [1,4,5] (by simp) (by simp) (by simp) (by simp) (pY l' t (by omega)) (by simp) fun _ _=>?_
       have hs:=hset (fP eqB l' t)
       simp only [nV] at hs
       simp (disch:=omega) [-List.reduceReplicate,hfl,hs,iM hc95]
       exact next.out _ t (BU l' t) rfl _ (by simp [wkI])
   · have hacc:acc.length=95:=by omega
     have h0:95 - acc.length=0:=by omega
     rw [h0] at hi'
     simp only [aB,List.append_nil] at hi'
     subst hi'
     have hil':=(List.getElem?_eq_some_iff.1 hq').1
     have hi2:=hi.out
     simp only at hi2
     split at hi2
     · cases hi2
     · rename_i hle
       have hf:=ra hacc
       have hfl:(gx acc).length=95:=iL (by omega)
       simp (disch:=omega) [-List.reduceReplicate,wkI,hacc,hfl]
       refine hN.out _<|Nx.mk (f,i + 1,l',rw++[acc]) (by simp [wkH,hf,hrl]) ⟨hd',?_,by simp only; omega,by simp [hrl],by simp only; omega,hi2⟩ (by simp only; omega)
       have:=dq (e:=eqB) (dl nx q) 95 0 l hap
       rw [←hT] at this
       exact this
 · have:i=l.length:=by omega
   subst this
   rw [List.getElem?_eq_none (by omega)] at hi
   simp only [Option.some.injEq,Prod.mk.injEq] at hi
   obtain ⟨rfl,rfl⟩:=hi
   simp (disch:=omega) [-List.reduceReplicate,wkH,hR]
def f2H (cls:List Nat) (nx:List (List Nat)) (of:List Nat):List (Option Ob):=[some (.box [bL cls]),some (.box [.ref 3 nx.length]),some (.box [.ref 4 of.length]),some (.arr aD 1 (nx.map bL)),some (.arr aw 1 (of.map nV))]
def f2R (cls:List Nat) (nx:List (List Nat)) (of list:List Nat) (rows:List (List Nat)):List (Option Ob):=[some (.box [bL cls]),some (.box [.ref 5 nx.length]),some (.box [.ref 6 of.length]),some (.arr aw 1 (list.map nV)),some (.arr aD 1 (rows.map bL)),some (.arr aD 1 (nx.map bL)),some (.arr aw 1 (of.map nV))]
attribute [simp] f2H f2R
def KI (cls:List Nat) (nx:List (List Nat)) (of:List Nat) (rows:List (List Nat)) (l:List Nat):List (Option Ob):=[some (.box [bL cls]),some (.box [.ref 5 nx.length]),some (.box [.ref 6 of.length]),some (.box [.ref 7 0,.ref 8 l.length]),some (.arr aD 1 (rows.map bL)),some (.arr aD 1 (nx.map bL)),some (.arr aw 1 (of.map nV)),some (.mp ktI (cn nV 0 l)),some (.arr aw 1 (l.map nV))]
def Fy (cls:List Nat) (nx:List (List Nat)) (of:List Nat) (rows:List (List Nat)) (l:List Nat) (acc:List Nat):List (Option Ob):=[some (.box [bL cls]),some (.box [.ref 6 nx.length]),some (.box [.ref 7 of.length]),some (.box [.ref 8 0,.ref 9 l.length]),some (.arr aD 1 (rows.map bL)),some (.arr aw 1 (gx acc)),some (.arr aD 1 (nx.map bL)),some (.arr aw 1 (of.map nV)),some (.mp ktI (cn nV 0 l)),some (.arr aw 1 (l.map nV))]
theorem Dl {cls:List Nat} {nx:List (List Nat)} {of:List Nat} {q c p x y:Nat} {r:List Nat} (hp:of[q]?=some p) (hr:nx[p]?=some r) (hx:r[c]?=some x) (hy:cls[x]?=some y):
 FnH Tryz.prog cN [2,3,4] [nV q,nV c,.ptr 0 0,.ptr 1 0,.ptr 2 0] (f2H cls nx of) (nV y) (f2H cls nx of):=by
 refine FnH.of_image mixed CW CC rfl fun ho hh=>?_
 unfold sU
 clear ho hh
 have h1:=(List.getElem?_eq_some_iff.1 hp).1
 have h2:=(List.getElem?_eq_some_iff.1 hr).1
 simp (disch:=omega) [-List.reduceReplicate,hp,hr,hx,hy]
theorem zT (cls:List Nat) (nx:List (List Nat)) (of:List Nat) (step:Nat→Nat→Nat) (D:Nat→Prop)
 (hst:∀ q c,D q→c < 95→∃ t,step q c=t∧D t∧FnH Tryz.prog cN [2,3,4] [nV q,nV c,.ptr 0 0,.ptr 1 0,.ptr 2 0] (f2H cls nx of) (nV t) (f2H cls nx of))
 (most:Nat) (hm:most≤100000) (start:Nat) (h0:D start) (list:List Nat) (rows:List (List Nat)) (hw:um eqB step start most=some (list,rows)):
 FnH Tryz.prog nh [1] [nV start,.fn (.func cN) [] [.ptr 0 0,.ptr 1 0,.ptr 2 0],nV most] (f2H cls nx of) (.tup [.ref 3 list.length,.ref 4 rows.length,.bool true]) (f2R cls nx of list rows):=by
 refine FnH.of_image mixed nG ny rfl fun ho hh=>?_
 unfold jr
 clear ho hh
 obtain ⟨R,hR⟩:∃ R,R=(V.tup [.ref 3 list.length,.ref 4 rows.length,.bool true]):=⟨_,rfl⟩
 rw [←hR]
 simp (disch:=omega) [-List.reduceReplicate]
 refine ah [] 0 [] (by simp) (by simp) (by simp) (by simp) (xN start) (by simp) fun _ _=>?_
 simp (disch:=omega) [-List.reduceReplicate]
 refine ak (fun (x:Nat × Nat × List Nat × List (List Nat))=>⟨[(1,.fn (.func cN) [] [.ptr 0 0,.ptr 1 0,.ptr 2 0]),(2,nV most),(9,.ptr 3 0),(10,.ref 4 x.2.2.2.length),(11,nV x.2.1)],KI cls nx of x.2.2.2 x.2.2.1⟩)
  (fun x=>(∀ q∈x.2.2.1,D q)∧gF eqB x.2.2.1∧x.2.1≤x.2.2.1.length∧x.2.2.2.length=x.2.1∧x.2.2.1.length≤most + 1∧bI eqB step most x.1 x.2.1 x.2.2.1 x.2.2.2=some (list,rows)) (fun x=>x.1) [.r 10 aD 1] _ (most + 2,0,[start],[]) rfl (by simp [KI,cn]) ⟨by simpa using h0,gF.one _,by simp,rfl,by simp,hw⟩ ?_
 rintro ⟨f,i,l,rw⟩ ⟨hd,hap,hil,hrl,hlm,hi⟩ N hN
 simp only at hd hap hil hrl hlm hi
 cases f with
 | zero=>simp [bI] at hi
 | succ f=>
 simp only [bI] at hi
 rcases Nat.lt_or_ge i l.length with hlt | hge
 · obtain ⟨q,hq⟩:=ap hlt
   rw [hq] at hi
   simp only at hi
   have hqn:=hd q (List.mem_of_getElem? hq)
   obtain ⟨T,hT⟩:∃ T,T=aB eqB (step q) 95 0 l:=⟨_,rfl⟩
   rw [←hT] at hi
   replace hi:=hid hi
   simp (disch:=omega) [-List.reduceReplicate,KI,hq]
   refine ak (fun (x:List Nat × List Nat × Nat × Nat)=>⟨[(1,.fn (.func cN) [] [.ptr 0 0,.ptr 1 0,.ptr 2 0]),(2,nV most),(9,.ptr 3 0),(10,.ref 4 rw.length),(11,nV i),(12,.ref 5 95),(13,nV x.2.2.1),(14,nV x.2.2.2),(39,.int .i64 95),(40,nV x.1.length)],Fy cls nx of rw x.2.1 x.1⟩)
    (fun x=>(∀ q∈x.2.1,D q)∧x.1.length≤95∧x.2.1[i]?=some q∧x.2.1.length≤most + 1 + x.1.length∧pos eqB x.2.2.1 x.2.1=some x.2.2.2∧(x.1++(aB eqB (step q) (95 - x.1.length) x.1.length x.2.1).1,(aB eqB (step q) (95 - x.1.length) x.1.length x.2.1).2)=T)
    (fun x=>95 - x.1.length) [] _ ([],l,q,i) rfl (by simp [Fy,tO]) ⟨hd,by simp,hq,by simp; omega,vK hap hq,by simp [hT]⟩ ?_
   rintro ⟨acc,l',last,num⟩ ⟨hd',hc,hq',hl',hp,hi'⟩ M hM
   simp only at hd' hc hq' hl' hp hi'
   rcases Nat.lt_or_ge acc.length 95 with hc95 | hc95
   · obtain ⟨t,hr3,hr4,hr5⟩:=hst q acc.length hqn hc95
     obtain ⟨m',hm'⟩:∃ m',95 - acc.length=m' + 1:=⟨94 - acc.length,by omega⟩
     have hm2:95 - (acc.length + 1)=m':=by omega
     rw [hm'] at hi'
     simp only [aB,hr3] at hi'
     have hset:=tN hc95
     have hfl:=iL (acc:=acc) (by omega)
     replace hi':=hid hi'
     have hil':=(List.getElem?_eq_some_iff.1 hq').1
     simp (disch:=omega) [-List.reduceReplicate,Fy,hq']
     refine ah [2,3,4] 3 [0,1,2,6,7] (by simp) (by simp) (by simp) (by simp) (hr5) (by simp) fun _ _=>?_
     simp (disch:=omega) [-List.reduceReplicate,hq']
     have next:∀ (num':Nat) (last':Nat),pos eqB last' (bF eqB l' t)=some num'→num'=fP eqB l' t→∀ τ:St,τ.nrm [1,2,9,10,11,12,13,14,39,40]=⟨[(1,.fn (.func cN) [] [.ptr 0 0,.ptr 1 0,.ptr 2 0]),(2,nV most),(9,.ptr 3 0),(10,.ref 4 rw.length),(11,nV i),(12,.ref 5 95),(13,nV last'),(14,nV num'),(39,.int .i64 95),(40,.int .i64 ((acc.length:Int) + 1))],Fy cls nx of rw (bF eqB l' t) (acc++[num'])⟩→M τ:=by
      intro num' last' h1 h2 τ hτ
      have h3:=vV l' t
      refine hM.out τ<|Nx.mk (acc++[num'],bF eqB l' t,last',num') (by simpa using hτ) ⟨?_,by simp; omega,yr hq',by simp; omega,h1,?_⟩ (by simp; omega)
      · intro x hx
        rcases oy hx with hx | rfl
        · exact hd' x hx
        · exact hr4
      · have:=hi'.out
        rw [←this]
        simp [hm2,h2]
     replace next:=hid next
     by_cases hlt2:t=last
     · subst hlt2
       obtain ⟨e1,e2⟩:=fw hp
       have hs:=hset num
       simp only [nV] at hs
       simp (disch:=omega) [-List.reduceReplicate,hfl,hs,iM hc95]
       exact next.out num t (by rw [e2]; exact hp) e1.symm _ (by simp [Fy,e2])
     · simp (disch:=omega) [-List.reduceReplicate,hlt2]
       refine ah [0] 1 [3,8,9] (by simp) (by simp) (by simp) (by simp) (pY l' t (by omega)) (by simp) fun _ _=>?_
       have hs:=hset (fP eqB l' t)
       simp only [nV] at hs
       simp (disch:=omega) [-List.reduceReplicate,hfl,hs,iM hc95]
       exact next.out _ t (BU l' t) rfl _ (by simp [Fy])
   · have hacc:acc.length=95:=by omega
     have h0:95 - acc.length=0:=by omega
     rw [h0] at hi'
     simp only [aB,List.append_nil] at hi'
     subst hi'
     have hil':=(List.getElem?_eq_some_iff.1 hq').1
     have hi2:=hi.out
     simp only at hi2
     split at hi2
     · cases hi2
     · rename_i hle
       have hf:=ra hacc
       have hfl:(gx acc).length=95:=iL (by omega)
       simp (disch:=omega) [-List.reduceReplicate,Fy,hacc,hfl]
       refine hN.out _<|Nx.mk (f,i + 1,l',rw++[acc]) (by simp [KI,hf,hrl]) ⟨hd',?_,by simp only; omega,by simp [hrl],by simp only; omega,hi2⟩ (by simp only; omega)
       have:=dq (e:=eqB) (step q) 95 0 l hap
       rw [←hT] at this
       exact this
 · have:i=l.length:=by omega
   subst this
   rw [List.getElem?_eq_none (by omega)] at hi
   simp only [Option.some.injEq,Prod.mk.injEq] at hi
   obtain ⟨rfl,rfl⟩:=hi
   simp (disch:=omega) [-List.reduceReplicate,KI,hR]
section
variable {α:Type} {f:α→V}
theorem oC (h:∀ a,aq (f a)=[]):∀ l:List α,ai (l.map f)=[]
 | []=>rfl
 | a::l=>by simp [ai,h a,oC h l]
theorem rQ {hp:List (Option Ob)} (h:∀ a,pur hp (f a)=some (f a)):∀ l:List α,purs hp (l.map f)=some (l.map f)
 | []=>rfl
 | a::l=>by simp [purs,h a,rQ h l]
theorem rN {m:List Nat} (h:∀ a,ren m (f a)=f a):∀ l:List α,cW m (l.map f)=l.map f
 | []=>rfl
 | a::l=>by simp [cW,h a,rN h l]
theorem s4 {m:List Nat} (h:∀ a,bck m (f a)=f a):∀ l:List α,kM m (l.map f)=l.map f
 | []=>rfl
 | a::l=>by simp [kM,h a,s4 h l]
theorem iK (h:∀ a,bY (f a)=true):∀ l:List α,dx (l.map f)=true
 | []=>rfl
 | a::l=>by simp [dx,h a,iK h l]
theorem x6 {σ:St} (h:∀ a,σ.cur (f a)=true):∀ l:List α,σ.curA (l.map f)=true
 | []=>rfl
 | a::l=>by simp [St.curA,h a,x6 h l]
end
theorem rep1:List.replicate 1 (none:Option Ob)=[none]:=rfl
theorem rep2:List.replicate 2 (none:Option Ob)=[none,none]:=rfl
theorem rep3:List.replicate 3 (none:Option Ob)=[none,none,none]:=rfl
theorem rep4:List.replicate 4 (none:Option Ob)=[none,none,none,none]:=rfl
theorem rep5:List.replicate 5 (none:Option Ob)=[none,none,none,none,none]:=rfl
theorem rep6:List.replicate 6 (none:Option Ob)=[none,none,none,none,none,none]:=rfl
attribute [simp] rep1 rep2 rep3 rep4 rep5 rep6
theorem Ni (n:Int) (h1:0≤n) (h2:n≤65535):IntKind.u16.wrap n=n:=by
 rw [Go.IntKind.wrap_u16]; omega
theorem QD {n:Int} (h1:0≤n) (h2:n≤65535):BF .u16 n=some (.int .u16 n):=by simp only [BF,Ni _ h1 h2]
attribute [simp high] QD
def bG (n:Nat):V:=.int .u16 n
def az (n:Nat):V:=.int .u64 n
section
variable (l:List Nat) (hp:List (Option Ob)) (m:List Nat) (σ:St)
@[simp] theorem Ix:ai (l.map bG)=[]:=oC (fun _=>rfl) l
@[simp] theorem Lz:purs hp (l.map bG)=some (l.map bG):=rQ (fun _=>rfl) l
@[simp] theorem Ls:cW m (l.map bG)=l.map bG:=rN (fun _=>rfl) l
@[simp] theorem MU:kM m (l.map bG)=l.map bG:=s4 (fun _=>rfl) l
@[simp] theorem flats_u16:dx (l.map bG)=true:=iK (fun _=>rfl) l
@[simp] theorem curA_u16:σ.curA (l.map bG)=true:=x6 (fun _=>by simp [St.cur,St.cur0,bG,aq]) l
@[simp] theorem vidss_u64:ai (l.map az)=[]:=oC (fun _=>rfl) l
@[simp] theorem purs_u64:purs hp (l.map az)=some (l.map az):=rQ (fun _=>rfl) l
@[simp] theorem rens_u64:cW m (l.map az)=l.map az:=rN (fun _=>rfl) l
@[simp] theorem bcks_u64:kM m (l.map az)=l.map az:=s4 (fun _=>rfl) l
@[simp] theorem flats_u64:dx (l.map az)=true:=iK (fun _=>rfl) l
@[simp] theorem curA_u64:σ.curA (l.map az)=true:=x6 (fun _=>by simp [St.cur,St.cur0,az,aq]) l
end
theorem E2:∀ (a b:List Nat),jf (a.map bG) (b.map bG)=decide (a=b)
 | [],[]=>rfl
 | [],_::_=>rfl
 | _::_,[]=>rfl
 | x::a,y::b=>by
   have:((x:Int)=y)↔x=y:=by omega
   simp [jf,bG,eqC,this]
   rw [E2 a b]
theorem E0:∀ (a b:List Nat),jf (a.map az) (b.map az)=decide (a=b)
 | [],[]=>rfl
 | [],_::_=>rfl
 | _::_,[]=>rfl
 | x::a,y::b=>by
   have:((x:Int)=y)↔x=y:=by omega
   simp [jf,az,eqC,this]
   rw [E0 a b]
theorem En:∀ l:List Nat,aZ (l.map bG)=ay (List.replicate l.length (.i .u16))
 | []=>rfl
 | x::l=>by simp [aZ,En l,List.replicate_succ,ay,bG,kOf]
theorem Em:∀ l:List Nat,aZ (l.map az)=ay (List.replicate l.length (.i .u64))
 | []=>rfl
 | x::l=>by simp [aZ,Em l,List.replicate_succ,ay,az,kOf]
def ktK:KT:=⟨true,kz 96 (.i .u16)⟩
def kcV (k:List Nat):V:=.strct (k.map bG)
theorem H9 (a b:List Nat):eqK (kcV a) (kcV b)=decide (a=b):=by simp [eqK,kcV,cl,E2]
theorem EP {k:List Nat} (h:k.length=96):aO ktK (kcV k)=true:=by
 simp only [aO,kcV,dA,cl,ktK,En,h]
 simp
theorem sF (q:List Nat) (hq:q.length=96):FnH Tryz.prog eD [0] [.ptr 0 0,kcV q] (lh ktK 96) (nV 0) (c8 ktK fC 96 kcV [q]):=by
 refine FnH.of_image mixed eZ eS rfl fun ho hh=>?_
 unfold cT
 clear ho hh
 have hf:=EP hq
 have ht:List.take 96 (q.map bG)=q.map bG:=List.take_of_length_le (by simp; omega)
 simp only [kcV,ktK] at hf
 simp (disch:=omega) [-List.reduceReplicate,lh,c8,ktK,kcV,gk,io,cn,hf,hq,ht]
theorem z8 (l:List (List Nat)) (q:List Nat) (hl:l.length≤1000000) (hq:q.length=96):FnH Tryz.prog eD [0] [.ptr 0 0,kcV q] (c8 ktK fC 96 kcV l) (nV (fP eqB l q)) (c8 ktK fC 96 kcV (bF eqB l q)):=by
 refine FnH.of_image mixed eZ eS rfl fun ho hh=>?_
 unfold cT
 clear ho hh
 have hf:=EP hq
 have ht:List.take 96 (q.map bG)=q.map bG:=List.take_of_length_le (by simp; omega)
 simp only [kcV,ktK] at hf
 have hm:=ku H9 q l 0
 cases hp:pos eqB q l with
 | some i=>
   rw [hp] at hm
   replace hm:gk (.strct (q.map bG)) (cn kcV 0 l)=some (.int .i64 (i:Int)):=by simpa [nV,kcV] using hm
   obtain ⟨h1,h2⟩:=fw hp
   rw [h1,h2]
   simp (disch:=omega) [-List.reduceReplicate,c8,ktK,kcV,hm,hf,hq,ht]
 | none=>
   rw [hp] at hm
   replace hm:gk (.strct (q.map bG)) (cn kcV 0 l)=none:=by simpa [nV,kcV] using hm
   have hpt:=kq H9 q l 0 hp
   replace hpt:io (.strct (q.map bG)) (.int .i64 (l.length:Int)) (cn kcV 0 l)=cn kcV 0 (l++[q]):=by simpa [nV,kcV] using hpt
   obtain ⟨h1,h2⟩:=kN hp
   rw [h1,h2]
   simp (disch:=omega) [-List.reduceReplicate,c8,ktK,kcV,hm,hpt,hf,hq,ht]
theorem GW:FnH Tryz.prog qI [] [.nil 96] [] (.ptr 0 0) (lh ktK 96):=by
 refine FnH.of_image mixed qY qS rfl fun ho hh=>?_
 unfold jv
 clear ho hh
 simp (disch:=omega) [-List.reduceReplicate]
 refine ak (fun k:Nat=>⟨[(3,.ptr 0 0),(9,.nil 96),(10,.int .i64 0),(11,.int .i64 0)],lh ktK 96⟩) (fun k=>True) (fun k=>0) [] _ 0 rfl (by simp [lh,ktK]) (by simp) ?_
 intro k hk N hN
 simp (disch:=omega) [-List.reduceReplicate]
def aY (f:Nat→V) (n:Nat) (acc:List Nat):List V:=(acc++List.replicate (n - acc.length) 0).map f
section
variable {f:Nat→V} {n:Nat} {acc:List Nat}
theorem oS (h:acc.length≤n):(aY f n acc).length=n:=by simp [aY]; omega
theorem sA (h:acc.length < n):aY f n acc=acc.map f++f 0::(List.replicate (n - (acc.length + 1)) 0).map f:=by
 obtain ⟨m,hm⟩:∃ m,n - acc.length=m + 1:=⟨n - acc.length - 1,by omega⟩
 have h2:n - (acc.length + 1)=m:=by omega
 simp only [aY,hm,h2,List.replicate_succ,List.map_append,List.map_cons]
theorem re (k:Nat):aY f n (acc++[k])=acc.map f++f k::(List.replicate (n - (acc.length + 1)) 0).map f:=by
 simp [aY]
theorem tT (h:acc.length < n) (k:Nat):(aY f n acc).set acc.length (f k)=aY f n (acc++[k]):=by
 rw [sA h,re,List.set_append_right _ _ (by simp)]
 simp
theorem tU (h:acc.length < n):(aY f n acc)[acc.length]?=some (f 0):=by
 rw [sA h,List.getElem?_append_right (by simp)]
 simp
theorem lp (h:acc.length=n):aY f n acc=acc.map f:=by simp [aY,h]
theorem Bh:List.replicate n (f 0)=aY f n []:=by simp [aY]
theorem GH (h:acc.length < n):aY f n (acc++[0])=aY f n acc:=by rw [sA h,re]
theorem sy (h:acc.length < n) (k:Nat):List.take acc.length (aY f n acc)++f k::List.drop (acc.length + 1) (aY f n acc)=aY f n (acc++[k]):=by
 rw [sA h,re]
 congr 1
 · rw [List.take_append_of_le_length (by simp),List.take_of_length_le (by simp)]
 · congr 1
   rw [List.drop_append,List.drop_of_length_le (by simp)]
   simp
end
section
variable (acc:List Nat) (n:Nat) (hp:List (Option Ob)) (m:List Nat)
@[simp] theorem QA:ai (aY bG n acc)=[]:=Ix _
@[simp] theorem purs_fill:purs hp (aY bG n acc)=some (aY bG n acc):=Lz _ _
@[simp] theorem rens_fill:cW m (aY bG n acc)=aY bG n acc:=Ls _ _
@[simp] theorem bcks_fill:kM m (aY bG n acc)=aY bG n acc:=MU _ _
end
def ckH (cls fin:List V) (l:List (List Nat)):List (Option Ob):=[some (.arr aw 1 cls),some (.box [.ref 3 0,.ref 4 l.length]),some (.arr aw 1 fin),some (.mp ktK (cn kcV 0 l)),some (.arr fC 96 (l.map kcV))]
def ckE (cls fin:List V):List (Option Ob):=[some (.arr aw 1 cls),some (.box [.ref 3 0,.nil 96]),some (.arr aw 1 fin),some (.mp ktK [])]
def ck (cls fin:List V) (l:List (List Nat)):List (Option Ob):=if l=[] then ckE cls fin else ckH cls fin l
def cjH (cls fin key:List V) (l:List (List Nat)):List (Option Ob):=[some (.arr aw 1 cls),some (.box [.ref 4 0,.ref 5 l.length]),some (.arr aw 1 fin),some (.box key),some (.mp ktK (cn kcV 0 l)),some (.arr fC 96 (l.map kcV))]
def cjE (cls fin key:List V):List (Option Ob):=[some (.arr aw 1 cls),some (.box [.ref 4 0,.nil 96]),some (.arr aw 1 fin),some (.box key),some (.mp ktK [])]
theorem Af (nx:List (List Nat)) (fi:List Bool) (n:Nat) (hn:wq n nx) (hnl:nx.length=n) (h0:0 < n) (hn5:n≤10000) (hfi:fi.length=n) (cls:List Nat) (hc:n0 nx fi=some cls):FnN Tryz.prog yU [dh nx,C6 fi] (bL cls):=by
 refine FnN.of_imageE mixed zQ zq rfl fun ho=>?_
 unfold qm
 clear ho
 obtain ⟨R,hR⟩:∃ R,R=bL cls:=⟨_,rfl⟩
 rw [←hR]
 simp (disch:=omega) [-List.reduceReplicate,hnl]
 obtain ⟨bs,hbs⟩:∃ bs,bs=fi.map b01:=⟨_,rfl⟩
 have hbl:bs.length=n:=by simp [hbs,hfi]
 refine ak (fun (k:Nat)=>⟨[(0,dh nx),(5,.ref 0 n),(19,C6 fi),(20,.int .i64 fi.length),(21,.int .i64 k)],[some (.arr aw 1 (aY nV n (bs.take k)))]⟩) (fun k=>k≤fi.length) (fun k=>fi.length - k) [] _ 0 rfl (by simp [-List.reduceReplicate,←Bh,hnl]) (by simp) ?_
 intro k hk N hN
 rcases place fi k hk with ⟨he,hd⟩ | ⟨hlt,x,hx,hd⟩
 · subst he
   have ht:bs.take fi.length=bs:=List.take_of_length_le (by omega)
   have hfl:aY nV n bs=bs.map nV:=lp hbl
   have hc':nZ nx (n + 2) bs 0=some cls:=by rw [hbs,←hnl]; exact hc
   clear hN hd hc
   simp (disch:=omega) [-List.reduceReplicate,ht,hfl]
   refine ak (fun (x:Nat × List Nat × Nat)=>⟨[(0,dh nx),(5,.ref 0 n),(8,nV x.2.2)],[some (.arr aw 1 (x.2.1.map nV))]⟩) (fun x=>x.2.1.length=n∧(∀ v∈x.2.1,v≤10000)∧nZ nx x.1 x.2.1 x.2.2=some cls) (fun x=>x.1) [] _ (n + 2,bs,0) rfl (by simp) ⟨hbl,?_,hc'⟩ ?_
   · intro v hv
     rw [hbs] at hv
     obtain ⟨b,_,rfl⟩:=List.mem_map.1 hv
     cases b<;>simp [b01]
   clear hbs hbl ht hfl hc' bs
   rintro ⟨f,cl,cnt⟩ ⟨hcl,hcv,hgo⟩ N hN
   simp only at hcl hcv hgo
   cases f with
   | zero=>simp [nZ] at hgo
   | succ f=>
   simp only [nZ,hnl] at hgo
   obtain ⟨T,hT⟩:∃ T,T=aB eqB (Aut.keyOf nx cl) n 0 []:=⟨_,rfl⟩
   rw [←hT] at hgo
   replace hgo:=hid hgo
   simp (disch:=omega) [-List.reduceReplicate]
   refine ah [] 0 [] (by simp) (by simp) (by simp) (by simp) GW (by simp) fun _ _=>?_
   simp (disch:=omega) [-List.reduceReplicate,hnl]
   refine ak (fun (x:List Nat × List (List Nat))=>⟨[(0,dh nx),(5,.ref 0 n),(8,nV cnt),(9,.ptr 1 0),(10,.ref 2 n),(35,dh nx),(36,.int .i64 n),(37,nV x.1.length)],ck (cl.map nV) (aY nV n x.1) x.2⟩)
    (fun x=>x.1.length≤n∧x.2.length≤x.1.length∧(x.1=[]↔x.2=[])∧(x.1++(aB eqB (Aut.keyOf nx cl) (n - x.1.length) x.1.length x.2).1,(aB eqB (Aut.keyOf nx cl) (n - x.1.length) x.1.length x.2).2)=T)
    (fun x=>n - x.1.length) [] _ ([],[]) rfl (by simp [-List.reduceReplicate,ck,ckE,←Bh]) ⟨by simp,by simp,by simp,by simp [hT]⟩ ?_
   rintro ⟨acc,l⟩ ⟨hal,hll,hnil,hi⟩ M hM
   simp only at hal hll hnil hi
   rcases Nat.lt_or_ge acc.length n with hlt | hge
   · obtain ⟨row,hrow⟩:=ap (l:=nx) (k:=acc.length) (by omega)
     obtain ⟨hr1,hr2⟩:=hn row (List.mem_of_getElem? hrow)
     obtain ⟨c0,hc0⟩:=ap (l:=cl) (k:=acc.length) (by omega)
     have hc0v:=hcv c0 (List.mem_of_getElem? hc0)
     have hfln:=oS (f:=nV) (n:=n) (acc:=acc) (by omega)
     obtain ⟨m',hm'⟩:∃ m',n - acc.length=m' + 1:=⟨n - acc.length - 1,by omega⟩
     have hm2:n - (acc.length + 1)=m':=by omega
     rw [hm'] at hi
     simp only [aB] at hi
     replace hi:=hid hi
     have next:∀ (τ:St),τ.nrm [0,5,8,9,10,35,36,37]=⟨[(0,dh nx),(5,.ref 0 n),(8,nV cnt),(9,.ptr 1 0),(10,.ref 2 n),(35,dh nx),(36,.int .i64 n),(37,nV (acc.length + 1))],ck (cl.map nV) (aY nV n (acc++[fP eqB l (Aut.keyOf nx cl acc.length)])) (bF eqB l (Aut.keyOf nx cl acc.length))⟩→M τ:=by
      intro τ hτ
      have h3:=vV l (Aut.keyOf nx cl acc.length)
      refine hM.out τ<|Nx.mk (acc++[fP eqB l (Aut.keyOf nx cl acc.length)],bF eqB l (Aut.keyOf nx cl acc.length)) (by simpa using hτ) ⟨by simp; omega,by simp; omega,?_,?_⟩ (by simp; omega)
      · simp only [List.append_eq_nil_iff,List.cons_ne_nil,and_false,false_iff]
        unfold bF
        split
        · intro h
          rename_i h2
          rw [h] at h2
          simp [pos] at h2
        · simp
      · have:=hi.out
        rw [←this]
        simp [hm2]
     replace next:=hid next
     cases l with
     | nil=>
       have:acc=[]:=hnil.2 rfl
       subst this
       simp only [List.length_nil] at hc0 hrow
       simp (disch:=omega) [-List.reduceReplicate,ck,ckE,hrow,hc0,hcl,hfln]
       have hkey0:V.int .u16 (c0:Int)::List.replicate 95 (V.int .u16 0)=aY bG 96 [c0]:=by simp [-List.reduceReplicate,aY,bG]
       refine ak (fun (j:Nat)=>⟨[(0,dh nx),(5,.ref 0 n),(8,nV cnt),(9,.ptr 1 0),(10,.ref 2 n),(11,.int .i64 0),(13,.ptr 3 0),(35,dh nx),(36,.int .i64 n),(37,.int .i64 0),(48,bL row),(49,.int .i64 95),(50,.int .i64 j)],cjE (cl.map nV) (aY nV n []) (aY bG 96 (c0::(row.take j).map fun t=>(cl[t]?).getD 0))⟩) (fun j=>j≤95) (fun j=>95 - j) [] _ 0 rfl (by simp [-List.reduceReplicate,cjE,hr1,hkey0]) (by simp) ?_
       intro j hj P hP
       have hjl:(c0::(row.take j).map fun t=>(cl[t]?).getD 0).length=j + 1:=by simp; omega
       rcases Nat.lt_or_ge j 95 with hj95 | hj95
       · obtain ⟨t,ht⟩:=ap (l:=row) (k:=j) (by omega)
         obtain ⟨v,hv⟩:=ap (l:=cl) (k:=t) (by rw [hcl]; have:=hr2 t (List.mem_of_getElem? ht); omega)
         have hvv:=hcv v (List.mem_of_getElem? hv)
         have hsp:=sy (f:=bG) (n:=96) (acc:=c0::(row.take j).map fun t=>(cl[t]?).getD 0) (by omega) v
         have hkl:=oS (f:=bG) (n:=96) (acc:=c0::(row.take j).map fun t=>(cl[t]?).getD 0) (by omega)
         have htk:(c0::(row.take (j + 1)).map fun t=>(cl[t]?).getD 0)=(c0::(row.take j).map fun t=>(cl[t]?).getD 0)++[v]:=by rw [aS ht]; simp [hv]
         obtain ⟨ac,hac⟩:∃ ac,ac=(c0::(row.take j).map fun t=>(cl[t]?).getD 0):=⟨_,rfl⟩
         rw [←hac] at hjl hsp hkl htk ⊢
         rw [hjl] at hsp
         simp only [bG] at hsp
         have htl:t < n:=hr2 t (List.mem_of_getElem? ht)
         have hjn:(1 + (j:Int)).toNat=j + 1:=by omega
         simp (disch:=omega) [-List.reduceReplicate,cjE,ht,hv,hcl,hkl,hjl,hjn,hsp]
         exact hP.out _<|Nx.mk (j + 1) (by rw [htk]; simp [cjE]) (by omega) (by omega)
       · have hj0:j=95:=by omega
         subst hj0
         have hrt:row.take 95=row:=List.take_of_length_le (by omega)
         obtain ⟨key,hkey⟩:∃ key,key=Aut.keyOf nx cl 0:=⟨_,rfl⟩
         have hkd:(c0::row.map fun t=>(cl[t]?).getD 0)=key:=by rw [hkey,se hrow]; simp [hc0]
         rw [hrt,hkd] at hjl ⊢
         have hkf:aY bG 96 key=key.map bG:=lp hjl
         have htk:List.take 96 (key.map bG)=key.map bG:=List.take_of_length_le (by simp; omega)
         have hg:=tU (f:=nV) (n:=n) (acc:=[]) (by simp; omega)
         have hs:=tT (f:=nV) (n:=n) (acc:=[]) (by simp; omega) 0
         simp only [List.length_nil,nV] at hg hs
         rw [hkf]
         simp (disch:=omega) [-List.reduceReplicate,cjE,hjl,htk]
         refine ah [0] 1 [1,4] (by simp) (by simp) (by simp [kcV]) (by simp) (sF key hjl) (by simp) fun _ _=>?_
         replace hs:(aY nV n []).set 0 (.int .i64 0)=aY nV n [0]:=hs
         simp (disch:=omega) [-List.reduceReplicate,hg,hs,hfln]
         have e1:fP eqB ([]:List (List Nat)) key=0:=rfl
         have e2:bF eqB ([]:List (List Nat)) key=[key]:=rfl
         refine next.out _ ?_
         rw [List.length_nil,←hkey,e1,e2]
         simp [ck,ckH]
     | cons k0 l0=>
       simp (disch:=omega) [-List.reduceReplicate,ck,ckH,hrow,hc0,hcl,hfln]
       have hkey0:V.int .u16 (c0:Int)::List.replicate 95 (V.int .u16 0)=aY bG 96 [c0]:=by simp [-List.reduceReplicate,aY,bG]
       refine ak (fun (j:Nat)=>⟨[(0,dh nx),(5,.ref 0 n),(8,nV cnt),(9,.ptr 1 0),(10,.ref 2 n),(11,nV acc.length),(13,.ptr 3 0),(35,dh nx),(36,.int .i64 n),(37,nV acc.length),(48,bL row),(49,.int .i64 95),(50,.int .i64 j)],cjH (cl.map nV) (aY nV n acc) (aY bG 96 (c0::(row.take j).map fun t=>(cl[t]?).getD 0)) (k0::l0)⟩) (fun j=>j≤95) (fun j=>95 - j) [] _ 0 rfl (by simp [-List.reduceReplicate,cjH,hr1,hkey0]) (by simp) ?_
       intro j hj P hP
       have hjl:(c0::(row.take j).map fun t=>(cl[t]?).getD 0).length=j + 1:=by simp; omega
       rcases Nat.lt_or_ge j 95 with hj95 | hj95
       · obtain ⟨t,ht⟩:=ap (l:=row) (k:=j) (by omega)
         obtain ⟨v,hv⟩:=ap (l:=cl) (k:=t) (by rw [hcl]; have:=hr2 t (List.mem_of_getElem? ht); omega)
         have hvv:=hcv v (List.mem_of_getElem? hv)
         have hsp:=sy (f:=bG) (n:=96) (acc:=c0::(row.take j).map fun t=>(cl[t]?).getD 0) (by omega) v
         have hkl:=oS (f:=bG) (n:=96) (acc:=c0::(row.take j).map fun t=>(cl[t]?).getD 0) (by omega)
         have htk:(c0::(row.take (j + 1)).map fun t=>(cl[t]?).getD 0)=(c0::(row.take j).map fun t=>(cl[t]?).getD 0)++[v]:=by rw [aS ht]; simp [hv]
         obtain ⟨ac,hac⟩:∃ ac,ac=(c0::(row.take j).map fun t=>(cl[t]?).getD 0):=⟨_,rfl⟩
         rw [←hac] at hjl hsp hkl htk ⊢
         rw [hjl] at hsp
         simp only [bG] at hsp
         have htl:t < n:=hr2 t (List.mem_of_getElem? ht)
         have hjn:(1 + (j:Int)).toNat=j + 1:=by omega
         simp (disch:=omega) [-List.reduceReplicate,cjH,ht,hv,hcl,hkl,hjl,hjn,hsp]
         exact hP.out _<|Nx.mk (j + 1) (by rw [htk]; simp [cjH]) (by omega) (by omega)
       · have hj0:j=95:=by omega
         subst hj0
         have hrt:row.take 95=row:=List.take_of_length_le (by omega)
         obtain ⟨key,hkey⟩:∃ key,key=Aut.keyOf nx cl acc.length:=⟨_,rfl⟩
         have hkd:(c0::row.map fun t=>(cl[t]?).getD 0)=key:=by rw [hkey,se hrow]; simp [hc0]
         rw [hrt,hkd] at hjl ⊢
         have hkf:aY bG 96 key=key.map bG:=lp hjl
         have htk:List.take 96 (key.map bG)=key.map bG:=List.take_of_length_le (by simp; omega)
         have hg:=tU (f:=nV) (n:=n) (acc:=acc) (by omega)
         have hs:=tT (f:=nV) (n:=n) (acc:=acc) (by omega) (fP eqB (k0::l0) key)
         simp only [nV] at hg hs
         rw [hkf]
         simp (disch:=omega) [-List.reduceReplicate,cjH,hjl,htk]
         refine ah [0] 1 [1,4,5] (by simp) (by simp) (by simp [kcV]) (by simp) (z8 (k0::l0) key (by omega) hjl) (by simp) fun _ _=>?_
         simp (disch:=omega) [-List.reduceReplicate,hg,hs,hfln]
         refine next.out _ ?_
         rw [←hkey]
         obtain ⟨k1,l1,hkl1⟩:∃ k1 l1,bF eqB (k0::l0) key=k1::l1:=by unfold bF; split<;>exact ⟨_,_,rfl⟩
         simp [ck,ckH,hkl1]
   · have hacc:acc.length=n:=by omega
     have h00:n - acc.length=0:=by omega
     rw [h00] at hi
     simp only [aB,List.append_nil] at hi
     have hne:l≠[]:=fun h=>by have:=hnil.2 h; subst this; simp at hacc; omega
     obtain ⟨k1,lr,rfl⟩:∃ k1 lr,l=k1::lr:=by cases l with | nil=>exact absurd rfl hne | cons a b=>exact ⟨a,b,rfl⟩
     have hff:aY nV n acc=acc.map nV:=lp hacc
     have hgo:=hgo.out
     rw [←hi] at hgo
     simp only at hgo
     split at hgo
     · rename_i heq
       simp only [Option.some.injEq] at hgo
       subst hgo
       have hce:(lr.length:Int) + 1=cnt:=by simp at heq; omega
       simp (disch:=omega) [-List.reduceReplicate,ck,ckH,hacc,hff,hce,hR]
       exact iK (fun _=>rfl) acc
     · rename_i hne2
       have hce:¬((lr.length:Int) + 1=cnt):=by simp at hne2; omega
       have hlen2:=qz (e:=eqB) (Aut.keyOf nx cl) n 0 []
       have hltv:=fun v=>wu (e:=eqB) b6 (Aut.keyOf nx cl) n [] 0 (v:=v)
       rw [←hT,←hi] at hlen2
       rw [←hT,←hi] at hltv
       simp only [List.length_nil,Nat.zero_add] at hlen2
       simp (disch:=omega) [-List.reduceReplicate,ck,ckH,hacc,hff,hce]
       exact hN.out _<|Nx.mk (f,acc,(k1::lr).length) (by simp) ⟨hacc,fun v hv=>by have:=hltv v hv; simp only at this; omega,hgo⟩ (by simp)
 · have hak:(bs.take k).length=k:=by simp; omega
   have hbx:bs[k]?=some (b01 x):=by simp [hbs,hx]
   have hl:=oS (f:=nV) (n:=n) (acc:=bs.take k) (by omega)
   have hg:=tU (f:=nV) (n:=n) (acc:=bs.take k) (by omega)
   have hs:=tT (f:=nV) (n:=n) (acc:=bs.take k) (by omega)
   rw [hak] at hg hs
   have h1:=hs (b01 x)
   rw [←aS hbx] at h1
   simp only [nV] at hg
   simp (disch:=omega) [-List.reduceReplicate,hx]
   refine BrK.mk (fun h=>?_) (fun h=>?_)
   · subst h
     replace h1:(aY nV n (bs.take k)).set k (.int .i64 1)=aY nV n (bs.take (k + 1)):=h1
     simp (disch:=omega) [-List.reduceReplicate,hg,hl,h1]
     exact hN.out _<|Nx.mk (k + 1) (by simp) (by omega) (by omega)
   · subst h
     simp (disch:=omega) [-List.reduceReplicate]
     refine hN.out _<|Nx.mk (k + 1) (by rw [aS hbx,show b01 false=0 from rfl,GH (by omega)]; simp) (by omega) (by omega)
end Go.Abs
end
section
set_option maxHeartbeats 1000000
set_option maxRecDepth 100000
namespace Go.Abs
open Go.Proofs Go.Aut
attribute [-simp] getElem?_pos Option.not_isSome List.map_map
def chDK (Φ:Ctr) (d:Option Nat) (f:FuncId) (σ:St) (K:St→Prop) (vs:List V):Prop:=oB Φ d f vs K σ
theorem MI {Φ:Ctr} {d:Option Nat} {f:FuncId} {σ:St} {K:St→Prop} {vs:List V}:chDK Φ d f σ K vs=oB Φ d f vs K σ:=propext Iff.rfl
theorem M7 {Φ:Ctr} {d:Option Nat} {f:FuncId} {σ:St} {K:St→Prop} {xs:List AO}:ag Φ d (.callH f xs) K σ=oM (σ.evs xs) (chDK Φ d f σ K):=by
 simp only [ag,oM]
 cases σ.evs xs<;>rfl
attribute [simp] MI M7
theorem d5 {Φ:Ctr} {σ:St} {K:St→Prop} {d:Option Nat} (ps:List Nat) (q:Nat) (m:List Nat) {f:FuncId} {vs us:List V} {H H':List (Option Ob)} {r:V} (hc:σ.curs (bH vs ps)=true) (hl:dY σ.h (bH vs ps) vs=(q,m)) (hu:cW m vs=us) (hH:fD σ.h m m=H)
 (h:Φ.e f ps us H r H') (hk:kin q H H'=true) (k:Rt σ d K q m r H'):oB Φ d f vs K σ:=by
 refine ⟨ps,hc,r,H',?_,?_,?_⟩
 · rw [hl,hH]; exact hk
 · rw [hl,hu,hH]; exact h
 · rw [hl]; exact k
def fh {α:Type} (f:α→V) (d:α) (n:Nat) (acc:List α):List V:=(acc++List.replicate (n - acc.length) d).map f
section
variable {α:Type} {f:α→V} {d:α} {n:Nat} {acc:List α}
theorem tR (h:acc.length≤n):(fh f d n acc).length=n:=by simp [fh]; omega
theorem ES (h:acc.length < n):fh f d n acc=acc.map f++f d::(List.replicate (n - (acc.length + 1)) d).map f:=by
 obtain ⟨m,hm⟩:∃ m,n - acc.length=m + 1:=⟨n - acc.length - 1,by omega⟩
 have h2:n - (acc.length + 1)=m:=by omega
 simp only [fh,hm,h2,List.replicate_succ,List.map_append,List.map_cons]
theorem GG (k:α):fh f d n (acc++[k])=acc.map f++f k::(List.replicate (n - (acc.length + 1)) d).map f:=by
 simp [fh]
theorem tP (h:acc.length < n) (k:α):(fh f d n acc).set acc.length (f k)=fh f d n (acc++[k]):=by
 rw [ES h,GG,List.set_append_right _ _ (by simp)]
 simp
theorem tS (h:acc.length < n):(fh f d n acc)[acc.length]?=some (f d):=by
 rw [ES h,List.getElem?_append_right (by simp)]
 simp
theorem rb (h:acc.length=n):fh f d n acc=acc.map f:=by simp [fh,h]
theorem tQ:List.replicate n (f d)=fh f d n []:=by simp [fh]
end
theorem ta {K:Type} [DecidableEq K] {step:K→Nat→K} {start:K} {most:Nat} {l:List K} {rows:List (List Nat)} {D:K→Prop} (hD:∀ q c,D q→c < 95→D (step q c)) (h0:D start) (h:um eqB step start most=some (l,rows)):
 rows.length=l.length∧0 < l.length∧l[0]?=some start∧(∀ q∈l,D q)∧wq l.length rows∧l.Nodup:=by
 obtain ⟨h3,t,h4⟩:=iP b6 hD _ _ _ _ _ _ (kQ h0) h
 have hpos:0 < l.length:=by rw [h4]; simp
 refine ⟨h3.len,hpos,by simp [h4],h3.dom,?_,er h3.apart⟩
 have:=(ru (good:=fun _=>true) h3 hpos).1.rows
 simpa [Aut.n,h3.len] using this
theorem GZ {a:Aut} (ha:a.ok) (hn:a.n≤10000) {b:Aut} (hb:EL a.next a.final=some b):Fn Tryz.prog Gb [dh a.next,C6 a.final] (.strct (Aut.c b)):=by
 refine Fn.of_imageE mixed Gy Gr rfl fun ho=>?_
 unfold yi
 simp only [oks,ok,and_true] at ho
 clear ho
 unfold EL at hb
 split at hb
 · cases hb
 rename_i list nx hw
 split at hb
 · cases hb
 rename_i cls hc
 split at hb
 · cases hb
 rename_i l2 rows hw2
 simp only [Option.some.injEq] at hb
 subst hb
 obtain ⟨hl1,hl2,hl3,hl4,hl5,hl6⟩:=ta (D:=fun q=>q < a.n) (fun q c hq hc=>ha.lt hq hc) ha.pos hw
 have hnl:a.next.length=a.n:=rfl
 have hln:=cA a.n list hl6 hl4
 have hfl:a.final.length=a.n:=ha.fin
 obtain ⟨ends,hends⟩:∃ ends,ends=list.map (fin a.final):=⟨_,rfl⟩
 have hel:ends.length=list.length:=by simp [hends]
 rw [←hends] at hc ⊢
 obtain ⟨m,hm⟩:∃ m,m=list.length:=⟨_,rfl⟩
 rw [←hm] at hl1 hl2 hl5 hln hel hw2 ⊢
 obtain ⟨o,ho⟩:∃ o,o=yB 0 cls (List.replicate m 0):=⟨_,rfl⟩
 rw [←ho] at hw2 ⊢
 obtain ⟨R,hR⟩:∃ R,R=V.strct (Aut.c ⟨rows,l2.map fun c=>fin ends (aH o c)⟩):=⟨_,rfl⟩
 rw [←hR]
 simp (disch:=omega) [-List.reduceReplicate,hnl]
 refine ah [1] 1 [0] (by simp) (by simp) (by simp) (by simp) (zU a.next a.n ha.rows rfl a.n (by omega) 0 ha.pos list nx hw) (by simp) fun _ _=>?_
 simp (disch:=omega) [-List.reduceReplicate,hnl,←hm,hl1]
 refine ak (fun (k:Nat)=>⟨[(1,C6 a.final),(2,.ptr 0 0),(4,.ptr 1 0),(5,.ref 2 m),(7,.ref 3 m),(30,.ref 2 m),(31,.int .i64 m),(32,.int .i64 k)],[some (.box [.ref 4 m]),some (.box [.nil 1,.nil 1]),some (.arr aw 1 (list.map nV)),some (.arr bw 1 (fh V.bool false m (ends.take k))),some (.arr aD 1 (nx.map bL))]⟩)
  (fun k=>k≤m) (fun k=>m - k) [] _ 0 rfl (by simp [-List.reduceReplicate,←tQ,←hm,hl1]) (by simp) ?_
 intro k hk N hN
 rcases Nat.lt_or_ge k m with hlt | hge
 · obtain ⟨q,hq⟩:=ap (l:=list) (k:=k) (by omega)
   have hqn:=hl4 q (List.mem_of_getElem? hq)
   obtain ⟨b,hb⟩:=ap (l:=a.final) (k:=q) (by omega)
   have he:ends[k]?=some b:=by simp [hends,hq,fin,hb]
   have hak:(ends.take k).length=k:=by simp; omega
   have hl:=tR (f:=V.bool) (d:=false) (n:=m) (acc:=ends.take k) (by omega)
   have hg:=tS (f:=V.bool) (d:=false) (n:=m) (acc:=ends.take k) (by omega)
   have hs:=tP (f:=V.bool) (d:=false) (n:=m) (acc:=ends.take k) (by omega) b
   rw [hak] at hg hs
   rw [←aS he] at hs
   simp (disch:=omega) [-List.reduceReplicate,hq,hb,hg,hs,hl,←hm]
   exact hN.out _<|Nx.mk (k + 1) (by simp) (by omega) (by omega)
 · have hkm:k=m:=by omega
   subst hkm
   have ht:ends.take k=ends:=List.take_of_length_le (by omega)
   have hff:fh V.bool false k ends=ends.map V.bool:=rb hel
   clear hN
   simp (disch:=omega) [-List.reduceReplicate,ht,hff,←hm]
   have hbok:(Aut.mk nx ends).ok:=⟨by simp only [Aut.n]; omega,by simp only [Aut.n]; omega,by simp only [Aut.n]; rw [hl1]; exact hl5⟩
   have hC:IsCls ⟨nx,ends⟩ cls:=by
    obtain ⟨cls',h1,h2⟩:=p4 hbok
    rw [show n0 nx ends=some cls from hc] at h1
    cases h1
    exact h2
   have hcl:cls.length=k:=by rw [hC.len]; exact hl1
   have hcm:∀ v∈cls,v < k:=fun v hv=>by have:=hC.lt v hv; simp only [Aut.n] at this; omega
   refine s9 (Af nx ends k hl5 hl1 hl2 (by omega) hel cls hc) fun _=>?_
   simp (disch:=omega) [-List.reduceReplicate,←hm]
   refine ak (fun (x:Nat × List Nat)=>⟨[(2,.ptr 0 0),(4,.ptr 1 0),(7,.ref 2 k),(10,.ptr 3 0),(11,.ptr 4 0),(51,bL cls),(52,.int .i64 k),(53,nV x.1)],[some (.box [.ref 5 k]),some (.box [.nil 1,.nil 1]),some (.arr bw 1 (ends.map V.bool)),some (.box [bL cls]),some (.box [.ref 6 k]),some (.arr aD 1 (nx.map bL)),some (.arr aw 1 (x.2.map nV))]⟩)
    (fun x=>x.1≤k∧x.2.length=k∧yB x.1 (cls.drop x.1) x.2=o) (fun x=>k - x.1) [] _ (0,List.replicate k 0) rfl (by simp [-List.reduceReplicate,hcl]) ⟨by simp,by simp,by simp [ho]⟩ ?_
   rintro ⟨j,oo⟩ ⟨hj,hol,hi⟩ N hN
   simp only at hj hol hi
   rcases place cls j (by omega) with ⟨he,hd⟩ | ⟨hlt,c,hx,hd⟩<;>rw [hd] at hi
   · simp only [yB] at hi
     clear hN
     subst hi
     obtain ⟨c0,hc0⟩:=ap (l:=cls) (k:=0) (by omega)
     have hst:∀ c s,c∈cls→s < 95→∃ t,aH cls (dl nx (aH oo c) s)=t∧t∈cls∧FnH Tryz.prog cN [2,3,4] [nV c,nV s,.ptr 0 0,.ptr 1 0,.ptr 2 0] (f2H cls nx oo) (nV t) (f2H cls nx oo):=by
      intro c s hcc hs
      obtain ⟨p,hp1,hp2⟩:=oQ cls (List.replicate k 0) cls 0 (fun j c hj=>by simpa using hj) (fun c hc=>by have:=hcm c hc; simp; omega) c (.inl hcc)
      rw [←ho] at hp1
      have hpl:=(List.getElem?_eq_some_iff.1 hp2).1
      obtain ⟨r,x,g1,g2,g3,g4⟩:=hl5.dl (q:=p) (c:=s) (by omega) hs
      obtain ⟨y,hy⟩:=ap (l:=cls) (k:=x) (by omega)
      refine ⟨y,?_,List.mem_of_getElem? hy,Dl hp1 g1 g2 hy⟩
      rw [show aH oo c=p by simp [aH,hp1],g3]
      simp [aH,hy]
     have hc0m:=List.mem_of_getElem? hc0
     have hg0:aH cls 0=c0:=by simp [aH,hc0]
     rw [hg0] at hw2
     obtain ⟨gl1,gl2,gl3,gl4,gl5,gl6⟩:=ta (D:=fun c=>c∈cls) (fun q c hq hc=>by obtain ⟨t,h1,h2,_⟩:=hst q c hq hc; rw [h1]; exact h2) hc0m hw2
     have hl2n:=cA k l2 gl6 fun x hx=>hcm x (gl4 x hx)
     simp (disch:=omega) [-List.reduceReplicate,he,hol,hcl,hc0]
     refine d5 [1] 3 [3,0,4,5,6] (by simp) (by simp) (by simp [hol]) (by simp [hl1,hol]) (zT cls nx oo _ (fun c=>c∈cls) hst k (by omega) c0 hc0m l2 rows hw2) (by simp) ?_
     simp (disch:=omega) [-List.reduceReplicate,hol]
     refine ak (fun (t:Nat)=>⟨[(4,.ptr 0 0),(7,.ref 1 k),(11,.ptr 2 0),(16,.ptr 3 0),(76,.ref 4 l2.length),(77,.int .i64 l2.length),(78,nV t)],[some (.box [.nil 1,.nil 1]),some (.arr bw 1 (ends.map V.bool)),some (.box [.ref 5 k]),some (.box [.ref 6 rows.length,.ref 7 t]),some (.arr aw 1 (l2.map nV)),some (.arr aw 1 (oo.map nV)),some (.arr aD 1 (rows.map bL)),some (.arr bw 1 (((l2.take t).map fun c=>fin ends (aH oo c)).map V.bool))]⟩)
      (fun t=>t≤l2.length) (fun t=>l2.length - t) [.b 11 1 bw 1] _ 0 (by simp; rfl) (by simp) (by simp) ?_
     intro t ht N hN
     rcases place l2 t ht with ⟨he2,hd2⟩ | ⟨hlt2,c,hc2,hd2⟩
     · have htk:l2.take t=l2:=List.take_of_length_le (by omega)
       subst he2
       simp (disch:=omega) [-List.reduceReplicate,htk,hR]
       rfl
     · have hcc:=gl4 c (List.mem_of_getElem? hc2)
       obtain ⟨p,hp1,hp2⟩:=oQ cls (List.replicate k 0) cls 0 (fun j c hj=>by simpa using hj) (fun c hc=>by have:=hcm c hc; simp; omega) c (.inl hcc)
       rw [←ho] at hp1
       have hpl:=(List.getElem?_eq_some_iff.1 hp2).1
       have hcl2:=(List.getElem?_eq_some_iff.1 hp1).1
       obtain ⟨b,hb⟩:=ap (l:=ends) (k:=p) (by omega)
       have hfb:fin ends (aH oo c)=b:=by simp [aH,hp1,fin,hb]
       have hsn:=aS hc2
       have htl:(l2.take t).length=t:=by simp; omega
       simp (disch:=omega) [-List.reduceReplicate,hc2,hol,hp1,hel,hb,htl]
       exact hN.out _<|Nx.mk (t + 1) (by rw [hsn]; simp [hfb]) (by omega) (by omega)
   · simp only [yB] at hi
     have hck:=hcm c (List.mem_of_getElem? hx)
     obtain ⟨y,hy⟩:=ap (l:=oo) (k:=c) (by omega)
     replace hi:=hid hi
     simp (disch:=omega) [-List.reduceReplicate,hx,hol,hy,hcl]
     exact hN.out _<|Nx.mk (j + 1,oo.set c j) (by simp) ⟨by simp only; omega,by simp [hol],hi.out⟩ (by simp only; omega)
end Go.Abs
end
