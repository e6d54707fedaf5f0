/-
  What strainerref09's matching tells: tables of truth values. No condition.
  What strainerref09's step and Match tell: which places a part leads to. No condition.
  What strainerref09's Match tells. No condition.
  What strainerref09's parser makes: its small functions. No condition.
  What strainerref09's class makes: a set of signs. No condition.
  What strainerref09's parser makes: atoms, pieces, branches. No condition.
  What strainerref09's Parse and strainerref12's Allows answer. No condition.
  What a guard allows is not dangerous: the plain law, and what strainerlaw21's lives answers. No condition.
-/
import Derived.Test.YthficpngadcpgaaGreatDoorPF1
import Derived.KernelRfl
set_option linter.unusedVariables false
set_option linter.unusedSimpArgs false
set_option linter.unusedSectionVars false
section
set_option maxHeartbeats 4000000
set_option maxRecDepth 100000
namespace Go.Abs.F
open Go.Proofs
attribute [-simp] getElem?_pos Option.not_isSome
def tab {α:Type} (n:Nat) (F:Nat→α):List α:=(List.range n).map F
section
variable {α β:Type} {n i:Nat} {F G:Nat→α}
theorem y6:(tab n F).length=n:=by simp [tab]
theorem y7 (h:i < n):(tab n F)[i]?=some (F i):=by simp only [tab,List.getElem?_map,List.getElem?_range h,Option.map_some]
theorem IC (h:n≤i):(tab n F)[i]?=none:=by rw [List.getElem?_eq_none]; rw [y6]; exact h
theorem y5 {x:α}:(tab n F).set i x=tab n (fun j=>if j=i then x else F j):=by
 apply List.ext_getElem?
 intro j
 rw [List.getElem?_set,y6]
 by_cases h:j < n
 · rw [y7 h,y7 h]
   by_cases hj:i=j
   · subst hj; simp [h]
   · rw [if_neg hj,if_neg (fun e=>hj e.symm)]
 · rw [IC (by omega),IC (by omega)]
   split<;>simp_all
theorem xM (h:∀ i,i < n→F i=G i):tab n F=tab n G:=by
 unfold tab
 exact List.map_congr_left fun i hi=>h i (by simpa using hi)
theorem LU {x:α}:List.replicate n x=tab n (fun _=>x):=by rw [tab,List.map_const',List.length_range]
theorem LW {g:α→β}:(tab n F).map g=tab n (fun i=>g (F i)):=by simp [tab]
end
attribute [simp] y6 y7 y5 LW
def r7 (n:Nat) (f:Nat→Bool):List V:=tab n fun k=>.bool (f k)
def matV (n:Nat) (f:Nat→Nat→Bool):V:=.seq 1 (tab n fun i=>.seq 1 (r7 n (f i)))
theorem I8 {n k:Nat} {f:Nat→Bool} (h:k < n):(r7 n f)[k]?=some (.bool (f k)):=by simp [r7,h]
theorem I7 {n:Nat} {f:Nat→Bool}:(r7 n f).length=n:=by simp [r7]
def sub (k:Nat) (b:Bool) (f:Nat→Bool) (j:Nat):Bool:=if j=k then b else f j
theorem I5 {n k:Nat} {f:Nat→Bool} {b:Bool}:(r7 n f).set k (.bool b)=r7 n (sub k b f):=by
 simp only [r7,y5]
 exact xM fun j _=>by unfold sub; split<;>rfl
theorem I6 {n:Nat}:List.replicate n (V.bool false)=r7 n (fun _=>false):=by simp [r7,LU]
theorem Gk {n:Nat} {f:Nat→Bool}:cw (r7 n f)=true:=by
 unfold r7 tab
 induction List.range n with
 | nil=>rfl
 | cons x l ih=>simp [cw,b7,ih]
attribute [simp] I8 I7 I5 I6 Gk
def G9 (n i:Nat) (R:Nat→List V):List (List V):=tab n fun j=>if j < i then R j else []
def oS (n i:Nat) (R:Nat→List V) (r:List V):List (List V):=tab n fun j=>if j=i then r else if j < i then R j else []
theorem JQ {n i:Nat} {R:Nat→List V}:(G9 n i R).length=n:=by simp [G9]
theorem Gd {n i:Nat} {R:Nat→List V} {r:List V}:(oS n i R r).length=n:=by simp [oS]
theorem JR {n i:Nat} {R:Nat→List V} (h:i < n):(G9 n i R)[i]?=some []:=by simp [G9,h]
theorem Ge {n i:Nat} {R:Nat→List V} {r:List V} (h:i < n):(oS n i R r)[i]?=some r:=by simp [oS,h]
theorem JP {n i:Nat} {R:Nat→List V} {r:List V}:(G9 n i R).set i r=oS n i R r:=by simp [G9,oS]
theorem Gc {n i:Nat} {R:Nat→List V} {r s:List V}:(oS n i R r).set i s=oS n i R s:=by
 simp only [oS,y5]
 exact xM fun j _=>by by_cases h:j=i<;>simp [h]
attribute [simp] JQ Gd JR Ge JP Gc
def jo (f g:Nat→Nat→Bool) (i m c:Nat):Bool:=(List.range m).any fun x=>decide (x≤c) && (f i x && g x c)
structure Part where
 op:Nat
 set:List Bool
 l:List Nat
def sgn (c:UInt8):Bool:=decide (32≤c.toNat) && decide (c.toNat≤126)
def base (p:Part) (s:Str) (i:Nat):Nat→Bool:=
 match s[i]? with
 | some c=>if p.op=115∧sgn c=true then sub (i + 1) ((p.set[c.toNat - 32]?).getD false) (sub i (decide (p.op=116) || decide (p.op=109)) fun _=>false) else sub i (decide (p.op=116) || decide (p.op=109)) fun _=>false
 | none=>sub i (decide (p.op=116) || decide (p.op=109)) fun _=>false
abbrev Tab:=Nat→Nat→Bool
def both1 (f g:Tab):Tab:=fun i k=>f i k || g i k
def jon (n:Nat) (f g:Tab):Tab:=fun i k=>jo f g i n k
def star (n:Nat) (g:Tab):Nat→Tab→Tab
 | 0,f=>f
 | t + 1,f=>star n g t (both1 f (jon n f g))
def kid (n op:Nat) (f g:Tab):Tab:=if op=111 then both1 f g else if op=116 then jon n f g else if op=109 then star n g n f else f
def kidT (n op:Nat) (tabs:List Tab):Tab→List Nat→Tab
 | f,[]=>f
 | f,x::l=>kidT n op tabs (kid n op f ((tabs[x]?).getD fun _ _=>false)) l
def stepT (p:Part) (s:Str) (tabs:List Tab):Tab  :=kidT (s.length + 1) p.op tabs (base p s) p.l
@[simp high] theorem cl_matV {n:Nat} {f:Tab}:cl (matV n f)=[matV n f]:=rfl
def tabsGo (s:Str):List Tab→List Part→List Tab
 | acc,[]=>acc
 | acc,p::ps=>tabsGo s (acc++[stepT p s acc]) ps
def matchT (parts:List Part) (k:Nat) (s:Str):Bool:=(((tabsGo s [] (parts.take (k + 1)))[k]?).getD fun _ _=>false) 0 s.length
def Wf (parts:List Part):Prop:=parts.length≤1000∧∀ (i:Nat) (p:Part),parts[i]?=some p→(∀ x∈p.l,x < i)∧(p.op=115→p.set.length=95)∧p.l.length≤1000
structure PS where
 n:List Part
 s:Str
 at':Nat
 bad:Bool
def isP (p:PS) (c:Nat):Bool:=match p.s[p.at']? with
 | some b=>decide (b.toNat=c)
 | none=>false
def Ky (c:Nat) (l:Str):Bool:=l.any fun b=>decide (b.toNat=c)
def vD (p:PS) (x:Part):PS:={ p with n:=p.n++[x] }
def tB (p:PS) (odd:Str):PS × Nat:=
 let q:PS:=if isP p 92 then { p with at':=p.at' + 1 } else p
 match q.s[q.at']? with
 | some c=>if sgn c && (isP p 92 || !Ky c.toNat odd) then ({ q with at':=q.at' + 1 },c.toNat) else ({ q with bad:=true },32)
 | none=>({ q with bad:=true },32)
def IW (set:List Bool) (low high:Nat):Nat→Bool:=fun i=>((set[i]?).getD false) || (decide (low≤i + 32) && decide (i + 32≤high))
def k8 (p:PS):PS:={ p with at':=p.at' + 1 }
def Py (p:PS):PS:={ p with bad:=true }
def odd4:Str:=[92,93,45,94]
def vn (p:PS):PS × Nat:=tB p odd4
def s4 (p:PS):PS × Nat:=if isP (vn p).1 45 then tB (k8 (vn p).1) odd4 else vn p
def clsP (p:PS):PS:=if (s4 p).2 < (vn p).2 then Py (s4 p).1 else (s4 p).1
def Pq (p:PS) (set:List Bool):List Bool:=if (clsP p).bad then set else tab 95 (IW set (vn p).2 (s4 p).2)
def lim (p:PS):Bool:=decide (p.at'≤1000) && (decide (p.n.length≤900) && decide (p.s.length≤1000))
def FF:Nat→PS→List Bool→Nat→Option (PS × List Bool)
 | 0,_,_,_=>none
 | fuel + 1,p,set,n=>if lim p then (if !p.bad && (decide (n=0) || !isP p 93) then FF fuel (clsP p) (Pq p set) (n + 1) else some (p,set)) else none
def Pr (fuel:Nat) (p:PS):Option (PS × Nat):=
 match FF fuel (if isP p 94 then k8 p else p) [] 0 with
 | some (q,set)=>some (vD (k8 (if isP q 93 then q else Py q)) ⟨115,tab 95 (fun i=>(((set[i]?).getD false) != isP p 94)),[]⟩,q.n.length)
 | none=>none
def O0:Str:=[92,40,41,91,93,124,42,43,63,46]
def goes (p:PS):Bool:=!p.bad && (match p.s[p.at']? with
 | some b=>!Ky b.toNat [124,41]
 | none=>false)
def sO:Nat→PS→Nat→Option (PS × Nat)
 | 0,_,_=>none
 | f + 1,q,k=>if lim q then (if q.bad || (!isP q 42 && (!isP q 43 && !isP q 63)) then some (q,k)
     else if isP q 63 then sO f (vD (vD (k8 q) ⟨116,[],[]⟩) ⟨111,[],[k,q.n.length]⟩) (q.n.length + 1)
     else if isP q 43 then sO f (vD (vD (k8 q) ⟨109,[],[k]⟩) ⟨116,[],[k,q.n.length]⟩) (q.n.length + 1)
     else sO f (vD (k8 q) ⟨109,[],[k]⟩) q.n.length) else none
mutual
def atomF:Nat→PS→Option (PS × Nat)
 | 0,_=>none
 | f + 1,p=>if lim p then (if isP p 40 then (match yO f (k8 p) with
       | some (q,k)=>if lim q then some (k8 (if isP q 41 then q else Py q),k) else none
       | none=>none)
     else if isP p 46 then some (vD (k8 p) ⟨115,tab 95 (IW [] 32 126),[]⟩,p.n.length)
     else if isP p 91 then Pr f (k8 p)
     else some (vD (tB p O0).1 ⟨115,tab 95 (IW [] (tB p O0).2 (tB p O0).2),[]⟩,p.n.length)) else none
def OP:Nat→PS→Option (PS × Nat)
 | 0,_=>none
 | f + 1,p=>match atomF f p with
   | some (q,k)=>sO f q k
   | none=>none
def Nw:Nat→PS→List Nat→Option (PS × List Nat)
 | 0,_,_=>none
 | f + 1,p,own=>if lim p && decide (own.length≤900) then (if goes p then (match OP f p with
     | some (q,k)=>Nw f q (own++[k])
     | none=>none) else some (p,own)) else none
def brGo:Nat→PS→List Nat→Option (PS × Nat)
 | 0,_,_=>none
 | f + 1,p,l=>if decide (l.length≤900) then (match Nw f p [] with
   | some (q,own)=>if q.bad || !isP q 124 then some (vD (vD q ⟨116,[],own⟩) ⟨111,[],l++[q.n.length]⟩,q.n.length + 1)
      else brGo f (k8 (vD q ⟨116,[],own⟩)) (l++[q.n.length])
   | none=>none) else none
def yO:Nat→PS→Option (PS × Nat)
 | 0,_=>none
 | f + 1,p=>brGo f p []
end
def parseF (s:Str):Option (List Part × Nat):=match yO 200 ⟨[],s,0,false⟩ with
 | some (q,k)=>if !q.bad && (decide (q.at'=s.length) && decide (q.at'≤1000)) then some (q.n,k) else none
 | none=>none
def wfB:Nat→List Part→Bool
 | _,[]=>true
 | i,p::l=>p.l.all (fun x=>decide (x < i)) && ((!decide (p.op=115) || decide (p.set.length=95)) && (decide (p.l.length≤1000) && wfB (i + 1) l))
def rxB (s:Str):Bool:=decide (s.length≤60) && match parseF s with
 | some (ps,k)=>wfB 0 ps && (decide (ps.length≤1000) && decide (k < ps.length))
 | none=>false
def rxM (s v:Str):Bool:=match parseF s with
 | some (ps,k)=>matchT ps k v
 | none=>false
def allows12 (c:Constraint) (v:Str):Bool:=
 v.all sign && (decide (c.kind=1) || ((decide (c.kind=2) && hasS c.words v) || ((decide (c.kind=3) && (!(cutB v 58).2.2 || hasS c.words (cutB v 58).1)) || (decide (c.kind=4) && rxM c.regex v))))
end Go.Abs.F
end
section
set_option maxHeartbeats 4000000
set_option maxRecDepth 100000
namespace Go.Abs.F
open Go.Proofs
attribute [-simp] getElem?_pos Option.not_isSome List.map_map
theorem Cs:∀ {l:List Str} {s:Str},hasS l s=true↔s∈l
 | [],s=>by simp [hasS]
 | x::l,s=>by
   simp only [hasS,List.mem_cons]
   split
   · rename_i h; simp [h]
   · rename_i h
     rw [Cs]
     exact ⟨.inr,fun h'=>h'.resolve_left (fun e=>h e.symm)⟩
def EK (e:Allowed):Prop:=e.kids.length≤8∧∃ l,e.rules=fZ l
theorem vd:∀ (l out:List Allowed) (i:Nat),(∀ e∈out,EK e)→∀ e∈ip i out l,EK e
 | [],out,i,h=>by simpa [ip] using h
 | x::l,out,i,h=>by
   simp only [ip]
   split
   · exact vd l out _ h
   · refine vd l _ _ fun e he=>?_
     rcases List.mem_append.1 he with he | he
     · exact h e he
     · simp at he; subst he; exact ⟨by simp,x.rules,rfl⟩
theorem Dz {els:List Allowed} (k:Nat) (own:List Str) (h:∀ e∈els,EK e):∀ e∈dH els k own,EK e:=by
 intro e he
 unfold dH at he
 split at he
 · rename_i x hx
   rcases List.mem_or_eq_of_mem_set he with he | he
   · exact h e he
   · subst he
     exact ⟨rC _ _ _,(h x (List.mem_of_getElem? hx)).2⟩
 · exact h e he
theorem yo:∀ (l els:List Allowed) (k:Nat),(∀ e∈els,EK e)→∀ e∈dK k els l,EK e
 | [],els,k,h=>by simpa [dK] using h
 | x::l,els,k,h=>by
   simp only [dK]
   exact yo l _ _ (Dz k x.kids h)
theorem uj:∀ (l els:List Allowed) (k:Nat),(dK k els l).length=els.length
 | [],els,k=>by simp [dK]
 | x::l,els,k=>by simp only [dK]; rw [uj l,Bq]
theorem uS (p:Policy):∀ e∈(bF p).elements,EK e:=by
 unfold bF
 exact yo _ _ _ (vd _ _ _ (by simp))
theorem El (p:Policy):(bF p).few:=by
 have h1:(bF p).elements.length≤5:=by
  have:=mJ (p.elements.take 5) [] 0
  simp only [bF,uj]
  simp at this; omega
 refine ⟨?_,by omega,fun e he=>?_⟩
 · have:=rC ⟨[],(bF p).elements,[]⟩ [] p.top
   simp only [bF] at this ⊢
   omega
 · obtain ⟨h2,l,h3⟩:=uS p e he
   have:=Bx l
   rw [h3]; omega
end Go.Abs.F
end
