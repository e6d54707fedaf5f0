/-
  What strainerref09's matching tells: tables of truth values. No condition.
  What strainerref09's step and Match tell: which places a part leads to. No condition.
  What strainerref09's Match tells. No condition.
  What strainerref09's parser makes: its small functions. No condition.
  What strainerref09's class makes: a set of signs. No condition.
  What strainerref09's parser makes: atoms, pieces, branches. No condition.
  What strainerref09's Parse and strainerref12's Allows answer. No condition.
  What a guard allows is not dangerous: the plain law, and what strainerlaw21's lives answers. No condition.
-/
import Derived.Test.YtloaikaippankaaGreatDoorTF1
import Derived.KernelRfl
set_option linter.unusedVariables false
set_option linter.unusedSimpArgs false
set_option linter.unusedSectionVars false
section
set_option maxHeartbeats 4000000
set_option maxRecDepth 100000
namespace Go.Abs.F
open Go.Proofs
attribute [-simp] getElem?_pos Option.not_isSome
def tab {α:Type} (n:Nat) (F:Nat→α):List α:=(List.range n).map F
section
variable {α β:Type} {n i:Nat} {F G:Nat→α}
theorem BH:(tab n F).length=n:=by simp [tab]
theorem BI (h:i < n):(tab n F)[i]?=some (F i):=by simp only [tab,List.getElem?_map,List.getElem?_range h,Option.map_some]
theorem KV (h:n≤i):(tab n F)[i]?=none:=by rw [List.getElem?_eq_none]; rw [BH]; exact h
theorem BG {x:α}:(tab n F).set i x=tab n (fun j=>if j=i then x else F j):=by
 apply List.ext_getElem?
 intro j
 rw [List.getElem?_set,BH]
 by_cases h:j < n
 · rw [BI h,BI h]
   by_cases hj:i=j
   · subst hj; simp [h]
   · rw [if_neg hj,if_neg (fun e=>hj e.symm)]
 · rw [KV (by omega),KV (by omega)]
   split<;>simp_all
theorem Ap (h:∀ i,i < n→F i=G i):tab n F=tab n G:=by
 unfold tab
 exact List.map_congr_left fun i hi=>h i (by simpa using hi)
theorem On {x:α}:List.replicate n x=tab n (fun _=>x):=by rw [tab,List.map_const',List.length_range]
theorem Oo {g:α→β}:(tab n F).map g=tab n (fun i=>g (F i)):=by simp [tab]
end
attribute [simp] BH BI BG Oo
def vd (n:Nat) (f:Nat→Bool):List V:=tab n fun k=>.bool (f k)
def matV (n:Nat) (f:Nat→Nat→Bool):V:=.seq 1 (tab n fun i=>.seq 1 (vd n (f i)))
theorem Lo {n k:Nat} {f:Nat→Bool} (h:k < n):(vd n f)[k]?=some (.bool (f k)):=by simp [vd,h]
theorem Ln {n:Nat} {f:Nat→Bool}:(vd n f).length=n:=by simp [vd]
def sub (k:Nat) (b:Bool) (f:Nat→Bool) (j:Nat):Bool:=if j=k then b else f j
theorem Ll {n k:Nat} {f:Nat→Bool} {b:Bool}:(vd n f).set k (.bool b)=vd n (sub k b f):=by
 simp only [vd,BG]
 exact Ap fun j _=>by unfold sub; split<;>rfl
theorem Lm {n:Nat}:List.replicate n (V.bool false)=vd n (fun _=>false):=by simp [vd,On]
theorem IP {n:Nat} {f:Nat→Bool}:dx (vd n f)=true:=by
 unfold vd tab
 induction List.range n with
 | nil=>rfl
 | cons x l ih=>simp [dx,bY,ih]
attribute [simp] Lo Ln Ll Lm IP
def Jw (n i:Nat) (R:Nat→List V):List (List V):=tab n fun j=>if j < i then R j else []
def rG (n i:Nat) (R:Nat→List V) (r:List V):List (List V):=tab n fun j=>if j=i then r else if j < i then R j else []
theorem Mc {n i:Nat} {R:Nat→List V}:(Jw n i R).length=n:=by simp [Jw]
theorem II {n i:Nat} {R:Nat→List V} {r:List V}:(rG n i R r).length=n:=by simp [rG]
theorem Md {n i:Nat} {R:Nat→List V} (h:i < n):(Jw n i R)[i]?=some []:=by simp [Jw,h]
theorem IJ {n i:Nat} {R:Nat→List V} {r:List V} (h:i < n):(rG n i R r)[i]?=some r:=by simp [rG,h]
theorem Mb {n i:Nat} {R:Nat→List V} {r:List V}:(Jw n i R).set i r=rG n i R r:=by simp [Jw,rG]
theorem IH {n i:Nat} {R:Nat→List V} {r s:List V}:(rG n i R r).set i s=rG n i R s:=by
 simp only [rG,BG]
 exact Ap fun j _=>by by_cases h:j=i<;>simp [h]
attribute [simp] Mc II Md IJ Mb IH
def jo (f g:Nat→Nat→Bool) (i m c:Nat):Bool:=(List.range m).any fun x=>decide (x≤c) && (f i x && g x c)
structure Part where
 op:Nat
 set:List Bool
 l:List Nat
def sgn (c:UInt8):Bool:=decide (32≤c.toNat) && decide (c.toNat≤126)
def base (p:Part) (s:Str) (i:Nat):Nat→Bool:=
 match s[i]? with
 | some c=>if p.op=115∧sgn c=true then sub (i + 1) ((p.set[c.toNat - 32]?).getD false) (sub i (decide (p.op=116) || decide (p.op=109)) fun _=>false) else sub i (decide (p.op=116) || decide (p.op=109)) fun _=>false
 | none=>sub i (decide (p.op=116) || decide (p.op=109)) fun _=>false
abbrev Tab:=Nat→Nat→Bool
def both1 (f g:Tab):Tab:=fun i k=>f i k || g i k
def jon (n:Nat) (f g:Tab):Tab:=fun i k=>jo f g i n k
def star (n:Nat) (g:Tab):Nat→Tab→Tab
 | 0,f=>f
 | t + 1,f=>star n g t (both1 f (jon n f g))
def kid (n op:Nat) (f g:Tab):Tab:=if op=111 then both1 f g else if op=116 then jon n f g else if op=109 then star n g n f else f
def kidT (n op:Nat) (tabs:List Tab):Tab→List Nat→Tab
 | f,[]=>f
 | f,x::l=>kidT n op tabs (kid n op f ((tabs[x]?).getD fun _ _=>false)) l
def stepT (p:Part) (s:Str) (tabs:List Tab):Tab  :=kidT (s.length + 1) p.op tabs (base p s) p.l
@[simp high] theorem cl_matV {n:Nat} {f:Tab}:cl (matV n f)=[matV n f]:=rfl
def tabsGo (s:Str):List Tab→List Part→List Tab
 | acc,[]=>acc
 | acc,p::ps=>tabsGo s (acc++[stepT p s acc]) ps
def matchT (parts:List Part) (k:Nat) (s:Str):Bool:=(((tabsGo s [] (parts.take (k + 1)))[k]?).getD fun _ _=>false) 0 s.length
def Wf (parts:List Part):Prop:=parts.length≤1000∧∀ (i:Nat) (p:Part),parts[i]?=some p→(∀ x∈p.l,x < i)∧(p.op=115→p.set.length=95)∧p.l.length≤1000
structure PS where
 n:List Part
 s:Str
 at':Nat
 bad:Bool
def isP (p:PS) (c:Nat):Bool:=match p.s[p.at']? with
 | some b=>decide (b.toNat=c)
 | none=>false
def MW (c:Nat) (l:Str):Bool:=l.any fun b=>decide (b.toNat=c)
def yq (p:PS) (x:Part):PS:={ p with n:=p.n++[x] }
def wB (p:PS) (odd:Str):PS × Nat:=
 let q:PS:=if isP p 92 then { p with at':=p.at' + 1 } else p
 match q.s[q.at']? with
 | some c=>if sgn c && (isP p 92 || !MW c.toNat odd) then ({ q with at':=q.at' + 1 },c.toNat) else ({ q with bad:=true },32)
 | none=>({ q with bad:=true },32)
def La (set:List Bool) (low high:Nat):Nat→Bool:=fun i=>((set[i]?).getD false) || (decide (low≤i + 32) && decide (i + 32≤high))
def mM (p:PS):PS:={ p with at':=p.at' + 1 }
def RJ (p:PS):PS:={ p with bad:=true }
def odd4:Str:=[92,93,45,94]
def x8 (p:PS):PS × Nat:=wB p odd4
def vS (p:PS):PS × Nat:=if isP (x8 p).1 45 then wB (mM (x8 p).1) odd4 else x8 p
def clsP (p:PS):PS:=if (vS p).2 < (x8 p).2 then RJ (vS p).1 else (vS p).1
def RC (p:PS) (set:List Bool):List Bool:=if (clsP p).bad then set else tab 95 (La set (x8 p).2 (vS p).2)
def lim (p:PS):Bool:=decide (p.at'≤1000) && (decide (p.n.length≤900) && decide (p.s.length≤1000))
def nZ:Nat→PS→List Bool→Nat→Option (PS × List Bool)
 | 0,_,_,_=>none
 | fuel + 1,p,set,n=>if lim p then (if !p.bad && (decide (n=0) || !isP p 93) then nZ fuel (clsP p) (RC p set) (n + 1) else some (p,set)) else none
def RD (fuel:Nat) (p:PS):Option (PS × Nat):=
 match nZ fuel (if isP p 94 then mM p else p) [] 0 with
 | some (q,set)=>some (yq (mM (if isP q 93 then q else RJ q)) ⟨115,tab 95 (fun i=>(((set[i]?).getD false) != isP p 94)),[]⟩,q.n.length)
 | none=>none
def Rb:Str:=[92,40,41,91,93,124,42,43,63,46]
def goes (p:PS):Bool:=!p.bad && (match p.s[p.at']? with
 | some b=>!MW b.toNat [124,41]
 | none=>false)
def vM:Nat→PS→Nat→Option (PS × Nat)
 | 0,_,_=>none
 | f + 1,q,k=>if lim q then (if q.bad || (!isP q 42 && (!isP q 43 && !isP q 63)) then some (q,k)
     else if isP q 63 then vM f (yq (yq (mM q) ⟨116,[],[]⟩) ⟨111,[],[k,q.n.length]⟩) (q.n.length + 1)
     else if isP q 43 then vM f (yq (yq (mM q) ⟨109,[],[k]⟩) ⟨116,[],[k,q.n.length]⟩) (q.n.length + 1)
     else vM f (yq (mM q) ⟨109,[],[k]⟩) q.n.length) else none
mutual
def atomF:Nat→PS→Option (PS × Nat)
 | 0,_=>none
 | f + 1,p=>if lim p then (if isP p 40 then (match Bu f (mM p) with
       | some (q,k)=>if lim q then some (mM (if isP q 41 then q else RJ q),k) else none
       | none=>none)
     else if isP p 46 then some (yq (mM p) ⟨115,tab 95 (La [] 32 126),[]⟩,p.n.length)
     else if isP p 91 then RD f (mM p)
     else some (yq (wB p Rb).1 ⟨115,tab 95 (La [] (wB p Rb).2 (wB p Rb).2),[]⟩,p.n.length)) else none
def Q3:Nat→PS→Option (PS × Nat)
 | 0,_=>none
 | f + 1,p=>match atomF f p with
   | some (q,k)=>vM f q k
   | none=>none
def PM:Nat→PS→List Nat→Option (PS × List Nat)
 | 0,_,_=>none
 | f + 1,p,own=>if lim p && decide (own.length≤900) then (if goes p then (match Q3 f p with
     | some (q,k)=>PM f q (own++[k])
     | none=>none) else some (p,own)) else none
def brGo:Nat→PS→List Nat→Option (PS × Nat)
 | 0,_,_=>none
 | f + 1,p,l=>if decide (l.length≤900) then (match PM f p [] with
   | some (q,own)=>if q.bad || !isP q 124 then some (yq (yq q ⟨116,[],own⟩) ⟨111,[],l++[q.n.length]⟩,q.n.length + 1)
      else brGo f (mM (yq q ⟨116,[],own⟩)) (l++[q.n.length])
   | none=>none) else none
def Bu:Nat→PS→Option (PS × Nat)
 | 0,_=>none
 | f + 1,p=>brGo f p []
end
def parseF (s:Str):Option (List Part × Nat):=match Bu 200 ⟨[],s,0,false⟩ with
 | some (q,k)=>if !q.bad && (decide (q.at'=s.length) && decide (q.at'≤1000)) then some (q.n,k) else none
 | none=>none
def wfB:Nat→List Part→Bool
 | _,[]=>true
 | i,p::l=>p.l.all (fun x=>decide (x < i)) && ((!decide (p.op=115) || decide (p.set.length=95)) && (decide (p.l.length≤1000) && wfB (i + 1) l))
def rxB (s:Str):Bool:=decide (s.length≤60) && match parseF s with
 | some (ps,k)=>wfB 0 ps && (decide (ps.length≤1000) && decide (k < ps.length))
 | none=>false
def rxM (s v:Str):Bool:=match parseF s with
 | some (ps,k)=>matchT ps k v
 | none=>false
def allows12 (c:Constraint) (v:Str):Bool:=
 v.all sign && (decide (c.kind=1) || ((decide (c.kind=2) && hasS c.words v) || ((decide (c.kind=3) && (!(cutB v 58).2.2 || hasS c.words (cutB v 58).1)) || (decide (c.kind=4) && rxM c.regex v))))
end Go.Abs.F
end
section
set_option maxHeartbeats 4000000
set_option maxRecDepth 100000
namespace Go.Abs.F
open Go.Proofs
attribute [-simp] getElem?_pos Option.not_isSome List.map_map
def G6 (e:Allowed):Prop:=e.kids.length≤8∧∃ l,e.rules=fT l
theorem xU:∀ (l out:List Allowed) (i:Nat),(∀ e∈out,G6 e)→∀ e∈kD i out l,G6 e
 | [],out,i,h=>by simpa [kD] using h
 | x::l,out,i,h=>by
   simp only [kD]
   split
   · exact xU l out _ h
   · refine xU l _ _ fun e he=>?_
     rcases List.mem_append.1 he with he | he
     · exact h e he
     · simp at he; subst he; exact ⟨by simp,x.rules,rfl⟩
theorem FN {els:List Allowed} (k:Nat) (own:List Str) (h:∀ e∈els,G6 e):∀ e∈kW els k own,G6 e:=by
 intro e he
 unfold kW at he
 split at he
 · rename_i x hx
   rcases List.mem_or_eq_of_mem_set he with he | he
   · exact h e he
   · subst he
     exact ⟨EO _ _ _,(h x (List.mem_of_getElem? hx)).2⟩
 · exact h e he
theorem A6:∀ (l els:List Allowed) (k:Nat),(∀ e∈els,G6 e)→∀ e∈i4 k els l,G6 e
 | [],els,k,h=>by simpa [i4] using h
 | x::l,els,k,h=>by
   simp only [i4]
   exact A6 l _ _ (FN k x.kids h)
theorem GB (p:Policy):∀ e∈(dw p).elements,G6 e:=by
 unfold dw
 exact A6 _ _ _ (xU _ _ _ (by simp))
end Go.Abs.F
end
