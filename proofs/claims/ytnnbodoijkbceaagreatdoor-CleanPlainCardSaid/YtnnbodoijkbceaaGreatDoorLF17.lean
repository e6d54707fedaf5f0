/-
  What strainerref09's matching tells: tables of truth values. No condition.
  What strainerref09's step and Match tell: which places a part leads to. No condition.
  What strainerref09's Match tells. No condition.
  What strainerref09's parser makes: its small functions. No condition.
  What strainerref09's class makes: a set of signs. No condition.
  What strainerref09's parser makes: atoms, pieces, branches. No condition.
  What strainerref09's Parse and strainerref12's Allows answer. No condition.
  What a guard allows is not dangerous: the plain law, and what strainerlaw21's lives answers. No condition.
-/
import Derived.Test.YtnnbodoijkbceaaGreatDoorLF1
import Derived.KernelRfl
set_option linter.all false
set_option maxHeartbeats 0
set_option maxRecDepth 100000
section
namespace Go.Abs.F
open Go.Proofs
attribute [-simp] getElem?_pos Option.not_isSome
def tab {α:Type} (n:Nat) (F:Nat→α):List α:=(List.range n).map F
section
variable {α β:Type} {n i:Nat} {F G:Nat→α}
theorem zm:(tab n F).length=n:=by simp [tab]
theorem zn (h:i < n):(tab n F)[i]?=some (F i):=by simp only [tab,List.getElem?_map,List.getElem?_range h,Option.map_some]
theorem Iy (h:n≤i):(tab n F)[i]?=none:=by rw [List.getElem?_eq_none]; rw [zm]; exact h
theorem zl {x:α}:(tab n F).set i x=tab n (fun j=>if j=i then x else F j):=by
 apply List.ext_getElem?
 intro j
 rw [List.getElem?_set,zm]
 by_cases h:j < n
 · rw [zn h,zn h]
   by_cases hj:i=j
   · subst hj; simp [h]
   · rw [if_neg hj,if_neg (fun e=>hj e.symm)]
 · rw [Iy (by omega),Iy (by omega)]
   split<;>simp_all
theorem xV (h:∀ i,i < n→F i=G i):tab n F=tab n G:=by
 unfold tab
 exact List.map_congr_left fun i hi=>h i (by simpa using hi)
theorem Mb {x:α}:List.replicate n x=tab n (fun _=>x):=by rw [tab,List.map_const',List.length_range]
theorem Mc {g:α→β}:(tab n F).map g=tab n (fun i=>g (F i)):=by simp [tab]
end
attribute [simp] zm zn zl Mc
def sJ (n:Nat) (f:Nat→Bool):List V:=tab n fun k=>.bool (f k)
def matV (n:Nat) (f:Nat→Nat→Bool):V:=.seq 1 (tab n fun i=>.seq 1 (sJ n (f i)))
theorem IW {n k:Nat} {f:Nat→Bool} (h:k < n):(sJ n f)[k]?=some (.bool (f k)):=by simp [sJ,h]
theorem IV {n:Nat} {f:Nat→Bool}:(sJ n f).length=n:=by simp [sJ]
def sub (k:Nat) (b:Bool) (f:Nat→Bool) (j:Nat):Bool:=if j=k then b else f j
theorem IT {n k:Nat} {f:Nat→Bool} {b:Bool}:(sJ n f).set k (.bool b)=sJ n (sub k b f):=by
 simp only [sJ,zl]
 exact xV fun j _=>by unfold sub; split<;>rfl
theorem IU {n:Nat}:List.replicate n (V.bool false)=sJ n (fun _=>false):=by simp [sJ,Mb]
theorem Gf {n:Nat} {f:Nat→Bool}:c6 (sJ n f)=true:=by
 unfold sJ tab
 induction List.range n with
 | nil=>rfl
 | cons x l ih=>simp [c6,dO,ih]
attribute [simp] IW IV IT IU Gf
def GU (n i:Nat) (R:Nat→List V):List (List V):=tab n fun j=>if j < i then R j else []
def ph (n i:Nat) (R:Nat→List V) (r:List V):List (List V):=tab n fun j=>if j=i then r else if j < i then R j else []
theorem JI {n i:Nat} {R:Nat→List V}:(GU n i R).length=n:=by simp [GU]
theorem Gb {n i:Nat} {R:Nat→List V} {r:List V}:(ph n i R r).length=n:=by simp [ph]
theorem JJ {n i:Nat} {R:Nat→List V} (h:i < n):(GU n i R)[i]?=some []:=by simp [GU,h]
theorem Gc {n i:Nat} {R:Nat→List V} {r:List V} (h:i < n):(ph n i R r)[i]?=some r:=by simp [ph,h]
theorem JH {n i:Nat} {R:Nat→List V} {r:List V}:(GU n i R).set i r=ph n i R r:=by simp [GU,ph]
theorem Ga {n i:Nat} {R:Nat→List V} {r s:List V}:(ph n i R r).set i s=ph n i R s:=by
 simp only [ph,zl]
 exact xV fun j _=>by by_cases h:j=i<;>simp [h]
attribute [simp] JI Gb JJ Gc JH Ga
def jo (f g:Nat→Nat→Bool) (i m c:Nat):Bool:=(List.range m).any fun x=>decide (x≤c) && (f i x && g x c)
structure Part where
 op:Nat
 set:List Bool
 l:List Nat
def sgn (c:UInt8):Bool:=decide (32≤c.toNat) && decide (c.toNat≤126)
def base (p:Part) (s:Str) (i:Nat):Nat→Bool:=
 match s[i]? with
 | some c=>if p.op=115∧sgn c=true then sub (i + 1) ((p.set[c.toNat - 32]?).getD false) (sub i (decide (p.op=116) || decide (p.op=109)) fun _=>false) else sub i (decide (p.op=116) || decide (p.op=109)) fun _=>false
 | none=>sub i (decide (p.op=116) || decide (p.op=109)) fun _=>false
abbrev Tab:=Nat→Nat→Bool
def N3 (f g:Tab):Tab:=fun i k=>f i k || g i k
def jon (n:Nat) (f g:Tab):Tab:=fun i k=>jo f g i n k
def star (n:Nat) (g:Tab):Nat→Tab→Tab
 | 0,f=>f
 | t + 1,f=>star n g t (N3 f (jon n f g))
def kid (n op:Nat) (f g:Tab):Tab:=if op=111 then N3 f g else if op=116 then jon n f g else if op=109 then star n g n f else f
def kidT (n op:Nat) (tabs:List Tab):Tab→List Nat→Tab
 | f,[]=>f
 | f,x::l=>kidT n op tabs (kid n op f ((tabs[x]?).getD fun _ _=>false)) l
def stepT (p:Part) (s:Str) (tabs:List Tab):Tab  :=kidT (s.length + 1) p.op tabs (base p s) p.l
@[simp high] theorem cl_matV {n:Nat} {f:Tab}:cl (matV n f)=[matV n f]:=rfl
def Ix (s:Str):List Tab→List Part→List Tab
 | acc,[]=>acc
 | acc,p::ps=>Ix s (acc++[stepT p s acc]) ps
def P5 (parts:List Part) (k:Nat) (s:Str):Bool:=(((Ix s [] (parts.take (k + 1)))[k]?).getD fun _ _=>false) 0 s.length
structure PS where
 n:List Part
 s:Str
 at':Nat
 bad:Bool
def isP (p:PS) (c:Nat):Bool:=match p.s[p.at']? with
 | some b=>decide (b.toNat=c)
 | none=>false
def Kz (c:Nat) (l:Str):Bool:=l.any fun b=>decide (b.toNat=c)
def vG (p:PS) (x:Part):PS:={ p with n:=p.n++[x] }
def ud (p:PS) (odd:Str):PS × Nat:=
 let q:PS:=if isP p 92 then { p with at':=p.at' + 1 } else p
 match q.s[q.at']? with
 | some c=>if sgn c && (isP p 92 || !Kz c.toNat odd) then ({ q with at':=q.at' + 1 },c.toNat) else ({ q with bad:=true },32)
 | none=>({ q with bad:=true },32)
def IF (set:List Bool) (low high:Nat):Nat→Bool:=fun i=>((set[i]?).getD false) || (decide (low≤i + 32) && decide (i + 32≤high))
def lb (p:PS):PS:={ p with at':=p.at' + 1 }
def Qt (p:PS):PS:={ p with bad:=true }
def odd4:Str:=[92,93,45,94]
def vm (p:PS):PS × Nat:=ud p odd4
def tF (p:PS):PS × Nat:=if isP (vm p).1 45 then ud (lb (vm p).1) odd4 else vm p
def clsP (p:PS):PS:=if (tF p).2 < (vm p).2 then Qt (tF p).1 else (tF p).1
def Ql (p:PS) (set:List Bool):List Bool:=if (clsP p).bad then set else tab 95 (IF set (vm p).2 (tF p).2)
def lim (p:PS):Bool:=decide (p.at'≤1000) && (decide (p.n.length≤900) && decide (p.s.length≤1000))
def FG:Nat→PS→List Bool→Nat→Option (PS × List Bool)
 | 0,_,_,_=>none
 | fuel + 1,p,set,n=>if lim p then (if !p.bad && (decide (n=0) || !isP p 93) then FG fuel (clsP p) (Ql p set) (n + 1) else some (p,set)) else none
def Qm (fuel:Nat) (p:PS):Option (PS × Nat):=
 match FG fuel (if isP p 94 then lb p else p) [] 0 with
 | some (q,set)=>some (vG (lb (if isP q 93 then q else Qt q)) ⟨115,tab 95 (fun i=>(((set[i]?).getD false) != isP p 94)),[]⟩,q.n.length)
 | none=>none
def PU:Str:=[92,40,41,91,93,124,42,43,63,46]
def Qd (p:PS):Bool:=!p.bad && (match p.s[p.at']? with
 | some b=>!Kz b.toNat [124,41]
 | none=>false)
def tw:Nat→PS→Nat→Option (PS × Nat)
 | 0,_,_=>none
 | f + 1,q,k=>if lim q then (if q.bad || (!isP q 42 && (!isP q 43 && !isP q 63)) then some (q,k)
     else if isP q 63 then tw f (vG (vG (lb q) ⟨116,[],[]⟩) ⟨111,[],[k,q.n.length]⟩) (q.n.length + 1)
     else if isP q 43 then tw f (vG (vG (lb q) ⟨109,[],[k]⟩) ⟨116,[],[k,q.n.length]⟩) (q.n.length + 1)
     else tw f (vG (lb q) ⟨109,[],[k]⟩) q.n.length) else none
mutual
def atomF:Nat→PS→Option (PS × Nat)
 | 0,_=>none
 | f + 1,p=>if lim p then (if isP p 40 then (match yY f (lb p) with
       | some (q,k)=>if lim q then some (lb (if isP q 41 then q else Qt q),k) else none
       | none=>none)
     else if isP p 46 then some (vG (lb p) ⟨115,tab 95 (IF [] 32 126),[]⟩,p.n.length)
     else if isP p 91 then Qm f (lb p)
     else some (vG (ud p PU).1 ⟨115,tab 95 (IF [] (ud p PU).2 (ud p PU).2),[]⟩,p.n.length)) else none
def PR:Nat→PS→Option (PS × Nat)
 | 0,_=>none
 | f + 1,p=>match atomF f p with
   | some (q,k)=>tw f q k
   | none=>none
def NW:Nat→PS→List Nat→Option (PS × List Nat)
 | 0,_,_=>none
 | f + 1,p,own=>if lim p && decide (own.length≤900) then (if Qd p then (match PR f p with
     | some (q,k)=>NW f q (own++[k])
     | none=>none) else some (p,own)) else none
def brGo:Nat→PS→List Nat→Option (PS × Nat)
 | 0,_,_=>none
 | f + 1,p,l=>if decide (l.length≤900) then (match NW f p [] with
   | some (q,own)=>if q.bad || !isP q 124 then some (vG (vG q ⟨116,[],own⟩) ⟨111,[],l++[q.n.length]⟩,q.n.length + 1)
      else brGo f (lb (vG q ⟨116,[],own⟩)) (l++[q.n.length])
   | none=>none) else none
def yY:Nat→PS→Option (PS × Nat)
 | 0,_=>none
 | f + 1,p=>brGo f p []
end
def Jc (s:Str):Option (List Part × Nat):=match yY 200 ⟨[],s,0,false⟩ with
 | some (q,k)=>if !q.bad && (decide (q.at'=s.length) && decide (q.at'≤1000)) then some (q.n,k) else none
 | none=>none
def wfB:Nat→List Part→Bool
 | _,[]=>true
 | i,p::l=>p.l.all (fun x=>decide (x < i)) && ((!decide (p.op=115) || decide (p.set.length=95)) && (decide (p.l.length≤1000) && wfB (i + 1) l))
def rxB (s:Str):Bool:=decide (s.length≤60) && match Jc s with
 | some (ps,k)=>wfB 0 ps && (decide (ps.length≤1000) && decide (k < ps.length))
 | none=>false
def rxM (s v:Str):Bool:=match Jc s with
 | some (ps,k)=>P5 ps k v
 | none=>false
def ar (c:Constraint) (v:Str):Bool:=
 v.all sign && (decide (c.kind=1) || ((decide (c.kind=2) && bT c.words v) || ((decide (c.kind=3) && (!(cutB v 58).2.2 || bT c.words (cutB v 58).1)) || (decide (c.kind=4) && rxM c.regex v))))
end Go.Abs.F
end
section
namespace Go.Abs.F
open Go.Proofs
attribute [-simp] getElem?_pos Option.not_isSome List.map_map
theorem pY:∀ {l:List Str} {s:Str},bT l s=true↔s∈l
 | [],s=>by simp [bT]
 | x::l,s=>by
   simp only [bT,List.mem_cons]
   split
   · rename_i h; simp [h]
   · rename_i h
     rw [pY]
     exact ⟨.inr,fun h'=>h'.resolve_left (fun e=>h e.symm)⟩
end Go.Abs.F
end
