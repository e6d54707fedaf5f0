/-
  What strainerref09's matching tells: tables of truth values. No condition.
  What strainerref09's step and Match tell: which places a part leads to. No condition.
  What strainerref09's Match tells. No condition.
  What strainerref09's parser makes: its small functions. No condition.
  What strainerref09's class makes: a set of signs. No condition.
  What strainerref09's parser makes: atoms, pieces, branches. No condition.
  What strainerref09's Parse and strainerref12's Allows answer. No condition.
  What a guard allows is not dangerous: the plain law, and what strainerlaw21's lives answers. No condition.
-/
import Derived.Test.YthficpngadcpgaaGreatDoorNF1
import Derived.KernelRfl
set_option linter.unusedVariables false
set_option linter.unusedSimpArgs false
set_option linter.unusedSectionVars false
section
set_option maxHeartbeats 4000000
set_option maxRecDepth 100000
namespace Go.Abs.F
open Go.Proofs
attribute [-simp] getElem?_pos Option.not_isSome
def tab {α:Type} (n:Nat) (F:Nat→α):List α:=(List.range n).map F
section
variable {α β:Type} {n i:Nat} {F G:Nat→α}
theorem pN:(tab n F).length=n:=by simp [tab]
theorem pO (h:i < n):(tab n F)[i]?=some (F i):=by simp only [tab,List.getElem?_map,List.getElem?_range h,Option.map_some]
theorem xL (h:n≤i):(tab n F)[i]?=none:=by rw [List.getElem?_eq_none]; rw [pN]; exact h
theorem pM {x:α}:(tab n F).set i x=tab n (fun j=>if j=i then x else F j):=by
 apply List.ext_getElem?
 intro j
 rw [List.getElem?_set,pN]
 by_cases h:j < n
 · rw [pO h,pO h]
   by_cases hj:i=j
   · subst hj; simp [h]
   · rw [if_neg hj,if_neg (fun e=>hj e.symm)]
 · rw [xL (by omega),xL (by omega)]
   split<;>simp_all
theorem oG (h:∀ i,i < n→F i=G i):tab n F=tab n G:=by
 unfold tab
 exact List.map_congr_left fun i hi=>h i (by simpa using hi)
theorem AB {x:α}:List.replicate n x=tab n (fun _=>x):=by rw [tab,List.map_const',List.length_range]
theorem AD {g:α→β}:(tab n F).map g=tab n (fun i=>g (F i)):=by simp [tab]
end
attribute [simp] pN pO pM AD
def kJ (n:Nat) (f:Nat→Bool):List V:=tab n fun k=>.bool (f k)
def matV (n:Nat) (f:Nat→Nat→Bool):V:=.seq 1 (tab n fun i=>.seq 1 (kJ n (f i)))
theorem xX {n k:Nat} {f:Nat→Bool} (h:k < n):(kJ n f)[k]?=some (.bool (f k)):=by simp [kJ,h]
theorem xW {n:Nat} {f:Nat→Bool}:(kJ n f).length=n:=by simp [kJ]
def sub (k:Nat) (b:Bool) (f:Nat→Bool) (j:Nat):Bool:=if j=k then b else f j
theorem xU {n k:Nat} {f:Nat→Bool} {b:Bool}:(kJ n f).set k (.bool b)=kJ n (sub k b f):=by
 simp only [kJ,pM]
 exact oG fun j _=>by unfold sub; split<;>rfl
theorem xV {n:Nat}:List.replicate n (V.bool false)=kJ n (fun _=>false):=by simp [kJ,AB]
theorem vM {n:Nat} {f:Nat→Bool}:cr (kJ n f)=true:=by
 unfold kJ tab
 induction List.range n with
 | nil=>rfl
 | cons x l ih=>simp [cr,cG,ih]
attribute [simp] xX xW xU xV vM
def wx (n i:Nat) (R:Nat→List V):List (List V):=tab n fun j=>if j < i then R j else []
def i5 (n i:Nat) (R:Nat→List V) (r:List V):List (List V):=tab n fun j=>if j=i then r else if j < i then R j else []
theorem yC {n i:Nat} {R:Nat→List V}:(wx n i R).length=n:=by simp [wx]
theorem vH {n i:Nat} {R:Nat→List V} {r:List V}:(i5 n i R r).length=n:=by simp [i5]
theorem yD {n i:Nat} {R:Nat→List V} (h:i < n):(wx n i R)[i]?=some []:=by simp [wx,h]
theorem vI {n i:Nat} {R:Nat→List V} {r:List V} (h:i < n):(i5 n i R r)[i]?=some r:=by simp [i5,h]
theorem yB {n i:Nat} {R:Nat→List V} {r:List V}:(wx n i R).set i r=i5 n i R r:=by simp [wx,i5]
theorem vG {n i:Nat} {R:Nat→List V} {r s:List V}:(i5 n i R r).set i s=i5 n i R s:=by
 simp only [i5,pM]
 exact oG fun j _=>by by_cases h:j=i<;>simp [h]
attribute [simp] yC vH yD vI yB vG
structure Part where
 op:Nat
 set:List Bool
 l:List Nat
def sgn (c:UInt8):Bool:=decide (32≤c.toNat) && decide (c.toNat≤126)
def base (p:Part) (s:Str) (i:Nat):Nat→Bool:=
 match s[i]? with
 | some c=>if p.op=115∧sgn c=true then sub (i + 1) ((p.set[c.toNat - 32]?).getD false) (sub i (decide (p.op=116) || decide (p.op=109)) fun _=>false) else sub i (decide (p.op=116) || decide (p.op=109)) fun _=>false
 | none=>sub i (decide (p.op=116) || decide (p.op=109)) fun _=>false
abbrev Tab:=Nat→Nat→Bool
@[simp high] theorem cl_matV {n:Nat} {f:Tab}:cl (matV n f)=[matV n f]:=rfl
end Go.Abs.F
end
section
set_option maxHeartbeats 4000000
set_option maxRecDepth 100000
namespace Go.Abs.F
open Go.Proofs
attribute [-simp] getElem?_pos Option.not_isSome
end Go.Abs.F

end
section
set_option maxHeartbeats 4000000
set_option maxRecDepth 100000
namespace Go.Abs.F
open Go.Proofs
attribute [-simp] getElem?_pos Option.not_isSome
end Go.Abs.F

end
section
set_option maxHeartbeats 4000000
set_option maxRecDepth 100000
namespace Go.Abs.F
open Go.Proofs
attribute [-simp] getElem?_pos Option.not_isSome
end Go.Abs.F

end
section
set_option maxHeartbeats 4000000
set_option maxRecDepth 100000
namespace Go.Abs.F
open Go.Proofs
attribute [-simp] getElem?_pos Option.not_isSome
end Go.Abs.F

end
section
set_option maxHeartbeats 4000000
set_option maxRecDepth 100000
namespace Go.Abs.F
open Go.Proofs
attribute [-simp] getElem?_pos Option.not_isSome
end Go.Abs.F

end
section
set_option maxHeartbeats 4000000
set_option maxRecDepth 100000
namespace Go.Abs.F
open Go.Proofs
attribute [-simp] getElem?_pos Option.not_isSome List.map_map
end Go.Abs.F

end
