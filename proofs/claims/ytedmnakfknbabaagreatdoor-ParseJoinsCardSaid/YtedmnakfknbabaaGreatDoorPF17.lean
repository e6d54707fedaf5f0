/- What strainerref09's matching tells: tables of tru. -/
import Derived.Test.YtedmnakfknbabaaGreatDoorPF1
import Derived.KernelRfl
set_option linter.all false
set_option maxHeartbeats 0
set_option maxRecDepth 100000
open Option renaming not_isSome→zAa
open List renaming range→zAb,replicate→zAc
section
namespace Go.Abs.F
open Go.Proofs
attribute [-simp] getElem?_pos zAa
def tab{α:Type}(n:Nat)(F:Nat->α):List α:=(zAb n).map F
section
variable{α β:Type}{n i:Nat}{F G:Nat->α}
theorem CO:(tab n F).length=n:=by simp[tab]
theorem CP(h:i<n):(tab n F)[i]?=some (F i):=by simp only[tab,List.getElem?_map,List.getElem?_range h,Option.map_some]
theorem NU(h:n<=i):(tab n F)[i]?=none:=by rw[List.getElem?_eq_none];rw[CO];exact h
theorem CN{x:α}:(tab n F).set i x=tab n (fun j=>if j=i then x else F j):=by
 apply List.ext_getElem?;intro j;rw[List.getElem?_set,CO];by_cases h:j<n
 ·rw[CP h,CP h]
  by_cases hj:i=j
  ·subst hj;simp[h]
  ·rw[if_neg hj,if_neg (fun e=>hj e.symm)]
 ·rw[NU (by omega),NU (by omega)]
  split<;>simp_all
theorem Bp(h:∀i,i<n->F i=G i):tab n F=tab n G:=by
 unfold tab;exact List.map_congr_left fun i hi=>h i (by simpa using hi)
theorem RA{x:α}:zAc n x=tab n (fun _=>x):=by rw[tab,List.map_const',List.length_range]
theorem RB{g:α->β}:(tab n F).map g=tab n (fun i=>g (F i)):=by simp[tab]
end
attribute [simp] CO CP CN RB
def xN(n:Nat)(f:Nat->Bool):List V:=tab n fun k=>.bool (f k)
theorem Oc{n k:Nat}{f:Nat->Bool}(h:k<n):(xN n f)[k]?=some (.bool (f k)):=by simp[xN,h]
theorem Oa{n:Nat}{f:Nat->Bool}:(xN n f).length=n:=by simp[xN]
def sub(k:Nat)(b:Bool)(f:Nat->Bool)(j:Nat):Bool:=if j=k then b else f j
theorem N8{n k:Nat}{f:Nat->Bool}{b:Bool}:(xN n f).set k (.bool b)=xN n (sub k b f):=by
 simp only[xN,CN];exact Bp fun j _=>by unfold sub;split<;>rfl
theorem N9{n:Nat}:zAc n (V.bool false)=xN n (fun _=>false):=by simp[xN,RA]
theorem Ln{n:Nat}{f:Nat->Bool}:fT (xN n f)=true:=by
 unfold xN tab
 induction zAb n with
 |nil=>rfl
 |cons x l ih=>simp[fT,gU,ih]
attribute [simp] Oc Oa N8 N9 Ln
def Mg(n i:Nat)(R:Nat->List V):List (List V):=tab n fun j=>if j<i then R j else[]
def sf(n i:Nat)(R:Nat->List V)(r:List V):List (List V):=tab n fun j=>if j=i then r else if j<i then R j else[]
theorem O8{n i:Nat}{R:Nat->List V}:(Mg n i R).length=n:=by simp[Mg]
theorem Lh{n i:Nat}{R:Nat->List V}{r:List V}:(sf n i R r).length=n:=by simp[sf]
theorem O9{n i:Nat}{R:Nat->List V}(h:i<n):(Mg n i R)[i]?=some []:=by simp[Mg,h]
theorem Li{n i:Nat}{R:Nat->List V}{r:List V}(h:i<n):(sf n i R r)[i]?=some r:=by simp[sf,h]
theorem O7{n i:Nat}{R:Nat->List V}{r:List V}:(Mg n i R).set i r=sf n i R r:=by simp[Mg,sf]
theorem Lg{n i:Nat}{R:Nat->List V}{r s:List V}:(sf n i R r).set i s=sf n i R s:=by
 simp only[sf,CN];exact Bp fun j _=>by by_cases h:j=i<;>simp[h]
attribute [simp] O8 Lh O9 Li O7 Lg
def jo(f g:Nat->Nat->Bool)(i m c:Nat):Bool:=(zAb m).any fun x=>decide (x<=c)&&(f i x&&g x c)
structure Part where
 op:Nat
 set:List Bool
 l:List Nat
def sgn(c:UInt8):Bool:=decide (32<=c.toNat)&&decide (c.toNat<=126)
def base(p:Part)(s:Str)(i:Nat):Nat->Bool:=
 match s[i]? with
 |some c=>if p.op=115/\sgn c=true then sub (i+1) ((p.set[c.toNat-32]?).getD false) (sub i (decide (p.op=116)||decide (p.op=109)) fun _=>false)else sub i (decide (p.op=116)||decide (p.op=109)) fun _=>false
 |none=>sub i (decide (p.op=116)||decide (p.op=109)) fun _=>false
end Go.Abs.F
end
section
namespace Go.Abs.F
open Go.Proofs
attribute [-simp] getElem?_pos zAa
end Go.Abs.F
end
section
namespace Go.Abs.F
open Go.Proofs
attribute [-simp] getElem?_pos zAa
end Go.Abs.F
end
section
namespace Go.Abs.F
open Go.Proofs
attribute [-simp] getElem?_pos zAa
end Go.Abs.F
end
section
namespace Go.Abs.F
open Go.Proofs
attribute [-simp] getElem?_pos zAa
end Go.Abs.F
end
section
namespace Go.Abs.F
open Go.Proofs
attribute [-simp] getElem?_pos zAa
end Go.Abs.F
end
section
namespace Go.Abs.F
open Go.Proofs
attribute [-simp] getElem?_pos zAa List.map_map
end Go.Abs.F
end
