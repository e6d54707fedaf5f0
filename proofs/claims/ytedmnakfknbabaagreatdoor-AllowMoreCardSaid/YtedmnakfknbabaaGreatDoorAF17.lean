/- What strainerref09's matching tells: tables of truth values. No condition. -/
import Derived.Test.YtedmnakfknbabaaGreatDoorAF1
import Derived.KernelRfl
set_option linter.all false
set_option maxHeartbeats 0
set_option maxRecDepth 100000
open Option renaming not_isSome→zAa
open List renaming range→zAb,replicate→zAc
section
namespace Go.Abs.F
open Go.Proofs
attribute [-simp] getElem?_pos zAa
def tab{α:Type}(n:Nat)(F:Nat->α):List α:=(zAb n).map F
section
variable{α β:Type}{n i:Nat}{F G:Nat->α}
theorem AP:(tab n F).length=n:=by simp[tab]
theorem AQ(h:i<n):(tab n F)[i]?=some (F i):=by simp only[tab,List.getElem?_map,List.getElem?_range h,Option.map_some]
theorem K7(h:n<=i):(tab n F)[i]?=none:=by rw[List.getElem?_eq_none];rw[AP];exact h
theorem AN{x:α}:(tab n F).set i x=tab n (fun j=>if j=i then x else F j):=by
 apply List.ext_getElem?;intro j;rw[List.getElem?_set,AP];by_cases h:j<n
 ·rw[AQ h,AQ h]
  by_cases hj:i=j
  ·subst hj;simp[h]
  ·rw[if_neg hj,if_neg (fun e=>hj e.symm)]
 ·rw[K7 (by omega),K7 (by omega)]
  split<;>simp_all
theorem zk(h:∀i,i<n->F i=G i):tab n F=tab n G:=by
 unfold tab;exact List.map_congr_left fun i hi=>h i (by simpa using hi)
theorem Pb{x:α}:zAc n x=tab n (fun _=>x):=by rw[tab,List.map_const',List.length_range]
theorem Pc{g:α->β}:(tab n F).map g=tab n (fun i=>g (F i)):=by simp[tab]
end
attribute [simp] AP AQ AN Pc
def u3(n:Nat)(f:Nat->Bool):List V:=tab n fun k=>.bool (f k)
theorem LI{n k:Nat}{f:Nat->Bool}(h:k<n):(u3 n f)[k]?=some (.bool (f k)):=by simp[u3,h]
theorem LH{n:Nat}{f:Nat->Bool}:(u3 n f).length=n:=by simp[u3]
def sub(k:Nat)(b:Bool)(f:Nat->Bool)(j:Nat):Bool:=if j=k then b else f j
theorem LF{n k:Nat}{f:Nat->Bool}{b:Bool}:(u3 n f).set k (.bool b)=u3 n (sub k b f):=by
 simp only[u3,AN];exact zk fun j _=>by unfold sub;split<;>rfl
theorem LG{n:Nat}:zAc n (V.bool false)=u3 n (fun _=>false):=by simp[u3,Pb]
theorem IL{n:Nat}{f:Nat->Bool}:cY (u3 n f)=true:=by
 unfold u3 tab
 induction zAb n with
 |nil=>rfl
 |cons x l ih=>simp[cY,bU,ih]
attribute [simp] LI LH LF LG IL
def JE(n i:Nat)(R:Nat->List V):List (List V):=tab n fun j=>if j<i then R j else[]
def qm(n i:Nat)(R:Nat->List V)(r:List V):List (List V):=tab n fun j=>if j=i then r else if j<i then R j else[]
theorem MN{n i:Nat}{R:Nat->List V}:(JE n i R).length=n:=by simp[JE]
theorem IE{n i:Nat}{R:Nat->List V}{r:List V}:(qm n i R r).length=n:=by simp[qm]
theorem MO{n i:Nat}{R:Nat->List V}(h:i<n):(JE n i R)[i]?=some []:=by simp[JE,h]
theorem IF{n i:Nat}{R:Nat->List V}{r:List V}(h:i<n):(qm n i R r)[i]?=some r:=by simp[qm,h]
theorem MM{n i:Nat}{R:Nat->List V}{r:List V}:(JE n i R).set i r=qm n i R r:=by simp[JE,qm]
theorem ID{n i:Nat}{R:Nat->List V}{r s:List V}:(qm n i R r).set i s=qm n i R s:=by
 simp only[qm,AN];exact zk fun j _=>by by_cases h:j=i<;>simp[h]
attribute [simp] MN IE MO IF MM ID
def jo(f g:Nat->Nat->Bool)(i m c:Nat):Bool:=(zAb m).any fun x=>decide (x<=c)&&(f i x&&g x c)
structure Part where
 op:Nat
 set:List Bool
 l:List Nat
def sgn(c:UInt8):Bool:=decide (32<=c.toNat)&&decide (c.toNat<=126)
def base(p:Part)(s:Str)(i:Nat):Nat->Bool:=
 match s[i]? with
 |some c=>if p.op=115/\sgn c=true then sub (i+1) ((p.set[c.toNat-32]?).getD false) (sub i (decide (p.op=116)||decide (p.op=109)) fun _=>false)else sub i (decide (p.op=116)||decide (p.op=109)) fun _=>false
 |none=>sub i (decide (p.op=116)||decide (p.op=109)) fun _=>false
abbrev Tab:=Nat->Nat->Bool
def both1(f g:Tab):Tab:=fun i k=>f i k||g i k
def jon(n:Nat)(f g:Tab):Tab:=fun i k=>jo f g i n k
def star(n:Nat)(g:Tab):Nat->Tab->Tab
 |0,f=>f
 |t+1,f=>star n g t (both1 f (jon n f g))
def kid(n op:Nat)(f g:Tab):Tab:=if op=111 then both1 f g else if op=116 then jon n f g else if op=109 then star n g n f else f
def kidT(n op:Nat)(tabs:List Tab):Tab->List Nat->Tab
 |f,[]=>f
 |f,x::l=>kidT n op tabs (kid n op f ((tabs[x]?).getD fun _ _=>false)) l
def stepT(p:Part)(s:Str)(tabs:List Tab):Tab  :=kidT (s.length+1) p.op tabs (base p s) p.l
def tabsGo(s:Str):List Tab->List Part->List Tab
 |acc,[]=>acc
 |acc,p::ps=>tabsGo s (acc++[stepT p s acc]) ps
def matchT(parts:List Part)(k:Nat)(s:Str):Bool:=(((tabsGo s [] (parts.take (k+1)))[k]?).getD fun _ _=>false) 0 s.length
def Wf(parts:List Part):Prop:=parts.length<=1000/\∀(i:Nat)(p:Part),parts[i]?=some p->(∀x∈p.l,x<i)/\(p.op=115->p.set.length=95)/\p.l.length<=1000
structure PS where
 n:List Part
 s:Str
 at':Nat
 bad:Bool
def isP(p:PS)(c:Nat):Bool:=match p.s[p.at']? with
 |some b=>decide (b.toNat=c)
 |none=>false
def NH(c:Nat)(l:Str):Bool:=l.any fun b=>decide (b.toNat=c)
def xc(p:PS)(x:Part):PS:={ p with n:=p.n++[x] }
def vf(p:PS)(odd:Str):PS×Nat:=
 let q:PS:=if isP p 92 then{ p with at':=p.at'+1 }else p
 match q.s[q.at']? with
 |some c=>if sgn c&&(isP p 92|| !NH c.toNat odd)then({ q with at':=q.at'+1 },c.toNat)else({ q with bad:=true },32)
 |none=>({ q with bad:=true },32)
def Lr(set:List Bool)(low high:Nat):Nat->Bool:=fun i=>((set[i]?).getD false)||(decide (low<=i+32)&&decide (i+32<=high))
def ml(p:PS):PS:={ p with at':=p.at'+1 }
def Tj(p:PS):PS:={ p with bad:=true }
def odd4:Str:=[92,93,45,94]
def wV(p:PS):PS×Nat:=vf p odd4
def uH(p:PS):PS×Nat:=if isP (wV p).1 45 then vf (ml (wV p).1) odd4 else wV p
def clsP(p:PS):PS:=if(uH p).2<(wV p).2 then Tj (uH p).1 else(uH p).1
def Tc(p:PS)(set:List Bool):List Bool:=if(clsP p).bad then set else tab 95 (Lr set (wV p).2 (uH p).2)
def lim(p:PS):Bool:=decide (p.at'<=1000)&&(decide (p.n.length<=900)&&decide (p.s.length<=1000))
def H5:Nat->PS->List Bool->Nat->Option (PS×List Bool)
 |0,_,_,_=>none
 |fuel+1,p,set,n=>if lim p then(if !p.bad&&(decide (n=0)|| !isP p 93)then H5 fuel (clsP p) (Tc p set) (n+1)else some (p,set))else none
def Td(fuel:Nat)(p:PS):Option (PS×Nat):=
 match H5 fuel (if isP p 94 then ml p else p) [] 0 with
 |some (q,set)=>some (xc (ml (if isP q 93 then q else Tj q)) ⟨115,tab 95 (fun i=>(((set[i]?).getD false) != isP p 94)),[]⟩,q.n.length)
 |none=>none
def SH:Str:=[92,40,41,91,93,124,42,43,63,46]
def goes(p:PS):Bool:=!p.bad&&(match p.s[p.at']? with
 |some b=>!NH b.toNat [124,41]
 |none=>false)
def uy:Nat->PS->Nat->Option (PS×Nat)
 |0,_,_=>none
 |f+1,q,k=>if lim q then(if q.bad||(!isP q 42&&(!isP q 43&& !isP q 63))then some (q,k)
     else if isP q 63 then uy f (xc (xc (ml q) ⟨116,[],[]⟩) ⟨111,[],[k,q.n.length]⟩) (q.n.length+1)
     else if isP q 43 then uy f (xc (xc (ml q) ⟨109,[],[k]⟩) ⟨116,[],[k,q.n.length]⟩) (q.n.length+1)
     else uy f (xc (ml q) ⟨109,[],[k]⟩) q.n.length)else none
mutual
def atomF:Nat->PS->Option (PS×Nat)
 |0,_=>none
 |f+1,p=>if lim p then(if isP p 40 then(match Ay f (ml p)with
       |some (q,k)=>if lim q then some (ml (if isP q 41 then q else Tj q),k)else none
       |none=>none)
     else if isP p 46 then some (xc (ml p) ⟨115,tab 95 (Lr [] 32 126),[]⟩,p.n.length)
     else if isP p 91 then Td f (ml p)
     else some (xc (vf p SH).1 ⟨115,tab 95 (Lr [] (vf p SH).2 (vf p SH).2),[]⟩,p.n.length))else none
def Sx:Nat->PS->Option (PS×Nat)
 |0,_=>none
 |f+1,p=>match atomF f p with
   |some (q,k)=>uy f q k
   |none=>none
def QY:Nat->PS->List Nat->Option (PS×List Nat)
 |0,_,_=>none
 |f+1,p,own=>if lim p&&decide (own.length<=900)then(if goes p then(match Sx f p with
     |some (q,k)=>QY f q (own++[k])
     |none=>none)else some (p,own))else none
def brGo:Nat->PS->List Nat->Option (PS×Nat)
 |0,_,_=>none
 |f+1,p,l=>if decide (l.length<=900)then(match QY f p []with
   |some (q,own)=>if q.bad|| !isP q 124 then some (xc (xc q ⟨116,[],own⟩) ⟨111,[],l++[q.n.length]⟩,q.n.length+1)
      else brGo f (ml (xc q ⟨116,[],own⟩)) (l++[q.n.length])
   |none=>none)else none
def Ay:Nat->PS->Option (PS×Nat)
 |0,_=>none
 |f+1,p=>brGo f p []
end
def parseF(s:Str):Option (List Part×Nat):=match Ay 200 ⟨[],s,0,false⟩with
 |some (q,k)=>if !q.bad&&(decide (q.at'=s.length)&&decide (q.at'<=1000))then some (q.n,k)else none
 |none=>none
def wfB:Nat->List Part->Bool
 |_,[]=>true
 |i,p::l=>p.l.all (fun x=>decide (x<i))&&((!decide (p.op=115)||decide (p.set.length=95))&&(decide (p.l.length<=1000)&&wfB (i+1) l))
def rxB(s:Str):Bool:=decide (s.length<=60)&&match parseF s with
 |some (ps,k)=>wfB 0 ps&&(decide (ps.length<=1000)&&decide (k<ps.length))
 |none=>false
def rxM(s v:Str):Bool:=match parseF s with
 |some (ps,k)=>matchT ps k v
 |none=>false
def allows12(c:Constraint)(v:Str):Bool:=
 v.all sign&&(decide (c.kind=1)||((decide (c.kind=2)&&hasS c.words v)||((decide (c.kind=3)&&(!(cutB v 58).2.2||hasS c.words (cutB v 58).1))||(decide (c.kind=4)&&rxM c.regex v))))
end Go.Abs.F
end
section
namespace Go.Abs.F
open Go.Proofs
attribute [-simp] getElem?_pos zAa List.map_map
theorem kn:∀{l:List Str}{s:Str},hasS l s=true↔s∈l
 |[],s=>by simp[hasS]
 |x::l,s=>by
   simp only[hasS,List.mem_cons];split
   ·rename_i h;simp[h]
   ·rename_i h
    rw[kn];exact⟨.inr,fun h'=>h'.resolve_left (fun e=>h e.symm)⟩
def GP(e:Allowed):Prop:=e.kids.length<=8/\∃l,e.rules=du l
theorem wK:∀(l out:List Allowed)(i:Nat),(∀e∈out,GP e)->∀e∈gz i out l,GP e
 |[],out,i,h=>by simpa[gz]using h
 |x::l,out,i,h=>by
   simp only[gz];split
   ·exact wK l out _ h
   ·refine wK l _ _ fun e he=>?_
    rcases List.mem_append.1 he with he|he
    ·exact h e he
    ·simp at he;subst he;exact⟨by simp,x.rules,rfl⟩
theorem Fw{els:List Allowed}(k:Nat)(own:List Str)(h:∀e∈els,GP e):∀e∈dt els k own,GP e:=by
 intro e he;unfold dt at he;split at he
 ·rename_i x hx
  rcases List.mem_or_eq_of_mem_set he with he|he
  ·exact h e he
  ·subst he
   exact⟨tj _ _ _,(h x (List.mem_of_getElem? hx)).2⟩
 ·exact h e he
theorem z7:∀(l els:List Allowed)(k:Nat),(∀e∈els,GP e)->∀e∈dp k els l,GP e
 |[],els,k,h=>by simpa[dp]using h
 |x::l,els,k,h=>by
   simp only[dp];exact z7 l _ _ (Fw k x.kids h)
theorem vK:∀(l els:List Allowed)(k:Nat),(dp k els l).length=els.length
 |[],els,k=>by simp[dp]
 |x::l,els,k=>by simp only[dp];rw[vK l,C7]
theorem wt(p:Policy):∀e∈(bo p).elements,GP e:=by
 unfold bo;exact z7 _ _ _ (wK _ _ _ (by simp))
theorem wq(p:Policy):(bo p).few:=by
 have h1:(bo p).elements.length<=5:=by
  have:=ky (p.elements.take 5) [] 0;simp only[bo,vK];simp at this;omega
 refine⟨?_,by omega,fun e he=>?_⟩
 ·have:=tj ⟨[],(bo p).elements,[]⟩ [] p.top
  simp only[bo]at this⊢;omega
 ·obtain⟨h2,l,h3⟩:=wt p e he
  have:=De l;rw[h3];omega
end Go.Abs.F
end
