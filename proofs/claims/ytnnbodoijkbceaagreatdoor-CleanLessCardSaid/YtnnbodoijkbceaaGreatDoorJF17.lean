/- What strainerref09's matching tells: tables of truth values. No condition. -/
import Derived.Test.YtnnbodoijkbceaaGreatDoorJF1
import Derived.KernelRfl
set_option linter.all false
set_option maxHeartbeats 0
set_option maxRecDepth 100000
open Option renaming not_isSome→zAa
open List renaming range→zAb,replicate→zAc
section
namespace Go.Abs.F
open Go.Proofs
attribute [-simp] getElem?_pos zAa
def tab{α:Type}(n:Nat)(F:Nat->α):List α:=(zAb n).map F
section
variable{α β:Type}{n i:Nat}{F G:Nat->α}
theorem EW:(tab n F).length=n:=by simp[tab]
theorem EX(h:i<n):(tab n F)[i]?=some (F i):=by simp only[tab,List.getElem?_map,List.getElem?_range h,Option.map_some]
theorem QE(h:n<=i):(tab n F)[i]?=none:=by rw[List.getElem?_eq_none];rw[EW];exact h
theorem EV{x:α}:(tab n F).set i x=tab n (fun j=>if j=i then x else F j):=by
 apply List.ext_getElem?;intro j;rw[List.getElem?_set,EW];by_cases h:j<n
 ·rw[EX h,EX h]
  by_cases hj:i=j
  ·subst hj;simp[h]
  ·rw[if_neg hj,if_neg (fun e=>hj e.symm)]
 ·rw[QE (by omega),QE (by omega)]
  split<;>simp_all
theorem Dx(h:∀i,i<n->F i=G i):tab n F=tab n G:=by
 unfold tab;exact List.map_congr_left fun i hi=>h i (by simpa using hi)
theorem Ux{x:α}:zAc n x=tab n (fun _=>x):=by rw[tab,List.map_const',List.length_range]
theorem Uy{g:α->β}:(tab n F).map g=tab n (fun i=>g (F i)):=by simp[tab]
end
attribute [simp] EW EX EV Uy
def xz(n:Nat)(f:Nat->Bool):List V:=tab n fun k=>.bool (f k)
def matV(n:Nat)(f:Nat->Nat->Bool):V:=.seq 1 (tab n fun i=>.seq 1 (xz n (f i)))
theorem Rd{n k:Nat}{f:Nat->Bool}(h:k<n):(xz n f)[k]?=some (.bool (f k)):=by simp[xz,h]
theorem Rc{n:Nat}{f:Nat->Bool}:(xz n f).length=n:=by simp[xz]
def sub(k:Nat)(b:Bool)(f:Nat->Bool)(j:Nat):Bool:=if j=k then b else f j
theorem Ra{n k:Nat}{f:Nat->Bool}{b:Bool}:(xz n f).set k (.bool b)=xz n (sub k b f):=by
 simp only[xz,EV];exact Dx fun j _=>by unfold sub;split<;>rfl
theorem Rb{n:Nat}:zAc n (V.bool false)=xz n (fun _=>false):=by simp[xz,Ux]
theorem Od{n:Nat}{f:Nat->Bool}:dB (xz n f)=true:=by
 unfold xz tab
 induction zAb n with
 |nil=>rfl
 |cons x l ih=>simp[dB,cI,ih]
attribute [simp] Rd Rc Ra Rb Od
def O4(n i:Nat)(R:Nat->List V):List (List V):=tab n fun j=>if j<i then R j else[]
def tu(n i:Nat)(R:Nat->List V)(r:List V):List (List V):=tab n fun j=>if j=i then r else if j<i then R j else[]
theorem R3{n i:Nat}{R:Nat->List V}:(O4 n i R).length=n:=by simp[O4]
theorem N5{n i:Nat}{R:Nat->List V}{r:List V}:(tu n i R r).length=n:=by simp[tu]
theorem R4{n i:Nat}{R:Nat->List V}(h:i<n):(O4 n i R)[i]?=some []:=by simp[O4,h]
theorem N6{n i:Nat}{R:Nat->List V}{r:List V}(h:i<n):(tu n i R r)[i]?=some r:=by simp[tu,h]
theorem R2{n i:Nat}{R:Nat->List V}{r:List V}:(O4 n i R).set i r=tu n i R r:=by simp[O4,tu]
theorem N4{n i:Nat}{R:Nat->List V}{r s:List V}:(tu n i R r).set i s=tu n i R s:=by
 simp only[tu,EV];exact Dx fun j _=>by by_cases h:j=i<;>simp[h]
attribute [simp] R3 N5 R4 N6 R2 N4
def jo(f g:Nat->Nat->Bool)(i m c:Nat):Bool:=(zAb m).any fun x=>decide (x<=c)&&(f i x&&g x c)
structure Part where
 op:Nat
 set:List Bool
 l:List Nat
def sgn(c:UInt8):Bool:=decide (32<=c.toNat)&&decide (c.toNat<=126)
def base(p:Part)(s:Str)(i:Nat):Nat->Bool:=
 match s[i]? with
 |some c=>if p.op=115/\sgn c=true then sub (i+1) ((p.set[c.toNat-32]?).getD false) (sub i (decide (p.op=116)||decide (p.op=109)) fun _=>false)else sub i (decide (p.op=116)||decide (p.op=109)) fun _=>false
 |none=>sub i (decide (p.op=116)||decide (p.op=109)) fun _=>false
abbrev Tab:=Nat->Nat->Bool
def both1(f g:Tab):Tab:=fun i k=>f i k||g i k
def jon(n:Nat)(f g:Tab):Tab:=fun i k=>jo f g i n k
def star(n:Nat)(g:Tab):Nat->Tab->Tab
 |0,f=>f
 |t+1,f=>star n g t (both1 f (jon n f g))
def kid(n op:Nat)(f g:Tab):Tab:=if op=111 then both1 f g else if op=116 then jon n f g else if op=109 then star n g n f else f
def kidT(n op:Nat)(tabs:List Tab):Tab->List Nat->Tab
 |f,[]=>f
 |f,x::l=>kidT n op tabs (kid n op f ((tabs[x]?).getD fun _ _=>false)) l
def stepT(p:Part)(s:Str)(tabs:List Tab):Tab  :=kidT (s.length+1) p.op tabs (base p s) p.l
@[simp high] theorem cl_matV {n:Nat} {f:Tab}:cl (matV n f)=[matV n f]:=rfl
def tabsGo(s:Str):List Tab->List Part->List Tab
 |acc,[]=>acc
 |acc,p::ps=>tabsGo s (acc++[stepT p s acc]) ps
def matchT(parts:List Part)(k:Nat)(s:Str):Bool:=(((tabsGo s [] (parts.take (k+1)))[k]?).getD fun _ _=>false) 0 s.length
def Wf(parts:List Part):Prop:=parts.length<=1000/\∀(i:Nat)(p:Part),parts[i]?=some p->(∀x∈p.l,x<i)/\(p.op=115->p.set.length=95)/\p.l.length<=1000
structure PS where
 n:List Part
 s:Str
 at':Nat
 bad:Bool
def isP(p:PS)(c:Nat):Bool:=match p.s[p.at']? with
 |some b=>decide (b.toNat=c)
 |none=>false
def SZ(c:Nat)(l:Str):Bool:=l.any fun b=>decide (b.toNat=c)
def Bc(p:PS)(x:Part):PS:={ p with n:=p.n++[x] }
def yT(p:PS)(odd:Str):PS×Nat:=
 let q:PS:=if isP p 92 then{ p with at':=p.at'+1 }else p
 match q.s[q.at']? with
 |some c=>if sgn c&&(isP p 92|| !SZ c.toNat odd)then({ q with at':=q.at'+1 },c.toNat)else({ q with bad:=true },32)
 |none=>({ q with bad:=true },32)
def QX(set:List Bool)(low high:Nat):Nat->Bool:=fun i=>((set[i]?).getD false)||(decide (low<=i+32)&&decide (i+32<=high))
def oq(p:PS):PS:={ p with at':=p.at'+1 }
def Y5(p:PS):PS:={ p with bad:=true }
def odd4:Str:=[92,93,45,94]
def AV(p:PS):PS×Nat:=yT p odd4
def yp(p:PS):PS×Nat:=if isP (AV p).1 45 then yT (oq (AV p).1) odd4 else AV p
def clsP(p:PS):PS:=if(yp p).2<(AV p).2 then Y5 (yp p).1 else(yp p).1
def YW(p:PS)(set:List Bool):List Bool:=if(clsP p).bad then set else tab 95 (QX set (AV p).2 (yp p).2)
def lim(p:PS):Bool:=decide (p.at'<=1000)&&(decide (p.n.length<=900)&&decide (p.s.length<=1000))
def Nt:Nat->PS->List Bool->Nat->Option (PS×List Bool)
 |0,_,_,_=>none
 |fuel+1,p,set,n=>if lim p then(if !p.bad&&(decide (n=0)|| !isP p 93)then Nt fuel (clsP p) (YW p set) (n+1)else some (p,set))else none
def YX(fuel:Nat)(p:PS):Option (PS×Nat):=
 match Nt fuel (if isP p 94 then oq p else p) [] 0 with
 |some (q,set)=>some (Bc (oq (if isP q 93 then q else Y5 q)) ⟨115,tab 95 (fun i=>(((set[i]?).getD false) != isP p 94)),[]⟩,q.n.length)
 |none=>none
def Yu:Str:=[92,40,41,91,93,124,42,43,63,46]
def YO(p:PS):Bool:=!p.bad&&(match p.s[p.at']? with
 |some b=>!SZ b.toNat [124,41]
 |none=>false)
def yg:Nat->PS->Nat->Option (PS×Nat)
 |0,_,_=>none
 |f+1,q,k=>if lim q then(if q.bad||(!isP q 42&&(!isP q 43&& !isP q 63))then some (q,k)
     else if isP q 63 then yg f (Bc (Bc (oq q) ⟨116,[],[]⟩) ⟨111,[],[k,q.n.length]⟩) (q.n.length+1)
     else if isP q 43 then yg f (Bc (Bc (oq q) ⟨109,[],[k]⟩) ⟨116,[],[k,q.n.length]⟩) (q.n.length+1)
     else yg f (Bc (oq q) ⟨109,[],[k]⟩) q.n.length)else none
mutual
def atomF:Nat->PS->Option (PS×Nat)
 |0,_=>none
 |f+1,p=>if lim p then(if isP p 40 then(match EF f (oq p)with
       |some (q,k)=>if lim q then some (oq (if isP q 41 then q else Y5 q),k)else none
       |none=>none)
     else if isP p 46 then some (Bc (oq p) ⟨115,tab 95 (QX [] 32 126),[]⟩,p.n.length)
     else if isP p 91 then YX f (oq p)
     else some (Bc (yT p Yu).1 ⟨115,tab 95 (QX [] (yT p Yu).2 (yT p Yu).2),[]⟩,p.n.length))else none
def Yl:Nat->PS->Option (PS×Nat)
 |0,_=>none
 |f+1,p=>match atomF f p with
   |some (q,k)=>yg f q k
   |none=>none
def Wq:Nat->PS->List Nat->Option (PS×List Nat)
 |0,_,_=>none
 |f+1,p,own=>if lim p&&decide (own.length<=900)then(if YO p then(match Yl f p with
     |some (q,k)=>Wq f q (own++[k])
     |none=>none)else some (p,own))else none
def brGo:Nat->PS->List Nat->Option (PS×Nat)
 |0,_,_=>none
 |f+1,p,l=>if decide (l.length<=900)then(match Wq f p []with
   |some (q,own)=>if q.bad|| !isP q 124 then some (Bc (Bc q ⟨116,[],own⟩) ⟨111,[],l++[q.n.length]⟩,q.n.length+1)
      else brGo f (oq (Bc q ⟨116,[],own⟩)) (l++[q.n.length])
   |none=>none)else none
def EF:Nat->PS->Option (PS×Nat)
 |0,_=>none
 |f+1,p=>brGo f p []
end
def parseF(s:Str):Option (List Part×Nat):=match EF 200 ⟨[],s,0,false⟩with
 |some (q,k)=>if !q.bad&&(decide (q.at'=s.length)&&decide (q.at'<=1000))then some (q.n,k)else none
 |none=>none
def wfB:Nat->List Part->Bool
 |_,[]=>true
 |i,p::l=>p.l.all (fun x=>decide (x<i))&&((!decide (p.op=115)||decide (p.set.length=95))&&(decide (p.l.length<=1000)&&wfB (i+1) l))
def rxB(s:Str):Bool:=decide (s.length<=60)&&match parseF s with
 |some (ps,k)=>wfB 0 ps&&(decide (ps.length<=1000)&&decide (k<ps.length))
 |none=>false
def rxM(s v:Str):Bool:=match parseF s with
 |some (ps,k)=>matchT ps k v
 |none=>false
def allows12(c:Constraint)(v:Str):Bool:=
 v.all sign&&(decide (c.kind=1)||((decide (c.kind=2)&&hasS c.words v)||((decide (c.kind=3)&&(!(cutB v 58).2.2||hasS c.words (cutB v 58).1))||(decide (c.kind=4)&&rxM c.regex v))))
end Go.Abs.F
end
section
namespace Go.Abs.F
open Go.Proofs
attribute [-simp] getElem?_pos zAa List.map_map
theorem I6:∀{l:List Str}{s:Str},hasS l s=true↔s∈l
 |[],s=>by simp[hasS]
 |x::l,s=>by
   simp only[hasS,List.mem_cons];split
   ·rename_i h;simp[h]
   ·rename_i h
    rw[I6];exact⟨.inr,fun h'=>h'.resolve_left (fun e=>h e.symm)⟩
def Me(e:Allowed):Prop:=e.kids.length<=8/\∃l,e.rules=jn l
theorem AJ:∀(l out:List Allowed)(i:Nat),(∀e∈out,Me e)->∀e∈kX i out l,Me e
 |[],out,i,h=>by simpa[kX]using h
 |x::l,out,i,h=>by
   simp only[kX];split
   ·exact AJ l out _ h
   ·refine AJ l _ _ fun e he=>?_
    rcases List.mem_append.1 he with he|he
    ·exact h e he
    ·simp at he;subst he;exact⟨by simp,x.rules,rfl⟩
theorem KH{els:List Allowed}(k:Nat)(own:List Str)(h:∀e∈els,Me e):∀e∈eX els k own,Me e:=by
 intro e he;unfold eX at he;split at he
 ·rename_i x hx
  rcases List.mem_or_eq_of_mem_set he with he|he
  ·exact h e he
  ·subst he
   exact⟨wU _ _ _,(h x (List.mem_of_getElem? hx)).2⟩
 ·exact h e he
theorem Eb:∀(l els:List Allowed)(k:Nat),(∀e∈els,Me e)->∀e∈fd k els l,Me e
 |[],els,k,h=>by simpa[fd]using h
 |x::l,els,k,h=>by
   simp only[fd];exact Eb l _ _ (KH k x.kids h)
theorem zu:∀(l els:List Allowed)(k:Nat),(fd k els l).length=els.length
 |[],els,k=>by simp[fd]
 |x::l,els,k=>by simp only[fd];rw[zu l,HL]
theorem Ap(p:Policy):∀e∈(bK p).elements,Me e:=by
 unfold bK;exact Eb _ _ _ (AJ _ _ _ (by simp))
theorem LG(p:Policy):(bK p).few:=by
 have h1:(bK p).elements.length<=5:=by
  have:=qB (p.elements.take 5) [] 0;simp only[bK,zu];simp at this;omega
 refine⟨?_,by omega,fun e he=>?_⟩
 ·have:=wU ⟨[],(bK p).elements,[]⟩ [] p.top
  simp only[bK]at this⊢;omega
 ·obtain⟨h2,l,h3⟩:=Ap p e he
  have:=HU l;rw[h3];omega
end Go.Abs.F
end
