/- What strainerref09's matching tells: tables of truth values. No condition. -/
import Derived.Test.YtbekkicfbnaaaaaGreatDoorVF1
import Derived.KernelRfl
set_option linter.all false open List renaming reduceReplicate→zAa,getElem?_eq_none→zAe,getElem?_eq_some_iff→zAg,getElem?_map→zAi,getElem?_eq_none_iff→zAj,replicate→zBa,mem_of_getElem?→zBb,mem_map→zBd,range→zBh
open Option.some renaming injEq→zAb
open Nat renaming lt_or_ge→zAc,le_refl→zBj
open Prod.mk renaming injEq→zAd
open Bool renaming false_eq_true→zAf,and_eq_true→zAh,false_or→zBc,not_eq_true'→zBg,true_and→zBi
open Option renaming not_isSome→zBe
open Int renaming toNat_natCast→zBf open Option renaming some→ś,none→ń open Bool renaming true→ť,false→ğ open Go.Proofs.Tryz renaming prog→ŷ
section
set_option maxHeartbeats 4000000
set_option maxRecDepth 100000
namespace Go.Abs.F
open Go.Proofs
attribute [-simp] getElem?_pos zBe
def tab{α:Type}(n:Nat)(F:Nat->α):List α:=(zBh n).map F
section
variable {α β:Type}{n i:Nat}{F G:Nat->α}
theorem QY:(tab n F).length=n:=by simp[tab]
theorem QZ(h:i<n):(tab n F)[i]?=ś (F i):=by simp only[tab,zAi,List.getElem?_range h,Option.map_some]
theorem aen(h:n<=i):(tab n F)[i]?=none:=by rw[zAe];rw[QY];exact h
theorem QX{x}:(tab n F).set i x=tab n (λj=>if j=i then x else F j):=by
 apply List.ext_getElem?;intro j;rw[List.getElem?_set,QY];by_cases h:j<n
 ·rw[QZ h,QZ h]
  by_cases hj:i=j
  ·subst hj;simp[h]
  ·rw[if_neg hj,if_neg (λe=>hj e.symm)]
 ·rw[aen (by omega),aen (by omega)]
  split<;>simp_all
theorem kK(h:∀i,i<n->F i=G i):tab n F=tab n G:=by
 unfold tab;exact List.map_congr_left λi hi=>h i (by simpa using hi)
theorem aar{x:α}:zBa n x=tab n (λ_=>x):=by rw[tab,List.map_const',List.length_range]
theorem ahU{g:α->β}:(tab n F).map g=tab n (λi=>g (F i)):=by simp[tab]
end
attribute [simp] QY QZ QX ahU
def be(n:Nat)(f:Nat->Bool):List V:=tab n λk=>.bool (f k)
def eJ(n:Nat)(f:Nat->Nat->Bool):V:=.seq 1 (tab n λi=>.seq 1 (be n (f i)))
theorem aeP{n k f}(h:k<n):(be n f)[k]?=ś (.bool (f k)):=by simp[be,h]
theorem aeO{n f}:(be n f).length=n:=by simp[be]
def sub(k:Nat)(b:Bool)(f:Nat->Bool)(j:Nat):Bool:=if j=k then b else f j
theorem aeM{n k f b}:(be n f).set k (.bool b)=be n (sub k b f):=by
 simp only[be,QX];exact kK λj _=>by unfold sub;split<;>rfl
theorem aeN{n}:zBa n (V.bool ğ)=be n (λ_=>ğ):=by simp[be,aar]
theorem yb{n f}:dJ (be n f)=true:=by
 unfold be tab
 induction zBh n with
 |nil=>rfl
 |cons x l ih=>simp[ih]
attribute [simp] aeP aeO aeM aeN yb
def ER(n i:Nat)(R:Nat->List V):List (List V):=tab n λj=>if j<i then R j else[]
def ow(n i:Nat)(R:Nat->List V)(r:List V):List (List V):=tab n λj=>if j=i then r else if j<i then R j else[]
theorem afN{n i R}:(ER n i R).length=n:=by simp[ER]
theorem abN{n i R r}:(ow n i R r).length=n:=by simp[ow]
theorem afO{n i R}(h:i<n):(ER n i R)[i]?=ś []:=by simp[ER,h]
theorem abO{n i R r}(h:i<n):(ow n i R r)[i]?=ś r:=by simp[ow,h]
theorem afM{n i R r}:(ER n i R).set i r=ow n i R r:=by simp[ER,ow]
theorem abM{n i R r s}:(ow n i R r).set i s=ow n i R s:=by
 simp only[ow,QX];exact kK λj _=>by by_cases h:j=i<;>simp[h]
attribute [simp] afN abN afO abO afM abM
def jo(f g:Nat->Nat->Bool)(i m c:Nat):Bool:=(zBh m).any λx=>decide (x<=c)&&(f i x&&g x c)
structure Part where
 op:Nat
 set:List Bool
 l:List Nat
def sgn(c:UInt8):Bool:=decide (32<=c.toNat)&&decide (c.toNat<=126)
def base(p:Part)(s:Str)(i:Nat):Nat->Bool:=
 match s[i]? with
 |some c=>if p.op=115/\sgn c=ť then sub (i+1) ((p.set[c.toNat-32]?).getD ğ) (sub i (decide (p.op=116)||decide (p.op=109)) λ_=>ğ)else sub i (decide (p.op=116)||decide (p.op=109)) λ_=>ğ
 |none=>sub i (decide (p.op=116)||decide (p.op=109)) λ_=>ğ
abbrev Tab:=Nat->Nat->Bool
def both1(f g:Tab):Tab:=λi k=>f i k||g i k
def jon(n:Nat)(f g:Tab):Tab:=λi k=>jo f g i n k
def star(n:Nat)(g:Tab):Nat->Tab->Tab
 |0,f=>f
 |t+1,f=>star n g t (both1 f (jon n f g))
def kid(n op:Nat)(f g:Tab):Tab:=if op=111 then both1 f g else if op=116 then jon n f g else if op=109 then star n g n f else f
def kidT(n op:Nat)(tabs:List Tab):Tab->List Nat->Tab
 |f,[]=>f
 |f,x::l=>kidT n op tabs (kid n op f ((tabs[x]?).getD λ_ _=>ğ)) l
def stepT(p:Part)(s:Str)(tabs:List Tab):Tab  :=kidT (s.length+1) p.op tabs (base p s) p.l
@[simp high] theorem cl_matV {n} {f:Tab}:cl (eJ n f)=[eJ n f]:=rfl
def tabsGo(s:Str):List Tab->List Part->List Tab
 |acc,[]=>acc
 |acc,p::ps=>tabsGo s (acc++[stepT p s acc]) ps
def matchT(parts:List Part)(k:Nat)(s:Str):Bool:=(((tabsGo s [] (parts.take (k+1)))[k]?).getD λ_ _=>ğ) 0 s.length
def Wf(parts:List Part):Prop:=parts.length<=1000/\∀(i:Nat)(p:Part),parts[i]?=ś p->(∀x∈p.l,x<i)/\(p.op=115->p.set.length=95)/\p.l.length<=1000
structure PS where
 n:List Part
 s:Str
 at':Nat
 bad:Bool
def isP(p:PS)(c:Nat):Bool:=match p.s[p.at']? with
 |some b=>decide (b.toNat=c)
 |none=>ğ
def mR(c:Nat)(l:Str):Bool:=l.any λb=>decide (b.toNat=c)
def bz(p:PS)(x:Part):PS:={ p with n:=p.n++[x] }
def et(p:PS)(odd:Str):PS×Nat:=
 let q:PS:=if isP p 92 then{ p with at':=p.at'+1 }else p
 match q.s[q.at']? with
 |some c=>if sgn c&&(isP p 92|| !mR c.toNat odd)then({ q with at':=q.at'+1 },c.toNat)else({ q with bad:=ť },32)
 |none=>({ q with bad:=ť },32)
def il(set:List Bool)(low high:Nat):Nat->Bool:=λi=>((set[i]?).getD ğ)||(decide (low<=i+32)&&decide (i+32<=high))
def aT(p:PS):PS:={ p with at':=p.at'+1 }
def O5(p:PS):PS:={ p with bad:=ť }
def Mb:Str:=[92,93,45,94]
def Fv(p:PS):PS×Nat:=et p Mb
def qo(p:PS):PS×Nat:=if isP (Fv p).1 45 then et (aT (Fv p).1) Mb else Fv p
def adj(p:PS):PS:=if(qo p).2<(Fv p).2 then O5 (qo p).1 else(qo p).1
def BA(p:PS)(set:List Bool):List Bool:=if(adj p).bad then set else tab 95 (il set (Fv p).2 (qo p).2)
def lim(p:PS):Bool:=decide (p.at'<=1000)&&(decide (p.n.length<=900)&&decide (p.s.length<=1000))
def mh:Nat->PS->List Bool->Nat->Option (PS×List Bool)
 |0,_,_,_=>ń
 |fuel+1,p,set,n=>if lim p then(if !p.bad&&(decide (n=0)|| !isP p 93)then mh fuel (adj p) (BA p set) (n+1)else ś (p,set))else ń
def LD(fuel:Nat)(p:PS):Option (PS×Nat):=
 match mh fuel (if isP p 94 then aT p else p) [] 0 with
 |some (q,set)=>ś (bz (aT (if isP q 93 then q else O5 q)) ⟨115,tab 95 (λi=>(((set[i]?).getD ğ) != isP p 94)),[]⟩,q.n.length)
 |none=>ń
def Yq:Str:=[92,40,41,91,93,124,42,43,63,46]
def aiG(p:PS):Bool:=!p.bad&&(match p.s[p.at']? with
 |some b=>!mR b.toNat [124,41]
 |none=>ğ)
def sR:Nat->PS->Nat->Option (PS×Nat)
 |0,_,_=>ń
 |f+1,q,k=>if lim q then(if q.bad||(!isP q 42&&(!isP q 43&& !isP q 63))then ś (q,k)
     else if isP q 63 then sR f (bz (bz (aT q) ⟨116,[],[]⟩) ⟨111,[],[k,q.n.length]⟩) (q.n.length+1)
     else if isP q 43 then sR f (bz (bz (aT q) ⟨109,[],[k]⟩) ⟨116,[],[k,q.n.length]⟩) (q.n.length+1)
     else sR f (bz (aT q) ⟨109,[],[k]⟩) q.n.length)else ń
mutual
def QJ:Nat->PS->Option (PS×Nat)
 |0,_=>ń
 |f+1,p=>if lim p then(if isP p 40 then(match lh f (aT p)with
       |some (q,k)=>if lim q then ś (aT (if isP q 41 then q else O5 q),k)else ń
       |none=>ń)
     else if isP p 46 then ś (bz (aT p) ⟨115,tab 95 (il [] 32 126),[]⟩,p.n.length)
     else if isP p 91 then LD f (aT p)
     else ś (bz (et p Yq).1 ⟨115,tab 95 (il [] (et p Yq).2 (et p Yq).2),[]⟩,p.n.length))else ń
def Er:Nat->PS->Option (PS×Nat)
 |0,_=>ń
 |f+1,p=>match QJ f p with
   |some (q,k)=>sR f q k
   |none=>ń
def Ve:Nat->PS->List Nat->Option (PS×List Nat)
 |0,_,_=>ń
 |f+1,p,own=>if lim p&&decide (own.length<=900)then(if aiG p then(match Er f p with
     |some (q,k)=>Ve f q (own++[k])
     |none=>ń)else ś (p,own))else ń
def adp:Nat->PS->List Nat->Option (PS×Nat)
 |0,_,_=>ń
 |f+1,p,l=>if decide (l.length<=900)then(match Ve f p []with
   |some (q,own)=>if q.bad|| !isP q 124 then ś (bz (bz q ⟨116,[],own⟩) ⟨111,[],l++[q.n.length]⟩,q.n.length+1)
      else adp f (aT (bz q ⟨116,[],own⟩)) (l++[q.n.length])
   |none=>ń)else ń
def lh:Nat->PS->Option (PS×Nat)
 |0,_=>ń
 |f+1,p=>adp f p []
end
def parseF(s:Str):Option (List Part×Nat):=match lh 200 ⟨[],s,0,ğ⟩with
 |some (q,k)=>if !q.bad&&(decide (q.at'=s.length)&&decide (q.at'<=1000))then ś (q.n,k)else ń
 |none=>ń
def wfB:Nat->List Part->Bool
 |_,[]=>ť
 |i,p::l=>p.l.all (λx=>decide (x<i))&&((!decide (p.op=115)||decide (p.set.length=95))&&(decide (p.l.length<=1000)&&wfB (i+1) l))
def rxB(s:Str):Bool:=decide (s.length<=60)&&match parseF s with
 |some (ps,k)=>wfB 0 ps&&(decide (ps.length<=1000)&&decide (k<ps.length))
 |none=>ğ
def rxM(s v:Str):Bool:=match parseF s with
 |some (ps,k)=>matchT ps k v
 |none=>ğ
def allows12(c:Constraint)(v:Str):Bool:=
 v.all sign&&(decide (c.kind=1)||((decide (c.kind=2)&&hasS c.words v)||((decide (c.kind=3)&&(!(cutB v 58).2.2||hasS c.words (cutB v 58).1))||(decide (c.kind=4)&&rxM c.regex v))))
end Go.Abs.F
end
section
set_option maxHeartbeats 4000000
set_option maxRecDepth 100000
namespace Go.Abs.F
open Go.Proofs
attribute [-simp] getElem?_pos zBe List.map_map
def ZP(e:Allowed):Prop:=e.kids.length<=8/\∃l,e.rules=lu l
theorem Lo:∀(l out:List Allowed)(i:Nat),(∀e∈out,ZP e)->∀e∈m4 i out l,ZP e
 |[],out,i,h=>by simpa[m4]using h
 |x::l,out,i,h=>by
   simp only[m4];split
   ·exact Lo l out _ h
   ·refine Lo l _ _ λe he=>?_
    rcases List.mem_append.1 he with he|he
    ·exact h e he
    ·simp at he;subst he;exact⟨by simp,x.rules,rfl⟩
theorem XY {els} (k) (own) (h:∀ e∈els,ZP e):∀ e∈lm els k own,ZP e:=by
 intro e he
 unfold lm at he
 split at he
 · rename_i x hx
   rcases List.mem_or_eq_of_mem_set he with he | he
   · exact h e he
   · subst he
     exact ⟨WG _ _ _,(h x (zBb hx)).2⟩
 · exact h e he
theorem Qe:∀(l els:List Allowed)(k:Nat),(∀e∈els,ZP e)->∀e∈iO k els l,ZP e
 |[],els,k,h=>by simpa[iO]using h
 |x::l,els,k,h=>by
   simp only[iO];exact Qe l _ _ (XY k x.kids h)
theorem tu(p):∀e∈(ai p).elements,ZP e:=by
 unfold ai;exact Qe _ _ _ (Lo _ _ _ (by simp))
end Go.Abs.F
end
