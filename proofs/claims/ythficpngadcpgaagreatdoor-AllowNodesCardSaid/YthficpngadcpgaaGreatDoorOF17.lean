/-
  What strainerref09's matching tells: tables of truth values. No condition.
  What strainerref09's step and Match tell: which places a part leads to. No condition.
  What strainerref09's Match tells. No condition.
  What strainerref09's parser makes: its small functions. No condition.
  What strainerref09's class makes: a set of signs. No condition.
  What strainerref09's parser makes: atoms, pieces, branches. No condition.
  What strainerref09's Parse and strainerref12's Allows answer. No condition.
  What a guard allows is not dangerous: the plain law, and what strainerlaw21's lives answers. No condition.
-/
import Derived.Test.YthficpngadcpgaaGreatDoorOF1
import Derived.KernelRfl
set_option linter.unusedVariables false
set_option linter.unusedSimpArgs false
set_option linter.unusedSectionVars false
section
set_option maxHeartbeats 4000000
set_option maxRecDepth 100000
namespace Go.Abs.F
open Go.Proofs
attribute [-simp] getElem?_pos Option.not_isSome
def tab {α:Type} (n:Nat) (F:Nat→α):List α:=(List.range n).map F
section
variable {α β:Type} {n i:Nat} {F G:Nat→α}
theorem BN:(tab n F).length=n:=by simp [tab]
theorem BO (h:i < n):(tab n F)[i]?=some (F i):=by simp only [tab,List.getElem?_map,List.getElem?_range h,Option.map_some]
theorem Mb (h:n≤i):(tab n F)[i]?=none:=by rw [List.getElem?_eq_none]; rw [BN]; exact h
theorem BM {x:α}:(tab n F).set i x=tab n (fun j=>if j=i then x else F j):=by
 apply List.ext_getElem?
 intro j
 rw [List.getElem?_set,BN]
 by_cases h:j < n
 · rw [BO h,BO h]
   by_cases hj:i=j
   · subst hj; simp [h]
   · rw [if_neg hj,if_neg (fun e=>hj e.symm)]
 · rw [Mb (by omega),Mb (by omega)]
   split<;>simp_all
theorem eV (h:∀ i,i < n→F i=G i):tab n F=tab n G:=by
 unfold tab
 exact List.map_congr_left fun i hi=>h i (by simpa using hi)
theorem IJ {x:α}:List.replicate n x=tab n (fun _=>x):=by rw [tab,List.map_const',List.length_range]
theorem Py {g:α→β}:(tab n F).map g=tab n (fun i=>g (F i)):=by simp [tab]
end
attribute [simp] BN BO BM Py
def aF (n:Nat) (f:Nat→Bool):List V:=tab n fun k=>.bool (f k)
def cx (n:Nat) (f:Nat→Nat→Bool):V:=.seq 1 (tab n fun i=>.seq 1 (aF n (f i)))
theorem MJ {n k:Nat} {f:Nat→Bool} (h:k < n):(aF n f)[k]?=some (.bool (f k)):=by simp [aF,h]
theorem MI {n:Nat} {f:Nat→Bool}:(aF n f).length=n:=by simp [aF]
def sub (k:Nat) (b:Bool) (f:Nat→Bool) (j:Nat):Bool:=if j=k then b else f j
theorem MG {n k:Nat} {f:Nat→Bool} {b:Bool}:(aF n f).set k (.bool b)=aF n (sub k b f):=by
 simp only [aF,BM]
 exact eV fun j _=>by unfold sub; split<;>rfl
theorem MH {n:Nat}:List.replicate n (V.bool false)=aF n (fun _=>false):=by simp [aF,IJ]
theorem dk {n:Nat} {f g:Nat→Bool} (h:∀ k,k < n→f k=g k):aF n f=aF n g:=eV fun k hk=>by rw [h k hk]
theorem nC {n:Nat} {f:Nat→Bool}:cf (aF n f)=true:=by
 unfold aF tab
 induction List.range n with
 | nil=>rfl
 | cons x l ih=>simp [cf,cg,ih]
attribute [simp] MJ MI MG MH nC
def sH (n i:Nat) (R:Nat→List V):List (List V):=tab n fun j=>if j < i then R j else []
def ib (n i:Nat) (R:Nat→List V) (r:List V):List (List V):=tab n fun j=>if j=i then r else if j < i then R j else []
theorem Nu {n i:Nat} {R:Nat→List V}:(sH n i R).length=n:=by simp [sH]
theorem JO {n i:Nat} {R:Nat→List V} {r:List V}:(ib n i R r).length=n:=by simp [ib]
theorem Nv {n i:Nat} {R:Nat→List V} (h:i < n):(sH n i R)[i]?=some []:=by simp [sH,h]
theorem JP {n i:Nat} {R:Nat→List V} {r:List V} (h:i < n):(ib n i R r)[i]?=some r:=by simp [ib,h]
theorem Nt {n i:Nat} {R:Nat→List V} {r:List V}:(sH n i R).set i r=ib n i R r:=by simp [sH,ib]
theorem JN {n i:Nat} {R:Nat→List V} {r s:List V}:(ib n i R r).set i s=ib n i R s:=by
 simp only [ib,BM]
 exact eV fun j _=>by by_cases h:j=i<;>simp [h]
theorem pC {n i:Nat} {R:Nat→List V}:ib n i R (R i)=sH n (i + 1) R:=by
 refine eV fun j _=>?_
 by_cases h:j=i
 · subst h; simp
 · simp only [if_neg h]
   by_cases h':j < i
   · rw [if_pos h',if_pos (by omega)]
   · rw [if_neg h',if_neg (by omega)]
theorem wL {n:Nat} {R:Nat→List V}:List.replicate n ([]:List V)=sH n 0 R:=by simp [sH,IJ]
theorem wM {n:Nat} {R:Nat→List V}:sH n n R=tab n R:=eV fun j h=>by rw [if_pos h]
attribute [simp] Nu JO Nv JP Nt JN
def uk (k:Nat) (F:Nat→Bool) (c:Nat):Bool:=if c < k then F c else false
theorem vk {n:Nat} {F:Nat→Bool}:aF n (uk n F)=aF n F:=dk fun c hc=>by rw [uk,if_pos hc]
theorem sb {n:Nat} {F:Nat→Bool}:aF n (fun _=>false)=aF n (uk 0 F):=dk fun c hc=>by rw [uk,if_neg (by omega)]
theorem sa {n k:Nat} {F:Nat→Bool} {b:Bool} (h:b=F k):aF n (sub k b (uk k F))=aF n (uk (k + 1) F):=dk fun c hc=>by
 simp only [uk,sub]
 by_cases h1:c=k
 · subst h1; rw [if_pos rfl,if_pos (by omega),h]
 · rw [if_neg h1]
   by_cases h2:c < k
   · rw [if_pos h2,if_pos (by omega)]
   · rw [if_neg h2,if_neg (by omega)]
theorem kQ (n:Nat) (f g:Nat→Nat→Bool) (hn:n≤1000000):FnN Tryz.prog Cg [cx n f,cx n g] (cx n fun i k=>f i k || g i k):=by
 refine FnN.of_image mixed Dl CS rfl fun ho=>?_
 unfold rJ
 clear ho
 simp only [cx]
 simp (disch:=omega) [-List.reduceReplicate]
 generalize hR:(fun i=>aF n fun k=>f i k || g i k)=R
 have hRi:∀ i,R i=aF n fun k=>f i k || g i k:=fun i=>by rw [←hR]
 rw [wL (R:=R)]
 refine ak (fun i:Nat=>⟨[(0,.seq 1 (tab n fun i=>.seq 1 (aF n (f i)))),(1,.seq 1 (tab n fun i=>.seq 1 (aF n (g i)))),(5,.ref 0 n),(6,.int .i64 i)],
  [some (.mat cP bE 1 (sm (sH n i R)))]⟩) (fun i=>i≤n) (fun i=>n - i) [] _ 0 rfl (by simp) (by simp) ?_
 rintro i hi N hN
 rcases Nat.lt_or_ge i n with hlt | hge
 · simp (disch:=omega) [-List.reduceReplicate]
   rw [sb (F:=fun c=>f i c || g i c)]
   refine ak (fun k:Nat=>⟨[(0,.seq 1 (tab n fun i=>.seq 1 (aF n (f i)))),(1,.seq 1 (tab n fun i=>.seq 1 (aF n (g i)))),(5,.ref 0 n),(6,.int .i64 i),(7,.int .i64 k)],
    [some (.mat cP bE 1 (sm (ib n i R (aF n (uk k fun c=>f i c || g i c)))))]⟩) (fun k=>k≤n) (fun k=>n - k) [] _ 0 rfl (by simp) (by simp) ?_
   rintro k hk M hM
   rcases Nat.lt_or_ge k n with hlt2 | hge2
   · simp (disch:=omega) [-List.reduceReplicate]
     refine BrK.mk (fun h=>?_) (fun h=>?_)
     all_goals
      simp (disch:=omega) [-List.reduceReplicate,h]
      rw [sa (by simp [h])]
      exact hM.out _<|Nx.mk (k + 1) (by simp) (by omega) (by omega)
   · have:k=n:=by omega
     subst this
     simp (disch:=omega) [-List.reduceReplicate]
     rw [vk,←hRi,pC]
     exact hN.out _<|Nx.mk (i + 1) (by simp) (by omega) (by omega)
 · have:i=n:=by omega
   subst this
   simp (disch:=omega) [-List.reduceReplicate,wM]
   refine ⟨fun x hx=>?_,?_⟩
   · simp only [tab,List.mem_map] at hx
     obtain ⟨j,_,rfl⟩:=hx
     rw [hRi]; exact nC
   · exact eV fun j _=>by rw [hRi]
def jo (f g:Nat→Nat→Bool) (i m c:Nat):Bool:=(List.range m).any fun x=>decide (x≤c) && (f i x && g x c)
theorem u7 {f g:Nat→Nat→Bool} {i m c:Nat}:jo f g i (m + 1) c=(jo f g i m c || (decide (m≤c) && (f i m && g m c))):=by
 simp only [jo,List.range_succ,List.any_append]
 simp
def sy (k:Nat) (F G:Nat→Bool) (c:Nat):Bool:=if c < k then F c else G c
theorem Qc {k:Nat} {F G:Nat→Bool}:sy k F G k=G k:=by simp [sy]
theorem Nd {n:Nat} {F G:Nat→Bool}:aF n (sy n F G)=aF n F:=dk fun c hc=>by rw [sy,if_pos hc]
theorem I2 {n k:Nat} {F G:Nat→Bool} (h:∀ c,c < k→F c=G c):aF n (sy k F G)=aF n G:=dk fun c hc=>by
 unfold sy
 split
 · exact h c (by assumption)
 · rfl
theorem Ki {n k:Nat} {F G:Nat→Bool} {b:Bool} (h:b=F k):aF n (sub k b (sy k F G))=aF n (sy (k + 1) F G):=dk fun c hc=>by
 simp only [sy,sub]
 by_cases h1:c=k
 · subst h1; rw [if_pos rfl,if_pos (by omega),h]
 · rw [if_neg h1]
   by_cases h2:c < k
   · rw [if_pos h2,if_pos (by omega)]
   · rw [if_neg h2,if_neg (by omega)]
theorem iC (n:Nat) (f g:Nat→Nat→Bool) (hn:n≤1000000):FnN Tryz.prog vU [cx n f,cx n g] (cx n fun i k=>jo f g i n k):=by
 refine FnN.of_image mixed wV wy rfl fun ho=>?_
 unfold m9
 clear ho
 simp only [cx]
 simp (disch:=omega) [-List.reduceReplicate]
 generalize hR:(fun i=>aF n fun k=>jo f g i n k)=R
 have hRi:∀ i,R i=aF n fun k=>jo f g i n k:=fun i=>by rw [←hR]
 rw [wL (R:=R)]
 refine ak (fun i:Nat=>⟨[(0,.seq 1 (tab n fun i=>.seq 1 (aF n (f i)))),(1,.seq 1 (tab n fun i=>.seq 1 (aF n (g i)))),(5,.ref 0 n),(6,.int .i64 i)],
  [some (.mat cP bE 1 (sm (sH n i R)))]⟩) (fun i=>i≤n) (fun i=>n - i) [] _ 0 rfl (by simp) (by simp) ?_
 rintro i hi N hN
 rcases Nat.lt_or_ge i n with hlt | hge
 · simp (disch:=omega) [-List.reduceReplicate]
   have e0:aF n (fun _=>false)=aF n (jo f g i 0):=dk fun c _=>rfl
   rw [e0]
   refine ak (fun m:Nat=>⟨[(0,.seq 1 (tab n fun i=>.seq 1 (aF n (f i)))),(1,.seq 1 (tab n fun i=>.seq 1 (aF n (g i)))),(5,.ref 0 n),(6,.int .i64 i),(7,.int .i64 m)],
    [some (.mat cP bE 1 (sm (ib n i R (aF n (jo f g i m)))))]⟩) (fun m=>m≤n) (fun m=>n - m) [] _ 0 rfl (by simp) (by simp) ?_
   rintro m hm M hM
   rcases Nat.lt_or_ge m n with hlt2 | hge2
   · simp (disch:=omega) [-List.reduceReplicate]
     have e1:aF n (jo f g i m)=aF n (sy m (jo f g i (m + 1)) (jo f g i m)):=(I2 fun c hc=>by rw [u7]; simp; omega).symm
     rw [e1]
     refine ak (fun k:Nat=>⟨[(0,.seq 1 (tab n fun i=>.seq 1 (aF n (f i)))),(1,.seq 1 (tab n fun i=>.seq 1 (aF n (g i)))),(5,.ref 0 n),(6,.int .i64 i),(7,.int .i64 m),(8,.int .i64 k)],
      [some (.mat cP bE 1 (sm (ib n i R (aF n (sy k (jo f g i (m + 1)) (jo f g i m))))))]⟩) (fun k=>m≤k∧k≤n∧(f i m=false→k=m)) (fun k=>n - k) [] _ m rfl (by simp) (by simp; omega) ?_
     rintro k ⟨hk,hk2,hkf⟩ L hL
     have last:aF n (sy k (jo f g i (m + 1)) (jo f g i m))=aF n (jo f g i (m + 1))→∀ τ:St,τ.nrm [0,1,5,6,7]=⟨[(0,.seq 1 (tab n fun i=>.seq 1 (aF n (f i)))),(1,.seq 1 (tab n fun i=>.seq 1 (aF n (g i)))),(5,.ref 0 n),(6,.int .i64 i),(7,.int .i64 ((m + 1:Nat):Int))],
      [some (.mat cP bE 1 (sm (ib n i R (aF n (sy k (jo f g i (m + 1)) (jo f g i m))))))]⟩→M τ:=fun h τ hτ=>by
      rw [h] at hτ
      exact hM.out _<|Nx.mk (m + 1) hτ (by omega) (by omega)
     cases hf:f i m with
     | false=>
       have hkm:=hkf hf
       subst hkm
       replace last:=last (by rw [I2 fun c hc=>by rw [u7]; simp; omega]; exact dk fun c _=>by rw [u7,hf]; simp)
       simp (disch:=omega) [-List.reduceReplicate,hf]
       exact last _ (by simp)
     | true=>
       rcases Nat.lt_or_ge k n with hlt3 | hge3
       · simp (disch:=omega) [-List.reduceReplicate,hf,Qc]
         refine BrK.mk (fun h=>?_) (fun h=>?_)
         all_goals
          simp (disch:=omega) [-List.reduceReplicate,h]
          rw [Ki (by rw [u7,h,hf]; simp [hk])]
          exact hL.out _<|Nx.mk (k + 1) (by simp) ⟨by omega,by omega,fun h=>by rw [hf] at h; cases h⟩ (by omega)
       · have:k=n:=by omega
         subst this
         replace last:=last Nd
         simp (disch:=omega) [-List.reduceReplicate,hf]
         exact last _ (by simp)
   · have:m=n:=by omega
     subst this
     simp (disch:=omega) [-List.reduceReplicate]
     rw [←hRi,pC]
     exact hN.out _<|Nx.mk (i + 1) (by simp) (by omega) (by omega)
 · have:i=n:=by omega
   subst this
   simp (disch:=omega) [-List.reduceReplicate,wM]
   refine ⟨fun x hx=>?_,?_⟩
   · simp only [tab,List.mem_map] at hx
     obtain ⟨j,_,rfl⟩:=hx
     rw [hRi]; exact nC
   · exact eV fun j _=>by rw [hRi]
structure Part where
 op:Nat
 set:List Bool
 l:List Nat
def Part.v (p:Part):V:=.strct [.int .u8 p.op,.seq 1 (p.set.map .bool),.seq 1 (p.l.map fun (j:Nat)=>V.int .i64 (j:Int))]
def sgn (c:UInt8):Bool:=decide (32≤c.toNat) && decide (c.toNat≤126)
theorem kP (c:UInt8):Fn Tryz.prog Cf [.int .u8 c.toNat] (.bool (sgn c)):=by
 refine Fn.of_image mixed Dk CR rfl fun ho=>?_
 unfold rI
 simp only [oks,ok,and_true] at ho
 simp (disch:=omega) [-List.reduceReplicate]
 refine BrKd.mk (fun h=>?_) (fun h=>?_)
 all_goals
  simp [sgn,h]
def base (p:Part) (s:Str) (i:Nat):Nat→Bool:=
 match s[i]? with
 | some c=>if p.op=115∧sgn c=true then sub (i + 1) ((p.set[c.toNat - 32]?).getD false) (sub i (decide (p.op=116) || decide (p.op=109)) fun _=>false) else sub i (decide (p.op=116) || decide (p.op=109)) fun _=>false
 | none=>sub i (decide (p.op=116) || decide (p.op=109)) fun _=>false
abbrev Tab:=Nat→Nat→Bool
def both1 (f g:Tab):Tab:=fun i k=>f i k || g i k
def jon (n:Nat) (f g:Tab):Tab:=fun i k=>jo f g i n k
def star (n:Nat) (g:Tab):Nat→Tab→Tab
 | 0,f=>f
 | t + 1,f=>star n g t (both1 f (jon n f g))
def kid (n op:Nat) (f g:Tab):Tab:=if op=111 then both1 f g else if op=116 then jon n f g else if op=109 then star n g n f else f
def kidT (n op:Nat) (tabs:List Tab):Tab→List Nat→Tab
 | f,[]=>f
 | f,x::l=>kidT n op tabs (kid n op f ((tabs[x]?).getD fun _ _=>false)) l
def stepT (p:Part) (s:Str) (tabs:List Tab):Tab  :=kidT (s.length + 1) p.op tabs (base p s) p.l
@[simp high] theorem cl_matV {n:Nat} {f:Tab}:cl (cx n f)=[cx n f]:=rfl
def PY (n:Nat) (f:Tab) (o:V) (h:List (Option Ob)):Prop:=(o=.ref 0 n∧h=[some (.mat cP bE 1 (sm (tab n fun i=>aF n (f i))))])∨(o=.fseq 1 (tab n fun i=>.seq 1 (aF n (f i)))∧h=[])
theorem DN (parts:List Part) (k:Nat) (p:Part) (s:Str) (tabs:List Tab) (hp:parts[k]?=some p) (hs:s.length≤999999) (hl:∀ x∈p.l,x < tabs.length) (hset:p.op=115→p.set.length=95) (hll:p.l.length≤1000):
 FnN Tryz.prog Ce [.seq 3 (parts.map Part.v),.int .i64 k,.str s,.seq 1 (tabs.map (cx (s.length + 1)))] (cx (s.length + 1) (stepT p s tabs)):=by
 refine FnN.of_image mixed Dj CQ rfl fun ho=>?_
 unfold rH
 clear ho
 obtain ⟨n,hn⟩:∃ n,n=s.length + 1:=⟨_,rfl⟩
 simp only [←hn]
 simp (disch:=omega) [-List.reduceReplicate]
 rw [wL (R:=fun i=>aF n (base p s i))]
 have hpv:(parts.map Part.v)[k]?=some p.v:=by rw [List.getElem?_map,hp]; rfl
 have hn':(s.length:Int) + 1=(n:Int):=by omega
 simp only [hn',Int.toNat_natCast]
 refine ak (fun i:Nat=>⟨[(0,.seq 3 (parts.map Part.v)),(1,.int .i64 k),(2,.str s),(3,.seq 1 (tabs.map (cx n))),(9,.int .i64 n),(10,.ref 0 n),(11,.int .i64 i)],
  [some (.mat cP bE 1 (sm (sH n i fun i=>aF n (base p s i))))]⟩) (fun i=>i≤n) (fun i=>n - i) [] _ 0 rfl (by simp [←hn]) (by simp) ?_
 rintro i hi N hN
 rcases Nat.lt_or_ge i n with hlt | hge
 · replace hN:=fun (r:List V) (hr:r=aF n (base p s i)) τ (hτ:τ.nrm [0,1,2,3,9,10,11]=⟨[(0,.seq 3 (parts.map Part.v)),(1,.int .i64 k),(2,.str s),(3,.seq 1 (tabs.map (cx n))),(9,.int .i64 n),(10,.ref 0 n),(11,.int .i64 ((i + 1:Nat):Int))],
    [some (.mat cP bE 1 (sm (ib n i (fun i=>aF n (base p s i)) r)))]⟩)=>hN.out τ<|Nx.mk (i + 1) (by rw [hτ,hr,pC]) (by omega) (by omega)
   replace hN:=hid hN
   by_cases h115:p.op=115
   · have h116:¬p.op=116:=by omega
     have h109:¬p.op=109:=by omega
     rcases Nat.lt_or_ge i s.length with hil | hil
     · obtain ⟨c,hc⟩:=aO hil
       simp (disch:=omega) [-List.reduceReplicate,hpv,Part.v,h115,h116,h109,hc]
       refine ac (kP c) rfl fun _=>?_
       cases hg:sgn c with
       | true=>
         have hg2:32≤c.toNat∧c.toNat≤126:=by simpa [sgn] using hg
         obtain ⟨b,hb⟩:=aO (l:=p.set) (k:=c.toNat - 32) (by rw [hset h115]; omega)
         have e2:((c.toNat:Int) - 32).toNat=c.toNat - 32:=by omega
         simp (disch:=omega) [-List.reduceReplicate,hpv,Part.v,h115,h116,h109,hc,hb,e2]
         exact hN.out (aF n (sub (i + 1) b (sub i false fun _=>false))) (by simp [base,hc,hg,h115,hb]) _ (by simp)
       | false=>
         simp (disch:=omega) [-List.reduceReplicate,hpv,Part.v,h115,h116,h109,hc]
         exact hN.out (aF n (sub i false fun _=>false)) (by simp [base,hc,hg,h115]) _ (by simp)
     · have hc:s[i]?=none:=List.getElem?_eq_none (by omega)
       simp (disch:=omega) [-List.reduceReplicate,hpv,Part.v,h115,h116,h109,hc]
       exact hN.out (aF n (sub i false fun _=>false)) (by simp [base,hc,h115]) _ (by simp)
   · have hb:base p s i=sub i (decide (p.op=116) || decide (p.op=109)) fun _=>false:=by
      unfold base
      split
      · rw [if_neg (by simp [h115])]
      · rfl
     by_cases h116:p.op=116
     · simp (disch:=omega) [-List.reduceReplicate,hpv,Part.v,h115,h116]
       exact hN.out (aF n (sub i true fun _=>false)) (by simp [hb,h116]) _ (by simp)
     · by_cases h109:p.op=109
       · simp (disch:=omega) [-List.reduceReplicate,hpv,Part.v,h115,h116,h109]
         exact hN.out (aF n (sub i true fun _=>false)) (by simp [hb,h109]) _ (by simp)
       · simp (disch:=omega) [-List.reduceReplicate,hpv,Part.v,h115,h116,h109]
         exact hN.out (aF n (sub i false fun _=>false)) (by simp [hb,h116,h109]) _ (by simp)
 · have hin:i=n:=by omega
   rw [hin,wM]
   clear hN hin hi hge
   simp (disch:=omega) [-List.reduceReplicate]
   obtain ⟨T,hT⟩:∃ T,T=stepT p s tabs:=⟨_,rfl⟩
   rw [←hT]
   simp only [stepT,←hn] at hT
   refine ak (fun (q:Nat × Tab × V × List (Option Ob))=>⟨[(0,.seq 3 (parts.map Part.v)),(1,.int .i64 k),(3,.seq 1 (tabs.map (cx n))),(9,.int .i64 n),(10,q.2.2.1),(12,.int .i64 q.1)],q.2.2.2⟩)
    (fun q=>q.1≤p.l.length∧PY n q.2.1 q.2.2.1 q.2.2.2∧kidT n p.op tabs q.2.1 (p.l.drop q.1)=T) (fun q=>p.l.length - q.1) [] _ (0,base p s,.ref 0 n,[some (.mat cP bE 1 (sm (tab n fun i=>aF n (base p s i))))]) rfl (by simp) ⟨by simp,.inl ⟨rfl,rfl⟩,by simp [hT]⟩ ?_
   rintro ⟨j,f,o,h⟩ ⟨hj,ho,hk⟩ N hN
   simp only at hj ho hk
   rcases place p.l j hj with ⟨he,hd⟩ | ⟨hlt,x,hx,hd⟩<;>rw [hd,kidT] at hk
   · subst hk
     clear hN
     have hfl:∀ x∈tab n (fun i=>aF n (f i)),cf x=true:=by
      intro x hx
      simp only [tab,List.mem_map] at hx
      obtain ⟨j,_,rfl⟩:=hx
      exact nC
     rcases ho with ⟨rfl,rfl⟩ | ⟨rfl,rfl⟩
     all_goals
      simp (disch:=omega) [-List.reduceReplicate,hpv,Part.v,he]
     · exact ⟨hfl,by simp [cx]⟩
     · simp [cx]
   · have hxt:=hl x (List.mem_of_getElem? hx)
     obtain ⟨g,hg⟩:=aO hxt
     have hlx:(p.l.map fun (j:Nat)=>V.int .i64 (j:Int))[j]?=some (.int .i64 (x:Int)):=by rw [List.getElem?_map,hx]; rfl
     rw [hg] at hk
     simp only [Option.getD_some] at hk
     replace hk:=hid hk
     replace hN:=fun (f':Tab) (hf:kid n p.op f g=f') τ (o':V) (h':List (Option Ob)) (hτ:τ.nrm [0,1,3,9,10,12]=⟨[(0,.seq 3 (parts.map Part.v)),(1,.int .i64 k),(3,.seq 1 (tabs.map (cx n))),(9,.int .i64 n),(10,o'),(12,.int .i64 ((j + 1:Nat):Int))],h'⟩) (ho:PY n f' o' h')=>
      hN.out τ<|Nx.mk (j + 1,f',o',h') hτ ⟨by simp only; omega,ho,by simp only; rw [←hf]; exact hk.out⟩ (by simp only; omega)
     replace hN:=hid hN
     by_cases h111:p.op=111
     · rcases ho with ⟨rfl,rfl⟩ | ⟨rfl,rfl⟩
       all_goals
        simp (disch:=omega) [-List.reduceReplicate,hpv,Part.v,hlx,hg,h111,cx]
        refine eh (kQ n f g (by omega)) fun _=>?_
        simp (disch:=omega) [-List.reduceReplicate,cx]
        exact hN.out (both1 f g) (by simp [kid,h111]) _ (.fseq 1 (tab n fun i=>.seq 1 (aF n (both1 f g i)))) [] (by simp; rfl) (.inr ⟨rfl,rfl⟩)
     · by_cases h116:p.op=116
       · rcases ho with ⟨rfl,rfl⟩ | ⟨rfl,rfl⟩
         all_goals
          simp (disch:=omega) [-List.reduceReplicate,hpv,Part.v,hlx,hg,h111,h116,cx]
          refine eh (iC n f g (by omega)) fun _=>?_
          simp (disch:=omega) [-List.reduceReplicate,cx]
          exact hN.out (jon n f g) (by simp [kid,h116]) _ (.fseq 1 (tab n fun i=>.seq 1 (aF n (jon n f g i)))) [] (by simp; rfl) (.inr ⟨rfl,rfl⟩)
       · by_cases h109:p.op=109
         · rcases ho with ⟨rfl,rfl⟩ | ⟨rfl,rfl⟩
           · simp (disch:=omega) [-List.reduceReplicate,hpv,Part.v,hlx,hg,h111,h116,h109,cx]
             refine ak (fun (q:Nat × Tab × V × List (Option Ob))=>⟨[(0,.seq 3 (parts.map Part.v)),(1,.int .i64 k),(3,.seq 1 (tabs.map (cx n))),(9,.int .i64 n),(10,q.2.2.1),(12,.int .i64 j),(13,.seq 1 (tab n fun i=>.seq 1 (aF n (g i)))),(14,.int .i64 q.1)],q.2.2.2⟩)
              (fun q=>q.1≤n∧PY n q.2.1 q.2.2.1 q.2.2.2∧star n g (n - q.1) q.2.1=kid n p.op f g) (fun q=>n - q.1) [] _ (0,f,.ref 0 n,[some (.mat cP bE 1 (sm (tab n fun i=>aF n (f i))))]) rfl (by simp [cx]) ⟨by simp,.inl ⟨rfl,rfl⟩,by simp [kid,h109]⟩ ?_
             rintro ⟨t,f2,o2,h2⟩ ⟨ht,ho2,hk2⟩ L hL
             simp only at ht ho2 hk2
             rcases Nat.lt_or_ge t n with htn | htn
             · have e:n - t=(n - (t + 1)) + 1:=by omega
               rw [e,star] at hk2
               replace hk2:=hid hk2
               have nx:∀ τ:St,τ.nrm [0,1,3,9,10,12,13,14]=⟨[(0,.seq 3 (parts.map Part.v)),(1,.int .i64 k),(3,.seq 1 (tabs.map (cx n))),(9,.int .i64 n),(10,.fseq 1 (tab n fun i=>.seq 1 (aF n (both1 f2 (jon n f2 g) i)))),(12,.int .i64 j),(13,.seq 1 (tab n fun i=>.seq 1 (aF n (g i)))),(14,.int .i64 ((t + 1:Nat):Int))],[]⟩→L τ:=fun τ hτ=>
                hL.out τ<|Nx.mk (t + 1,both1 f2 (jon n f2 g),_,[]) hτ ⟨by simp only; omega,.inr ⟨rfl,rfl⟩,hk2.out⟩ (by simp only; omega)
               replace nx:=hid nx
               rcases ho2 with ⟨rfl,rfl⟩ | ⟨rfl,rfl⟩
               all_goals
                simp (disch:=omega) [-List.reduceReplicate]
                refine eh (iC n f2 g (by omega)) fun _=>?_
                simp (disch:=omega) [-List.reduceReplicate,cx]
                refine eh (kQ n f2 (jon n f2 g) (by omega)) fun _=>?_
                simp (disch:=omega) [-List.reduceReplicate,cx]
                exact nx.out _ (by simp; rfl)
             · have e:n - t=0:=by omega
               rw [e,star] at hk2
               replace hN:=hN.out f2 hk2.symm
               clear hL
               rcases ho2 with ⟨rfl,rfl⟩ | ⟨rfl,rfl⟩
               · simp (disch:=omega) [-List.reduceReplicate,htn]
                 exact hN _ _ _ (by simp) (.inl ⟨rfl,rfl⟩)
               · simp (disch:=omega) [-List.reduceReplicate,htn]
                 exact hN _ _ _ (by simp) (.inr ⟨rfl,rfl⟩)
           · simp (disch:=omega) [-List.reduceReplicate,hpv,Part.v,hlx,hg,h111,h116,h109,cx]
             refine ak (fun (q:Nat × Tab × V × List (Option Ob))=>⟨[(0,.seq 3 (parts.map Part.v)),(1,.int .i64 k),(3,.seq 1 (tabs.map (cx n))),(9,.int .i64 n),(10,q.2.2.1),(12,.int .i64 j),(13,.seq 1 (tab n fun i=>.seq 1 (aF n (g i)))),(14,.int .i64 q.1)],q.2.2.2⟩)
              (fun q=>q.1≤n∧PY n q.2.1 q.2.2.1 q.2.2.2∧star n g (n - q.1) q.2.1=kid n p.op f g) (fun q=>n - q.1) [] _ (0,f,.fseq 1 (tab n fun i=>.seq 1 (aF n (f i))),[]) rfl (by simp [cx]) ⟨by simp,.inr ⟨rfl,rfl⟩,by simp [kid,h109]⟩ ?_
             rintro ⟨t,f2,o2,h2⟩ ⟨ht,ho2,hk2⟩ L hL
             simp only at ht ho2 hk2
             rcases Nat.lt_or_ge t n with htn | htn
             · have e:n - t=(n - (t + 1)) + 1:=by omega
               rw [e,star] at hk2
               replace hk2:=hid hk2
               have nx:∀ τ:St,τ.nrm [0,1,3,9,10,12,13,14]=⟨[(0,.seq 3 (parts.map Part.v)),(1,.int .i64 k),(3,.seq 1 (tabs.map (cx n))),(9,.int .i64 n),(10,.fseq 1 (tab n fun i=>.seq 1 (aF n (both1 f2 (jon n f2 g) i)))),(12,.int .i64 j),(13,.seq 1 (tab n fun i=>.seq 1 (aF n (g i)))),(14,.int .i64 ((t + 1:Nat):Int))],[]⟩→L τ:=fun τ hτ=>
                hL.out τ<|Nx.mk (t + 1,both1 f2 (jon n f2 g),_,[]) hτ ⟨by simp only; omega,.inr ⟨rfl,rfl⟩,hk2.out⟩ (by simp only; omega)
               replace nx:=hid nx
               rcases ho2 with ⟨rfl,rfl⟩ | ⟨rfl,rfl⟩
               all_goals
                simp (disch:=omega) [-List.reduceReplicate]
                refine eh (iC n f2 g (by omega)) fun _=>?_
                simp (disch:=omega) [-List.reduceReplicate,cx]
                refine eh (kQ n f2 (jon n f2 g) (by omega)) fun _=>?_
                simp (disch:=omega) [-List.reduceReplicate,cx]
                exact nx.out _ (by simp; rfl)
             · have e:n - t=0:=by omega
               rw [e,star] at hk2
               replace hN:=hN.out f2 hk2.symm
               clear hL
               rcases ho2 with ⟨rfl,rfl⟩ | ⟨rfl,rfl⟩
               · simp (disch:=omega) [-List.reduceReplicate,htn]
                 exact hN _ _ _ (by simp) (.inl ⟨rfl,rfl⟩)
               · simp (disch:=omega) [-List.reduceReplicate,htn]
                 exact hN _ _ _ (by simp) (.inr ⟨rfl,rfl⟩)
         · rcases ho with ⟨rfl,rfl⟩ | ⟨rfl,rfl⟩
           all_goals
            simp (disch:=omega) [-List.reduceReplicate,hpv,Part.v,hlx,hg,h111,h116,h109,cx]
            refine hN.out f (by simp [kid,h111,h116,h109]) _ _ _ (by simp; exact ⟨rfl,rfl⟩) ?_
            first | exact .inl ⟨rfl,rfl⟩ | exact .inr ⟨rfl,rfl⟩
def tabsGo (s:Str):List Tab→List Part→List Tab
 | acc,[]=>acc
 | acc,p::ps=>tabsGo s (acc++[stepT p s acc]) ps
theorem vp (s:Str):∀ (ps:List Part) (acc:List Tab),(tabsGo s acc ps).length=acc.length + ps.length
 | [],acc=>rfl
 | p::ps,acc=>by simp only [tabsGo,vp s ps,List.length_append,List.length_cons,List.length_nil]; omega
def matchT (parts:List Part) (k:Nat) (s:Str):Bool:=(((tabsGo s [] (parts.take (k + 1)))[k]?).getD fun _ _=>false) 0 s.length
def Wf (parts:List Part):Prop:=parts.length≤1000∧∀ (i:Nat) (p:Part),parts[i]?=some p→(∀ x∈p.l,x < i)∧(p.op=115→p.set.length=95)∧p.l.length≤1000
theorem Aj (parts:List Part) (k:Nat) (s:Str) (hw:Wf parts) (hk:k < parts.length) (hs:s.length≤999999):Fn Tryz.prog yq [.seq 3 (parts.map Part.v),.int .i64 k,.str s] (.bool (matchT parts k s)):=by
 refine Fn.of_image mixed zJ y6 rfl fun ho=>?_
 unfold pc
 simp only [oks,ok,and_true] at ho
 clear ho
 have hpl:=hw.1
 simp (disch:=omega) [-List.reduceReplicate]
 obtain ⟨T,hT⟩:∃ T,T=tabsGo s [] (parts.take (k + 1)):=⟨_,rfl⟩
 have hTl:T.length=k + 1:=by rw [hT,vp]; simp; omega
 obtain ⟨f,hf⟩:=aO (l:=T) (k:=k) (by omega)
 have hm:matchT parts k s=f 0 s.length:=by rw [matchT,←hT,hf]; rfl
 rw [hm]
 have hlt:(parts.take (k + 1)).length=k + 1:=by simp; omega
 refine ak (fun (q:Nat × List Tab)=>⟨[(0,.seq 3 (parts.map Part.v)),(1,.int .i64 k),(2,.str s),(7,.ref 0 q.2.length),(8,.int .i64 q.1)],[some (.arr sc 1 (q.2.map (cx (s.length + 1))))]⟩)
  (fun q=>q.1≤(parts.take (k + 1)).length∧q.2.length=q.1∧tabsGo s q.2 ((parts.take (k + 1)).drop q.1)=T) (fun q=>(parts.take (k + 1)).length - q.1) [.r 7 sc 1] _ (0,[]) rfl (by simp) (by simp [hT]) ?_
 rintro ⟨i,acc⟩ ⟨hi,ha,hi2⟩ N hN
 simp only at hi ha hi2
 rcases place (parts.take (k + 1)) i hi with ⟨he,hd⟩ | ⟨hlt2,p,hp,hd⟩<;>rw [hd,tabsGo] at hi2
 · subst hi2
   clear hN
   have e:(acc.map (cx (s.length + 1)))[k]?=some (cx (s.length + 1) f):=by rw [List.getElem?_map,hf]; rfl
   simp (disch:=omega) [-List.reduceReplicate,he,hlt,e,cx]
 · have hp2:parts[i]?=some p:=by rw [List.getElem?_take] at hp; simpa [show i < k + 1 by omega] using hp
   obtain ⟨w1,w2,w3⟩:=hw.2 i p hp2
   replace hi2:=hid hi2
   simp (disch:=omega) [-List.reduceReplicate]
   refine gY (DN parts i p s acc hp2 hs (by rw [ha]; exact w1) w2 w3) fun _=>?_
   simp (disch:=omega) [-List.reduceReplicate,cx]
   exact hN.out _<|Nx.mk (i + 1,acc++[stepT p s acc]) (by simp; rfl) ⟨by simp only; omega,by simp; omega,hi2.out⟩ (by simp only; omega)
structure PS where
 n:List Part
 s:Str
 at':Nat
 bad:Bool
def PS.v (p:PS):V:=.strct [.seq 3 (p.n.map Part.v),.str p.s,.int .i64 p.at',.bool p.bad]
def isP (p:PS) (c:Nat):Bool:=match p.s[p.at']? with
 | some b=>decide (b.toNat=c)
 | none=>false
theorem aU (p:PS) (c:Nat):Fn Tryz.prog Hp [p.v,.int .u8 c] (.bool (isP p c)):=by
 refine Fn.of_image mixed HL HF rfl fun ho=>?_
 unfold xK
 simp only [oks,ok,and_true] at ho
 simp (disch:=omega) [-List.reduceReplicate,PS.v]
 rcases Nat.lt_or_ge p.at' p.s.length with h | h
 · obtain ⟨b,hb⟩:=aO h
   simp (disch:=omega) [-List.reduceReplicate,isP,hb,Int.ofNat_inj]
 · have hb:p.s[p.at']?=none:=List.getElem?_eq_none (by omega)
   simp (disch:=omega) [-List.reduceReplicate,isP,hb]
def gq (c:Nat) (l:Str):Bool:=l.any fun b=>decide (b.toNat=c)
theorem jw (c:Nat) (l:Str):Fn Tryz.prog yo [.int .u8 c,.str l] (.bool (gq c l)):=by
 refine Fn.of_image mixed zH yZ rfl fun ho=>?_
 unfold o9
 simp only [oks,ok,and_true] at ho
 simp (disch:=omega) [-List.reduceReplicate]
 obtain ⟨r,hr⟩:∃ r,gq c l=r:=⟨_,rfl⟩
 rw [hr]
 refine ak (fun k:Nat=>⟨[(0,.int .u8 c),(1,.str l),(5,.int .i64 k)],[]⟩) (fun k=>k≤l.length∧gq c (l.drop k)=r) (fun k=>l.length - k) [] _ 0 rfl (by simp) (by simp [hr]) ?_
 rintro k ⟨hk,hi⟩ N hN
 rcases place l k hk with ⟨he,hd⟩ | ⟨hlt,x,hx,hd⟩<;>rw [hd] at hi
 · subst hi
   simp (disch:=omega) [-List.reduceReplicate,he,gq]
 · replace hi:=hid hi
   simp (disch:=omega) [-List.reduceReplicate,hx]
   refine BrKd.mk (fun h=>?_) (fun h=>?_)
   · have:=hi.out
     simp (disch:=omega) [-List.reduceReplicate,h]
     rw [←this]
     have h':x.toNat=c:=by omega
     simp [gq,h']
   · simp (disch:=omega) [-List.reduceReplicate,h]
     refine hN.out _<|Nx.mk (k + 1) (by simp) ⟨by omega,?_⟩ (by omega)
     have:=hi.out
     have h':¬x.toNat=c:=by omega
     simpa [gq,h'] using this
def aN (p:PS) (x:Part):PS:={ p with n:=p.n++[x] }
theorem aY (p:PS) (x:Part) (hn:p.n.length≤1000):Fn Tryz.prog EZ [p.v,x.v] (.tup [(aN p x).v,.int .i64 p.n.length]):=by
 refine Fn.of_image mixed FK Fo rfl fun ho=>?_
 unfold tV
 simp only [oks,ok,and_true] at ho
 clear ho
 simp (disch:=omega) [-List.reduceReplicate,PS.v,Part.v]
 repeat' (first | refine r8.mk ?_ ?_ | (simp (disch:=omega) [aN,Part.v,PS.v]; done) | (simp (disch:=omega); refine r8.mk ?_ ?_))
def co (p:PS) (odd:Str):PS × Nat:=
 let q:PS:=if isP p 92 then { p with at':=p.at' + 1 } else p
 match q.s[q.at']? with
 | some c=>if sgn c && (isP p 92 || !gq c.toNat odd) then ({ q with at':=q.at' + 1 },c.toNat) else ({ q with bad:=true },32)
 | none=>({ q with bad:=true },32)
theorem jv (p:PS) (odd:Str):Fn Tryz.prog ym [p.v,.str odd] (.tup [(co p odd).1.v,.int .u8 (co p odd).2]):=by
 refine Fn.of_image mixed zE yW rfl fun ho=>?_
 unfold oX
 simp only [oks,ok,and_true] at ho
 have hs:p.s.length≤4611686018427387904:=by have:=ho.1; simp [PS.v] at this; exact this.2.1
 clear ho
 simp (disch:=omega) [-List.reduceReplicate,PS.v]
 refine ac (by simpa [PS.v] using aU p 92) rfl fun _=>?_
 have isat:isP p 92=true→p.at' < p.s.length:=by
  intro h
  unfold isP at h
  split at h
  · rename_i b hb; exact (List.getElem?_eq_some_iff.1 hb).1
  · cases h
 cases hb:isP p 92
 · rcases Nat.lt_or_ge p.at' p.s.length with h | h
   · obtain ⟨c,hc⟩:=aO h
     simp (disch:=omega) [-List.reduceReplicate,hc]
     refine ac (kP c) rfl fun _=>?_
     cases hg:sgn c
     · simp (disch:=omega) [-List.reduceReplicate,hc]
       simp [co,hb,hc,hg]
     · simp (disch:=omega) [-List.reduceReplicate,hc]
       refine ac (jw c.toNat odd) rfl fun _=>?_
       cases ha:gq c.toNat odd
       all_goals
        simp (disch:=omega) [-List.reduceReplicate,hc]
        simp [co,hb,hc,hg,ha]
   · have hc:p.s[p.at']?=none:=List.getElem?_eq_none (by omega)
     simp (disch:=omega) [-List.reduceReplicate,hc]
     simp [co,hb,hc]
 · have hat:=isat hb
   rcases Nat.lt_or_ge (p.at' + 1) p.s.length with h | h
   · obtain ⟨c,hc⟩:=aO h
     simp (disch:=omega) [-List.reduceReplicate,hc]
     refine ac (kP c) rfl fun _=>?_
     cases hg:sgn c
     · simp (disch:=omega) [-List.reduceReplicate,hc]
       simp [co,hb,hc,hg]
     · simp (disch:=omega) [-List.reduceReplicate,hc]
       simp [co,hb,hc,hg]
   · have hc:p.s[p.at' + 1]?=none:=List.getElem?_eq_none (by omega)
     simp (disch:=omega) [-List.reduceReplicate,hc]
     simp [co,hb,hc]
def dW (set:List Bool) (low high:Nat):Nat→Bool:=fun i=>((set[i]?).getD false) || (decide (low≤i + 32) && decide (i + 32≤high))
theorem fp (set:List Bool) (low high:Nat):FnN Tryz.prog yl [.seq 1 (set.map .bool),.int .u8 low,.int .u8 high] (.seq 1 (aF 95 (dW set low high))):=by
 refine FnN.of_image mixed zD yV rfl fun ho=>?_
 unfold oW
 have hlo:low≤255∧high≤255:=by have:=ho.2; simp at this; omega
 clear ho
 simp (disch:=omega) [-List.reduceReplicate]
 rw [sb (F:=dW set low high)]
 refine ak (fun k:Nat=>⟨[(0,.seq 1 (set.map .bool)),(1,.int .u8 low),(2,.int .u8 high),(7,.ref 0 95),(8,.int .i64 k)],[some (.arr bE 1 (aF 95 (uk k (dW set low high))))]⟩) (fun k=>k≤95) (fun k=>95 - k) [] _ 0 rfl (by simp) (by simp) ?_
 rintro k hk N hN
 rcases Nat.lt_or_ge k 95 with hlt | hge
 · have fin:∀ b:Bool,b=dW set low high k→∀ τ:St,τ.nrm [0,1,2,7,8]=⟨[(0,.seq 1 (set.map .bool)),(1,.int .u8 low),(2,.int .u8 high),(7,.ref 0 95),(8,.int .i64 ((k + 1:Nat):Int))],[some (.arr bE 1 (aF 95 (sub k b (uk k (dW set low high)))))]⟩→N τ:=fun b hb τ hτ=>by
    rw [sa hb] at hτ
    exact hN.out _<|Nx.mk (k + 1) hτ (by omega) (by omega)
   replace fin:=hid fin
   have low1:((set[k]?).getD false)=false→low≤k + 32→decide ((k:Int) + 32≤high)=dW set low high k:=fun h h1=>by
    simp only [dW,h,Bool.false_or,h1,decide_true,Bool.true_and]
    exact decide_eq_decide.2 (by omega)
   have low0:((set[k]?).getD false)=false→¬low≤k + 32→false=dW set low high k:=fun h h1=>by
    simp [dW,h,h1]
   rcases Nat.lt_or_ge k set.length with hks | hks
   · obtain ⟨b,hb⟩:=aO hks
     cases b
     · by_cases h1:low≤k + 32
       · simp (disch:=omega) [-List.reduceReplicate,hb]
         exact fin.out _ (low1 (by rw [hb]; rfl) h1) _ (by simp)
       · simp (disch:=omega) [-List.reduceReplicate,hb]
         exact fin.out _ (low0 (by rw [hb]; rfl) h1) _ (by simp)
     · simp (disch:=omega) [-List.reduceReplicate,hb]
       exact fin.out true (by simp [dW,hb]) _ (by simp)
   · have hb:set[k]?=none:=List.getElem?_eq_none hks
     by_cases h1:low≤k + 32
     · simp (disch:=omega) [-List.reduceReplicate,hb]
       exact fin.out _ (low1 (by rw [hb]; rfl) h1) _ (by simp)
     · simp (disch:=omega) [-List.reduceReplicate,hb]
       exact fin.out _ (low0 (by rw [hb]; rfl) h1) _ (by simp)
 · have:k=95:=by omega
   subst this
   simp (disch:=omega) [-List.reduceReplicate,vk]
def ay (p:PS):PS:={ p with at':=p.at' + 1 }
def Ax (p:PS):PS:={ p with bad:=true }
def x9:Str:=[92,93,45,94]
def sY (p:PS):PS × Nat:=co p x9
def jc (p:PS):PS × Nat:=if isP (sY p).1 45 then co (ay (sY p).1) x9 else sY p
def K7 (p:PS):PS:=if (jc p).2 < (sY p).2 then Ax (jc p).1 else (jc p).1
def qh (p:PS) (set:List Bool):List Bool:=if (K7 p).bad then set else tab 95 (dW set (sY p).2 (jc p).2)
def lim (p:PS):Bool:=decide (p.at'≤1000) && (decide (p.n.length≤900) && decide (p.s.length≤1000))
def oO:Nat→PS→List Bool→Nat→Option (PS × List Bool)
 | 0,_,_,_=>none
 | fuel + 1,p,set,n=>if lim p then (if !p.bad && (decide (n=0) || !isP p 93) then oO fuel (K7 p) (qh p set) (n + 1) else some (p,set)) else none
def xG (fuel:Nat) (p:PS):Option (PS × Nat):=
 match oO fuel (if isP p 94 then ay p else p) [] 0 with
 | some (q,set)=>some (aN (ay (if isP q 93 then q else Ax q)) ⟨115,tab 95 (fun i=>(((set[i]?).getD false) != isP p 94)),[]⟩,q.n.length)
 | none=>none
theorem vF (p:PS) (o:Str):(co p o).1.n=p.n∧(co p o).1.s=p.s∧(co p o).1.at'≤p.at' + 2:=by
 unfold co
 cases isP p 92<;>simp<;>(split<;>(try split))<;>simp
theorem j3:∀ {fuel:Nat} {p:PS} {set:List Bool} {n:Nat} {r:PS × List Bool},oO fuel p set n=some r→lim p=true∧lim r.1=true
 | 0,_,_,_,_,h=>by simp [oO] at h
 | fuel + 1,p,set,n,r,h=>by
   simp only [oO] at h
   split at h
   · rename_i hl
     split at h
     · exact ⟨hl,(j3 h).2⟩
     · cases h; exact ⟨hl,hl⟩
   · cases h
theorem fN {p:PS} (h:lim p=true):p.at'≤1000∧p.n.length≤900∧p.s.length≤1000:=by
 simpa [lim] using h
def RT (set:List Bool) (v:V):Prop:=(v=.nil 1∧set=[])∨v=.seq 1 (set.map .bool)
theorem Ah (fuel:Nat) (p:PS) (q:PS) (k:Nat) (hr:xG fuel p=some (q,k)) (hl:lim p=true) (hfu:fuel≤1000000):Fn Tryz.prog yn [p.v] (.tup [q.v,.int .i64 k]):=by
 refine Fn.of_image mixed zG yY rfl fun ho=>?_
 unfold oZ
 simp only [oks,ok,and_true] at ho
 clear ho
 have hl0:=fN hl
 unfold xG at hr
 obtain ⟨R,hR⟩:∃ R,R=(V.tup [q.v,.int .i64 k]):=⟨_,rfl⟩
 rw [←hR]
 simp (disch:=omega) [-List.reduceReplicate,PS.v]
 refine ac (by simpa [PS.v] using aU p 94) rfl fun _=>?_
 generalize hp1:(if isP p 94=true then ay p else p)=p1 at hr
 split at hr
 · rename_i q0 set0 hgo
   simp only [Option.some.injEq,Prod.mk.injEq] at hr
   obtain ⟨hq,hk⟩:=hr
   generalize hb:isP p 94=neg at hp1 hq
   have hl1:=(j3 hgo).2
   cases neg
   all_goals
    simp only [Bool.false_eq_true,if_false,if_true] at hp1
    simp (disch:=omega) [-List.reduceReplicate]
    refine ak (fun (x:Nat × PS × List Bool × V × Nat)=>⟨[(1,.ptr 0 0),(2,.ptr 1 0),(4,.bool (isP p 94)),(5,x.2.2.2.1),(6,.int .i64 x.2.2.2.2)],
     [some (.box [.seq 3 (x.2.1.n.map Part.v),.str x.2.1.s,.int .i64 x.2.1.at',.bool x.2.1.bad]),some (.box [.nil 3,.str [],.int .i64 0,.bool false])]⟩)
     (fun x=>oO x.1 x.2.1 x.2.2.1 x.2.2.2.2=some (q0,set0)∧RT x.2.2.1 x.2.2.2.1∧x.1 + x.2.2.2.2=fuel) (fun x=>x.1) [] _ (fuel,p1,[],.nil 1,0) rfl (by simp [←hp1,hb,ay]) ⟨hgo,.inl ⟨rfl,rfl⟩,rfl⟩ ?_
    rintro ⟨f,r,set,sv,n⟩ ⟨hi,hsv,hfn⟩ N hN
    simp only at hi hsv hfn
    cases f with
    | zero=>simp [oO] at hi
    | succ f=>
    have hl2:=fN (j3 hi).1
    have hl3:=(j3 hi).1
    simp only [oO,hl3,if_true] at hi
    have hex:(r.bad=true∨(r.bad=false∧n≠0∧isP r 93=true))∨((r.bad=false∧n=0)∨(r.bad=false∧n≠0∧isP r 93=false)):=by
     cases r.bad<;>cases isP r 93<;>simp
     all_goals omega
    rcases hex with hex | hex
    · have hc:(!r.bad && (decide (n=0) || !isP r 93))=false:=by
       rcases hex with h | ⟨h,h',h''⟩<;>simp [h]
       simp [h',h'']
      simp only [hc,Bool.false_eq_true,if_false,Option.some.injEq,Prod.mk.injEq] at hi
      obtain ⟨rfl,rfl⟩:=hi
      clear hN hc
      have hn0:r.bad=true∨(n≠0∧isP r 93=true):=by
       rcases hex with h | ⟨_,h,h'⟩
       · exact .inl h
       · exact .inr ⟨h,h'⟩
      clear hex
      generalize hbd:r.bad=bd at hn0
      obtain ⟨X,hX⟩:∃ X,X=(if isP r 93=true then r else Ax r):=⟨_,rfl⟩
      rw [←hX] at hq
      have hXn:X.n=r.n∧X.s=r.s∧X.at'=r.at':=by rw [hX]; split<;>simp [Ax]
      have hXb:X.bad=(bd || !isP r 93):=by rw [hX,←hbd]; cases isP r 93<;>simp [Ax]
      have h3:(bd=true∧isP r 93=false)∨(bd=true∧isP r 93=true)∨(bd=false∧n≠0∧isP r 93=true):=by
       rcases hn0 with h | ⟨h,h'⟩
       · cases hh:isP r 93
         · exact .inl ⟨h,rfl⟩
         · exact .inr (.inl ⟨h,rfl⟩)
       · cases bd
         · exact .inr (.inr ⟨rfl,h,h'⟩)
         · exact .inr (.inl ⟨rfl,h'⟩)
      clear hn0
      have hmid:∀ Y:V,True:=fun _=>trivial
      clear hmid
      obtain ⟨st0,hst0⟩:∃ s0,s0=set:=⟨_,rfl⟩
      obtain ⟨sv0,hsv0⟩:∃ v,v=sv:=⟨_,rfl⟩
      rw [←hst0] at hq
      rcases hsv with ⟨rfl,rfl⟩ | rfl<;>rcases h3 with ⟨rfl,h93⟩ | ⟨rfl,h93⟩ | ⟨rfl,hn0,h93⟩
      all_goals
       simp (disch:=omega) [-List.reduceReplicate, *,hbd]
       refine ac (by simpa [PS.v,hbd] using aU r 93) rfl fun _=>?_
       simp (disch:=omega) [-List.reduceReplicate,hbd,h93]
       try (refine ac (by simpa [PS.v,hbd] using aU r 93) rfl fun _=>?_; simp (disch:=omega) [-List.reduceReplicate,hbd,h93])
       rw [sb (F:=fun i=>(((st0[i]?).getD false) != isP p 94))]
       refine ak (fun k:Nat=>⟨[(1,.ptr 0 0),(2,.ptr 1 0),(4,.bool (isP p 94)),(5,sv0),(11,.ref 2 95),(12,.int .i64 k)],
        [some (.box [.seq 3 (X.n.map Part.v),.str X.s,.int .i64 ((X.at' + 1:Nat):Int),.bool X.bad]),some (.box [.nil 3,.str [],.int .i64 0,.bool false]),some (.arr bE 1 (aF 95 (uk k fun i=>(((st0[i]?).getD false) != isP p 94))))]⟩)
        (fun k=>k≤95) (fun k=>95 - k) [] _ 0 rfl (by simp [hXn,hXb,h93,hsv0,hb,←hp1]) (by simp) ?_
       rintro k1 hk1 M hM
       try rw [←hst0] at hsv0
       rcases Nat.lt_or_ge k1 95 with hlt | hge
       · have fin:∀ b:Bool,b=(((st0[k1]?).getD false) != isP p 94)→∀ τ:St,τ.nrm [1,2,4,5,11,12]=⟨[(1,.ptr 0 0),(2,.ptr 1 0),(4,.bool (isP p 94)),(5,sv0),(11,.ref 2 95),(12,.int .i64 ((k1 + 1:Nat):Int))],
          [some (.box [.seq 3 (X.n.map Part.v),.str X.s,.int .i64 ((X.at' + 1:Nat):Int),.bool X.bad]),some (.box [.nil 3,.str [],.int .i64 0,.bool false]),some (.arr bE 1 (aF 95 (sub k1 b (uk k1 fun i=>(((st0[i]?).getD false) != isP p 94)))))]⟩→M τ:=fun b hb τ hτ=>by
          rw [sa hb] at hτ
          exact hM.out _<|Nx.mk (k1 + 1) hτ (by omega) (by omega)
         replace fin:=hid fin
         cases hg:st0[k1]? with
         | none=>
           have hlen:st0.length≤k1:=by rw [List.getElem?_eq_none_iff] at hg; exact hg
           simp (disch:=omega) [-List.reduceReplicate,hsv0,hg]
           exact fin.out (isP p 94) (by simp [hg]) _ (by simp [hsv0])
         | some b=>
           have hlen:=(List.getElem?_eq_some_iff.1 hg).1
           first
            | (exfalso; rw [hst0] at hg; simp at hg; done)
            | (simp (disch:=omega) [-List.reduceReplicate,hsv0,hg]
               have e:(!b == isP p 94)=(b != isP p 94):=by cases b<;>cases isP p 94<;>rfl
               exact fin.out (b != isP p 94) (by simp [hg]) _ (by simp [hsv0,e]))
       · have:k1=95:=by omega
         subst this
         simp (disch:=omega) [-List.reduceReplicate,hsv0,vk]
         refine cD (r:=.tup [(aN (ay X) ⟨115,tab 95 (fun i=>(((st0[i]?).getD false) != isP p 94)),[]⟩).v,.int .i64 (ay X).n.length]) ?_ fun _=>?_
         · have:=aY (ay X) ⟨115,tab 95 (fun i=>(((st0[i]?).getD false) != isP p 94)),[]⟩ (by simp [ay,hXn]; omega)
           simpa [PS.v,ay,Part.v,aF] using this
         · simp (disch:=omega) [-List.reduceReplicate,PS.v,hR]
           simp [PS.v,←hq,←hk,ay,hXn,hb,hst0]
    · have hc:(!r.bad && (decide (n=0) || !isP r 93))=true:=by
       rcases hex with ⟨h,h'⟩ | ⟨h,h',h''⟩<;>simp [h,h']
       simp [h'']
      have hbd:r.bad=false:=by rcases hex with h | h<;>exact h.1
      simp only [hc,if_true] at hi
      clear hc
      obtain ⟨Y,hY⟩:∃ Y,Y=K7 r:=⟨_,rfl⟩
      obtain ⟨st1,hst1⟩:∃ s,s=qh r set:=⟨_,rfl⟩
      rw [←hY,←hst1] at hi
      replace hi:=hid hi
      have fin:∀ (v:V),RT st1 v→∀ τ:St,τ.nrm [1,2,4,5,6]=⟨[(1,.ptr 0 0),(2,.ptr 1 0),(4,.bool (isP p 94)),(5,v),(6,.int .i64 ((n + 1:Nat):Int))],
       [some (.box [.seq 3 (Y.n.map Part.v),.str Y.s,.int .i64 Y.at',.bool Y.bad]),some (.box [.nil 3,.str [],.int .i64 0,.bool false])]⟩→N τ:=fun v hv τ hτ=>
        hN.out _<|Nx.mk (f,Y,st1,v,n + 1) hτ ⟨hi.out,hv,by simp only; omega⟩ (by simp only; omega)
      replace fin:=hid fin
      obtain ⟨⟨q1,lo⟩,hql⟩:∃ x,co r x9=x:=⟨_,rfl⟩
      have hq1:=vF r x9
      rw [hql] at hq1
      simp only at hq1
      have hlo:(sY r)=(q1,lo):=hql
      obtain ⟨st0,hst0⟩:∃ s0,s0=set:=⟨_,rfl⟩
      obtain ⟨sv0,hsv0⟩:∃ v,v=sv:=⟨_,rfl⟩
      have hss:RT st0 sv0:=by rw [hst0,hsv0]; exact hsv
      rcases hex with ⟨_,rfl⟩ | ⟨_,hn0,h93⟩<;>rcases hsv with ⟨rfl,rfl⟩ | rfl
      all_goals
       simp (disch:=omega) [-List.reduceReplicate,hbd]
       try (refine ac (r:=.bool (isP r 93)) (by simpa [PS.v,hbd] using aU r 93) rfl fun _=>?_; simp (disch:=omega) [-List.reduceReplicate,hbd,h93,hn0])
       refine an (r:=.tup [q1.v,.int .u8 lo]) (by have:=jv r x9; rw [hql] at this; simpa [PS.v,hbd,x9] using this) rfl fun _=>?_
       simp (disch:=omega) [-List.reduceReplicate,PS.v]
       refine ac (r:=.bool (isP q1 45)) (by simpa [PS.v] using aU q1 45) rfl fun _=>?_
       cases h45:isP q1 45
       · have hhi:jc r=(q1,lo):=by simp [jc,hlo,h45]
         have hYq:Y=q1:=by simp [hY,K7,hhi,hlo]
         subst hYq
         cases hb1:Y.bad
         · simp (disch:=omega) [-List.reduceReplicate,hb1]
           refine gY (r:=.seq 1 (aF 95 (dW st0 lo lo))) (by simpa [hst0] using fp st0 lo lo) fun _=>?_
           simp (disch:=omega) [-List.reduceReplicate]
           exact fin.out (.seq 1 (aF 95 (dW st0 lo lo))) (.inr (by simp [hst1,qh,←hY,hb1,hst0,hhi,hlo,aF])) _ (by simp [hb1])
         · simp (disch:=omega) [-List.reduceReplicate,hb1]
           have e:st1=st0:=by simp [hst1,qh,←hY,hb1,hst0]
           exact fin.out sv0 (by rw [e]; exact hss) _ (by simp [hb1,hsv0])
       · simp (disch:=omega) [-List.reduceReplicate]
         obtain ⟨⟨q2,hi2⟩,hqh⟩:∃ x,co (ay q1) x9=x:=⟨_,rfl⟩
         have hq2:=vF (ay q1) x9
         rw [hqh] at hq2
         simp only [ay] at hq2
         have hhi:jc r=(q2,hi2):=by simp [jc,hlo,h45,hqh]
         refine an (r:=.tup [q2.v,.int .u8 hi2]) (by have:=jv (ay q1) x9; rw [hqh] at this; simpa [PS.v,ay,x9] using this) rfl fun _=>?_
         simp (disch:=omega) [-List.reduceReplicate,PS.v]
         refine BrKd.mk (fun h=>?_) (fun h=>?_)
         · have hYq:Y=Ax q2:=by simp [hY,K7,hhi,hlo]; omega
           simp (disch:=omega) [-List.reduceReplicate,h]
           have e:st1=st0:=by simp [hst1,qh,←hY,hYq,Ax,hst0]
           exact fin.out sv0 (by rw [e]; exact hss) _ (by simp [hYq,Ax,hsv0])
         · have hYq:Y=q2:=by simp [hY,K7,hhi,hlo]; omega
           subst hYq
           cases hb1:Y.bad
           · simp (disch:=omega) [-List.reduceReplicate,h,hb1]
             refine gY (r:=.seq 1 (aF 95 (dW st0 lo hi2))) (by simpa [hst0] using fp st0 lo hi2) fun _=>?_
             simp (disch:=omega) [-List.reduceReplicate]
             exact fin.out (.seq 1 (aF 95 (dW st0 lo hi2))) (.inr (by simp [hst1,qh,←hY,hb1,hst0,hhi,hlo,aF])) _ (by simp [hb1])
           · simp (disch:=omega) [-List.reduceReplicate,h,hb1]
             have e:st1=st0:=by simp [hst1,qh,←hY,hb1,hst0]
             exact fin.out sv0 (by rw [e]; exact hss) _ (by simp [hb1,hsv0])
 · cases hr
def Hj:Str:=[92,40,41,91,93,124,42,43,63,46]
def Qm (p:PS):Bool:=!p.bad && (match p.s[p.at']? with
 | some b=>!gq b.toNat [124,41]
 | none=>false)
def kC:Nat→PS→Nat→Option (PS × Nat)
 | 0,_,_=>none
 | f + 1,q,k=>if lim q then (if q.bad || (!isP q 42 && (!isP q 43 && !isP q 63)) then some (q,k)
     else if isP q 63 then kC f (aN (aN (ay q) ⟨116,[],[]⟩) ⟨111,[],[k,q.n.length]⟩) (q.n.length + 1)
     else if isP q 43 then kC f (aN (aN (ay q) ⟨109,[],[k]⟩) ⟨116,[],[k,q.n.length]⟩) (q.n.length + 1)
     else kC f (aN (ay q) ⟨109,[],[k]⟩) q.n.length) else none
mutual
def BB:Nat→PS→Option (PS × Nat)
 | 0,_=>none
 | f + 1,p=>if lim p then (if isP p 40 then (match fd f (ay p) with
       | some (q,k)=>if lim q then some (ay (if isP q 41 then q else Ax q),k) else none
       | none=>none)
     else if isP p 46 then some (aN (ay p) ⟨115,tab 95 (dW [] 32 126),[]⟩,p.n.length)
     else if isP p 91 then xG f (ay p)
     else some (aN (co p Hj).1 ⟨115,tab 95 (dW [] (co p Hj).2 (co p Hj).2),[]⟩,p.n.length)) else none
def sl:Nat→PS→Option (PS × Nat)
 | 0,_=>none
 | f + 1,p=>match BB f p with
   | some (q,k)=>kC f q k
   | none=>none
def EO:Nat→PS→List Nat→Option (PS × List Nat)
 | 0,_,_=>none
 | f + 1,p,own=>if lim p && decide (own.length≤900) then (if Qm p then (match sl f p with
     | some (q,k)=>EO f q (own++[k])
     | none=>none) else some (p,own)) else none
def Ld:Nat→PS→List Nat→Option (PS × Nat)
 | 0,_,_=>none
 | f + 1,p,l=>if decide (l.length≤900) then (match EO f p [] with
   | some (q,own)=>if q.bad || !isP q 124 then some (aN (aN q ⟨116,[],own⟩) ⟨111,[],l++[q.n.length]⟩,q.n.length + 1)
      else Ld f (ay (aN q ⟨116,[],own⟩)) (l++[q.n.length])
   | none=>none) else none
def fd:Nat→PS→Option (PS × Nat)
 | 0,_=>none
 | f + 1,p=>Ld f p []
end
theorem Nk {p q:PS} (h:lim q=true) (hn:p.n.length≤q.n.length) (hs:p.s=q.s) (ha:p.at'≤q.at'):lim p=true:=by
 have:=fN h
 simp [lim,hs]; omega
theorem Ir {f:Nat} {p:PS} {r:PS × Nat} (h:xG f p=some r):lim p=true:=by
 unfold xG at h
 split at h
 · rename_i q set hg
   have:=(j3 hg).1
   split at this
   · exact Nk this (by simp [ay]) (by simp [ay]) (by simp [ay])
   · exact this
 · cases h
def PC (F:Nat→PS→Option (PS × Nat)) (n:FuncId) (f:Nat):Prop:=∀ (p q:PS) (k:Nat),F f p=some (q,k)→Fn Tryz.prog n [p.v] (.tup [q.v,.int .i64 k])
theorem DO (f:Nat) (hf:f≤1000000) (IH:PC fd eZ f):PC BB kH (f + 1):=by
 intro p q k hr
 simp only [BB] at hr
 split at hr
 · rename_i hl
   have hl0:=fN hl
   refine Fn.of_image mixed Dm CT rfl fun ho=>?_
   unfold rK
   simp only [oks,ok,and_true] at ho
   clear ho
   simp (disch:=omega) [-List.reduceReplicate,PS.v]
   refine ac (by simpa [PS.v] using aU p 40) rfl fun _=>?_
   cases h40:isP p 40
   · simp (disch:=omega) [-List.reduceReplicate,h40]
     refine ac (by simpa [PS.v] using aU p 46) rfl fun _=>?_
     simp only [h40,Bool.false_eq_true,if_false] at hr
     cases h46:isP p 46
     · simp (disch:=omega) [-List.reduceReplicate,h46]
       refine ac (by simpa [PS.v] using aU p 91) rfl fun _=>?_
       simp only [h46,Bool.false_eq_true,if_false] at hr
       cases h91:isP p 91
       · simp only [h91,Bool.false_eq_true,if_false,Option.some.injEq,Prod.mk.injEq] at hr
         obtain ⟨⟨q1,lo⟩,hql⟩:∃ x,co p Hj=x:=⟨_,rfl⟩
         have hq1:=vF p Hj
         rw [hql] at hq1 hr
         simp only at hq1 hr
         simp (disch:=omega) [-List.reduceReplicate,h91]
         refine an (r:=.tup [q1.v,.int .u8 lo]) (by have:=jv p Hj; rw [hql] at this; simpa [PS.v,Hj] using this) rfl fun _=>?_
         simp (disch:=omega) [-List.reduceReplicate,PS.v]
         refine pA (by simpa using fp [] lo lo) ?_
         simp (disch:=omega) [-List.reduceReplicate]
         refine cA (r:=.tup [(aN q1 ⟨115,tab 95 (dW [] lo lo),[]⟩).v,.int .i64 q1.n.length]) ?_ (by simp) ?_
         · have:=aY q1 ⟨115,tab 95 (dW [] lo lo),[]⟩ (by rw [hq1.1]; omega)
           simpa [PS.v,Part.v,aF] using this
         · simp (disch:=omega) [-List.reduceReplicate,PS.v]
           simp [←hr.1,←hr.2,PS.v,hq1]
       · simp only [h91,if_true] at hr
         have hl1:=Ir hr
         have hl2:=fN hl1
         simp (disch:=omega) [-List.reduceReplicate,h91]
         refine an (r:=.tup [q.v,.int .i64 k]) (by have:=Ah f (ay p) q k hr hl1 hf; simpa [PS.v,ay] using this) rfl fun _=>?_
         simp (disch:=omega) [-List.reduceReplicate,PS.v]
     · simp only [h46,if_true,Option.some.injEq,Prod.mk.injEq] at hr
       simp (disch:=omega) [-List.reduceReplicate,h46]
       refine pA (by simpa using fp [] 32 126) ?_
       simp (disch:=omega) [-List.reduceReplicate]
       refine cA (r:=.tup [(aN (ay p) ⟨115,tab 95 (dW [] 32 126),[]⟩).v,.int .i64 p.n.length]) ?_ (by simp) ?_
       · have:=aY (ay p) ⟨115,tab 95 (dW [] 32 126),[]⟩ (by simp [ay]; omega)
         simpa [PS.v,Part.v,aF,ay] using this
       · simp (disch:=omega) [-List.reduceReplicate,PS.v]
         simp [←hr.1,←hr.2,PS.v]
   · simp only [h40,if_true] at hr
     split at hr
     · rename_i q0 k0 hb
       split at hr
       · rename_i hl1
         replace hl1:=fN hl1
         simp only [Option.some.injEq,Prod.mk.injEq] at hr
         simp (disch:=omega) [-List.reduceReplicate,h40]
         refine an (r:=.tup [q0.v,.int .i64 k0]) (by have:=IH (ay p) q0 k0 hb; simpa [PS.v,ay] using this) rfl fun _=>?_
         simp (disch:=omega) [-List.reduceReplicate,PS.v]
         refine ac (by simpa [PS.v] using aU q0 41) rfl fun _=>?_
         cases h41:isP q0 41
         all_goals
          simp (disch:=omega) [-List.reduceReplicate,h41]
          simp [←hr.1,←hr.2,PS.v,h41,ay,Ax]
       · cases hr
     · cases hr
 · cases hr
theorem Ag (f:Nat) (hf:f≤1000000) (IH:PC BB kH f):PC sl jj (f + 1):=by
 intro p q k hr
 simp only [sl] at hr
 split at hr
 · rename_i q0 k0 ha
   refine Fn.of_image mixed zF yX rfl fun ho=>?_
   unfold oY
   simp only [oks,ok,and_true] at ho
   clear ho
   obtain ⟨R,hR⟩:∃ R,R=(V.tup [q.v,.int .i64 k]):=⟨_,rfl⟩
   rw [←hR]
   simp (disch:=omega) [-List.reduceReplicate,PS.v]
   refine an (r:=.tup [q0.v,.int .i64 k0]) (by have:=IH p q0 k0 ha; simpa [PS.v] using this) rfl fun _=>?_
   simp (disch:=omega) [-List.reduceReplicate,PS.v]
   refine ak (fun (x:Nat × PS × Nat)=>⟨[(1,.ptr 0 0),(2,.ptr 1 0),(4,.int .i64 x.2.2)],
    [some (.box [.seq 3 (x.2.1.n.map Part.v),.str x.2.1.s,.int .i64 x.2.1.at',.bool x.2.1.bad]),some (.box [.nil 3,.str [],.int .i64 0,.bool false])]⟩)
    (fun x=>kC x.1 x.2.1 x.2.2=some (q,k)) (fun x=>x.1) [] _ (f,q0,k0) rfl (by simp) hr ?_
   rintro ⟨g,r,j⟩ hi N hN
   simp only at hi
   cases g with
   | zero=>simp [kC] at hi
   | succ g=>
   simp only [kC] at hi
   split at hi
   · rename_i hl
     have hl1:=fN hl
     cases hbd:r.bad
     · simp (disch:=omega) [-List.reduceReplicate,hbd]
       refine ac (r:=.bool (isP r 42)) (by simpa [PS.v,hbd] using aU r 42) rfl fun _=>?_
       simp (disch:=omega) [-List.reduceReplicate,hbd]
       refine ac (r:=.bool (isP r 43)) (by simpa [PS.v,hbd] using aU r 43) rfl fun _=>?_
       simp (disch:=omega) [-List.reduceReplicate,hbd]
       refine ac (r:=.bool (isP r 63)) (by simpa [PS.v,hbd] using aU r 63) rfl fun _=>?_
       simp only [hbd,Bool.false_or] at hi
       cases h42:isP r 42<;>cases h43:isP r 43<;>cases h63:isP r 63
       all_goals
        simp only [h42,h43,h63,Bool.not_true,Bool.not_false,Bool.and_true,Bool.and_false,Bool.false_and,Bool.true_and,Bool.and_self,if_true,Bool.false_eq_true,if_false] at hi
        simp (disch:=omega) [-List.reduceReplicate,hbd]
       all_goals
        first
         | (simp only [Option.some.injEq,Prod.mk.injEq] at hi
            simp [hR,←hi.1,←hi.2,PS.v,hbd]
            done)
         | (refine an (r:=.tup [(aN (ay r) ⟨116,[],[]⟩).v,.int .i64 r.n.length]) (by have:=aY (ay r) ⟨116,[],[]⟩ (by simp [ay]; omega); simpa [PS.v,Part.v,ay,hbd] using this) rfl fun _=>?_
            simp (disch:=omega) [-List.reduceReplicate,PS.v,aN,ay,hbd]
            refine an (r:=.tup [(aN (aN (ay r) ⟨116,[],[]⟩) ⟨111,[],[j,r.n.length]⟩).v,.int .i64 ((r.n.length + 1:Nat):Int)]) (by have:=aY (aN (ay r) ⟨116,[],[]⟩) ⟨111,[],[j,r.n.length]⟩ (by simp [ay,aN]; omega); simpa [PS.v,Part.v,ay,hbd,aN] using this) (by simp) fun _=>?_
            simp (disch:=omega) [-List.reduceReplicate,PS.v,aN,ay,hbd]
            exact hN.out _<|Nx.mk (g,_,r.n.length + 1) (by simp [aN,ay,hbd]) hi (by simp only; omega))
         | (refine an (r:=.tup [(aN (ay r) ⟨109,[],[j]⟩).v,.int .i64 r.n.length]) (by have:=aY (ay r) ⟨109,[],[j]⟩ (by simp [ay]; omega); simpa [PS.v,Part.v,ay,hbd] using this) (by simp) fun _=>?_
            simp (disch:=omega) [-List.reduceReplicate,PS.v,aN,ay,hbd]
            refine an (r:=.tup [(aN (aN (ay r) ⟨109,[],[j]⟩) ⟨116,[],[j,r.n.length]⟩).v,.int .i64 ((r.n.length + 1:Nat):Int)]) (by have:=aY (aN (ay r) ⟨109,[],[j]⟩) ⟨116,[],[j,r.n.length]⟩ (by simp [ay,aN]; omega); simpa [PS.v,Part.v,ay,hbd,aN] using this) (by simp) fun _=>?_
            simp (disch:=omega) [-List.reduceReplicate,PS.v,aN,ay,hbd]
            exact hN.out _<|Nx.mk (g,_,r.n.length + 1) (by simp [aN,ay,hbd]) hi (by simp only; omega))
         | (refine an (r:=.tup [(aN (ay r) ⟨109,[],[j]⟩).v,.int .i64 r.n.length]) (by have:=aY (ay r) ⟨109,[],[j]⟩ (by simp [ay]; omega); simpa [PS.v,Part.v,ay,hbd] using this) (by simp) fun _=>?_
            simp (disch:=omega) [-List.reduceReplicate,PS.v,aN,ay,hbd]
            exact hN.out _<|Nx.mk (g,_,r.n.length) (by simp [aN,ay,hbd]) hi (by simp only; omega))
     · simp only [hbd,Bool.true_or,if_true,Option.some.injEq,Prod.mk.injEq] at hi
       simp (disch:=omega) [-List.reduceReplicate,hbd]
       simp [hR,←hi.1,←hi.2,PS.v,hbd]
   · cases hi
 · cases hr
theorem sO (f:Nat) (hf:f≤1000000) (IH:∀ g,g < f→PC sl jj g):PC fd eZ (f + 1):=by
 intro p q k hr
 simp only [fd] at hr
 refine Fn.of_image mixed sI sE rfl fun ho=>?_
 unfold j5
 simp only [oks,ok,and_true] at ho
 clear ho
 obtain ⟨R,hR⟩:∃ R,R=(V.tup [q.v,.int .i64 k]):=⟨_,rfl⟩
 rw [←hR]
 simp (disch:=omega) [-List.reduceReplicate,PS.v]
 refine ak (fun (x:Nat × PS × List Nat)=>⟨[(1,.ptr 0 0),(2,.ptr 1 0),(4,.ref 2 x.2.2.length)],
  [some (.box [.seq 3 (x.2.1.n.map Part.v),.str x.2.1.s,.int .i64 x.2.1.at',.bool x.2.1.bad]),some (.box [.nil 3,.str [],.int .i64 0,.bool false]),some (.arr bb 1 (x.2.2.map fun (j:Nat)=>V.int .i64 (j:Int)))]⟩)
  (fun x=>Ld x.1 x.2.1 x.2.2=some (q,k)∧x.1≤f) (fun x=>x.1) [.r 4 bb 1] _ (f,p,[]) rfl (by simp) ⟨hr,Nat.le_refl _⟩ ?_
 rintro ⟨g,r,l⟩ ⟨hi,hg⟩ N hN
 simp only at hi hg
 cases g with
 | zero=>simp [Ld] at hi
 | succ g=>
 simp only [Ld] at hi
 split at hi
 · rename_i hl
   simp only [decide_eq_true_eq] at hl
   split at hi
   · rename_i q0 own0 hown
     simp (disch:=omega) [-List.reduceReplicate]
     refine ak (fun (x:Nat × PS × List Nat)=>⟨[(1,.ptr 0 0),(2,.ptr 1 0),(4,.ref 2 l.length),(5,.ref 3 x.2.2.length)],
      [some (.box [.seq 3 (x.2.1.n.map Part.v),.str x.2.1.s,.int .i64 x.2.1.at',.bool x.2.1.bad]),some (.box [.nil 3,.str [],.int .i64 0,.bool false]),some (.arr bb 1 (l.map fun (j:Nat)=>V.int .i64 (j:Int))),some (.arr bb 1 (x.2.2.map fun (j:Nat)=>V.int .i64 (j:Int)))]⟩)
      (fun x=>EO x.1 x.2.1 x.2.2=some (q0,own0)∧x.1≤g) (fun x=>x.1) [.r 5 bb 1] _ (g,r,[]) rfl (by simp) ⟨hown,Nat.le_refl _⟩ ?_
     rintro ⟨g1,t,own⟩ ⟨hi1,hg1⟩ M hM
     simp only at hi1 hg1
     cases g1 with
     | zero=>simp [EO] at hi1
     | succ g1=>
     simp only [EO] at hi1
     split at hi1
     · rename_i hl0
       simp only [Bool.and_eq_true,decide_eq_true_eq] at hl0
       obtain ⟨hl1,hol⟩:=hl0
       replace hl1:=fN hl1
       have hgo:(Qm t=true∧t.bad=false∧∃ b,t.s[t.at']?=some b∧gq b.toNat [124,41]=false)∨(Qm t=false∧(t.bad=true∨(t.bad=false∧t.s[t.at']?=none)∨(t.bad=false∧∃ b,t.s[t.at']?=some b∧gq b.toNat [124,41]=true))):=by
        unfold Qm
        cases t.bad<;>cases h:t.s[t.at']?<;>simp
        all_goals (rename_i b; cases gq b.toNat [124,41]<;>simp)
       rcases hgo with ⟨hgo,hbd,b,hb,hab⟩ | ⟨hgo,hrest⟩
       · simp only [hgo,if_true] at hi1
         split at hi1
         · rename_i q1 k1 hp
           have hlt:=(List.getElem?_eq_some_iff.1 hb).1
           simp (disch:=omega) [-List.reduceReplicate,hbd,hb]
           refine ac (r:=.bool false) (by have:=jw b.toNat [124,41]; rwa [hab] at this) rfl fun _=>?_
           simp (disch:=omega) [-List.reduceReplicate,hbd]
           refine an (r:=.tup [q1.v,.int .i64 k1]) (by have:=IH g1 (by omega) t q1 k1 hp; simpa [PS.v,hbd] using this) rfl fun _=>?_
           simp (disch:=omega) [-List.reduceReplicate,PS.v]
           exact hM.out _<|Nx.mk (g1,q1,own++[k1]) (by simp; try rfl) ⟨hi1,by simp only; omega⟩ (by simp only; omega)
         · cases hi1
       · simp only [hgo,Bool.false_eq_true,if_false,Option.some.injEq,Prod.mk.injEq] at hi1
         obtain ⟨rfl,rfl⟩:=hi1
         clear hM
         have hfin:(t.bad=true∨(t.bad=false∧isP t 124=false))→some (aN (aN t ⟨116,[],own⟩) ⟨111,[],l++[t.n.length]⟩,t.n.length + 1)=some (q,k):=fun h=>by
          rw [if_pos] at hi
          · exact hi
          · rcases h with h | h<;>simp [h]
         have hmore:t.bad=false→isP t 124=true→Ld g (ay (aN t ⟨116,[],own⟩)) (l++[t.n.length])=some (q,k):=fun h h'=>by
          rw [if_neg] at hi
          · exact hi
          · simp [h,h']
         clear hi
         replace hfin:=hid hfin
         replace hmore:=hid hmore
         rcases hrest with hbd | ⟨hbd,hb⟩ | ⟨hbd,b,hb,hab⟩
         · simp (disch:=omega) [-List.reduceReplicate,hbd]
           refine cD (r:=.tup [(aN t ⟨116,[],own⟩).v,.int .i64 t.n.length]) (by have:=aY t ⟨116,[],own⟩ (by omega); simpa [PS.v,Part.v,hbd] using this) fun _=>?_
           simp (disch:=omega) [-List.reduceReplicate,PS.v,aN,hbd]
           refine cD (r:=.tup [(aN (aN t ⟨116,[],own⟩) ⟨111,[],l++[t.n.length]⟩).v,.int .i64 ((t.n.length + 1:Nat):Int)]) (by have:=aY (aN t ⟨116,[],own⟩) ⟨111,[],l++[t.n.length]⟩ (by simp [aN]; omega); simpa [PS.v,Part.v,hbd,aN] using this) fun _=>?_
           simp (disch:=omega) [-List.reduceReplicate,PS.v,aN,hbd]
           have:=hfin.out (.inl hbd)
           simp only [Option.some.injEq,Prod.mk.injEq] at this
           simp [hR,←this.1,←this.2,PS.v,aN,hbd]
         · have hge:t.s.length≤t.at':=by rwa [List.getElem?_eq_none_iff] at hb
           have h124:isP t 124=false:=by simp [isP,hb]
           simp (disch:=omega) [-List.reduceReplicate,hbd]
           refine cD (r:=.tup [(aN t ⟨116,[],own⟩).v,.int .i64 t.n.length]) (by have:=aY t ⟨116,[],own⟩ (by omega); simpa [PS.v,Part.v,hbd] using this) fun _=>?_
           simp (disch:=omega) [-List.reduceReplicate,PS.v,aN,hbd]
           refine ac (r:=.bool false) (by have:=aU (aN t ⟨116,[],own⟩) 124; rw [show isP (aN t ⟨116,[],own⟩) 124=false from h124] at this; simpa [PS.v,hbd,aN] using this) rfl fun _=>?_
           simp (disch:=omega) [-List.reduceReplicate,hbd]
           refine cD (r:=.tup [(aN (aN t ⟨116,[],own⟩) ⟨111,[],l++[t.n.length]⟩).v,.int .i64 ((t.n.length + 1:Nat):Int)]) (by have:=aY (aN t ⟨116,[],own⟩) ⟨111,[],l++[t.n.length]⟩ (by simp [aN]; omega); simpa [PS.v,Part.v,hbd,aN] using this) fun _=>?_
           simp (disch:=omega) [-List.reduceReplicate,PS.v,aN,hbd]
           have:=hfin.out (.inr ⟨hbd,h124⟩)
           simp only [Option.some.injEq,Prod.mk.injEq] at this
           simp [hR,←this.1,←this.2,PS.v,aN,hbd]
         · have hlt:=(List.getElem?_eq_some_iff.1 hb).1
           simp (disch:=omega) [-List.reduceReplicate,hbd,hb]
           refine ac (r:=.bool true) (by have:=jw b.toNat [124,41]; rwa [hab] at this) rfl fun _=>?_
           simp (disch:=omega) [-List.reduceReplicate,hbd]
           refine cD (r:=.tup [(aN t ⟨116,[],own⟩).v,.int .i64 t.n.length]) (by have:=aY t ⟨116,[],own⟩ (by omega); simpa [PS.v,Part.v,hbd] using this) fun _=>?_
           simp (disch:=omega) [-List.reduceReplicate,PS.v,aN,hbd]
           cases h124:isP t 124
           · refine ac (r:=.bool false) (by have:=aU (aN t ⟨116,[],own⟩) 124; rw [show isP (aN t ⟨116,[],own⟩) 124=false from h124] at this; simpa [PS.v,hbd,aN] using this) rfl fun _=>?_
             simp (disch:=omega) [-List.reduceReplicate,hbd]
             refine cD (r:=.tup [(aN (aN t ⟨116,[],own⟩) ⟨111,[],l++[t.n.length]⟩).v,.int .i64 ((t.n.length + 1:Nat):Int)]) (by have:=aY (aN t ⟨116,[],own⟩) ⟨111,[],l++[t.n.length]⟩ (by simp [aN]; omega); simpa [PS.v,Part.v,hbd,aN] using this) fun _=>?_
             simp (disch:=omega) [-List.reduceReplicate,PS.v,aN,hbd]
             have:=hfin.out (.inr ⟨hbd,h124⟩)
             simp only [Option.some.injEq,Prod.mk.injEq] at this
             simp [hR,←this.1,←this.2,PS.v,aN,hbd]
           · refine ac (r:=.bool true) (by have:=aU (aN t ⟨116,[],own⟩) 124; rw [show isP (aN t ⟨116,[],own⟩) 124=true from h124] at this; simpa [PS.v,hbd,aN] using this) rfl fun _=>?_
             simp (disch:=omega) [-List.reduceReplicate,hbd]
             exact hN.out _<|Nx.mk (g,ay (aN t ⟨116,[],own⟩),l++[t.n.length]) (by simp [ay,aN,hbd]; try rfl) ⟨hmore.out hbd h124,by simp only; omega⟩ (by simp only; omega)
     · cases hi1
   · cases hi
 · cases hi
theorem PC0 {F:Nat→PS→Option (PS × Nat)} {n:FuncId} (h:∀ p,F 0 p=none):PC F n 0:=fun p q k hr=>by rw [h] at hr; cases hr
theorem Sm:∀ f,f≤1000000→PC BB kH f∧PC sl jj f∧PC fd eZ f:=by
 intro f
 induction f using Nat.strongRecOn with
 | _ f IH=>
   intro hf
   cases f with
   | zero=>exact ⟨PC0 fun p=>by simp [BB],PC0 fun p=>by simp [sl],PC0 fun p=>by simp [fd]⟩
   | succ f=>
     have h1:=IH f (by omega) (by omega)
     exact ⟨DO f (by omega) h1.2.2,Ag f (by omega) h1.1,sO f (by omega) fun g hg=>(IH g (by omega) (by omega)).2.1⟩
def parseF (s:Str):Option (List Part × Nat):=match fd 200 ⟨[],s,0,false⟩ with
 | some (q,k)=>if !q.bad && (decide (q.at'=s.length) && decide (q.at'≤1000)) then some (q.n,k) else none
 | none=>none
theorem Ai (s:Str) (ps:List Part) (k:Nat) (h:parseF s=some (ps,k)) (hs:s.length≤60):Fn Tryz.prog yp [.str s] (.tup [.seq 3 (ps.map Part.v),.int .i64 k,.int .i64 0]):=by
 unfold parseF at h
 split at h
 · rename_i q k0 hb
   split at h
   · rename_i hc
     simp only [Bool.and_eq_true,Bool.not_eq_true',decide_eq_true_eq] at hc
     obtain ⟨hc1,hc2,hc3⟩:=hc
     simp only [Option.some.injEq,Prod.mk.injEq] at h
     obtain ⟨rfl,rfl⟩:=h
     refine Fn.of_image mixed zI y5 rfl fun ho=>?_
     unfold pb
     simp only [oks,ok,and_true] at ho
     clear ho
     simp (disch:=omega) [-List.reduceReplicate]
     refine an (r:=.tup [q.v,.int .i64 k0]) (by have:=(Sm 200 (by omega)).2.2 ⟨[],s,0,false⟩ q k0 hb; simpa [PS.v] using this) (by simp) fun _=>?_
     simp (disch:=omega) [-List.reduceReplicate,PS.v,hc1,hc2]
   · cases h
 · cases h
def wfB:Nat→List Part→Bool
 | _,[]=>true
 | i,p::l=>p.l.all (fun x=>decide (x < i)) && ((!decide (p.op=115) || decide (p.set.length=95)) && (decide (p.l.length≤1000) && wfB (i + 1) l))
theorem IG:∀ {l:List Part} {i j:Nat} {p:Part},wfB i l=true→l[j]?=some p→(∀ x∈p.l,x < i + j)∧(p.op=115→p.set.length=95)∧p.l.length≤1000
 | [],i,j,p,_,h=>by simp at h
 | y::l,i,0,p,hw,h=>by
   simp only [List.getElem?_cons_zero,Option.some.injEq] at h
   subst h
   simp only [wfB,Bool.and_eq_true,List.all_eq_true,decide_eq_true_eq,Bool.or_eq_true,Bool.not_eq_true',decide_eq_false_iff_not] at hw
   refine ⟨fun x hx=>by have:=hw.1 x hx; omega,fun hp=>?_,hw.2.2.1⟩
   rcases hw.2.1 with h | h
   · exact absurd hp h
   · exact h
 | y::l,i,j + 1,p,hw,h=>by
   simp only [List.getElem?_cons_succ] at h
   simp only [wfB,Bool.and_eq_true] at hw
   have:=IG hw.2.2.2 h
   rw [show i + (j + 1)=i + 1 + j by omega]
   exact this
def rxB (s:Str):Bool:=decide (s.length≤60) && match parseF s with
 | some (ps,k)=>wfB 0 ps && (decide (ps.length≤1000) && decide (k < ps.length))
 | none=>false
def rxM (s v:Str):Bool:=match parseF s with
 | some (ps,k)=>matchT ps k v
 | none=>false
def gO:Nat→Str→Int
 | _,[]=>-1
 | k,b::l=>if b.toNat=58 then k else gO (k + 1) l
theorem wn:∀ (s:Str) (k:Nat),gO k s=if 0≤Lib.indexByte s 58 then k + Lib.indexByte s 58 else -1
 | [],k=>by simp [gO,Lib.indexByte]
 | b::l,k=>by
   have ih:=wn l (k + 1)
   have hg:=Lib.indexByte_ge l 58
   have hb:(b.toNat=58)↔b=58:=by rw [←UInt8.toNat_inj]; rfl
   by_cases h:b=58
   · have e:Lib.indexByte (b::l) 58=0:=by simp [Lib.indexByte,h]
     rw [gO,if_pos (hb.2 h),e]; simp
   · have e:Lib.indexByte (b::l) 58=if Lib.indexByte l 58=-1 then -1 else Lib.indexByte l 58 + 1:=by simp [Lib.indexByte,h]
     rw [gO,if_neg (fun x=>h (hb.1 x)),ih,e]
     by_cases h2:Lib.indexByte l 58=-1
     · simp [h2]
     · rw [if_neg h2,if_pos (by omega),if_pos (by omega)]; omega
def allows12 (c:Constraint) (v:Str):Bool:=
 v.all sign && (decide (c.kind=1) || ((decide (c.kind=2) && hasS c.words v) || ((decide (c.kind=3) && (!(cutB v 58).2.2 || hasS c.words (cutB v 58).1)) || (decide (c.kind=4) && rxM c.regex v))))
theorem xn (c:Constraint) (v:Str) (hk:1≤c.kind∧c.kind≤4) (hr:c.kind=4→rxB c.regex=true) (hv:v.length≤999999):Fn Tryz.prog cq [c.v,.str v] (.bool (allows12 c v)):=by
 refine Fn.of_image mixed wU wx rfl fun ho=>?_
 unfold m8
 simp only [oks,ok,and_true] at ho
 obtain ⟨kd,ws,rx⟩:=c
 simp only at hk hr
 have hlen:ws.length≤140737488355328:=by have:=ho.1; simp at this; exact this.2.1.1
 clear ho
 simp (disch:=omega) [-List.reduceReplicate]
 refine ac (ju _) rfl fun _=>?_
 cases hs:v.all sign
 · simp (disch:=omega) [-List.reduceReplicate,allows12,hs]
 · simp (disch:=omega) [-List.reduceReplicate]
   have hkk:kd=1∨kd=2∨kd=3∨kd=4:=by omega
   rcases hkk with rfl | rfl | rfl | rfl
   · simp (disch:=omega) [-List.reduceReplicate,allows12,hs]
   · simp (disch:=omega) [-List.reduceReplicate]
     have e:allows12 ⟨2,ws,rx⟩ v=hasS ws v:=by simp [allows12,hs]
     rw [e]
     generalize hR:hasS ws v=R
     refine ak (fun k:Nat=>⟨[(1,.str v),(2,.ptr 0 0),(6,.int .i64 k)],[some (.box [.int .i64 2,.seq 1 (ws.map .str),.str rx])]⟩) (fun k=>k≤ws.length∧hasS (ws.drop k) v=R) (fun k=>ws.length - k) [] _ 0 rfl (by simp [*]) (by simp [*]) ?_
     rintro k ⟨hk,hi⟩ N hN
     rcases place ws k hk with ⟨he,hd⟩ | ⟨hlt,x,hx,hd⟩<;>rw [hd] at hi<;>replace hi:=hid hi
     · simp (disch:=omega) [-List.reduceReplicate,he]
       simpa [hasS] using hi.out
     · simp (disch:=omega) [-List.reduceReplicate,hx]
       repeat' (first | (refine BrKd.mk (fun h=>?_) (fun h=>?_)<;>simp (disch:=omega) [*]) | (refine BrK.mk (fun h=>?_) (fun h=>?_)<;>simp (disch:=omega) [*]))
       all_goals first
        | (refine hN.out _<|Nx.mk (k + 1) (by simp [*]) ⟨by omega,?_⟩ (by omega); simpa (disch:=omega) [*,decide_eq_true,decide_eq_false,hasS] using hi.out)
        | (first | simpa (disch:=omega) [*,decide_eq_true,decide_eq_false,hasS] using hi.out.symm | simpa (disch:=omega) [*,decide_eq_true,decide_eq_false,hasS] using hi.out)
   · simp (disch:=omega) [-List.reduceReplicate]
     have hix:=wn v 0
     have hb:=cJ 58 v
     have hg:=Lib.indexByte_ge v 58
     obtain ⟨T,hT⟩:∃ T,T=gO 0 v:=⟨_,rfl⟩
     rw [←hT] at hix
     have hTb:T=-1∨(0≤T∧T < v.length):=by rw [hix]; split<;>omega
     have e:allows12 ⟨3,ws,rx⟩ v=(decide (T < 0) || hasS ws (v.take T.toNat)):=by
      simp only [allows12,hs,cutB,hix]
      by_cases h:0≤Lib.indexByte v 58
      · simp [h,show ¬Lib.indexByte v 58 < 0 by omega]
      · simp [h]
     rw [e]
     generalize hR:(decide (T < 0) || hasS ws (v.take T.toNat))=R
     refine ak (fun (q:Nat × Int)=>⟨[(1,.str v),(2,.ptr 0 0),(7,.int .i64 q.2),(8,.int .i64 q.1)],[some (.box [.int .i64 3,.seq 1 (ws.map .str),.str rx])]⟩)
      (fun q=>q.1≤v.length∧((q.2=-1∧gO q.1 (v.drop q.1)=T)∨(q.2=T∧0≤T))) (fun q=>v.length - q.1) [] _ (0,-1) rfl (by simp) (by simp [hT]) ?_
     rintro ⟨k,at'⟩ ⟨hk,hi⟩ N hN
     simp only at hk hi
     rcases hi with ⟨rfl,hi⟩ | ⟨rfl,hT0⟩
     · rcases place v k hk with ⟨he,hd⟩ | ⟨hlt,x,hx,hd⟩<;>rw [hd] at hi
       · simp only [gO] at hi
         subst hi
         simp (disch:=omega) [-List.reduceReplicate,he]
         simpa using hR
       · simp only [gO] at hi
         replace hi:=hid hi
         simp (disch:=omega) [-List.reduceReplicate,hx]
         refine BrKd.mk (fun h=>?_) (fun h=>?_)
         · have hi:=hi.out
           rw [if_pos (by omega)] at hi
           simp (disch:=omega) [-List.reduceReplicate,h]
           exact hN.out _<|Nx.mk (k + 1,(k:Int)) (by simp) ⟨by simp only; omega,.inr ⟨hi,by omega⟩⟩ (by simp only; omega)
         · have hi:=hi.out
           rw [if_neg (by omega)] at hi
           simp (disch:=omega) [-List.reduceReplicate,h]
           exact hN.out _<|Nx.mk (k + 1,(-1:Int)) (by simp) ⟨by simp only; omega,.inl ⟨rfl,hi⟩⟩ (by simp only; omega)
     · obtain ⟨t,rfl⟩:=Int.eq_ofNat_of_zero_le hT0
       have htl:t < v.length:=by omega
       simp only [show decide ((t:Int) < 0)=false by simp,Bool.false_or,Int.toNat_natCast] at hR
       clear hN
       rcases Nat.lt_or_ge k v.length with hkl | hkl
       all_goals
        simp (disch:=omega) [-List.reduceReplicate]
        refine ak (fun (j:Nat)=>⟨[(1,.str v),(2,.ptr 0 0),(7,.int .i64 t),(9,.int .i64 j)],[some (.box [.int .i64 3,.seq 1 (ws.map .str),.str rx])]⟩)
         (fun j=>j≤ws.length∧hasS (ws.drop j) (v.take t)=R) (fun j=>ws.length - j) [] _ 0 rfl (by simp) (by simp [hR]) ?_
        rintro j ⟨hj,hi⟩ M hM
        rcases place ws j hj with ⟨he,hd⟩ | ⟨hlt,x,hx,hd⟩<;>rw [hd] at hi
        · simp (disch:=omega) [-List.reduceReplicate,he]
          simpa [hasS] using hi
        · simp only [hasS] at hi
          replace hi:=hid hi
          simp (disch:=omega) [-List.reduceReplicate,hx]
          refine BrKd.mk (fun h=>?_) (fun h=>?_)
          · have hi:=hi.out
            rw [if_pos (by simpa using h)] at hi
            simp (disch:=omega) [-List.reduceReplicate,h]
            simpa using hi
          · have hi:=hi.out
            rw [if_neg (by simpa using h)] at hi
            simp (disch:=omega) [-List.reduceReplicate,h]
            exact hM.out _<|Nx.mk (j + 1) (by simp) ⟨by omega,hi⟩ (by omega)
   · simp (disch:=omega) [-List.reduceReplicate]
     have hb:=hr rfl
     simp only [rxB,Bool.and_eq_true,decide_eq_true_eq] at hb
     obtain ⟨hb1,hb2⟩:=hb
     have e:allows12 ⟨4,ws,rx⟩ v=rxM rx v:=by simp [allows12,hs]
     rw [e]
     unfold rxM
     split at hb2
     · rename_i ps k hp
       simp only [Bool.and_eq_true,decide_eq_true_eq] at hb2
       obtain ⟨hw,hpl,hkl⟩:=hb2
       try simp only [hp]
       refine an (Ai rx ps k hp hb1) (by simp) fun _=>?_
       simp (disch:=omega) [-List.reduceReplicate]
       refine ac (by simpa using Aj ps k v ⟨hpl,fun i p h=>by have:=IG hw h; rwa [Nat.zero_add] at this⟩ hkl (by omega)) rfl fun _=>?_
       simp
     · cases hb2
theorem PM:pool12.all rxB=true:=by decide +kernel
end Go.Abs.F
end
section
set_option maxHeartbeats 4000000
set_option maxRecDepth 100000
namespace Go.Abs.F
open Go.Proofs
attribute [-simp] getElem?_pos Option.not_isSome List.map_map
theorem FC:∀ {l:List Str} {s:Str},hasS l s=true↔s∈l
 | [],s=>by simp [hasS]
 | x::l,s=>by
   simp only [hasS,List.mem_cons]
   split
   · rename_i h; simp [h]
   · rename_i h
     rw [FC]
     exact ⟨.inr,fun h'=>h'.resolve_left (fun e=>h e.symm)⟩
def Il (e:Allowed):Prop:=e.kids.length≤8∧∃ l,e.rules=gI l
theorem xy:∀ (l out:List Allowed) (i:Nat),(∀ e∈out,Il e)→∀ e∈ja i out l,Il e
 | [],out,i,h=>by simpa [ja] using h
 | x::l,out,i,h=>by
   simp only [ja]
   split
   · exact xy l out _ h
   · refine xy l _ _ fun e he=>?_
     rcases List.mem_append.1 he with he | he
     · exact h e he
     · simp at he; subst he; exact ⟨by simp,x.rules,rfl⟩
theorem GX {els:List Allowed} (k:Nat) (own:List Str) (h:∀ e∈els,Il e):∀ e∈dZ els k own,Il e:=by
 intro e he
 unfold dZ at he
 split at he
 · rename_i x hx
   rcases List.mem_or_eq_of_mem_set he with he | he
   · exact h e he
   · subst he
     exact ⟨tG _ _ _,(h x (List.mem_of_getElem? hx)).2⟩
 · exact h e he
theorem Bc:∀ (l els:List Allowed) (k:Nat),(∀ e∈els,Il e)→∀ e∈d8 k els l,Il e
 | [],els,k,h=>by simpa [d8] using h
 | x::l,els,k,h=>by
   simp only [d8]
   exact Bc l _ _ (GX k x.kids h)
theorem wm:∀ (l els:List Allowed) (k:Nat),(d8 k els l).length=els.length
 | [],els,k=>by simp [d8]
 | x::l,els,k=>by simp only [d8]; rw [wm l,Er]
theorem p3 (p:Policy):∀ e∈(aT p).elements,Il e:=by
 unfold aT
 exact Bc _ _ _ (xy _ _ _ (by simp))
theorem HT (p:Policy):(aT p).few:=by
 have h1:(aT p).elements.length≤5:=by
  have:=nM (p.elements.take 5) [] 0
  simp only [aT,wm]
  simp at this; omega
 refine ⟨?_,by omega,fun e he=>?_⟩
 · have:=tG ⟨[],(aT p).elements,[]⟩ [] p.top
   simp only [aT] at this ⊢
   omega
 · obtain ⟨h2,l,h3⟩:=p3 p e he
   have:=Ey l
   rw [h3]; omega
end Go.Abs.F
end
