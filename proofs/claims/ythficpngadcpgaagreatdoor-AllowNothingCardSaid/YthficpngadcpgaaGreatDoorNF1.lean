/-
  What the first functions of the document's packages answer. No condition.
  What the next functions of the document's packages answer: constraints. No condition.
  What strainerref12.Good answers: a constraint that may be. No condition.
  What strainerref13's functions answer: the lists of a policy that may be. No condition.
  What strainerref13's rules and Good answer: a policy that may be. No condition.
  What the library's functions that guard calls answer: indexes, prefixes, cuts. No condition.
  Nodes; what guard.Any answers. No condition.
  What strainerref13's and strainerref21's functions answer: lists, patterns, rules, guards. No condition.
  What strainerref15's functions answer: which nodes a policy allows. No condition.
  What strainerref01's functions answer: characters. No condition.
  What strainerref03's functions answer that make nodes: cut, named, merged. No condition.
  What strainerref03's functions answer that make nodes that may be. No condition.
  What strainerref03's Good answers: nodes that may be. No condition.
  What strainerref06's functions answer that make stable nodes. No condition.
  What strainerref06's Good answers: stable nodes. No condition.
  What strainerref03's May, strainerref06's Stable and strainerref15's Nodes answer. No condition.
  How large strainerref06's Good makes nodes; what strainerlaw21's GuardMeek comes to: what a guard allows is not dangerous. No condition.
  What the program's functions for names, policies and lists answer. No condition.
-/
import Derived.Test.YthficpngadcpgaaGreatDoorNCodeA
import Derived.Lib.Bytealg
import Derived.Test.YthficpngadcpgaaGreatDoorNCodeW
set_option linter.unusedVariables false
set_option linter.unusedSimpArgs false
set_option linter.unusedSectionVars false
section
set_option maxHeartbeats 4000000
set_option maxRecDepth 100000
namespace Go.Abs.F
open Go.Proofs
attribute [-simp] getElem?_pos
theorem mixed:Tryz.prog.follows .mixedOrders=true:=by kernel_rfl
abbrev Str:=List UInt8
def dF (b:UInt8):Bool:=97≤b.toNat && b.toNat≤122
theorem ej (b:UInt8):Fn Tryz.prog np [.int .u8 b.toNat] (.bool (dF b)):=by
 refine Fn.of_image mixed n5 nJ rfl fun ho=>?_
 unfold et
 simp only [oks,ok,and_true] at ho
 simp (disch:=omega) [-List.reduceReplicate,et,dF]
 repeat' (first | (refine BrKd.mk (fun h=>?_) (fun h=>?_)<;>simp (disch:=omega) [*]) | (refine BrK.mk (fun h=>?_) (fun h=>?_)<;>simp (disch:=omega) [*]))
def bJ (b:UInt8):Bool:=dF b || (48≤b.toNat && b.toNat≤57) || decide (b.toNat=45)
def named:Str→Bool
 | []=>false
 | b::s=>dF b && (b::s).all bJ
theorem ek (s:Str):Fn Tryz.prog nr [.str s] (.bool (named s)):=by
 refine Fn.of_image mixed n7 nL rfl fun ho=>?_
 unfold cQ
 simp only [oks,ok,and_true] at ho
 cases s with
 | nil=>simp (disch:=omega) [-List.reduceReplicate,cQ,named]
 | cons b t=>
   simp (disch:=omega) [-List.reduceReplicate,cQ]
   refine ae (ej b) rfl fun _=>?_
   simp (disch:=omega) [-List.reduceReplicate]
   generalize hr:named (b::t)=r
   generalize hs:b::t=s at *
   refine ax (fun k:Nat=>⟨[(0,.str s),(3,.bool (dF b)),(4,.int .i64 k)],[]⟩) (fun k=>k≤s.length∧(dF b && (s.drop k).all bJ)=r) (fun k=>s.length - k) [] _ 0 rfl (by simp) (by simp [←hr,←hs,named]) ?_
   rintro k ⟨hk,hi⟩ N hN
   rcases place s k hk with ⟨he,hd⟩ | ⟨hlt,x,hx,hd⟩<;>rw [hd] at hi<;>replace hi:=hid hi
   · simp (disch:=omega) [-List.reduceReplicate,he]
     simpa using hi.out
   · simp (disch:=omega) [-List.reduceReplicate,hx]
     repeat' (first | (refine BrKd.mk (fun h=>?_) (fun h=>?_)<;>simp (disch:=omega) [*]) | (refine BrK.mk (fun h=>?_) (fun h=>?_)<;>simp (disch:=omega) [*]) | (refine ae (ej _) rfl (fun _=>?_)<;>simp (disch:=omega) [*]) | (refine aG (ej _) rfl ?_<;>simp (disch:=omega) [*]))
     all_goals first
      | (refine hN.out _<|Nx.mk (k + 1) (by simp [*]) ⟨by omega,?_⟩ (by omega); simpa (disch:=omega) [*,decide_eq_true,decide_eq_false,bJ] using hi.out)
      | (first | simpa (disch:=omega) [*,decide_eq_true,decide_eq_false,bJ] using hi.out.symm | simpa (disch:=omega) [*,decide_eq_true,decide_eq_false,bJ] using hi.out)
def plain (s:Str):Bool:=named s && s.length≤16
theorem eh (s:Str):Fn Tryz.prog nk [.str s] (.bool (plain s)):=by
 refine Fn.of_image mixed nX nG rfl fun ho=>?_
 unfold eo
 simp only [oks,ok,and_true] at ho
 simp (disch:=omega) [-List.reduceReplicate,eo,plain]
 repeat' (first | (refine BrKd.mk (fun h=>?_) (fun h=>?_)<;>simp (disch:=omega) [*]) | (refine BrK.mk (fun h=>?_) (fun h=>?_)<;>simp (disch:=omega) [*]) | (refine ae (ek _) rfl (fun _=>?_)<;>simp (disch:=omega) [*]) | (refine aG (ek _) rfl ?_<;>simp (disch:=omega) [*]))
structure Attr where
 name:Str
 value:Str
structure Constraint where
 kind:Int
 words:List Str
 regex:Str
structure Rule where
 name:Str
 value:Constraint
 req:Bool
structure Allowed where
 name:Str
 kids:List Str
 rules:List Rule
structure Policy where
 top:List Str
 elements:List Allowed
 unwrap:List Str
@[simp] def Attr.v (a:Attr):V:=.strct [.str a.name,.str a.value]
def Constraint.c (c:Constraint):List V:=[.int .i64 c.kind,.seq 1 (c.words.map .str),.str c.regex]
@[simp] def Constraint.v (c:Constraint):V:=.strct c.c
@[simp] def Rule.v (r:Rule):V:=.strct [.str r.name,.int .i64 r.value.kind,.seq 1 (r.value.words.map .str),.str r.value.regex,.bool r.req]
@[simp] def Allowed.v (a:Allowed):V:=.strct [.str a.name,.seq 1 (a.kids.map .str),.seq 5 (a.rules.map Rule.v)]
@[simp] def Policy.v (p:Policy):V:=.strct [.seq 1 (p.top.map .str),.seq 3 (p.elements.map Allowed.v),.seq 1 (p.unwrap.map .str)]
attribute [simp] Constraint.c
def bq:List Allowed→Str→Option Allowed
 | [],_=>none
 | e::l,s=>if e.name=s then some e else bq l s
def Allowed.zero:Allowed:=⟨[],[],[]⟩
theorem jp (p:Policy) (s:Str):Fn Tryz.prog p3 [p.v,.str s] (.tup [((bq p.elements s).getD .zero).v,.bool (bq p.elements s).isSome]):=by
 refine Fn.of_image mixed qK qu rfl fun ho=>?_
 unfold fu
 simp only [oks,ok,and_true] at ho
 simp (disch:=omega) [-List.reduceReplicate,fu]
 generalize hr:bq p.elements s=r
 refine ax (fun k:Nat=>⟨[(1,.str s),(2,.ptr 0 0),(4,.ptr 1 0),(6,.int .i64 k)],[some (.box [.seq 1 (p.top.map .str),.seq 3 (p.elements.map Allowed.v),.seq 1 (p.unwrap.map .str)]),some (.box [.str [],.nil 1,.nil 5])]⟩) (fun k=>k≤p.elements.length∧bq (p.elements.drop k) s=r) (fun k=>p.elements.length - k) [] _ 0 rfl (by simp [*]) (by simp [*]) ?_
 rintro k ⟨hk,hi⟩ N hN
 rcases place p.elements k hk with ⟨he,hd⟩ | ⟨hlt,x,hx,hd⟩<;>rw [hd] at hi<;>replace hi:=hid hi
 · simp (disch:=omega) [-List.reduceReplicate,he]
   simp [←hi.out,bq,Allowed.zero]
 · have hlen:p.elements.length≤140737488355328:=by have:=ho.1; simp at this; exact this.2.1.1
   simp (disch:=omega) [-List.reduceReplicate,hx]
   repeat' (first | (refine BrKd.mk (fun h=>?_) (fun h=>?_)<;>simp (disch:=omega) [*]) | (refine BrK.mk (fun h=>?_) (fun h=>?_)<;>simp (disch:=omega) [*]))
   all_goals first
    | (refine hN.out _<|Nx.mk (k + 1) (by simp [*]) ⟨by omega,?_⟩ (by omega); simpa (disch:=omega) [*,decide_eq_true,decide_eq_false,bq] using hi.out)
    | (have hi:=hi.out; simp [bq, *] at hi; subst hi; simp [*])
def nc (s:Str):Str × Bool:=match s[s.length - 1]? with
 | some x=>if x.toNat=42 then (s.take (s.length - 1),true) else (s,false)
 | none=>(s,false)
theorem qY (s:Str):Fn Tryz.prog pY [.str s] (.tup [.str (nc s).1,.bool (nc s).2]):=by
 refine Fn.of_image mixed qG qp rfl fun ho=>?_
 unfold dv
 simp only [oks,ok,and_true] at ho
 by_cases hp:0 < s.length
 · obtain ⟨x,hx⟩:=cD (l:=s) (k:=s.length - 1) (by omega)
   simp (disch:=omega) [-List.reduceReplicate,dv]
   simp [hx]
   repeat' (first | (refine BrKd.mk (fun h=>?_) (fun h=>?_)<;>simp (disch:=omega) [*]) | (refine BrK.mk (fun h=>?_) (fun h=>?_)<;>simp (disch:=omega) [*]))
   all_goals first | omega | simp [nc, *]
 · have:s=[]:=by cases s; rfl; simp at hp
   subst this
   simp (disch:=omega) [-List.reduceReplicate,dv,nc]
def bk:List Str→Str→Bool
 | [],_=>false
 | x::l,s=>if x=s then true else bk l s
theorem d2 (l:List Str) (s:Str):Fn Tryz.prog r8 [.seq 1 (l.map .str),.str s] (.bool (bk l s)):=by
 refine Fn.of_image mixed sE so rfl fun ho=>?_
 unfold gz
 simp only [oks,ok,and_true] at ho
 simp (disch:=omega) [-List.reduceReplicate,gz]
 generalize hr:bk l s=r
 refine ax (fun k:Nat=>⟨[(0,.seq 1 (l.map .str)),(1,.str s),(5,.int .i64 k)],[]⟩) (fun k=>k≤l.length∧bk (l.drop k) s=r) (fun k=>l.length - k) [] _ 0 rfl (by simp [*]) (by simp [*]) ?_
 rintro k ⟨hk,hi⟩ N hN
 rcases place l k hk with ⟨he,hd⟩ | ⟨hlt,x,hx,hd⟩<;>rw [hd] at hi<;>replace hi:=hid hi
 · simp (disch:=omega) [-List.reduceReplicate,he]
   simpa [bk] using hi.out
 · have hlen:l.length≤140737488355328:=by have:=ho.1.1; simpa using this
   simp (disch:=omega) [-List.reduceReplicate,hx]
   repeat' (first | (refine BrKd.mk (fun h=>?_) (fun h=>?_)<;>simp (disch:=omega) [*]) | (refine BrK.mk (fun h=>?_) (fun h=>?_)<;>simp (disch:=omega) [*]))
   all_goals first
    | (refine hN.out _<|Nx.mk (k + 1) (by simp [*]) ⟨by omega,?_⟩ (by omega); simpa (disch:=omega) [*,decide_eq_true,decide_eq_false,bk] using hi.out)
    | (first | simpa (disch:=omega) [*,decide_eq_true,decide_eq_false,bk] using hi.out.symm | simpa (disch:=omega) [*,decide_eq_true,decide_eq_false,bk] using hi.out)
def tH (b:UInt8):Bool:=32≤b.toNat && b.toNat≤126
theorem hZ (s:Str):Fn Tryz.prog nn [.str s] (.bool (s.all tH)):=by
 refine Fn.of_image mixed nZ nI rfl fun ho=>?_
 unfold er
 simp only [oks,ok,and_true] at ho
 simp (disch:=omega) [-List.reduceReplicate,er]
 generalize hr:s.all tH=r
 refine ax (fun k:Nat=>⟨[(0,.str s),(3,.int .i64 k)],[]⟩) (fun k=>k≤s.length∧(s.drop k).all tH=r) (fun k=>s.length - k) [] _ 0 rfl (by simp [*]) (by simp [*]) ?_
 rintro k ⟨hk,hi⟩ N hN
 rcases place s k hk with ⟨he,hd⟩ | ⟨hlt,x,hx,hd⟩<;>rw [hd] at hi<;>replace hi:=hid hi
 · simp (disch:=omega) [-List.reduceReplicate,he]
   simpa using hi.out
 · simp (disch:=omega) [-List.reduceReplicate,hx]
   repeat' (first | (refine BrKd.mk (fun h=>?_) (fun h=>?_)<;>simp (disch:=omega) [*]) | (refine BrK.mk (fun h=>?_) (fun h=>?_)<;>simp (disch:=omega) [*]))
   all_goals first
    | (refine hN.out _<|Nx.mk (k + 1) (by simp [*]) ⟨by omega,?_⟩ (by omega); simpa (disch:=omega) [*,decide_eq_true,decide_eq_false,tH] using hi.out)
    | (first | simpa (disch:=omega) [*,decide_eq_true,decide_eq_false,tH] using hi.out.symm | simpa (disch:=omega) [*,decide_eq_true,decide_eq_false,tH] using hi.out)
def pQ (s:Str):Bool:=s.all dF && (1≤s.length && s.length≤16)
theorem gr (s:Str):Fn Tryz.prog l6 [.str s] (.bool (pQ s)):=by
 refine Fn.of_image mixed mw ml rfl fun ho=>?_
 unfold dO
 simp only [oks,ok,and_true] at ho
 simp (disch:=omega) [-List.reduceReplicate,dO]
 generalize hr:pQ s=r
 refine ax (fun k:Nat=>⟨[(0,.str s),(3,.int .i64 k)],[]⟩) (fun k=>k≤s.length∧((s.drop k).all dF && (1≤s.length && s.length≤16))=r) (fun k=>s.length - k) [] _ 0 rfl (by simp [*]) (by simp [*,←hr,pQ]) ?_
 rintro k ⟨hk,hi⟩ N hN
 rcases place s k hk with ⟨he,hd⟩ | ⟨hlt,x,hx,hd⟩<;>rw [hd] at hi<;>replace hi:=hid hi
 · simp (disch:=omega) [-List.reduceReplicate,he]
   repeat' (first | (refine BrKd.mk (fun h=>?_) (fun h=>?_)<;>simp (disch:=omega) [*]) | (refine BrK.mk (fun h=>?_) (fun h=>?_)<;>simp (disch:=omega) [*]))
   all_goals (first | simpa (disch:=omega) [*,decide_eq_true,decide_eq_false,] using hi.out.symm | simpa (disch:=omega) [*,decide_eq_true,decide_eq_false,] using hi.out)
 · simp (disch:=omega) [-List.reduceReplicate,hx]
   repeat' (first | (refine BrKd.mk (fun h=>?_) (fun h=>?_)<;>simp (disch:=omega) [*]) | (refine BrK.mk (fun h=>?_) (fun h=>?_)<;>simp (disch:=omega) [*]))
   all_goals first
    | (refine hN.out _<|Nx.mk (k + 1) (by simp [*]) ⟨by omega,?_⟩ (by omega); simpa (disch:=omega) [*,decide_eq_true,decide_eq_false,dF] using hi.out)
    | (first | simpa (disch:=omega) [*,decide_eq_true,decide_eq_false,dF] using hi.out.symm | simpa (disch:=omega) [*,decide_eq_true,decide_eq_false,dF] using hi.out)
theorem dA {α:Type} {l:List α} {k:Nat} {x:α} (h:l[k]?=some x):l.take (k + 1)=l.take k++[x]:=by rw [List.take_add_one,h]; rfl
theorem take_drop {α:Type} {l:List α} {k j:Nat} {x:α} (h:l[j]?=some x) (hj:j < k):(l.take k).drop j=x::(l.take k).drop (j + 1):=
 pA (by rw [List.getElem?_take,if_pos hj,h])
def pJ (sch:Bool) (x:Str):Bool:=if sch then pQ x else (x.all tH && decide (x.length≤40))
def eQ (sch:Bool):List Str→List Str→Bool
 | _,[]=>true
 | pre,x::l=>pJ sch x && (!(bk pre x) && eQ sch (pre++[x]) l)
def words (l:List Str) (sch:Bool):Bool:=eQ sch [] l && decide (l.length≤8)
theorem oq (l:List Str) (sch:Bool):Fn Tryz.prog nl [.seq 1 (l.map .str),.bool sch] (.bool (words l sch)):=by
 refine Fn.of_image mixed nY nH rfl fun ho=>?_
 unfold ep
 simp only [oks,ok,and_true] at ho
 have hlen:l.length≤140737488355328:=by have:=ho.1; simpa using this
 simp (disch:=omega) [-List.reduceReplicate,ep]
 generalize hr:words l sch=r
 refine ax (fun k:Nat=>⟨[(0,.seq 1 (l.map .str)),(1,.bool sch),(5,.int .i64 k)],[]⟩) (fun k=>k≤l.length∧(eQ sch (l.take k) (l.drop k) && decide (l.length≤8))=r) (fun k=>l.length - k) [] _ 0 rfl (by simp [*]) (by simp [*,←hr,words]) ?_
 rintro k ⟨hk,hi⟩ N hN
 rcases place l k hk with ⟨he,hd⟩ | ⟨hlt,x,hx,hd⟩<;>rw [hd] at hi<;>replace hi:=hid hi
 · simp (disch:=omega) [-List.reduceReplicate,he]
   simpa [eQ] using hi.out
 · rcases Bool.eq_false_or_eq_true sch with hsch | hsch
   all_goals
    simp (disch:=omega) [-List.reduceReplicate,hx]
    repeat' (first | (refine BrKd.mk (fun h=>?_) (fun h=>?_)<;>simp (disch:=omega) [*]) | (refine BrK.mk (fun h=>?_) (fun h=>?_)<;>simp (disch:=omega) [*]) | (refine ae (gr _) rfl (fun _=>?_)<;>simp (disch:=omega) [*]) | (refine aG (gr _) rfl ?_<;>simp (disch:=omega) [*]) | (refine ae (hZ _) rfl (fun _=>?_)<;>simp (disch:=omega) [*]) | (refine aG (hZ _) rfl ?_<;>simp (disch:=omega) [*]))
    all_goals first
     | (first | simpa (disch:=omega) [*,decide_eq_true,decide_eq_false,pJ,eQ] using hi.out.symm | simpa (disch:=omega) [*,decide_eq_true,decide_eq_false,pJ,eQ] using hi.out)
     | (have hi:=hi.out; simp (disch:=omega) [pJ,eQ, *,decide_eq_true,decide_eq_false] at hi; replace hi:=hid hi
        refine ax (fun j:Nat=>⟨[(0,.seq 1 (l.map .str)),(1,.bool sch),(5,.int .i64 k),(8,.int .i64 j)],[]⟩) (fun j=>j≤k∧bk (l.take k) x=bk ((l.take k).drop j) x) (fun j=>k - j) [] _ 0 rfl (by simp [*]) (by simp) ?_
        rintro j ⟨hj,hi2⟩ N2 hN2
        by_cases hlt2:j < k
        · obtain ⟨y,hy⟩:=cD (l:=l) (k:=j) (by omega)
          rw [take_drop hy hlt2,bk] at hi2; replace hi2:=hid hi2
          simp (disch:=omega) [*]
          repeat' (first | (refine BrKd.mk (fun h=>?_) (fun h=>?_)<;>simp (disch:=omega) [*]) | (refine BrK.mk (fun h=>?_) (fun h=>?_)<;>simp (disch:=omega) [*]))
          all_goals first
           | (refine hN2.out _<|Nx.mk (j + 1) (by simp [*]) ⟨by omega,?_⟩ (by omega); rw [hi2.out,if_neg h])
           | (have hi2:=hi2.out; rw [if_pos h] at hi2; have hi:=hi.out; simp [hi2] at hi; simp [hi])
        · have:(l.take k).drop j=[]:=by simp; omega
          rw [this,bk] at hi2
          have hi:=hi.out; simp [hi2] at hi; replace hi:=hid hi
          simp (disch:=omega) [*]
          refine hN.out _<|Nx.mk (k + 1) (by simp [*]) ⟨by omega,?_⟩ (by omega)
          rw [dA hx]; simpa [*] using hi.out)
def nb:Str→Nat
 | []=>0
 | b::s=>b.toNat + nb s
def tP:List Str:=[[97,42],[40,97,124,98,41,43],[91,48,45,57,93,43],[120,46,121],[91,94,97,93,42],[],[97,124,98,98,124,99]]
def rX (sch:Bool):List Str→List Str→List Str
 | out,[]=>out
 | out,w::l=>rX sch (if words (out++[w]) sch then out++[w] else out) l
def fh (k:Int):Int:=1 + (if k < 0 then -(k + 1) else k) % 4
def iR (c:Constraint):Constraint:=
 let k:=fh c.kind
 if k=4 then ⟨4,[],(tP[nb c.regex % 7]?).getD []⟩
 else
  let ws:=if k=1 then [] else rX (decide (k=3)) [] (c.words.take 4)
  ⟨k,if k=2∧ws=[] then [[120]] else ws,[]⟩
theorem qg (k:Int):1≤fh k∧fh k≤4:=by
 unfold fh
 have h:0≤(if k < 0 then -(k + 1) else k):=by split<;>omega
 generalize (if k < 0 then -(k + 1) else k)=m at h
 omega
theorem q8 (c:Constraint) (hR:c.regex.length≤1125899906842624):Fn Tryz.prog p4 [c.v] (iR c).v:=by
 refine Fn.of_image mixed qL qv rfl fun ho=>?_
 unfold fv
 simp only [oks,ok,and_true] at ho
 obtain ⟨kd,ws,rx⟩:=c
 simp at ho hR
 generalize hg:iR ⟨kd,ws,rx⟩=g
 have hrg:=qg kd
 have hgd:g=iR ⟨kd,ws,rx⟩:=hg.symm
 simp only [iR] at hgd
 simp (disch:=omega) [-List.reduceReplicate,fv]
 refine BrKd.mk (fun h=>?_) (fun h=>?_)
 all_goals
  first
   | (have e:1 + -(kd + 1) % 4=fh kd:=by rw [fh,if_pos h])
   | (have e:1 + kd % 4=fh kd:=by rw [fh,if_neg h])
  simp (disch:=omega) [-List.reduceReplicate]
  rw [e]
  clear e
  generalize fh kd=q at *
  refine BrKd.mk (fun hq=>?_) (fun hq=>?_)
  · simp (disch:=omega) [-List.reduceReplicate]
    refine ax (fun (p:Nat × Nat)=>⟨[(1,.ptr 0 0),(2,.ptr 1 0),(4,.ptr 2 0),(5,.seq 1 (tP.map .str)),(6,.int .i64 p.2),(7,.int .i64 p.1)],
     [some (.box [.int .i64 kd,.seq 1 (ws.map .str),.str rx]),some (.box [.int .i64 0,.nil 1,.str []]),some (.box [.int .i64 q,.nil 1,.str []])]⟩)
     (fun p=>p.1≤rx.length∧p.2≤255 * p.1∧p.2 + nb (rx.drop p.1)=nb rx) (fun p=>rx.length - p.1) [] _ (0,0) rfl (by simp [tP]) (by simp) ?_
    rintro ⟨k,n⟩ ⟨hk,hn,hi⟩ N hN
    simp only at hk hn hi
    rcases place rx k hk with ⟨he,hd⟩ | ⟨hlt,x,hx,hd⟩<;>rw [hd,nb] at hi
    · have hm:n % 7 < 7:=Nat.mod_lt _ (by decide)
      have ht:((n:Int) % 7).toNat=n % 7:=by omega
      obtain ⟨y,hy⟩:=cD (l:=tP) (k:=n % 7) hm
      have hpl:tP.length=7:=rfl
      subst hq
      rw [if_pos rfl] at hgd
      simp only [Nat.add_zero] at hi
      simp (disch:=omega) [-List.reduceReplicate,he,hpl,ht,hy]
      rw [hi] at hy
      simp [hgd,hy]
    · have hx8:=x.toNat_lt
      simp (disch:=omega) [-List.reduceReplicate,hx]
      refine hN.out _<|Nx.mk (k + 1,n + x.toNat) (by simp) ⟨by simp only; omega,by simp only; omega,by simp only; omega⟩ (by simp only; omega)
  · rw [if_neg hq] at hgd
    generalize hw:(if q=1 then [] else rX (decide (q=3)) [] (List.take 4 ws))=w at hgd
    have hl4:(List.take 4 ws).length=min 4 ws.length:=List.length_take
    simp (disch:=omega) [-List.reduceReplicate]
    refine ax (fun (p:Nat × List Str)=>⟨[(1,.ptr 0 0),(2,.ptr 1 0),(4,.ptr 2 0),(8,.int .i64 p.1)],
     [some (.box [.int .i64 kd,.seq 1 (ws.map .str),.str rx]),some (.box [.int .i64 0,.nil 1,.str []]),some (.box [.int .i64 q,.ref 3 p.2.length,.str []]),some (.arr aA 1 (p.2.map .str))]⟩)
     (fun p=>p.1≤(List.take 4 ws).length∧p.2.length≤p.1∧(if q=1 then p.2 else rX (decide (q=3)) p.2 ((List.take 4 ws).drop p.1))=w) (fun p=>(List.take 4 ws).length - p.1) [.b 2 1 aA 1] _ (0,[]) rfl (by simp) (by simp [hw]) ?_
    rintro ⟨k,out⟩ ⟨hk,hol,hi⟩ N hN
    simp only at hk hol hi
    by_cases hq1:q=1
    · rw [if_pos hq1] at hi
      subst hi
      simp (disch:=omega) [-List.reduceReplicate,hq1]
      repeat' (first | (refine BrKd.mk (fun h=>?_) (fun h=>?_)<;>simp (disch:=omega) [*]) | (refine BrK.mk (fun h=>?_) (fun h=>?_)<;>simp (disch:=omega) [*]))
      all_goals first | omega | simp [hgd,hq1]
    · rw [if_neg hq1] at hi
      rcases place (List.take 4 ws) k hk with ⟨he,hd⟩ | ⟨hlt,x,hx,hd⟩<;>rw [hd,rX] at hi
      · subst hi
        clear hw
        simp (disch:=omega) [-List.reduceReplicate]
        repeat' (first | (refine BrKd.mk (fun h=>?_) (fun h=>?_)<;>simp (disch:=omega) [*]) | (refine BrK.mk (fun h=>?_) (fun h=>?_)<;>simp (disch:=omega) [*]))
        all_goals first | omega | (cases out<;>simp_all) | simp [*]
      · have hx2:ws[k]?=some x:=by rw [List.getElem?_take] at hx; simpa [show k < 4 by omega] using hx
        replace hi:=hid hi
        simp (disch:=omega) [-List.reduceReplicate,hx2,hq1]
        refine ae (by simpa using oq (out++[x]) (decide (q=3))) rfl fun _=>?_
        simp (disch:=omega) [-List.reduceReplicate]
        refine BrK.mk (fun hb=>?_) (fun hb=>?_)
        · simp (disch:=omega) [-List.reduceReplicate]
          refine hN.out _<|Nx.mk (k + 1,out++[x]) (by simp) ⟨by simp only; omega,by simp; omega,?_⟩ (by simp only; omega)
          have hi:=hi.out
          rw [if_pos hb] at hi
          simpa [hq1] using hi
        · simp (disch:=omega) [-List.reduceReplicate]
          refine hN.out _<|Nx.mk (k + 1,out) (by simp) ⟨by simp only; omega,by simp only; omega,?_⟩ (by simp only; omega)
          have hi:=hi.out
          rw [if_neg (by simp [hb])] at hi
          simpa [hq1] using hi
theorem xF {P:Program} {d f vs us} {K:St→Prop} {σ:St} {r:V} (h:Fn P f us r) (hf:cG (jk r)=true) (k:ok (jk r)→K (σ.put d (jk r))):fR (Cn P) d f vs us K σ:=ae (Fn.jk h) hf k
theorem yJ {l:List V} {sz:Nat}:cG (if l=[] then V.seq sz l else V.junk)=true:=by split<;>simp [cG, *]
theorem yI {α:Type} {f:α→V} {l:List α} {sz:Nat}:cG (if l=[] then V.seq sz (l.map f) else V.junk)=true:=by split<;>simp [cG, *]
theorem pt:∀ {l:List Str},cr (l.map V.str)=true
 | []=>rfl
 | _::l=>by simp [cr,cG,pt (l:=l)]
attribute [simp] yJ yI pt
def tC (s:Str):Bool:=decide (s=[98,114]) || (decide (s=[104,114]) || (decide (s=[105,109,103]) || (decide (s=[105,110,112,117,116]) || decide (s=[119,98,114]))))
theorem rb (s:Str):Fn Tryz.prog p6 [.str s] (.bool (tC s)):=by
 refine Fn.of_image mixed qO qy rfl fun ho=>?_
 unfold fw
 simp only [oks,ok,and_true] at ho
 simp (disch:=omega) [-List.reduceReplicate,fw,tC]
 repeat' (first | (refine BrKd.mk (fun h=>?_) (fun h=>?_)<;>simp (disch:=omega) [*]) | (refine BrK.mk (fun h=>?_) (fun h=>?_)<;>simp (disch:=omega) [*]))
def raw (s:Str):Bool:=decide (s=[115,99,114,105,112,116]) || decide (s=[115,116,121,108,101])
theorem sX (s:Str):Fn Tryz.prog sa [.str s] (.bool (raw s)):=by
 refine Fn.of_image mixed sG sr rfl fun ho=>?_
 unfold gA
 simp only [oks,ok,and_true] at ho
 simp (disch:=omega) [-List.reduceReplicate,gA,raw]
 repeat' (first | (refine BrKd.mk (fun h=>?_) (fun h=>?_)<;>simp (disch:=omega) [*]) | (refine BrK.mk (fun h=>?_) (fun h=>?_)<;>simp (disch:=omega) [*]))
def aM (o:Str):List Str:=
 if o=[112] then [[98,108,111,99,107,113,117,111,116,101],[100,105,118],[104,49],[104,50],[104,114],[108,105],[111,108],[112],[112,114,101],[116,97,98,108,101],[117,108]]
 else if o=[108,105] then [[108,105]]
 else if o=[100,116]∨o=[100,100] then [[100,100],[100,116]]
 else if o=[111,112,116,105,111,110] then [[111,112,116,105,111,110]]
 else if o=[116,100] then [[116,100],[116,114]]
 else if o=[116,114] then [[116,114]]
 else []
def fo (o b:Str):Bool:=bk (aM o) b
theorem mK (o b:Str):Fn Tryz.prog l7 [.str o,.str b] (.bool (fo o b)):=by
 refine Fn.of_image mixed my mn rfl fun ho=>?_
 unfold dP
 simp only [oks,ok,and_true] at ho
 simp (disch:=omega) [-List.reduceReplicate,dP]
 generalize hr:fo o b=r
 have hlen:(aM o).length≤11:=by unfold aM; repeat' (split<;>try simp)
 repeat' (first | (refine BrKd.mk (fun h=>?_) (fun h=>?_)<;>simp (disch:=omega) [*]) | (refine BrK.mk (fun h=>?_) (fun h=>?_)<;>simp (disch:=omega) [*]))
 all_goals
  by_cases hc:aM o=[]
  · refine ax (fun k:Nat=>⟨[(1,.str b),(5,.nil 1),(6,.int .i64 0)],[]⟩) (fun k=>k=0) (fun k=>0 - k) [] _ 0 rfl (by revert hc; simp [*,aM]) rfl ?_
    rintro k rfl N hN
    simp [←hr,fo,hc,bk]
  refine ax (fun k:Nat=>⟨[(1,.str b),(5,.seq 1 ((aM o).map .str)),(6,.int .i64 k)],[]⟩) (fun k=>k≤(aM o).length∧bk ((aM o).drop k) b=r) (fun k=>(aM o).length - k) [] _ 0 rfl (by revert hc; simp [*,aM]) (by simp [←hr,fo]) ?_
  clear hr hc
  generalize aM o=l at *
  rintro k ⟨hk,hi⟩ N hN
  rcases place l k hk with ⟨he,hd⟩ | ⟨hlt,x,hx,hd⟩<;>rw [hd] at hi<;>replace hi:=hid hi
  · simp (disch:=omega) [-List.reduceReplicate,he]
    simpa [bk] using hi.out
  · simp (disch:=omega) [-List.reduceReplicate,hx]
    repeat' (first | (refine BrKd.mk (fun h=>?_) (fun h=>?_)<;>simp (disch:=omega) [*]) | (refine BrK.mk (fun h=>?_) (fun h=>?_)<;>simp (disch:=omega) [*]))
    all_goals first
     | (refine hN.out _<|Nx.mk (k + 1) (by simp [*]) ⟨by omega,?_⟩ (by omega); simpa (disch:=omega) [*,decide_eq_true,decide_eq_false,bk] using hi.out)
     | (first | simpa (disch:=omega) [*,decide_eq_true,decide_eq_false,bk] using hi.out.symm | simpa (disch:=omega) [*,decide_eq_true,decide_eq_false,bk] using hi.out)
def o9:List Str→List Str→Bool
 | _,[]=>true
 | pre,x::l=>!bk pre x && o9 (pre++[x]) l
def vV (l:List Str):Bool:=o9 [] l
theorem qZ (l:List Str):Fn Tryz.prog pZ [.seq 1 (l.map .str)] (.bool (vV l)):=by
 refine Fn.of_image mixed qH qq rfl fun ho=>?_
 unfold fp
 simp only [oks,ok,and_true] at ho
 have hlen:l.length≤140737488355328:=by have:=ho.1; simpa using this
 simp (disch:=omega) [-List.reduceReplicate,fp]
 generalize hr:vV l=r
 refine ax (fun k:Nat=>⟨[(0,.seq 1 (l.map .str)),(3,.int .i64 k)],[]⟩) (fun k=>k≤l.length∧o9 (l.take k) (l.drop k)=r) (fun k=>l.length - k) [] _ 0 rfl (by simp [*]) (by simp [*,←hr,vV]) ?_
 rintro k ⟨hk,hi⟩ N hN
 rcases place l k hk with ⟨he,hd⟩ | ⟨hlt,x,hx,hd⟩<;>rw [hd] at hi<;>replace hi:=hid hi
 · simp (disch:=omega) [-List.reduceReplicate,he]
   simpa [o9] using hi.out
 · simp (disch:=omega) [-List.reduceReplicate,hx]
   refine aG (by simpa [List.map_take] using d2 (l.take k) x) rfl ?_
   simp (disch:=omega) [-List.reduceReplicate]
   refine BrK.mk (fun h=>?_) (fun h=>?_)
   · simp (disch:=omega) [-List.reduceReplicate]
     have hi:=hi.out
     simpa [o9,h] using hi
   · simp (disch:=omega) [-List.reduceReplicate]
     refine hN.out _<|Nx.mk (k + 1) (by simp [*]) ⟨by omega,?_⟩ (by omega)
     have hi:=hi.out
     simp [o9,h] at hi
     rw [dA hx]; exact hi
def fG:Str:=[35,116,101,120,116]
def cC:Str:=[35,99,111,109,109,101,110,116]
def jh (p:Policy) (par x:Str):Bool:=!(tC par || (raw par && !decide (x=fG))) && ((decide (x=fG) || decide (x=cC)) || ((bq p.elements x).isSome && !fo par x))
def kids (p:Policy) (par:Str) (l:List Str):Bool:=l.all (jh p par) && vV l
theorem q0 (p:Policy) (par:Str) (l:List Str):Fn Tryz.prog p1 [p.v,.str par,.seq 1 (l.map .str)] (.bool (kids p par l)):=by
 refine Fn.of_image mixed qI qr rfl fun ho=>?_
 unfold fq
 simp only [oks,ok,and_true] at ho
 have hlen:l.length≤140737488355328:=by have:=ho.2.2.1; simpa using this
 simp (disch:=omega) [-List.reduceReplicate,fq]
 refine ae (rb _) rfl fun _=>?_
 simp (disch:=omega) [-List.reduceReplicate]
 refine ae (sX _) rfl fun _=>?_
 simp (disch:=omega) [-List.reduceReplicate]
 generalize hr:kids p par l=r
 refine ax (fun k:Nat=>⟨[(1,.str par),(2,.seq 1 (l.map .str)),(3,.ptr 0 0),(7,.bool (tC par)),(8,.bool (raw par)),(9,.int .i64 k)],[some (.box [.seq 1 (p.top.map .str),.seq 3 (p.elements.map Allowed.v),.seq 1 (p.unwrap.map .str)])]⟩) (fun k=>k≤l.length∧((l.drop k).all (jh p par) && vV l)=r) (fun k=>l.length - k) [] _ 0 rfl (by simp [*]) (by simp [*,←hr,kids]) ?_
 rintro k ⟨hk,hi⟩ N hN
 rcases place l k hk with ⟨he,hd⟩ | ⟨hlt,x,hx,hd⟩<;>rw [hd] at hi<;>replace hi:=hid hi
 · simp (disch:=omega) [-List.reduceReplicate,he]
   refine ae (qZ _) rfl fun _=>?_
   have hi:=hi.out
   simp at hi
   simp (disch:=omega) [-List.reduceReplicate,hi]
 · simp only [List.all_cons] at hi
   have hfin:jh p par x=false→r=false:=fun h=>by have hi:=hi.out; rw [h] at hi; simpa using hi.symm
   have hgo:jh p par x=true→((l.drop (k + 1)).all (jh p par) && vV l)=r:=fun h=>by have hi:=hi.out; rw [h] at hi; simpa using hi
   replace hfin:=hid hfin
   replace hgo:=hid hgo
   simp (disch:=omega) [-List.reduceReplicate,hx]
   repeat' (first
    | (refine BrKd.mk (fun h=>?_) (fun h=>?_)<;>simp (disch:=omega) [*])
    | (refine BrK.mk (fun h=>?_) (fun h=>?_)<;>simp (disch:=omega) [*])
    | (refine aG (Fn.jk (jp p x)) (by simp) ?_<;>simp (disch:=omega) [*])
    | (refine ae (mK par x) rfl (fun _=>?_)<;>simp (disch:=omega) [*]))
   all_goals
    cases hf:bq p.elements x
    all_goals
     first
     | (exfalso; simp_all; done)
     | (refine hN.out _<|Nx.mk (k + 1) (by simp [*]) ⟨by omega,hgo.out ?_⟩ (by omega); simp_all [jh,fG,cC]; done)
     | (rw [hfin.out ?_]; simp_all [jh,fG,cC]; done)
     | (refine (hfin.out ?_).symm; simp_all [jh,fG,cC]; done)
     | (refine (hfin.out ?_); simp_all [jh,fG,cC]; done)
def vg (p:Policy) (par:Str):List Str→List Str→List Str
 | out,[]=>out
 | out,x::l=>vg p par (if kids p par (out++[x]) then out++[x] else out) l
def d1 (p:Policy) (par:Str) (l:List Str):List Str:=vg p par [] (l.take 8)
theorem fJ (p:Policy) (par:Str) (l:List Str):FnN Tryz.prog kL [p.v,.str par,.seq 1 (l.map .str)] (.seq 1 ((d1 p par l).map .str)):=by
 refine FnN.of_image mixed kX kR rfl fun ho=>?_
 have hlen:l.length≤140737488355328:=by have:=ho.2.2.1.1; simpa using this
 unfold fL
 simp (disch:=omega) [-List.reduceReplicate]
 generalize hw:d1 p par l=w
 have hl8:(List.take 8 l).length=min 8 l.length:=List.length_take
 refine ax (fun (q:Nat × List Str)=>⟨[(1,.str par),(2,.seq 1 (l.map .str)),(3,.ptr 0 0),(7,.ref 1 q.2.length),(8,.int .i64 q.1)],
  [some (.box [.seq 1 (p.top.map .str),.seq 3 (p.elements.map Allowed.v),.seq 1 (p.unwrap.map .str)]),some (.arr aA 1 (q.2.map .str))]⟩)
  (fun q=>q.1≤(List.take 8 l).length∧q.2.length≤q.1∧vg p par q.2 ((List.take 8 l).drop q.1)=w) (fun q=>(List.take 8 l).length - q.1) [.r 7 aA 1] _ (0,[]) rfl (by simp) (by simp [←hw,d1]) ?_
 rintro ⟨k,out⟩ ⟨hk,hol,hi⟩ N hN
 simp only at hk hol hi
 rcases place (List.take 8 l) k hk with ⟨he,hd⟩ | ⟨hlt,x,hx,hd⟩<;>rw [hd,vg] at hi
 · subst hi
   simp (disch:=omega) [-List.reduceReplicate]
   repeat' (first | (refine BrKd.mk (fun h=>?_) (fun h=>?_)<;>simp (disch:=omega) [*]) | (refine BrK.mk (fun h=>?_) (fun h=>?_)<;>simp (disch:=omega) [*]))
   all_goals first | omega | simp [*]
 · have hx2:l[k]?=some x:=by rw [List.getElem?_take] at hx; simpa [show k < 8 by omega] using hx
   replace hi:=hid hi
   simp (disch:=omega) [-List.reduceReplicate,hx2]
   refine ae (by simpa using q0 p par (out++[x])) rfl fun _=>?_
   simp (disch:=omega) [-List.reduceReplicate]
   refine BrK.mk (fun hb=>?_) (fun hb=>?_)
   · simp (disch:=omega) [-List.reduceReplicate]
     refine hN.out _<|Nx.mk (k + 1,out++[x]) (by simp) ⟨by simp only; omega,by simp; omega,?_⟩ (by simp only; omega)
     have hi:=hi.out
     rw [if_pos hb] at hi
     simpa using hi
   · simp (disch:=omega) [-List.reduceReplicate]
     refine hN.out _<|Nx.mk (k + 1,out) (by simp) ⟨by simp only; omega,by simp only; omega,?_⟩ (by simp only; omega)
     have hi:=hi.out
     rw [if_neg (by simp [hb])] at hi
     simpa using hi
end Go.Abs.F
end
section
set_option maxHeartbeats 4000000
set_option maxRecDepth 100000
namespace Go.Abs.F
open Go.Proofs
attribute [-simp] getElem?_pos Option.not_isSome
def uZ:List Str:=[[105,100],[104,114,101,102],[100,97,116,97,45,42]]
def eG (i:Nat) (r:Rule):Rule:=
 if plain (nc r.name).1 then ⟨r.name,iR r.value,!(nc r.name).2 && r.req⟩
 else ⟨(uZ[i]?).getD [],iR r.value,!decide (i=2) && r.req⟩
def lm:Nat→List Rule→List Rule→List Rule
 | _,out,[]=>out
 | i,out,r::l=>lm (i + 1) (if bk (out.map Rule.name) (eG i r).name then out else out++[eG i r]) l
def gI (l:List Rule):List Rule:=lm 0 [] (l.take 3)
theorem oo (l:List Rule) (hR:∀ r∈l,r.value.regex.length≤1125899906842624):Fn Tryz.prog nj [.seq 5 (l.map Rule.v)] (.seq 5 ((gI l).map Rule.v)):=by
 refine Fn.of_image mixed nW nF rfl fun ho=>?_
 unfold en
 simp only [oks,ok,and_true] at ho
 have hlen:l.length≤140737488355328:=by have:=ho.1; simpa using this
 clear ho
 simp (disch:=omega) [-List.reduceReplicate,en]
 generalize hw:gI l=w
 have hl3:(List.take 3 l).length=min 3 l.length:=List.length_take
 refine ax (fun (q:Nat × List Rule)=>⟨[(0,.seq 5 (l.map Rule.v)),(3,.ref 0 q.2.length),(4,.ref 1 q.2.length),(5,.int .i64 q.1)],
  [some (.arr bO 5 (q.2.map Rule.v)),some (.arr aA 1 ((q.2.map Rule.name).map .str))]⟩)
  (fun q=>q.1≤(List.take 3 l).length∧q.2.length≤q.1∧lm q.1 q.2 ((List.take 3 l).drop q.1)=w) (fun q=>(List.take 3 l).length - q.1) [.r 3 bO 5,.r 4 aA 1] _ (0,[]) rfl (by simp) (by simp [←hw,gI]) ?_
 rintro ⟨k,out⟩ ⟨hk,hol,hi⟩ N hN
 simp only at hk hol hi
 rcases place (List.take 3 l) k hk with ⟨he,hd⟩ | ⟨hlt,x,hx,hd⟩<;>rw [hd,lm] at hi
 · subst hi
   clear hw
   simp (disch:=omega) [-List.reduceReplicate]
   repeat' (first | (refine BrKd.mk (fun h=>?_) (fun h=>?_)<;>simp (disch:=omega) [*]) | (refine BrK.mk (fun h=>?_) (fun h=>?_)<;>simp (disch:=omega) [*]))
   all_goals first | omega | simp [*]
 · have hx2:l[k]?=some x:=by rw [List.getElem?_take] at hx; simpa [show k < 3 by omega] using hx
   have hRx:=hR x (List.mem_of_getElem? hx2)
   replace hi:=hid hi
   simp (disch:=omega) [-List.reduceReplicate,hx2]
   refine j3 (q8 x.value hRx) (by simp) ?_
   simp (disch:=omega) [-List.reduceReplicate,hx2]
   refine ae (qY _) rfl fun _=>?_
   simp (disch:=omega) [-List.reduceReplicate,hx2]
   refine ae (eh _) rfl fun _=>?_
   have hk3:k < 3:=by omega
   obtain ⟨pn,hpn⟩:∃ pn,uZ[k]?=some pn:=cD (l:=uZ) (k:=k) (by simpa [uZ] using hk3)
   have hpn2:([.str [105,100],.str [104,114,101,102],.str [100,97,116,97,45,42]]:List V)[k]?=some (.str pn):=by
    have:(uZ.map V.str)[k]?=some (.str pn):=by rw [List.getElem?_map,hpn]; rfl
    exact this
   have fin:∀ g:Rule,eG k x=g→∀ τ:St,τ.nrm [0,3,4,5]=⟨[(0,.seq 5 (l.map Rule.v)),(3,.ref 0 (if bk (out.map Rule.name) g.name then out else out++[g]).length),(4,.ref 1 (if bk (out.map Rule.name) g.name then out else out++[g]).length),(5,.int .i64 ((k + 1:Nat):Int))],
    [some (.arr bO 5 ((if bk (out.map Rule.name) g.name then out else out++[g]).map Rule.v)),some (.arr aA 1 (((if bk (out.map Rule.name) g.name then out else out++[g]).map Rule.name).map .str))]⟩→N τ:=by
    intro g hg τ hτ
    have hi:=hi.out
    rw [hg] at hi
    refine hN.out _<|Nx.mk (k + 1,if bk (out.map Rule.name) g.name then out else out++[g]) hτ ⟨by simp only; omega,?_,hi⟩ (by simp only; omega)
    split<;>simp<;>omega
   simp (disch:=omega) [-List.reduceReplicate,hx2]
   refine BrK.mk (fun hb=>?_) (fun hb=>?_)
   · simp (disch:=omega) [-List.reduceReplicate,hx2]
     refine BrK.mk (fun hm=>?_) (fun hm=>?_)
     all_goals
      simp (disch:=omega) [-List.reduceReplicate,hm,hx2]
      refine ae (by simpa using d2 (out.map Rule.name) x.name) rfl fun _=>?_
      simp (disch:=omega) [-List.reduceReplicate,hx2]
      refine BrK.mk (fun hh=>?_) (fun hh=>?_)
      all_goals
       simp (disch:=omega) [-List.reduceReplicate,hh,hx2]
       refine fin _ (by simp only [eG,hb,if_true,hm,Bool.not_true,Bool.not_false,Bool.true_and,Bool.false_and]; rfl) _ ?_
       simp [hh]
   · simp (disch:=omega) [-List.reduceReplicate,hpn2,hx2]
     have hb':eG k x=⟨pn,iR x.value,!decide (k=2) && x.req⟩:=by simp [eG,hb,hpn]
     refine BrKd.mk (fun hm=>?_) (fun hm=>?_)
     all_goals
      simp (disch:=omega) [-List.reduceReplicate,hm,hx2]
      refine ae (by simpa using d2 (out.map Rule.name) pn) rfl fun _=>?_
      simp (disch:=omega) [-List.reduceReplicate,hx2]
      refine BrK.mk (fun hh=>?_) (fun hh=>?_)
      all_goals
       simp (disch:=omega) [-List.reduceReplicate,hh,hx2]
       refine fin _ hb' _ ?_
       simp [hh,hm]
def u2:List Str:=[[97],[98],[112],[98,114],[115,116,121,108,101]]
def iX (i:Nat) (s:Str):Str:=if plain s then s else (u2[i]?).getD []
def ko:Nat→List Allowed→List Allowed→List Allowed
 | _,out,[]=>out
 | i,out,e::l=>ko (i + 1) (if (bq out (iX i e.name)).isSome then out else out++[⟨iX i e.name,[],gI e.rules⟩]) l
theorem jS:∀ (l out:List Allowed) (i:Nat),(ko i out l).length≤out.length + l.length
 | [],out,i=>by simp [ko]
 | w::l,out,i=>by
   simp only [ko]
   split
   · have:=jS l out (i + 1); simp at this ⊢; omega
   · have:=jS l (out++[⟨iX i w.name,[],gI w.rules⟩]) (i + 1); simp at this ⊢; omega
def pP (els:List Allowed) (k:Nat) (own:List Str):List Allowed:=
 match els[k]? with
 | some e=>els.set k ⟨e.name,d1 ⟨[],els,[]⟩ e.name own,e.rules⟩
 | none=>els
def mj:Nat→List Allowed→List Allowed→List Allowed
 | _,els,[]=>els
 | k,els,e::l=>mj (k + 1) (pP els k e.kids) l
def lE:List Str→List Str→List Str
 | out,[]=>out
 | out,x::l=>lE (if plain x && !bk out x then out++[x] else out) l
def bA (p:Policy):Policy:=
 let a:=ko 0 [] (p.elements.take 5)
 let b:=mj 0 a (p.elements.take a.length)
 ⟨d1 ⟨[],b,[]⟩ [] p.top,b,lE [] (p.unwrap.take 4)⟩
theorem q7 (p:Policy) (hR:∀ e∈p.elements,∀ r∈e.rules,r.value.regex.length≤1125899906842624):Fn Tryz.prog p2 [p.v] (bA p).v:=by
 refine Fn.of_image mixed qJ qt rfl fun ho=>?_
 unfold jw
 simp only [oks,ok,and_true] at ho
 have hlt:p.top.length≤140737488355328:=by have:=ho; simp at this; exact this.1.1
 have hle:p.elements.length≤140737488355328:=by have:=ho; simp at this; exact this.2.1.1
 have hlu:p.unwrap.length≤140737488355328:=by have:=ho; simp at this; exact this.2.2.1
 clear ho
 simp (disch:=omega) [-List.reduceReplicate]
 generalize hg:bA p=g
 have hgd:g=bA p:=hg.symm
 simp only [bA] at hgd
 have hl5:(List.take 5 p.elements).length=min 5 p.elements.length:=List.length_take
 have hal:=jS (p.elements.take 5) [] 0
 generalize ha:ko 0 [] (p.elements.take 5)=els at hgd hal
 refine ax (fun (q:Nat × List Allowed)=>⟨[(1,.ptr 0 0),(2,.ptr 1 0),(3,.ptr 2 0),(4,.int .i64 q.1)],
  [some (.box [.seq 1 (p.top.map .str),.seq 3 (p.elements.map Allowed.v),.seq 1 (p.unwrap.map .str)]),some (.box [.nil 1,.nil 3,.nil 1]),some (.box [.nil 1,.ref 3 q.2.length,.nil 1]),some (.arr aR 3 (q.2.map Allowed.v))]⟩)
  (fun q=>q.1≤(List.take 5 p.elements).length∧q.2.length≤q.1∧ko q.1 q.2 ((List.take 5 p.elements).drop q.1)=els) (fun q=>(List.take 5 p.elements).length - q.1) [.b 2 1 aR 3] _ (0,[]) rfl (by simp) (by simp [←ha]) ?_
 rintro ⟨k,out⟩ ⟨hk,hol,hi⟩ N hN
 simp only at hk hol hi
 rcases place (List.take 5 p.elements) k hk with ⟨he,hd⟩ | ⟨hlt,x,hx,hd⟩<;>rw [hd,ko] at hi
 · subst hi
   have hol5:out.length≤p.elements.length∧out.length≤5:=by simp only [List.length_nil] at hal; omega
   have hkk:(k < p.elements.length∧k=5)∨k=p.elements.length:=by omega
   clear hd hN hol hk he hal ha
   generalize hb:mj 0 out (p.elements.take out.length)=bs at hgd
   rcases hkk with hkk | hkk
   all_goals
    simp (disch:=omega) [-List.reduceReplicate,hkk]
    refine ax (fun (q:Nat × List Allowed)=>⟨[(1,.ptr 0 0),(2,.ptr 1 0),(3,.ptr 2 0),(10,.int .i64 q.1)],
     [some (.box [.seq 1 (p.top.map .str),.seq 3 (p.elements.map Allowed.v),.seq 1 (p.unwrap.map .str)]),some (.box [.nil 1,.nil 3,.nil 1]),some (.box [.nil 1,.ref 3 q.2.length,.nil 1]),some (.arr aR 3 (q.2.map Allowed.v))]⟩)
     (fun q=>q.1≤(p.elements.take out.length).length∧q.2.length=out.length∧mj q.1 q.2 ((p.elements.take out.length).drop q.1)=bs) (fun q=>(p.elements.take out.length).length - q.1) [] _ (0,out) rfl (by simp) (by simp [←hb]) ?_
    have hlo:(p.elements.take out.length).length=out.length:=by rw [List.length_take]; omega
    rintro ⟨k,els⟩ ⟨hk,hol,hi⟩ N hN
    simp only at hk hol hi
    rcases place (p.elements.take out.length) k hk with ⟨he,hd⟩ | ⟨hlt,x,hx,hd⟩<;>rw [hd,mj] at hi
    · subst hi
      simp (disch:=omega) [-List.reduceReplicate,he]
      refine oB (by simpa using fJ ⟨[],els,[]⟩ [] p.top) fun hok=>?_
      simp (disch:=omega) [-List.reduceReplicate]
      generalize hu:lE [] (p.unwrap.take 4)=us at hgd
      have hl4:(List.take 4 p.unwrap).length=min 4 p.unwrap.length:=List.length_take
      clear hN
      refine ax (fun (q:Nat × List Str)=>⟨[(1,.ptr 0 0),(2,.ptr 1 0),(3,.ptr 2 0),(12,.int .i64 q.1)],
       [some (.box [.seq 1 (p.top.map .str),.seq 3 (p.elements.map Allowed.v),.seq 1 (p.unwrap.map .str)]),some (.box [.nil 1,.nil 3,.nil 1]),some (.box [.seq 1 ((d1 ⟨[],els,[]⟩ [] p.top).map .str),.ref 3 els.length,.ref 4 q.2.length]),some (.arr aR 3 (els.map Allowed.v)),some (.arr aA 1 (q.2.map .str))]⟩)
       (fun q=>q.1≤(List.take 4 p.unwrap).length∧q.2.length≤q.1∧lE q.2 ((List.take 4 p.unwrap).drop q.1)=us) (fun q=>(List.take 4 p.unwrap).length - q.1) [.b 2 2 aA 1] _ (0,[]) rfl (by simp) (by simp [←hu]) ?_
      rintro ⟨j,uw⟩ ⟨hj,hul,hi⟩ N hN
      simp only at hj hul hi
      rcases place (List.take 4 p.unwrap) j hj with ⟨he2,hd2⟩ | ⟨hlt2,y,hy,hd2⟩<;>rw [hd2,lE] at hi
      · subst hi
        have hjj:(j < p.unwrap.length∧j=4)∨j=p.unwrap.length:=by omega
        rcases hjj with hjj | hjj
        all_goals
         simp (disch:=omega) [-List.reduceReplicate,hjj]
         simp [hgd]
      · have hy2:p.unwrap[j]?=some y:=by rw [List.getElem?_take] at hy; simpa [show j < 4 by omega] using hy
        replace hi:=hid hi
        simp (disch:=omega) [-List.reduceReplicate,hy2]
        refine ae (eh _) rfl fun _=>?_
        simp (disch:=omega) [-List.reduceReplicate,hy2]
        refine aG (by simpa using d2 uw y) rfl ?_
        simp (disch:=omega) [-List.reduceReplicate,hy2]
        have yes:plain y=true→bk uw y=false→lE (uw++[y]) ((List.take 4 p.unwrap).drop (j + 1))=us:=fun h h'=>by have hi:=hi.out; simpa [h,h'] using hi
        have no:(plain y && !bk uw y)=false→lE uw ((List.take 4 p.unwrap).drop (j + 1))=us:=fun h=>by have hi:=hi.out; rw [if_neg (by simp [h])] at hi; exact hi
        replace yes:=hid yes
        replace no:=hid no
        refine BrK.mk (fun h1=>?_) (fun h1=>?_)
        · simp (disch:=omega) [-List.reduceReplicate,h1]
          refine BrK.mk (fun h2=>?_) (fun h2=>?_)
          · simp (disch:=omega) [-List.reduceReplicate,h1,h2]
            refine hN.out _<|Nx.mk (j + 1,uw) (by simp) ⟨by simp only; omega,by simp only; omega,no.out (by simp [h2])⟩ (by simp only; omega)
          · simp (disch:=omega) [-List.reduceReplicate,h1,h2,hy2]
            refine hN.out _<|Nx.mk (j + 1,uw++[y]) (by simp) ⟨by simp only; omega,by simp; omega,yes.out h1 h2⟩ (by simp only; omega)
        · simp (disch:=omega) [-List.reduceReplicate,h1]
          refine hN.out _<|Nx.mk (j + 1,uw) (by simp) ⟨by simp only; omega,by simp only; omega,no.out (by simp [h1])⟩ (by simp only; omega)
    · have hx2:p.elements[k]?=some x:=by rw [List.getElem?_take] at hx; simpa [show k < out.length by omega] using hx
      obtain ⟨e,hex⟩:=cD (l:=els) (k:=k) (by omega)
      replace hi:=hid hi
      simp (disch:=omega) [-List.reduceReplicate,hx2,hex]
      refine tz (by simpa using fJ ⟨[],els,[]⟩ e.name x.kids) ?_
      simp (disch:=omega) [-List.reduceReplicate,hx2,hex]
      have hi:=hi.out
      have hsk:pP els k x.kids=els.set k ⟨e.name,d1 ⟨[],els,[]⟩ e.name x.kids,e.rules⟩:=by simp [pP,hex]
      rw [hsk] at hi
      refine hN.out _<|Nx.mk (k + 1,els.set k ⟨e.name,d1 ⟨[],els,[]⟩ e.name x.kids,e.rules⟩) (by simp [List.map_set]) ⟨by simp only; omega,by simp; omega,hi⟩ (by simp only; omega)
 · have hx2:p.elements[k]?=some x:=by rw [List.getElem?_take] at hx; simpa [show k < 5 by omega] using hx
   have hRx:=hR x (List.mem_of_getElem? hx2)
   obtain ⟨pn,hpn⟩:∃ pn,u2[k]?=some pn:=cD (l:=u2) (k:=k) (by simp only [u2,List.length_cons,List.length_nil]; omega)
   have hpn2:([.str [97],.str [98],.str [112],.str [98,114],.str [115,116,121,108,101]]:List V)[k]?=some (.str pn):=by
    have:(u2.map V.str)[k]?=some (.str pn):=by rw [List.getElem?_map,hpn]; rfl
    exact this
   replace hi:=hid hi
   simp (disch:=omega) [-List.reduceReplicate,hx2]
   refine ae (eh _) rfl fun _=>?_
   simp (disch:=omega) [-List.reduceReplicate,hx2]
   refine BrK.mk (fun hb=>?_) (fun hb=>?_)
   all_goals
    first
     | (have hnm:iX k x.name=x.name:=by rw [iX,if_pos hb])
     | (have hnm:iX k x.name=pn:=by rw [iX,if_neg (by simp [hb]),hpn]; rfl)
    have hi:=hi.out
    rw [hnm] at hi
    replace hi:=hid hi
    simp (disch:=omega) [-List.reduceReplicate,hx2,hpn2]
    refine xF (by simpa using jp ⟨[],out,[]⟩ _) (by simp) fun _=>?_
    simp (disch:=omega) [-List.reduceReplicate,hx2]
    refine BrK.mk (fun hf=>?_) (fun hf=>?_)
    · simp (disch:=omega) [-List.reduceReplicate,hx2]
      have hi:=hi.out
      rw [if_pos hf] at hi
      refine hN.out _<|Nx.mk (k + 1,out) (by simp) ⟨by simp only; omega,by simp only; omega,hi⟩ (by simp only; omega)
    · simp (disch:=omega) [-List.reduceReplicate,hx2]
      have hi:=hi.out
      rw [if_neg (by simp [hf])] at hi
      refine j3 (oo x.rules hRx) (by simp) ?_
      simp (disch:=omega) [-List.reduceReplicate,hx2]
      refine hN.out _<|Nx.mk (k + 1,out++[⟨_,[],gI x.rules⟩]) (by simp) ⟨by simp only; omega,by simp; omega,hi⟩ (by simp only; omega)
def fdx {α:Type} (f:α→Bool):Nat→List α→Int
 | _,[]=>-1
 | k,x::l=>if f x then k else fdx f (k + 1) l
theorem vh {α:Type} (f:α→Bool):∀ (l:List α) (k:Nat),decide (0≤fdx f k l)=l.any f
 | [],k=>by simp [fdx]
 | x::l,k=>by
   simp only [fdx,List.any_cons]
   split
   · rename_i h; simp [h]
   · rename_i h; simp only [Bool.not_eq_true] at h; rw [vh f l (k + 1),h]; rfl
theorem th (s:Str):∀ l:List Str,l.any (fun x=>decide (s=x))=bk l s
 | []=>rfl
 | x::l=>by
   simp only [List.any_cons,bk,th s l]
   by_cases h:x=s
   · simp [h]
   · have:¬s=x:=fun e=>h e.symm
     simp [h,this]
theorem fP (l:List Str) (s:Str):Fn Tryz.prog cX [.seq 1 (l.map .str),.str s] (.int .i64 (fdx (fun x=>decide (s=x)) 0 l)):=by
 refine Fn.of_image mixed c9 c8 rfl fun ho=>?_
 unfold br
 simp only [oks,ok,and_true] at ho
 have hlen:l.length≤140737488355328:=by have:=ho.1.1; simpa using this
 clear ho
 simp (disch:=omega) [-List.reduceReplicate]
 generalize hr:fdx (fun x=>decide (s=x)) 0 l=r
 refine ax (fun k:Nat=>⟨[(0,.seq 1 (l.map .str)),(1,.str s),(7,.int .i64 l.length),(8,.int .i64 k)],[]⟩) (fun k=>k≤l.length∧fdx (fun x=>decide (s=x)) k (l.drop k)=r) (fun k=>l.length - k) [] _ 0 rfl (by simp [*]) (by simp [*]) ?_
 rintro k ⟨hk,hi⟩ N hN
 rcases place l k hk with ⟨he,hd⟩ | ⟨hlt,x,hx,hd⟩<;>rw [hd] at hi<;>replace hi:=hid hi
 · simp (disch:=omega) [-List.reduceReplicate,he]
   simpa [fdx] using hi.out
 · simp (disch:=omega) [-List.reduceReplicate,hx]
   refine BrKd.mk (fun h=>?_) (fun h=>?_)
   · simp (disch:=omega) [-List.reduceReplicate]
     have hi:=hi.out
     simpa [fdx,h] using hi
   · simp (disch:=omega) [-List.reduceReplicate]
     refine hN.out _<|Nx.mk (k + 1) (by simp [*]) ⟨by omega,?_⟩ (by omega)
     have hi:=hi.out
     simpa [fdx,h] using hi
theorem aQ (l:List Str) (s:Str):Fn Tryz.prog cx [.seq 1 (l.map .str),.str s] (.bool (bk l s)):=by
 refine Fn.of_image mixed cB cA rfl fun ho=>?_
 unfold bc
 simp only [oks,ok,and_true] at ho
 simp (disch:=omega) [-List.reduceReplicate]
 refine ae (fP _ _) rfl fun _=>?_
 simp (disch:=omega) [-List.reduceReplicate]
 rw [vh,th]
def jZ (s p:Str):Bool:=decide (p.length≤s.length) && decide (s.take p.length=p)
structure Node where
 kind:Int
 name:Str
 attrs:List Attr
 text:Str
 kids:List Node
mutual
def Node.v:Node→V
 | ⟨k,n,a,t,ks⟩=>.strct [.int .i64 k,.str n,.seq 2 (a.map Attr.v),.str t,.seq 5 (Node.vs ks)]
def Node.vs:List Node→List V
 | []=>[]
 | n::l=>n.v::Node.vs l
end
theorem Node.vs_map:∀ l:List Node,Node.vs l=l.map Node.v
 | []=>by simp [Node.vs]
 | n::l=>by simp [Node.vs,Node.vs_map l]
theorem Node.v_eq (n:Node):n.v=.strct [.int .i64 n.kind,.str n.name,.seq 2 (n.attrs.map Attr.v),.str n.text,.seq 5 (n.kids.map Node.v)]:=by
 cases n; simp [Node.v,Node.vs_map]
attribute [simp] Node.v_eq
section
variable {p:List Node→Prop} (h0:p []) (h1:∀ n l,p n.kids→p l→p (n::l))
include h0 h1
mutual
theorem a8:∀ l,p l
 | []=>h0
 | n::l=>h1 n l (tV n) (a8 l)
theorem tV:∀ n:Node,p n.kids
 | ⟨_,_,_,_,ks⟩=>a8 ks
end
end
def fits (pat nm:Str):Bool:=plain (nc pat).1 && (if (nc pat).2 then jZ nm (nc pat).1 else decide (nm=(nc pat).1))
def BK:List Rule→Str→Option Rule
 | [],_=>none
 | r::l,s=>if fits r.name s then some r else BK l s
def CZ (A:Constraint→Str→Bool) (e:Allowed) (a:Attr):Bool:=match BK e.rules a.name with
 | some r=>A r.value a.value
 | none=>false
def keptA (A:Constraint→Str→Bool) (e:Allowed) (l:List Attr):List Attr:=l.filter (CZ A e)
def d8:List Attr→Str→Option Str
 | [],_=>none
 | a::l,s=>if a.name=s then some a.value else d8 l s
theorem ot (n:Node) (s:Str):Fn Tryz.prog nq [n.v,.str s] (.tup [.str ((d8 n.attrs s).getD []),.bool (d8 n.attrs s).isSome]):=by
 refine Fn.of_image mixed n6 nK rfl fun ho=>?_
 unfold ig
 simp only [oks,ok,and_true] at ho
 have hlen:n.attrs.length≤140737488355328:=by have:=ho.1; simp at this; exact this.2.2.1.1
 clear ho
 simp (disch:=omega) [-List.reduceReplicate]
 generalize hr:d8 n.attrs s=r
 refine ax (fun k:Nat=>⟨[(1,.str s),(2,.ptr 0 0),(6,.int .i64 k)],[some (.box [.int .i64 n.kind,.str n.name,.seq 2 (n.attrs.map Attr.v),.str n.text,.seq 5 (n.kids.map Node.v)])]⟩) (fun k=>k≤n.attrs.length∧d8 (n.attrs.drop k) s=r) (fun k=>n.attrs.length - k) [] _ 0 rfl (by simp [*]) (by simp [*]) ?_
 rintro k ⟨hk,hi⟩ N hN
 rcases place n.attrs k hk with ⟨he,hd⟩ | ⟨hlt,x,hx,hd⟩<;>rw [hd] at hi<;>replace hi:=hid hi
 · simp (disch:=omega) [-List.reduceReplicate,he]
   simp [←hi.out,d8]
 · simp (disch:=omega) [-List.reduceReplicate,hx]
   refine BrKd.mk (fun h=>?_) (fun h=>?_)
   · simp (disch:=omega) [-List.reduceReplicate,hx]
     have hi:=hi.out
     simp [d8,h] at hi
     subst hi
     simp
   · simp (disch:=omega) [-List.reduceReplicate]
     refine hN.out _<|Nx.mk (k + 1) (by simp [*]) ⟨by omega,?_⟩ (by omega)
     have hi:=hi.out
     simpa [d8,h] using hi
def whole (e:Allowed) (l:List Attr):Bool:=e.rules.all fun r=>!(r.req && !(d8 l r.name).isSome)
def BJ (A:Constraint→Str→Bool) (e:Allowed) (l:List Attr):Bool:=decide ((keptA A e l).length=l.length) && whole e l
mutual
def zk (f:Node→Prop):Node→Prop
 | ⟨k,n,a,t,ks⟩=>f ⟨k,n,a,t,ks⟩∧az f ks
def az (f:Node→Prop):List Node→Prop
 | []=>True
 | n::l=>zk f n∧az f l
end
mutual
def wK:Node→Nat
 | ⟨k,n,a,t,ks⟩=>1 + ak ks
def ak:List Node→Nat
 | []=>0
 | n::l=>wK n + ak l
end
theorem gT (f:Node→Prop) (n:Node):zk f n=(f n∧az f n.kids):=by cases n; simp [zk]
theorem cE (n:Node):wK n=1 + ak n.kids:=by cases n; simp [wK]
theorem lB:∀ {l:List Node} {n:Node},n∈l→ak n.kids + 1≤ak l
 | [],n,h=>by cases h
 | x::l,n,h=>by
   simp only [ak,cE]
   rcases List.mem_cons.1 h with rfl | h
   · omega
   · have:=lB h; omega
theorem eO {f:Node→Prop}:∀ {l:List Node} {n:Node},az f l→n∈l→f n∧az f n.kids
 | [],n,_,h=>by cases h
 | x::l,n,ha,h=>by
   simp only [az,gT] at ha
   rcases List.mem_cons.1 h with rfl | h
   · exact ha.1
   · exact eO ha.2 h
def bV (b:UInt8):V:=.int .u8 b.toNat
theorem uG (s:Str):dk s=s.map bV:=pF s
theorem zg (b:UInt8):bV b=.int .u8 b.toNat:=rfl
attribute [simp] uG zg
def follows (b:UInt8):Bool:=decide (128≤b.toNat) && decide (b.toNat < 192)
theorem k9 (b:UInt8):Fn Tryz.prog kM [.int .u8 b.toNat] (.bool (follows b)):=by
 refine Fn.of_image mixed kY kS rfl fun ho=>?_
 unfold fM
 simp only [oks,ok,and_true] at ho
 simp (disch:=omega) [-List.reduceReplicate,follows]
 repeat' (first | (refine BrKd.mk (fun h=>?_) (fun h=>?_)<;>simp (disch:=omega) [*]) | (refine BrK.mk (fun h=>?_) (fun h=>?_)<;>simp (disch:=omega) [*]))
def hdr (c:Nat):Nat × Nat × Nat:=
 if 192≤c∧c < 224 then (2,c - 192,128) else if 224≤c∧c < 240 then (3,c - 224,2048) else if 240≤c∧c < 248 then (4,c - 240,65536) else (0,0,0)
def goV:Str→Nat→Option Nat
 | [],v=>some v
 | b::l,v=>if follows b then goV l (64 * v + b.toNat - 128) else none
def lX (n least:Nat):Option Nat→Nat × Nat
 | none=>(65533,1)
 | some v=>if v < least∨1114111 < v∨(55296≤v∧v≤57343) then (65533,1) else (v,n)
def one:Str→Nat × Nat
 | []=>(65533,1)
 | b::t=>if b.toNat < 128 then (b.toNat,1)
   else if (hdr b.toNat).1=0∨t.length + 1 < (hdr b.toNat).1 then (65533,1)
   else lX (hdr b.toNat).1 (hdr b.toNat).2.2 (goV (t.take ((hdr b.toNat).1 - 1)) (hdr b.toNat).2.1)
theorem pp (c:Nat):(hdr c).1=0∨(2≤(hdr c).1∧(hdr c).1≤4∧(hdr c).2.1 < 64∧(hdr c).2.2≤65536):=by
 unfold hdr
 split
 · simp; omega
 · split
   · simp; omega
   · split
     · simp; omega
     · simp
theorem cL (s:Str):1≤(one s).2∧(one s).2≤4∧(s≠[]→(one s).2≤s.length)∧(one s).1≤1114111∧¬(55296≤(one s).1∧(one s).1≤57343):=by
 cases s with
 | nil=>simp [one]
 | cons b t=>
   have hb:=b.toNat_lt
   have hr:=pp b.toNat
   simp only [one]
   split
   · simp; omega
   · split
     · simp
     · rename_i h
       unfold lX
       split
       · simp
       · split
         · simp
         · rename_i h2
           simp only [List.length_cons]
           omega
theorem uv {b:UInt8} (h:follows b=true):128≤b.toNat∧b.toNat < 192:=by simpa [follows] using h
theorem s4 (b:UInt8) (t:Str):Fn Tryz.prog sc [.seq 1 ((b::t).map bV)] (.tup [.int .i32 (one (b::t)).1,.int .i64 (one (b::t)).2]):=by
 refine Fn.of_image mixed sJ sw rfl fun ho=>?_
 unfold ky
 simp only [oks,ok,and_true] at ho
 have hlen:t.length < 140737488355328:=by have:=ho.1; simp at this; omega
 clear ho
 have hb:=b.toNat_lt
 generalize hR:one (b::t)=R
 have hR2:=hR
 simp only [one] at hR2
 simp (disch:=omega) [-List.reduceReplicate]
 have hr:=pp b.toNat
 refine BrKd.mk (fun h=>?_) (fun h=>?_)
 · rw [if_pos h] at hR2
   simp (disch:=omega) [-List.reduceReplicate,←hR2]
 · rw [if_neg h] at hR2
   have hz:(hdr b.toNat).1=0→R=(65533,1):=fun h=>by rw [if_pos (.inl h)] at hR2; exact hR2.symm
   have hs:t.length + 1 < (hdr b.toNat).1→R=(65533,1):=fun h=>by rw [if_pos (.inr h)] at hR2; exact hR2.symm
   have hok:¬(hdr b.toNat).1=0→¬t.length + 1 < (hdr b.toNat).1→lX (hdr b.toNat).1 (hdr b.toNat).2.2 (goV (t.take ((hdr b.toNat).1 - 1)) (hdr b.toNat).2.1)=R:=fun h h'=>by rw [if_neg (by simp [h,h'])] at hR2; exact hR2
   clear hR2
   replace hz:=hid hz
   replace hs:=hid hs
   replace hok:=hid hok
   simp (disch:=omega) [-List.reduceReplicate]
   repeat' (first
    | (refine BrKd.mk (fun h=>?_) (fun h=>?_)<;>simp (disch:=omega) [*])
    | (refine BrK.mk (fun h=>?_) (fun h=>?_)<;>simp (disch:=omega) [*]))
   all_goals
    first
    | (have hq:hdr b.toNat=(2,b.toNat - 192,128):=by unfold hdr; rw [if_pos (by omega)])
    | (have hq:hdr b.toNat=(3,b.toNat - 224,2048):=by unfold hdr; rw [if_neg (by omega),if_pos (by omega)])
    | (have hq:hdr b.toNat=(4,b.toNat - 240,65536):=by unfold hdr; rw [if_neg (by omega),if_neg (by omega),if_pos (by omega)])
    | (have hq:hdr b.toNat=(0,0,0):=by unfold hdr; rw [if_neg (by omega),if_neg (by omega),if_neg (by omega)])
    by_cases h0:(hdr b.toNat).1=0
    · first
      | (have h0:=hz.out h0; simp [h0]; done)
      | (exfalso; rw [hq] at h0; simp at h0; done)
    by_cases h1:t.length + 1 < (hdr b.toNat).1
    · first
      | (have h0:=hs.out h1; simp [h0]; done)
      | (exfalso; rw [hq] at h1; simp at h1; omega)
    first
    | (exfalso; rw [hq] at h0; exact h0 rfl)
    | (exfalso; rw [hq] at h1; simp only at h1; omega)
    | skip
   all_goals
    obtain ⟨n,hn⟩:∃ n:Nat,n=(hdr b.toNat).1:=⟨_,rfl⟩
    obtain ⟨v0,hv⟩:∃ n:Nat,n=(hdr b.toNat).2.1:=⟨_,rfl⟩
    obtain ⟨le,hl⟩:∃ n:Nat,n=(hdr b.toNat).2.2:=⟨_,rfl⟩
    rw [←hn,←hv,←hl] at hok hr
    rw [hq] at hn hv hl
    simp only at hn hv hl
    have hok:=hok.out (by omega) (by omega)
    have htl:(t.take (n - 1)).length=n - 1:=by rw [List.length_take]; omega
    refine ax (fun (q:Nat × Nat)=>⟨[(0,.seq 1 ((b::t).map bV)),(5,.int .i64 n),(6,.int .i64 q.2),(7,.int .i64 le),(8,.int .i64 ((q.1:Int) + 1))],[]⟩)
     (fun q=>q.1≤(t.take (n - 1)).length∧lX n le (goV ((t.take (n - 1)).drop q.1) q.2)=R∧((q.1=0∧q.2 < 64)∨(q.1=1∧q.2 < 4096)∨(q.1=2∧q.2 < 262144)∨(q.1=3∧q.2 < 16777216))) (fun q=>(t.take (n - 1)).length - q.1) [] _ (0,v0) rfl (by simp [hn,hv,hl]; omega) (by simp [hok]; omega) ?_
    have hn24:2≤n∧n≤4∧le≤65536:=by omega
    clear hq hn hv hl
    rintro ⟨j,v⟩ ⟨hj,hi,hvb⟩ N hN
    simp only at hj hi hvb
    rcases place (t.take (n - 1)) j hj with ⟨he,hd⟩ | ⟨hlt,x,hx,hd⟩<;>rw [hd,goV] at hi
    · simp only [lX] at hi
      have bad:(v < le∨1114111 < v∨(55296≤v∧v≤57343))→R=(65533,1):=fun h=>by rw [if_pos h] at hi; exact hi.symm
      have good:¬(v < le∨1114111 < v∨(55296≤v∧v≤57343))→R=(v,n):=fun h=>by rw [if_neg h] at hi; exact hi.symm
      clear hi
      replace bad:=hid bad
      replace good:=hid good
      have hjn:j + 1=n:=by omega
      have hjn2:¬((j:Int) + 1 < n):=by omega
      simp (disch:=omega) [-List.reduceReplicate,hjn2]
      repeat' (first
       | (refine BrKd.mk (fun h=>?_) (fun h=>?_)<;>simp (disch:=omega) [*])
       | (refine BrK.mk (fun h=>?_) (fun h=>?_)<;>simp (disch:=omega) [*]))
      all_goals first
       | (rw [bad.out (by omega)]; simp; done)
       | (rw [good.out (by omega)]; simp; done)
    · have hx2:t[j]?=some x:=by rw [List.getElem?_take] at hx; simpa [show j < n - 1 by omega] using hx
      have hxb:=x.toNat_lt
      have hjn2:(j:Int) + 1 < n:=by omega
      replace hi:=hid hi
      simp (disch:=omega) [-List.reduceReplicate,hx2,hjn2]
      refine ae (k9 x) rfl fun _=>?_
      simp (disch:=omega) [-List.reduceReplicate]
      refine BrK.mk (fun h=>?_) (fun h=>?_)
      · have hf:=uv h
        simp (disch:=omega) [-List.reduceReplicate,hx2]
        have hi:=hi.out
        rw [if_pos h] at hi
        refine hN.out _<|Nx.mk (j + 1,64 * v + x.toNat - 128) (by simp; omega) ⟨by simp only; omega,hi,by simp only; omega⟩ (by simp only; omega)
      · simp (disch:=omega) [-List.reduceReplicate]
        have hi:=hi.out
        rw [if_neg (by simp [h])] at hi
        simp [←hi,lX]
def cK:Nat→Str→List Nat
 | 0,_=>[]
 | _,[]=>[]
 | f + 1,b::t=>(one (b::t)).1::cK f ((b::t).drop (one (b::t)).2)
def bC (s:Str):List Nat:=cK s.length s
theorem tJ:∀ (f:Nat) (s:Str),s.length≤f→cK f s=bC s:=by
 have key:∀ (n f g:Nat) (s:Str),s.length≤n→s.length≤f→s.length≤g→cK f s=cK g s:=by
  intro n
  induction n with
  | zero=>intro f g s h1 _ _; have:s=[]:=List.eq_nil_of_length_eq_zero (by omega); subst this; cases f<;>cases g<;>rfl
  | succ n ih=>
    intro f g s h1 h2 h3
    cases s with
    | nil=>cases f<;>cases g<;>rfl
    | cons b t=>
      cases f with
      | zero=>simp at h2
      | succ f=>cases g with
        | zero=>simp at h3
        | succ g=>
          simp only [cK]
          have:=cL (b::t)
          simp only [List.length_cons] at h1 h2 h3
          rw [ih f g _ (by simp; omega) (by simp; omega) (by simp; omega)]
 intro f s h
 exact key s.length f s.length s (Nat.le_refl _) h (Nat.le_refl _)
theorem cJ (b:UInt8) (t:Str):bC (b::t)=(one (b::t)).1::bC ((b::t).drop (one (b::t)).2):=by
 have:=cL (b::t)
 rw [←tJ t.length ((b::t).drop (one (b::t)).2) (by simp; omega)]
 rfl
theorem oI:∀ (n:Nat) (s:Str),s.length≤n→(bC s).length≤s.length:=by
 intro n
 induction n with
 | zero=>intro s h; have:s=[]:=List.eq_nil_of_length_eq_zero (by omega); subst this; simp [bC,cK]
 | succ n ih=>
   intro s h
   cases s with
   | nil=>simp [bC,cK]
   | cons b t=>
     have h1:=cL (b::t)
     rw [cJ]
     simp only [List.length_cons] at h ⊢
     have:=ih ((b::t).drop (one (b::t)).2) (by simp; omega)
     simp at this; omega
theorem vL:∀ (n:Nat) (s:Str),s.length≤n→∀ r∈bC s,r≤1114111∧¬(55296≤r∧r≤57343):=by
 intro n
 induction n with
 | zero=>intro s h r hr; have:s=[]:=List.eq_nil_of_length_eq_zero (by omega); subst this; simp [bC,cK] at hr
 | succ n ih=>
   intro s h r hr
   cases s with
   | nil=>simp [bC,cK] at hr
   | cons b t=>
     have h1:=cL (b::t)
     rw [cJ] at hr
     simp only [List.length_cons] at h
     rcases List.mem_cons.1 hr with rfl | hr
     · exact h1.2.2.2
     · exact ih _ (by simp; omega) r hr
def rV (r:Nat):V:=.int .i32 r
theorem rV_eq (r:Nat):rV r=.int .i32 r:=rfl
attribute [simp] rV_eq
theorem ow (s:Str) (hs:s.length≤1000000):FnN Tryz.prog nv [.seq 1 (s.map bV)] (.seq 1 ((bC s).map rV)):=by
 refine FnN.of_image mixed oa nO rfl fun ho=>?_
 unfold ik
 clear ho
 simp (disch:=omega) [-List.reduceReplicate]
 generalize hw:bC s=w
 refine ax (fun (q:Nat × List Nat)=>⟨[(0,.seq 1 (s.map bV)),(3,.ref 0 q.2.length),(4,.int .i64 q.1)],[some (.arr eC 1 (q.2.map rV))]⟩)
  (fun q=>q.1≤s.length∧q.2.length≤q.1∧q.2++bC (s.drop q.1)=w) (fun q=>s.length - q.1) [.r 3 eC 1] _ (0,[]) rfl (by simp) (by simp [←hw]) ?_
 rintro ⟨k,out⟩ ⟨hk,hol,hi⟩ N hN
 simp only at hk hol hi
 have hfl:∀ l:List Nat,cr (l.map rV)=true:=fun l=>by induction l<;>simp [cr,cG, *]
 rcases place s k hk with ⟨he,hd⟩ | ⟨hlt,x,hx,hd⟩<;>rw [hd] at hi
 · simp [bC,cK] at hi
   subst hi
   simp (disch:=omega) [-List.reduceReplicate,he,hfl]
 · have h1:=cL (x::s.drop (k + 1))
   rw [cJ] at hi
   have hd2:(x::s.drop (k + 1)).drop (one (x::s.drop (k + 1))).2=s.drop (k + (one (x::s.drop (k + 1))).2):=by rw [←hd,List.drop_drop]
   rw [hd2] at hi
   have hle:=h1.2.2.1 (by simp)
   simp only [List.length_cons,List.length_drop] at hle
   replace hi:=hid hi
   have hsl:jH (s.map bV) k s.length=some ((x::s.drop (k + 1)).map bV):=by
    simp only [jH]
    rw [if_pos (by simp; omega),←hd]
    simp
    rw [List.take_of_length_le (by simp)]
   simp (disch:=omega) [hsl,-List.map_cons,-jH]
   refine ae (s4 x (s.drop (k + 1))) rfl fun _=>?_
   generalize one (x::s.drop (k + 1))=o at *
   simp (disch:=omega) [-List.reduceReplicate]
   refine hN.out _<|Nx.mk (k + o.2,out++[o.1]) (by simp) ⟨by simp only; omega,by simp; omega,by simpa using hi.out⟩ (by simp only; omega)
def b8 (n:Nat):UInt8:=UInt8.ofNat n
theorem m6 {n:Nat} (h:n < 256):(b8 n).toNat=n:=by simp [b8,UInt8.toNat_ofNat,Nat.mod_eq_of_lt h]
def cF (r:Nat):Str:=
 let v:=if 1114111 < r∨(55296≤r∧r≤57343) then 65533 else r
 if v < 128 then [b8 v]
 else if v < 2048 then [b8 (192 + v / 64),b8 (128 + v % 64)]
 else if v < 65536 then [b8 (224 + v / 4096),b8 (128 + v / 64 % 64),b8 (128 + v % 64)]
 else [b8 (240 + v / 262144),b8 (128 + v / 4096 % 64),b8 (128 + v / 64 % 64),b8 (128 + v % 64)]
theorem m4 (r:Nat):(cF r).length≤4:=by
 unfold cF
 simp only
 repeat' split
 all_goals simp
theorem ov (r:Nat) (h:r≤1114111):Fn Tryz.prog nu [.int .i32 r] (.seq 1 ((cF r).map bV)):=by
 refine Fn.of_image mixed n9 nN rfl fun ho=>?_
 unfold ij
 simp only [oks,ok,and_true] at ho
 clear ho
 generalize hR:cF r=R
 unfold cF at hR
 simp only at hR
 by_cases hb:1114111 < r∨(55296≤r∧r≤57343)
 · rw [if_pos hb] at hR
   simp (disch:=omega) [-List.reduceReplicate]
   repeat' (first
    | (refine BrKd.mk (fun h=>?_) (fun h=>?_)<;>simp (disch:=omega) [*])
    | (refine BrK.mk (fun h=>?_) (fun h=>?_)<;>simp (disch:=omega) [*]))
   all_goals first | omega | (subst hR; rfl)
 · rw [if_neg hb] at hR
   simp (disch:=omega) [-List.reduceReplicate]
   repeat' (first
    | (refine BrKd.mk (fun h=>?_) (fun h=>?_)<;>simp (disch:=omega) [*])
    | (refine BrK.mk (fun h=>?_) (fun h=>?_)<;>simp (disch:=omega) [*]))
   all_goals (subst hR; simp (disch:=omega) [m6])
def dR (l:List Nat):Str:=(l.map cF).flatten
theorem oF:∀ l:List Nat,(dR l).length≤4 * l.length
 | []=>by simp [dR]
 | r::l=>by
   have h1:=m4 r
   have h2:=oF l
   simp only [dR,List.map_cons,List.flatten_cons,List.length_append,List.length_cons] at *
   omega
theorem jc:∀ s:Str,ce (s.map bV)=some s
 | []=>rfl
 | b::s=>by
   have:=jc s
   simp only [List.map_cons,zg,ce,this,Option.map_some,Option.some.injEq,List.cons.injEq,and_true]
   simp
attribute [simp] jc
theorem re (l:List Nat) (hl:l.length≤1000000) (hr:∀ r∈l,r≤1114111):Fn Tryz.prog p8 [.seq 1 (l.map rV)] (.str (dR l)):=by
 refine Fn.of_image mixed qQ qA rfl fun ho=>?_
 unfold jA
 simp only [oks,ok,and_true] at ho
 clear ho
 simp (disch:=omega) [-List.reduceReplicate]
 generalize hw:dR l=w
 refine ax (fun (q:Nat × Str)=>⟨[(0,.seq 1 (l.map rV)),(3,.ref 0 q.2.length),(4,.int .i64 q.1)],[some (.arr lG 1 (q.2.map bV))]⟩)
  (fun q=>q.1≤l.length∧q.2.length≤4 * q.1∧q.2++dR (l.drop q.1)=w) (fun q=>l.length - q.1) [.r 3 lG 1] _ (0,[]) rfl (by simp) (by simp [←hw]) ?_
 rintro ⟨k,out⟩ ⟨hk,hol,hi⟩ N hN
 simp only at hk hol hi
 rcases place l k hk with ⟨he,hd⟩ | ⟨hlt,x,hx,hd⟩<;>rw [hd] at hi
 · simp [dR] at hi
   subst hi
   simp (disch:=omega) [he,-zg]
 · simp only [dR,List.map_cons,List.flatten_cons] at hi
   have hxl:=m4 x
   replace hi:=hid hi
   simp (disch:=omega) [-List.reduceReplicate,hx]
   refine aS (ov x (hr x (List.mem_of_getElem? hx))) (by simp) fun _=>?_
   simp (disch:=omega) [-List.reduceReplicate]
   refine hN.out _<|Nx.mk (k + 1,out++cF x) (by simp) ⟨by simp only; omega,by simp; omega,by simpa [dR] using hi.out⟩ (by simp only; omega)
def ee:Option Nat→List Nat→List Nat
 | _,[]=>[]
 | p,r::l=>(if r=10∧p=some 13 then [] else [if r=13 then 10 else if r=0 then 65533 else r])++ee (some r) l
theorem sU:∀ (l:List Nat) (p:Option Nat),(ee p l).length≤l.length
 | [],p=>by simp [ee]
 | r::l,p=>by
   have:=sU l (some r)
   simp only [ee,List.length_append,List.length_cons]
   split<;>simp<;>omega
theorem sT:∀ (l:List Nat) (p:Option Nat),(∀ r∈l,r≤1114111)→∀ r∈ee p l,r≤1114111
 | [],p,_,r,hr=>by simp [ee] at hr
 | x::l,p,h,r,hr=>by
   simp only [ee,List.mem_append] at hr
   rcases hr with hr | hr
   · have:=h x (by simp)
     split at hr
     · cases hr
     · simp at hr; subst hr; split<;>(try split)<;>omega
   · exact sT l _ (fun y hy=>h y (by simp [hy])) r hr
def bL (s:Str):Str:=dR (ee none (bC s))
def fE (l:List Nat) (k:Nat):Option Nat:=if k=0 then none else l[k - 1]?
theorem el (s:Str) (hs:s.length≤1000000):Fn Tryz.prog nx [.seq 1 (s.map bV)] (.str (bL s)):=by
 refine Fn.of_image mixed oc nP rfl fun ho=>?_
 unfold il
 simp only [oks,ok,and_true] at ho
 clear ho
 have hrl:=oI s.length s (Nat.le_refl _)
 have hrm:=vL s.length s (Nat.le_refl _)
 simp (disch:=omega) [-List.reduceReplicate]
 refine oB (ow s hs) fun _=>?_
 unfold bL
 generalize bC s=l at *
 simp (disch:=omega) [-List.reduceReplicate]
 generalize hw:ee none l=w
 have hwm:=sT l none (fun r hr=>(hrm r hr).1)
 rw [hw] at hwm
 refine ax (fun (q:Nat × List Nat)=>⟨[(3,.seq 1 (l.map rV)),(4,.ref 0 q.2.length),(5,.int .i64 q.1)],[some (.arr eC 1 (q.2.map rV))]⟩)
  (fun q=>q.1≤l.length∧q.2.length≤q.1∧q.2++ee (fE l q.1) (l.drop q.1)=w) (fun q=>l.length - q.1) [.r 4 eC 1] _ (0,[]) rfl (by simp) (by simp [←hw,fE]) ?_
 rintro ⟨k,out⟩ ⟨hk,hol,hi⟩ N hN
 simp only at hk hol hi
 rcases place l k hk with ⟨he,hd⟩ | ⟨hlt,x,hx,hd⟩<;>rw [hd] at hi
 · simp [ee] at hi
   subst hi
   simp (disch:=omega) [-List.reduceReplicate,he]
   refine ae (re out (by omega) hwm) rfl fun _=>?_
   simp (disch:=omega) [-List.reduceReplicate]
 · have hp1:fE l (k + 1)=some x:=by simp [fE,hx]
   simp only [ee,←hp1] at hi
   have skip:(x=10∧fE l k=some 13)→out++ee (fE l (k + 1)) (l.drop (k + 1))=w:=fun h=>by rw [if_pos h] at hi; simpa using hi
   have put:¬(x=10∧fE l k=some 13)→(out++[if x=13 then 10 else if x=0 then 65533 else x])++ee (fE l (k + 1)) (l.drop (k + 1))=w:=fun h=>by rw [if_neg h] at hi; simpa using hi
   clear hi
   replace skip:=hid skip
   replace put:=hid put
   have hxr:=(hrm x (List.mem_of_getElem? hx)).1
   have fin:∀ τ:St,∀ o2:List Nat,τ.nrm [3,4,5]=⟨[(3,.seq 1 (l.map rV)),(4,.ref 0 o2.length),(5,.int .i64 ((k + 1:Nat):Int))],[some (.arr eC 1 (o2.map rV))]⟩→o2.length≤k + 1→o2++ee (fE l (k + 1)) (l.drop (k + 1))=w→N τ:=by
    intro τ o2 h1 h2 h3
    exact hN.out _<|Nx.mk (k + 1,o2) h1 ⟨by simp only; omega,h2,h3⟩ (by simp only; omega)
   by_cases h10:x=10
   · subst h10
     rcases Nat.eq_zero_or_pos k with hk0 | hk0
     · subst hk0
       simp (disch:=omega) [-List.reduceReplicate,hx]
       exact fin _ (out++[10]) (by simp) (by simp only [List.length_append,List.length_cons,List.length_nil]; omega) (by simpa using put.out (by simp [fE]))
     · obtain ⟨y,hy⟩:=cD (l:=l) (k:=k - 1) (by omega)
       have hkt:((k:Int) - 1).toNat=k - 1:=by omega
       simp (disch:=omega) [-List.reduceReplicate,hx,hy,hkt]
       refine BrKd.mk (fun h=>?_) (fun h=>?_)
       · simp (disch:=omega) [-List.reduceReplicate,hx]
         exact fin _ out (by simp) (by omega) (skip.out ⟨rfl,by simp [fE,hy]; omega⟩)
       · simp (disch:=omega) [-List.reduceReplicate,hx]
         exact fin _ (out++[10]) (by simp) (by simp; omega) (by simpa using put.out (by simp [fE,hy]; omega))
   · by_cases h13:x=13
     · subst h13
       simp (disch:=omega) [-List.reduceReplicate,hx]
       exact fin _ (out++[10]) (by simp) (by simp; omega) (by simpa using put.out (by simp))
     · by_cases h0:x=0
       · subst h0
         simp (disch:=omega) [-List.reduceReplicate,hx]
         exact fin _ (out++[65533]) (by simp) (by simp; omega) (by simpa using put.out (by simp))
       · simp (disch:=omega) [-List.reduceReplicate,hx,h10,h13,h0]
         exact fin _ (out++[x]) (by simp) (by simp; omega) (by simpa [h13,h0] using put.out (by simp [h10]))
theorem uy (s:Str) (hs:s.length≤1000000):Fn Tryz.prog tX [.str s] (.bool (decide (bL s=s))):=by
 refine Fn.of_image mixed uk ug rfl fun ho=>?_
 unfold mY
 simp only [oks,ok,and_true] at ho
 simp (disch:=omega) [-List.reduceReplicate]
 refine ae (by simpa using el s hs) rfl fun _=>?_
 simp (disch:=omega) [-List.reduceReplicate]
def gX (s:Str):Str:=s.take 30
theorem d3 (s:Str):Fn Tryz.prog r9 [.str s] (.str (gX s)):=by
 refine Fn.of_image mixed sF sq rfl fun ho=>?_
 unfold ku
 simp only [oks,ok,and_true] at ho
 simp (disch:=omega) [-List.reduceReplicate,gX]
 refine BrKd.mk (fun h=>?_) (fun h=>?_)
 · simp (disch:=omega) [-List.reduceReplicate,h]
 · simp (disch:=omega) [-List.reduceReplicate,h]
   rw [List.take_of_length_le (by omega)]
def wD (a:Attr):Attr:=⟨gX a.name,gX a.value⟩
mutual
def yU:Node→Nat→List Node × Nat
 | ⟨_,_,_,_,ks⟩,m=>bD ks m
def bD:List Node→Nat→List Node × Nat
 | [],m=>([],m)
 | n::l,m=>if m=0 then ([],0) else
   (⟨n.kind,gX n.name,(n.attrs.take 5).map wD,gX n.text,(yU n (m - 1)).1⟩::(bD l (yU n (m - 1)).2).1,(bD l (yU n (m - 1)).2).2)
end
theorem lA (n:Node) (m:Nat):yU n m=bD n.kids m:=by cases n; simp [yU]
theorem mS:∀ (l:List Node) (m:Nat),ak (bD l m).1 + (bD l m).2≤m:=by
 refine a8 (fun m=>by simp [bD,ak]) ?_
 intro n l h1 h2 m
 simp only [bD,lA]
 split
 · simp [ak]
 · have g1:=h1 (m - 1)
   have g2:=h2 (bD n.kids (m - 1)).2
   simp only [ak,wK]
   omega
theorem fk:∀ l:List Node,l.length≤ak l
 | []=>by simp [ak]
 | n::l=>by have:=fk l; simp [ak,cE]; omega
theorem sZ:∀ (l:List Node) (m:Nat),m≤1000→Fn Tryz.prog dW [.seq 5 (l.map Node.v),.int .i64 m] (.tup [.seq 5 ((bD l m).1.map Node.v),.int .i64 (bD l m).2]):=by
 have key:∀ l:List Node,(∀ n∈l,∀ m:Nat,m≤1000→Fn Tryz.prog dW [.seq 5 (n.kids.map Node.v),.int .i64 m] (.tup [.seq 5 ((bD n.kids m).1.map Node.v),.int .i64 (bD n.kids m).2]))→
  ∀ m:Nat,m≤1000→Fn Tryz.prog dW [.seq 5 (l.map Node.v),.int .i64 m] (.tup [.seq 5 ((bD l m).1.map Node.v),.int .i64 (bD l m).2]):=by
  intro l hrec m hm
  refine Fn.of_image mixed sI sv rfl fun ho=>?_
  unfold kx
  simp only [oks,ok,and_true] at ho
  have hlen:l.length≤140737488355328:=by have:=ho.1; simp at this; exact this.1
  clear ho
  simp (disch:=omega) [-List.reduceReplicate]
  generalize hR:bD l m=R
  refine ax (fun (q:Nat × Nat × List Node)=>⟨[(0,.seq 5 (l.map Node.v)),(1,.int .i64 q.2.1),(6,.ref 0 q.2.2.length),(7,.int .i64 q.1)],[some (.arr aB 5 (q.2.2.map Node.v))]⟩)
   (fun q=>q.1≤l.length∧q.2.2.length + q.2.1≤1000∧(q.2.2++(bD (l.drop q.1) q.2.1).1,(bD (l.drop q.1) q.2.1).2)=R) (fun q=>l.length - q.1) [.r 6 aB 5] _ (0,m,[]) rfl (by simp) (by simp [hR]; omega) ?_
  rintro ⟨k,m,out⟩ ⟨hk,hol,hi⟩ N hN
  simp only at hk hol hi
  rcases place l k hk with ⟨he,hd⟩ | ⟨hlt,x,hx,hd⟩<;>rw [hd] at hi
  · simp [bD] at hi
    subst hi
    simp (disch:=omega) [-List.reduceReplicate,he]
  · simp only [bD,lA] at hi
    rcases Nat.eq_zero_or_pos m with hm0 | hm0
    · subst hm0
      simp at hi
      subst hi
      simp (disch:=omega) [-List.reduceReplicate]
    · rw [if_neg (by omega)] at hi
      have hxc:=mS x.kids (m - 1)
      replace hi:=hid hi
      simp (disch:=omega) [-List.reduceReplicate,hx]
      refine ae (d3 _) rfl fun _=>?_
      simp (disch:=omega) [-List.reduceReplicate]
      refine ae (d3 _) rfl fun _=>?_
      simp (disch:=omega) [-List.reduceReplicate]
      have hm1:((m:Int) - 1)=((m - 1:Nat):Int):=by omega
      rw [hm1]
      refine aS (hrec x (List.mem_of_getElem? hx) (m - 1) (by omega)) (by simp) fun _=>?_
      generalize bD x.kids (m - 1)=ck at *
      simp (disch:=omega) [-List.reduceReplicate]
      have hl5:(List.take 5 x.attrs).length=min 5 x.attrs.length:=List.length_take
      refine ax (fun (q:Nat)=>⟨[(0,.seq 5 (l.map Node.v)),(1,.int .i64 ck.2),(6,.ref 0 out.length),(7,.int .i64 k),(8,.ptr 1 0),(9,.ref 2 ((x.attrs.take 5).take q).length),(10,.int .i64 q)],
       [some (.arr aB 5 (out.map Node.v)),some (.box [.int .i64 x.kind,.str (gX x.name),.seq 2 (x.attrs.map Attr.v),.str (gX x.text),.seq 5 (ck.1.map Node.v)]),some (.arr bo 2 ((((x.attrs.take 5).take q).map wD).map Attr.v))]⟩)
       (fun q=>q≤(x.attrs.take 5).length) (fun q=>(x.attrs.take 5).length - q) [.r 9 bo 2] _ 0 rfl (by simp) (by simp) ?_
      rintro j hj N2 hN2
      have hjl:((x.attrs.take 5).take j).length=j:=by rw [List.length_take]; omega
      rcases place (x.attrs.take 5) j hj with ⟨he2,hd2⟩ | ⟨hlt2,y,hy,hd2⟩
      · have htk:(x.attrs.take 5).take j=x.attrs.take 5:=List.take_of_length_le (by omega)
        rw [htk] at hjl ⊢
        have hjj:(j < x.attrs.length∧j=5)∨j=x.attrs.length:=by omega
        rcases hjj with hjj | hjj
        all_goals
         simp (disch:=omega) [-List.reduceReplicate,hjj,hjl]
         refine hN.out _<|Nx.mk (k + 1,ck.2,out++[⟨x.kind,gX x.name,(x.attrs.take 5).map wD,gX x.text,ck.1⟩]) (by simp) ⟨by simp only; omega,by simp; omega,by simpa using hi.out⟩ (by simp only; omega)
      · have hy2:x.attrs[j]?=some y:=by rw [List.getElem?_take] at hy; simpa [show j < 5 by omega] using hy
        rw [hjl]
        simp (disch:=omega) [-List.reduceReplicate,hy2,hjl]
        refine aG (d3 _) rfl ?_
        simp (disch:=omega) [-List.reduceReplicate,hy2,hjl]
        refine aG (d3 _) rfl ?_
        simp (disch:=omega) [-List.reduceReplicate,hy2,hjl]
        refine hN2.out _<|Nx.mk (j + 1) ?_ (by omega) (by omega)
        have hjl2:((x.attrs.take 5).take (j + 1)).length=j + 1:=by rw [List.length_take]; omega
        rw [hjl2,dA hy]
        simp [wD]
 have all:∀ l:List Node,∀ n∈l,∀ m:Nat,m≤1000→Fn Tryz.prog dW [.seq 5 (n.kids.map Node.v),.int .i64 m] (.tup [.seq 5 ((bD n.kids m).1.map Node.v),.int .i64 (bD n.kids m).2]):=by
  refine a8 (fun x hx=>by cases hx) ?_
  intro n l h1 h2 x hx
  rcases List.mem_cons.1 hx with rfl | hx
  · exact key _ h1
  · exact h2 x hx
 exact fun l=>key l (all l)
theorem sY (l:List Node):Fn Tryz.prog sb [.seq 5 (l.map Node.v)] (.seq 5 ((bD l 40).1.map Node.v)):=by
 refine Fn.of_image mixed sH su rfl fun ho=>?_
 unfold kw
 simp only [oks,ok,and_true] at ho
 clear ho
 simp (disch:=omega) [-List.reduceReplicate]
 refine aS (sZ l 40 (by omega)) (by simp) fun _=>?_
 simp (disch:=omega) [-List.reduceReplicate]
def u3:List Str:=[[97],[98],[112],[117,108],[108,105],[98,114],[105,109,103],[100,105,118],[115,99,114,105,112,116],[120,45,121]]
def na (s:Str):Str:=if named s then s else (u3[nb s % 10]?).getD []
theorem q9 (s:Str) (hs:s.length≤1000000):Fn Tryz.prog p5 [.str s] (.str (na s)):=by
 refine Fn.of_image mixed qM qw rfl fun ho=>?_
 unfold jx
 simp only [oks,ok,and_true] at ho
 clear ho
 simp (disch:=omega) [-List.reduceReplicate]
 refine ax (fun (p:Nat × Nat)=>⟨[(0,.str s),(3,.seq 1 (u3.map .str)),(4,.int .i64 p.2),(5,.int .i64 p.1)],[]⟩)
  (fun p=>p.1≤s.length∧p.2≤255 * p.1∧p.2 + nb (s.drop p.1)=nb s) (fun p=>s.length - p.1) [] _ (0,0) rfl (by simp [u3]) (by simp) ?_
 rintro ⟨k,n⟩ ⟨hk,hn,hi⟩ N hN
 simp only at hk hn hi
 rcases place s k hk with ⟨he,hd⟩ | ⟨hlt,x,hx,hd⟩<;>rw [hd,nb] at hi
 · have hm:n % 10 < 10:=Nat.mod_lt _ (by decide)
   have ht:((n:Int) % 10).toNat=n % 10:=by omega
   obtain ⟨y,hy⟩:=cD (l:=u3) (k:=n % 10) hm
   have hpl:u3.length=10:=rfl
   simp only [Nat.add_zero] at hi
   simp (disch:=omega) [-List.reduceReplicate,he]
   refine ae (ek s) rfl fun _=>?_
   simp (disch:=omega) [-List.reduceReplicate]
   refine BrK.mk (fun h=>?_) (fun h=>?_)
   · simp (disch:=omega) [-List.reduceReplicate]
     simp [na,h]
   · simp (disch:=omega) [-List.reduceReplicate,hpl,ht,hy]
     simp [na,h,←hi,hy]
 · have hx8:=x.toNat_lt
   simp (disch:=omega) [-List.reduceReplicate,hx]
   refine hN.out _<|Nx.mk (k + 1,n + x.toNat) (by simp) ⟨by simp only; omega,by simp only; omega,by simp only; omega⟩ (by simp only; omega)
def bY (b:UInt8):Bool:=(decide (65≤b.toNat) && decide (b.toNat≤90)) || (decide (b.toNat=9) || (decide (b.toNat=10) || (decide (b.toNat=12) || (decide (b.toNat=32) || (decide (b.toNat=47) || (decide (b.toNat=62) || decide (b.toNat=61)))))))
def bW (s:Str):Bool:=s.all (fun b=>!bY b) && (decide (bL s=s) && decide (0 < s.length))
theorem iW (s:Str) (hs:s.length≤1000000):Fn Tryz.prog iI [.str s] (.bool (bW s)):=by
 refine Fn.of_image mixed iP iN rfl fun ho=>?_
 unfold dQ
 simp only [oks,ok,and_true] at ho
 clear ho
 simp (disch:=omega) [-List.reduceReplicate]
 refine ae (uy s hs) rfl fun _=>?_
 simp (disch:=omega) [-List.reduceReplicate]
 generalize hr:bW s=r
 refine ax (fun k:Nat=>⟨[(0,.str s),(3,.bool (decide (bL s=s))),(4,.int .i64 k)],[]⟩) (fun k=>k≤s.length∧((s.drop k).all (fun b=>!bY b) && (decide (bL s=s) && decide (0 < s.length)))=r) (fun k=>s.length - k) [] _ 0 rfl (by simp [*]) (by simp [*,←hr,bW]) ?_
 rintro k ⟨hk,hi⟩ N hN
 rcases place s k hk with ⟨he,hd⟩ | ⟨hlt,x,hx,hd⟩<;>rw [hd] at hi<;>replace hi:=hid hi
 · have hi:=hi.out
   simp (disch:=omega) [-List.reduceReplicate,he]
   repeat' (first | (refine BrKd.mk (fun h=>?_) (fun h=>?_)<;>simp (disch:=omega) [*]) | (refine BrK.mk (fun h=>?_) (fun h=>?_)<;>simp (disch:=omega) [*]))
   all_goals (first | simpa [*] using hi | (simp [*] at hi; simp [←hi, *]))
 · simp only [List.all_cons] at hi
   have no:bY x=true→r=false:=fun h=>by have hi:=hi.out; simpa [h] using hi.symm
   have go:bY x=false→((s.drop (k + 1)).all (fun b=>!bY b) && (decide (bL s=s) && decide (0 < s.length)))=r:=fun h=>by have hi:=hi.out; rw [h] at hi; simpa using hi
   replace no:=hid no
   replace go:=hid go
   simp (disch:=omega) [-List.reduceReplicate,hx]
   repeat' (first | (refine BrKd.mk (fun h=>?_) (fun h=>?_)<;>simp (disch:=omega) [*]) | (refine BrK.mk (fun h=>?_) (fun h=>?_)<;>simp (disch:=omega) [*]))
   all_goals first
    | (refine hN.out _<|Nx.mk (k + 1) (by simp [*]) ⟨by omega,go.out ?_⟩ (by omega); simp [bY, *]; done)
    | (refine hN.out _<|Nx.mk (k + 1) (by simp [*]) ⟨by omega,go.out ?_⟩ (by omega); unfold bY; simp; omega)
    | (rw [no.out ?_]; simp [bY, *]; done)
    | (refine (no.out ?_); simp [bY, *]; done)
    | (refine (no.out ?_).symm; simp [bY, *]; done)
def x8:List Str:=[[105,100],[104,114,101,102],[116,105,116,108,101],[100,97,116,97,45,97],[111,110,99,108,105,99,107]]
def bf (s:Str):Str:=if bW s then s else (x8[s.length % 5]?).getD []
theorem jq (s:Str) (hs:s.length≤1000000):Fn Tryz.prog je [.str s] (.str (bf s)):=by
 refine Fn.of_image mixed jl jj rfl fun ho=>?_
 unfold d6
 simp only [oks,ok,and_true] at ho
 clear ho
 simp (disch:=omega) [-List.reduceReplicate]
 refine ae (iW s hs) rfl fun _=>?_
 simp (disch:=omega) [-List.reduceReplicate]
 have hm:s.length % 5 < 5:=Nat.mod_lt _ (by decide)
 have ht:((s.length:Int) % 5).toNat=s.length % 5:=by omega
 obtain ⟨y,hy⟩:=cD (l:=x8) (k:=s.length % 5) hm
 have hy2:([.str [105,100],.str [104,114,101,102],.str [116,105,116,108,101],.str [100,97,116,97,45,97],.str [111,110,99,108,105,99,107]]:List V)[s.length % 5]?=some (.str y):=by
  have:(x8.map V.str)[s.length % 5]?=some (.str y):=by rw [List.getElem?_map,hy]; rfl
  exact this
 refine BrK.mk (fun h=>?_) (fun h=>?_)
 · simp (disch:=omega) [-List.reduceReplicate]
   simp [bf,h]
 · simp (disch:=omega) [-List.reduceReplicate,ht,hy2]
   simp [bf,h,hy]
def aW:List Node→List Node→List Node
 | out,[]=>out
 | out,n::l=>
   if n.kind=2∧n.text=[] then aW out l
   else match out[out.length - 1]? with
    | some o=>if n.kind=2∧o.kind=2 then aW (out.set (out.length - 1) ⟨o.kind,o.name,o.attrs,o.text++n.text,o.kids⟩) l else aW (out++[n]) l
    | none=>aW (out++[n]) l
def cI (l:List Node):List Node:=aW [] l
theorem ou (l:List Node) (hl:l.length≤1000000) (ht:∀ n∈l,n.text.length≤1000000):Fn Tryz.prog ns [.seq 5 (l.map Node.v)] (.seq 5 ((cI l).map Node.v)):=by
 refine Fn.of_image mixed n8 nM rfl fun ho=>?_
 unfold ii
 simp only [oks,ok,and_true] at ho
 clear ho
 simp (disch:=omega) [-List.reduceReplicate]
 generalize hw:cI l=w
 refine ax (fun (q:Nat × List Node)=>⟨[(0,.seq 5 (l.map Node.v)),(3,.ref 0 q.2.length),(4,.int .i64 q.1)],[some (.arr aB 5 (q.2.map Node.v))]⟩)
  (fun q=>q.1≤l.length∧q.2.length≤q.1∧(∀ n∈q.2,n.text.length≤1000000 * q.1)∧aW q.2 (l.drop q.1)=w) (fun q=>l.length - q.1) [.r 3 aB 5] _ (0,[]) rfl (by simp) (by simp [←hw,cI]) ?_
 rintro ⟨k,out⟩ ⟨hk,hol,htx,hi⟩ N hN
 simp only at hk hol htx hi
 rcases place l k hk with ⟨he,hd⟩ | ⟨hlt,x,hx,hd⟩<;>rw [hd] at hi
 · simp [aW] at hi
   subst hi
   simp (disch:=omega) [-List.reduceReplicate,he]
 · have hxt:=ht x (List.mem_of_getElem? hx)
   simp only [aW] at hi
   by_cases h2:x.kind=2
   · by_cases ht0:x.text=[]
     · rw [if_pos ⟨h2,ht0⟩] at hi
       replace hi:=hid hi
       simp (disch:=omega) [-List.reduceReplicate,hx,h2,ht0]
       refine hN.out _<|Nx.mk (k + 1,out) (by simp) ⟨by simp only; omega,by simp only; omega,fun n hn=>by have:=htx n hn; simp only; omega,hi.out⟩ (by simp only; omega)
     · rw [if_neg (fun h=>ht0 h.2)] at hi
       rcases Nat.eq_zero_or_pos out.length with h0 | h0
       · have ho0:out=[]:=List.eq_nil_of_length_eq_zero h0
         subst ho0
         simp only [List.getElem?_nil,List.nil_append] at hi
         replace hi:=hid hi
         simp (disch:=omega) [-List.reduceReplicate,hx,h2,ht0]
         refine hN.out _<|Nx.mk (k + 1,[x]) (by simp [h2]) ⟨by simp only; omega,by simp,fun n hn=>by simp at hn; subst hn; simp only; omega,hi.out⟩ (by simp only; omega)
       · obtain ⟨o,ho⟩:=cD (l:=out) (k:=out.length - 1) (by omega)
         rw [ho] at hi
         simp only at hi
         have hot:=htx o (List.mem_of_getElem? ho)
         have hoz:((out.length:Int) - 1).toNat=out.length - 1:=by omega
         replace hi:=hid hi
         simp (disch:=omega) [-List.reduceReplicate,hx,h2,ht0,hoz,ho]
         refine BrKd.mk (fun hk2=>?_) (fun hk2=>?_)
         · simp (disch:=omega) [-List.reduceReplicate,hx,h2,ht0,hoz,ho,hk2]
           have hi:=hi.out
           rw [if_pos ⟨h2,hk2⟩] at hi
           refine hN.out _<|Nx.mk (k + 1,out.set (out.length - 1) ⟨o.kind,o.name,o.attrs,o.text++x.text,o.kids⟩) (by simp [List.map_set,hk2]) ⟨by simp only; omega,by simp; omega,?_,hi⟩ (by simp only; omega)
           intro n hn
           rcases List.mem_or_eq_of_mem_set hn with hn | rfl
           · have:=htx n hn; simp only; omega
           · simp only [List.length_append]; omega
         · simp (disch:=omega) [-List.reduceReplicate,hx,h2,ht0,hoz,ho,hk2]
           have hi:=hi.out
           rw [if_neg (fun h=>hk2 h.2)] at hi
           refine hN.out _<|Nx.mk (k + 1,out++[x]) (by simp [h2]) ⟨by simp only; omega,by simp; omega,?_,hi⟩ (by simp only; omega)
           intro n hn
           simp only [List.mem_append,List.mem_singleton] at hn
           rcases hn with hn | rfl
           · have:=htx n hn; simp only; omega
           · simp only; omega
   · rw [if_neg (fun h=>h2 h.1)] at hi
     have hi2:aW (out++[x]) (l.drop (k + 1))=w:=by
      split at hi
      · rw [if_neg (fun h=>h2 h.1)] at hi; exact hi
      · exact hi
     clear hi
     replace hi2:=hid hi2
     simp (disch:=omega) [-List.reduceReplicate,hx,h2]
     refine hN.out _<|Nx.mk (k + 1,out++[x]) (by simp) ⟨by simp only; omega,by simp; omega,?_,hi2.out⟩ (by simp only; omega)
     intro n hn
     simp only [List.mem_append,List.mem_singleton] at hn
     rcases hn with hn | rfl
     · have:=htx n hn; simp only; omega
     · simp only; omega
end Go.Abs.F
end
section
set_option maxHeartbeats 4000000
set_option maxRecDepth 100000
namespace Go.Abs.F
open Go.Proofs
attribute [-simp] getElem?_pos Option.not_isSome List.map_map
def pj (k:Int):Int:=if k < 1∨3 < k then 1 else k
def fH:List Attr→List Attr→List Attr
 | acc,[]=>acc
 | acc,a::l=>fH (if (d8 acc (bf a.name)).isSome then acc else acc++[⟨bf a.name,bL a.value⟩]) l
mutual
def bg:Node→Node
 | ⟨k,nm,a,t,ks⟩=>if pj k=1 then ⟨1,na nm,fH [] a,[],cI (mD ks)⟩ else ⟨pj k,[],[],bL t,[]⟩
def mD:List Node→List Node
 | []=>[]
 | n::l=>bg n::mD l
end
theorem mC:∀ l:List Node,mD l=l.map bg
 | []=>by simp [mD]
 | n::l=>by simp [mD,mC l]
theorem eH (n:Node):bg n=if pj n.kind=1 then ⟨1,na n.name,fH [] n.attrs,[],cI (n.kids.map bg)⟩ else ⟨pj n.kind,[],[],bL n.text,[]⟩:=by
 cases n; simp [bg,mC]
def pw (n:Node):Prop:=n.name.length≤1000∧n.text.length≤1000∧n.attrs.length≤1000∧∀ a∈n.attrs,a.name.length≤1000∧a.value.length≤1000
theorem iB (s:Str):(bL s).length≤4 * s.length:=by
 have h1:=oF (ee none (bC s))
 have h2:=sU (bC s) none
 have h3:=oI s.length s (Nat.le_refl _)
 unfold bL
 omega
theorem uq (n:Node) (h:pw n):(bg n).text.length≤4000:=by
 rw [eH]
 split
 · simp
 · have:=iB n.text; have:=h.2.1; simp only; omega
theorem ra:∀ (l:List Node),az pw l→ak l≤1000→Fn Tryz.prog dr [.seq 5 (l.map Node.v)] (.seq 5 ((cI (l.map bg)).map Node.v)):=by
 have key:∀ l:List Node,(∀ n∈l,az pw n.kids→ak n.kids≤1000→Fn Tryz.prog dr [.seq 5 (n.kids.map Node.v)] (.seq 5 ((cI (n.kids.map bg)).map Node.v)))→
  az pw l→ak l≤1000→Fn Tryz.prog dr [.seq 5 (l.map Node.v)] (.seq 5 ((cI (l.map bg)).map Node.v)):=by
  intro l hrec hfi hc
  refine Fn.of_image mixed qN qx rfl fun ho=>?_
  unfold jy
  simp only [oks,ok,and_true] at ho
  clear ho
  have hlen:=fk l
  simp (disch:=omega) [-List.reduceReplicate]
  refine ax (fun (k:Nat)=>⟨[(0,.seq 5 (l.map Node.v)),(3,.ref 0 k),(4,.int .i64 k)],[some (.arr aB 5 (((l.take k).map bg).map Node.v))]⟩)
   (fun k=>k≤l.length) (fun k=>l.length - k) [.r 3 aB 5] _ 0 rfl (by simp) (by simp) ?_
  rintro k hk N hN
  have hkl:(l.take k).length=k:=by rw [List.length_take]; omega
  rcases place l k hk with ⟨he,hd⟩ | ⟨hlt,x,hx,hd⟩
  · have htk:l.take k=l:=List.take_of_length_le (by omega)
    rw [htk]
    simp (disch:=omega) [-List.reduceReplicate,he]
    refine tw (ou (l.map bg) (by simp; omega) (fun n hn=>?_)) fun _=>?_
    · obtain ⟨y,hy,rfl⟩:=List.mem_map.1 hn
      have:=uq y (eO hfi hy).1
      omega
    · simp (disch:=omega) [-List.reduceReplicate]
  · have hxm:=List.mem_of_getElem? hx
    obtain ⟨hfx,hfk⟩:=eO hfi hxm
    obtain ⟨hx1,hx2,hx3,hx4⟩:=hfx
    have hcx:=lB hxm
    have fin:∀ τ:St,τ.nrm [0,3,4]=⟨[(0,.seq 5 (l.map Node.v)),(3,.ref 0 (k + 1)),(4,.int .i64 ((k + 1:Nat):Int))],[some (.arr aB 5 (((l.take k).map bg).map Node.v++[(bg x).v]))]⟩→N τ:=by
     intro τ h
     refine hN.out _<|Nx.mk (k + 1) ?_ (by omega) (by omega)
     rw [h,dA hx]
     simp
    have hkind:x.kind < 1∨3 < x.kind∨x.kind=1∨x.kind=2∨x.kind=3:=by omega
    rcases hkind with h | h | h | h | h
    case inr.inr.inr.inr.inl | inr.inr.inr.inr.inr=>
     have hg:bg x=⟨x.kind,[],[],bL x.text,[]⟩:=by
      rw [eH,h]; simp [pj]
     simp (disch:=omega) [-List.reduceReplicate,hx,h,hkl]
     refine ae (by simpa using el x.text (by omega)) rfl fun _=>?_
     simp (disch:=omega) [-List.reduceReplicate,hkl]
     refine fin _ ?_
     rw [hg,h]
     simp
    all_goals
     have hg:bg x=⟨1,na x.name,fH [] x.attrs,[],cI (x.kids.map bg)⟩:=by
      rw [eH,if_pos]
      unfold pj
      split<;>omega
     simp (disch:=omega) [-List.reduceReplicate,hx,h,hkl]
     refine ae (q9 x.name (by omega)) rfl fun _=>?_
     simp (disch:=omega) [-List.reduceReplicate,hkl]
     generalize hga:fH [] x.attrs=GA at hg
     refine ax (fun (q:Nat × List Attr)=>⟨[(0,.seq 5 (l.map Node.v)),(3,.ref 0 k),(4,.int .i64 k),(5,.ptr 1 0),(6,.int .i64 q.1)],
      [some (.arr aB 5 (((l.take k).map bg).map Node.v)),some (.box [.int .i64 1,.str (na x.name),.ref 2 q.2.length,.str [],.nil 5]),some (.arr bo 2 (q.2.map Attr.v))]⟩)
      (fun q=>q.1≤x.attrs.length∧q.2.length≤q.1∧fH q.2 (x.attrs.drop q.1)=GA) (fun q=>x.attrs.length - q.1) [.b 1 2 bo 2] _ (0,[]) rfl (by simp) (by simp [hga]) ?_
     rintro ⟨j,acc⟩ ⟨hj,hal,hi⟩ N2 hN2
     simp only at hj hal hi
     rcases place x.attrs j hj with ⟨he2,hd2⟩ | ⟨hlt2,y,hy,hd2⟩<;>rw [hd2] at hi
     · simp only [fH] at hi
       subst hi
       simp (disch:=omega) [-List.reduceReplicate,hx,he2]
       refine aS (hrec x hxm hfk (by omega)) (by simp) fun _=>?_
       simp (disch:=omega) [-List.reduceReplicate,hkl]
       refine fin _ ?_
       rw [hg]
       simp
     · obtain ⟨hy1,hy2⟩:=hx4 y (List.mem_of_getElem? hy)
       simp only [fH] at hi
       replace hi:=hid hi
       simp (disch:=omega) [-List.reduceReplicate,hx,hy]
       refine aG (jq y.name (by omega)) rfl ?_
       simp (disch:=omega) [-List.reduceReplicate,hx,hy]
       refine aG (by simpa using el y.value (by omega)) rfl ?_
       simp (disch:=omega) [-List.reduceReplicate,hx,hy]
       refine ae (by simpa using ot ⟨1,na x.name,acc,[],[]⟩ (bf y.name)) rfl fun _=>?_
       simp (disch:=omega) [-List.reduceReplicate,hx,hy]
       refine BrK.mk (fun hb=>?_) (fun hb=>?_)
       · simp (disch:=omega) [-List.reduceReplicate]
         have hi:=hi.out
         rw [if_pos hb] at hi
         refine hN2.out _<|Nx.mk (j + 1,acc) (by simp) ⟨by simp only; omega,by simp only; omega,hi⟩ (by simp only; omega)
       · simp (disch:=omega) [-List.reduceReplicate,hkl]
         have hi:=hi.out
         rw [if_neg (by simp [hb])] at hi
         refine hN2.out _<|Nx.mk (j + 1,acc++[⟨bf y.name,bL y.value⟩]) (by simp) ⟨by simp only; omega,by simp; omega,hi⟩ (by simp only; omega)
 have all:∀ l:List Node,∀ n∈l,az pw n.kids→ak n.kids≤1000→Fn Tryz.prog dr [.seq 5 (n.kids.map Node.v)] (.seq 5 ((cI (n.kids.map bg)).map Node.v)):=by
  refine a8 (fun x hx=>by cases hx) ?_
  intro n l h1 h2 x hx
  rcases List.mem_cons.1 hx with rfl | hx
  · exact key _ h1
  · exact h2 x hx
 exact fun l=>key l (all l)
theorem wJ:∀ (l:List Node) (m:Nat),az pw (bD l m).1:=by
 refine a8 (fun m=>by simp [bD,az]) ?_
 intro n l h1 h2 m
 simp only [bD,lA]
 split
 · simp [az]
 · simp only [az,zk]
   refine ⟨⟨⟨by simp [gX]; omega,by simp [gX]; omega,by simp; omega,fun a ha=>?_⟩,h1 _⟩,h2 _⟩
   simp only [List.mem_map] at ha
   obtain ⟨b,_,rfl⟩:=ha
   simp [wD,gX]; omega
def cc (l:List Node):List Node:=cI ((bD l 40).1.map bg)
theorem rc (l:List Node):Fn Tryz.prog p7 [.seq 5 (l.map Node.v)] (.seq 5 ((cc l).map Node.v)):=by
 refine Fn.of_image mixed qP qz rfl fun ho=>?_
 unfold jz
 simp only [oks,ok,and_true] at ho
 clear ho
 simp (disch:=omega) [-List.reduceReplicate]
 refine aS (sY l) (by simp) fun _=>?_
 simp (disch:=omega) [-List.reduceReplicate]
 refine aS (ra (bD l 40).1 (wJ l 40) (by have:=mS l 40; omega)) (by simp) fun _=>?_
 simp (disch:=omega) [-List.reduceReplicate,cc]
def yA (w:Str):Str→Bool
 | []=>jZ [] w
 | b::t=>jZ (b::t) w || yA w t
def dZ (b:UInt8):UInt8:=if 65≤b.toNat∧b.toNat≤90 then b8 (b.toNat + 32) else b
def zf (b:UInt8):Bool:=decide (b.toNat=9) || (decide (b.toNat=10) || (decide (b.toNat=12) || decide (b.toNat=32)))
def Bf (b:UInt8):Bool:=zf b || (decide (b.toNat=47) || decide (b.toNat=62))
def pz (nm:Str) (s:Str):Bool:=decide ((s.take (2 + nm.length)).map dZ=[60,47]++nm) && (match s[2 + nm.length]? with
 | some c=>Bf c
 | none=>false)
def dj (nm:Str):Nat→Str→Int
 | _,[]=>-1
 | i,b::t=>if pz nm (b::t) then i else dj nm (i + 1) t
def Be (s nm:Str):Int:=dj nm 0 s
def yK (par:Str) (n:Node):Bool:=
 if tC par then false
 else if raw par then decide (n.kind=2) && decide (Be (n.text++[60,47]++par++[62]) par=n.text.length)
 else !decide (n.kind=1) || !fo par n.name
def vj:Str:=[45,45,62]
def ct (l:List Node):Nat:=(l.map fun n=>n.text.length).sum
theorem rB (a b:List Node):ct (a++b)=ct a + ct b:=by simp [ct]
theorem rA:∀ (l:List Node) (i:Nat) (o n:Node),l[i]?=some o→ct (l.set i n) + o.text.length=ct l + n.text.length
 | [],i,o,n,h=>by simp at h
 | x::l,0,o,n,h=>by simp at h; subst h; simp [ct]; omega
 | x::l,i + 1,o,n,h=>by
   have:=rA l i o n (by simpa using h)
   simp only [ct,List.set_cons_succ,List.map_cons,List.sum_cons] at *
   omega
theorem dt:∀ (l out:List Node),(aW out l).length≤out.length + l.length∧ct (aW out l)≤ct out + ct l
 | [],out=>by simp [aW,ct]
 | n::l,out=>by
   have hc:ct (n::l)=n.text.length + ct l:=by simp [ct]
   have h1:=dt l out
   have h2:=dt l (out++[n])
   rw [rB] at h2
   have hn:ct [n]=n.text.length:=by simp [ct]
   simp only [List.length_append,List.length_cons,List.length_nil] at h2
   simp only [aW,List.length_cons]
   split
   · omega
   · split
     · rename_i o ho
       split
       · have h3:=dt l (out.set (out.length - 1) ⟨o.kind,o.name,o.attrs,o.text++n.text,o.kids⟩)
         have h4:=rA out (out.length - 1) o ⟨o.kind,o.name,o.attrs,o.text++n.text,o.kids⟩ ho
         simp only [List.length_set,List.length_append] at h3 h4
         omega
       · omega
     · omega
theorem mc (l:List Node):(cI l).length≤l.length∧ct (cI l)≤ct l:=by
 have:=dt l []
 simpa [cI,ct] using this
def lN (s:Str):Bool:=decide (bL s=s)
def sB:List Attr→Str→Bool
 | [],_=>false
 | a::l,s=>if a.name=s then true else sB l s
def lg:List Attr→List Attr→Int
 | _,[]=>0
 | pre,a::l=>if bW a.name then (if sB pre a.name then 5 else lg (pre++[a]) l) else 4
def gK:List Attr→Bool
 | []=>true
 | a::l=>lN a.value && gK l
def js (n:Node):Int:=
 if n.text=[] then (if named n.name then (if lg [] n.attrs=0 then (if gK n.attrs then 0 else 2) else lg [] n.attrs) else 4) else 7
theorem mP:∀ (l pre:List Attr),lg pre l=0∨lg pre l=4∨lg pre l=5
 | [],pre=>by simp [lg]
 | a::l,pre=>by
   simp only [lg]
   split
   · split
     · simp
     · exact mP l _
   · simp
def gq (n:Node):Prop:=n.name.length≤1000000∧n.text.length≤1000000∧n.attrs.length≤1000000∧∀ a∈n.attrs,a.name.length≤1000000∧a.value.length≤1000000
def lY (n:Node) (txt:Bool):Int:=
 if n.kind=1 then js n
 else if n.kind=2∨n.kind=3 then (if n.name=[]∧n.attrs=[]∧n.kids=[] then (if lN n.text∧(n.kind=2→¬n.text=[]∧txt=false) then 0 else 2) else 7)
 else 7
mutual
def A1:Node→Int
 | ⟨_,_,_,_,ks⟩=>t7 false ks
def t7:Bool→List Node→Int
 | _,[]=>0
 | txt,n::l=>if lY n txt=0 then (if A1 n=0 then t7 (decide (n.kind=2)) l else A1 n) else lY n txt
end
theorem A0 (n:Node):A1 n=t7 false n.kids:=by cases n; simp [A1]
def may (l:List Node):Int:=t7 false l
def cH (l:List Node) (k:Nat):Bool:=decide (0 < k) && (match l[k - 1]? with
 | some n=>decide (n.kind=2)
 | none=>false)
theorem eP {f:Node→Prop}:∀ {l:List Node},az f l↔∀ n∈l,f n∧az f n.kids
 | []=>by simp [az]
 | n::l=>by simp [az,gT,eP (l:=l)]
theorem ri (a b:List Node):ak (a++b)=ak a + ak b:=by
 induction a with
 | nil=>simp [ak]
 | cons x a ih=>simp only [List.cons_append,ak,ih]; omega
theorem pB:∀ (l:List Node) (i:Nat) (o n:Node),l[i]?=some o→ak n.kids=ak o.kids→ak (l.set i n)=ak l
 | [],i,o,n,h,_=>by simp at h
 | x::l,0,o,n,h,hk=>by simp at h; subst h; simp [ak,cE,hk]
 | x::l,i + 1,o,n,h,hk=>by
   have:=pB l i o n (by simpa using h) hk
   simp only [List.set_cons_succ,ak,this]
theorem dX:∀ (l out:List Node),ak (aW out l)≤ak out + ak l
 | [],out=>by simp [aW,ak]
 | n::l,out=>by
   have h1:=dX l out
   have h2:=dX l (out++[n])
   rw [ri] at h2
   have hn:ak [n]=wK n:=by simp [ak]
   have hc:ak (n::l)=wK n + ak l:=by simp [ak]
   simp only [aW]
   split
   · omega
   · split
     · rename_i o ho
       split
       · have h3:=dX l (out.set (out.length - 1) ⟨o.kind,o.name,o.attrs,o.text++n.text,o.kids⟩)
         have e:=pB out (out.length - 1) o ⟨o.kind,o.name,o.attrs,o.text++n.text,o.kids⟩ ho rfl
         rw [e] at h3
         omega
       · omega
     · omega
theorem pf (l:List Node):ak (cI l)≤ak l:=by
 have:=dX l []
 simpa [cI,ak] using this
theorem cY {P:Node→Prop} (hP:∀ k n a t ks t',P ⟨k,n,a,t,ks⟩→P ⟨k,n,a,t',ks⟩):∀ (l out:List Node),(∀ n∈out,P n)→(∀ n∈l,P n)→∀ n∈aW out l,P n
 | [],out,ho,_=>by simpa [aW] using ho
 | n::l,out,ho,hl=>by
   have hn:=hl n (by simp)
   have hl':∀ n∈l,P n:=fun x hx=>hl x (by simp [hx])
   have hon:∀ x∈out++[n],P x:=fun x hx=>by
    rcases List.mem_append.1 hx with h | h
    · exact ho x h
    · simp at h; subst h; exact hn
   simp only [aW]
   split
   · exact cY hP l out ho hl'
   · split
     · rename_i o hoo
       split
       · refine cY hP l _ (fun x hx=>?_) hl'
         rcases List.mem_or_eq_of_mem_set hx with h | h
         · exact ho x h
         · subst h
           have:=ho o (List.mem_of_getElem? hoo)
           obtain ⟨k0,n0,a0,t0,ks0⟩:=o
           exact hP _ _ _ _ _ _ this
       · exact cY hP l _ hon hl'
     · exact cY hP l _ hon hl'
theorem wb {P:Node→Prop} (hP:∀ k n a t ks t',P ⟨k,n,a,t,ks⟩→P ⟨k,n,a,t',ks⟩) {l:List Node} (h:∀ n∈l,P n):∀ n∈cI l,P n:=cY hP l [] (fun _ h=>by cases h) h
def mH (n:Node):Prop:=n.name.length≤1000∧n.attrs.length≤1000∧(∀ a∈n.attrs,a.name.length≤1000∧a.value.length≤1000)∧n.kids.length≤1000∧ct n.kids≤1000000
theorem kf {l:List Node} (h:az mH l):az mH (cI l):=
 eP.2 (wb (P:=fun n=>mH n∧az mH n.kids) (fun k n a t ks t' h=>h) (eP.1 h))
def yM (n:Node):Prop:=n.name.length≤30∧n.text.length≤30∧n.attrs.length≤5∧∀ a∈n.attrs,a.name.length≤30∧a.value.length≤30
theorem ta:∀ (l:List Node) (m:Nat),az yM (bD l m).1:=by
 refine a8 (fun m=>by simp [bD,az]) ?_
 intro n l h1 h2 m
 simp only [bD,lA]
 split
 · simp [az]
 · simp only [az,zk]
   refine ⟨⟨⟨by simp [gX]; omega,by simp [gX]; omega,by simp; omega,fun a ha=>?_⟩,h1 _⟩,h2 _⟩
   simp only [List.mem_map] at ha
   obtain ⟨b,_,rfl⟩:=ha
   simp [wD,gX]; omega
theorem rU {l:List Str} {m:Nat} (h:l.all (fun s=>decide (s.length≤m))=true) (i:Nat):((l[i]?).getD []).length≤m:=by
 cases hi:l[i]? with
 | none=>simp
 | some x=>simpa using List.all_eq_true.1 h x (List.mem_of_getElem? hi)
theorem iQ:∀ (l acc:List Attr),(∀ a∈l,a.name.length≤30∧a.value.length≤30)→(∀ a∈acc,a.name.length≤1000∧a.value.length≤1000)→
 (fH acc l).length≤acc.length + l.length∧∀ a∈fH acc l,a.name.length≤1000∧a.value.length≤1000
 | [],acc,_,ha=>by simpa [fH] using ha
 | x::l,acc,hl,ha=>by
   have hx:=hl x (by simp)
   have hl':∀ a∈l,a.name.length≤30∧a.value.length≤30:=fun a h=>hl a (by simp [h])
   simp only [fH]
   split
   · have:=iQ l acc hl' ha
     exact ⟨by simp; omega,this.2⟩
   · have:=iQ l (acc++[⟨bf x.name,bL x.value⟩]) hl' (fun a h=>by
      rcases List.mem_append.1 h with h | h
      · exact ha a h
      · simp at h; subst h
        have h1:=iB x.value
        have h2:(bf x.name).length≤1000:=by
         unfold bf
         split
         · omega
         · have:=rU (l:=x8) (m:=1000) (by decide) (x.name.length % 5)
           omega
        exact ⟨h2,by simp only; omega⟩)
     exact ⟨by have:=this.1; simp at this ⊢; omega,this.2⟩
theorem lI (f:Node→Node) (c:Nat):∀ l:List Node,(∀ n∈l,(f n).text.length≤c)→ct (l.map f)≤c * l.length
 | [],_=>by simp [ct]
 | n::l,h=>by
   have h1:=h n (by simp)
   have h2:=lI f c l (fun x hx=>h x (by simp [hx]))
   simp only [ct,List.map_cons,List.sum_cons,List.length_cons,Nat.mul_succ] at *
   omega
theorem ur:∀ l:List Node,az yM l→ak l≤1000→az mH (l.map bg)∧ak (l.map bg)≤ak l∧(∀ n∈l.map bg,n.text.length≤120):=by
 refine a8 (fun _ _=>by simp [az,ak]) ?_
 intro n l h1 h2 ha hc
 simp only [az,gT] at ha
 simp only [ak,cE] at hc
 obtain ⟨g1,g2,g3⟩:=h2 ha.2 (by omega)
 obtain ⟨k1,k2,k3⟩:=h1 ha.1.2 (by omega)
 have hw:(na n.name).length≤1000:=by
  unfold na
  split
  · have:=ha.1.1.1; omega
  · have:=rU (l:=u3) (m:=1000) (by decide) (nb n.name % 10); omega
 have hA:=iQ n.attrs [] ha.1.1.2.2.2 (fun _ h=>by cases h)
 have hr:=iB n.text
 have ht:=ha.1.1.2.1
 have hat:=ha.1.1.2.2.1
 have hm:=mc (n.kids.map bg)
 have hmc:=pf (n.kids.map bg)
 have hkl:=fk n.kids
 have hts:=lI bg 120 n.kids (fun x hx=>k3 _ (List.mem_map_of_mem hx))
 have hts2:120 * n.kids.length≤120 * 1000:=Nat.mul_le_mul_left _ (by omega)
 simp only [List.length_map] at hm
 simp only [List.length_nil,Nat.zero_add] at hA
 refine ⟨?_,?_,?_⟩
 · simp only [List.map_cons,az,gT]
   refine ⟨?_,g1⟩
   rw [eH]
   split
   · refine ⟨⟨hw,?_,hA.2,?_,?_⟩,kf k1⟩
     · simp only; omega
     · simp only; omega
     · simp only; omega
   · exact ⟨⟨by simp,by simp,by simp,by simp,by simp [ct]⟩,by simp [az]⟩
 · simp only [List.map_cons,ak,cE]
   rw [eH]
   split
   · simp only; omega
   · simp only [ak]; omega
 · intro x hx
   simp only [List.map_cons,List.mem_cons] at hx
   rcases hx with rfl | hx
   · rw [eH]
     split
     · simp
     · simp only; omega
   · exact g3 x hx
theorem sO (l:List Node):az mH (cc l)∧ak (cc l)≤40∧ct (cc l)≤4800:=by
 have hc:=mS l 40
 obtain ⟨h1,h2,h3⟩:=ur (bD l 40).1 (ta l 40) (by omega)
 have hm:=mc ((bD l 40).1.map bg)
 have hmc:=pf ((bD l 40).1.map bg)
 have ht:=lI bg 120 (bD l 40).1 (fun x hx=>h3 _ (List.mem_map_of_mem hx))
 have hl:=fk (bD l 40).1
 have:120 * (bD l 40).1.length≤120 * 40:=Nat.mul_le_mul_left _ (by omega)
 exact ⟨kf h1,by unfold cc; omega,by unfold cc; omega⟩
theorem Bc:∀ l:List Node,az mH l→ct l≤1000000→az gq l:=by
 refine a8 (fun _ _=>by simp [az]) ?_
 intro n l h1 h2 ha ht
 simp only [az,gT] at ha ⊢
 have hc:ct (n::l)=n.text.length + ct l:=by simp [ct]
 obtain ⟨⟨⟨a1,a2,a3,a4,a5⟩,a6⟩,a7⟩:=ha
 exact ⟨⟨⟨by omega,by omega,by omega,fun a h=>by have:=a3 a h; omega⟩,h1 a6 a5⟩,h2 a7 (by omega)⟩
theorem s6 (s:Str):Fn Tryz.prog se [.str s] (.bool (named s)):=by
 refine Fn.of_image mixed sL sy rfl fun ho=>?_
 unfold kA
 simp only [oks,ok,and_true] at ho
 simp (disch:=omega) [-List.reduceReplicate]
 generalize hr:named s=r
 refine ax (fun k:Nat=>⟨[(0,.str s),(7,.int .i64 s.length),(8,.int .i64 k)],[]⟩) (fun k=>k≤s.length∧(if k=0 then named s else (s.drop k).all bJ)=r) (fun k=>s.length - k) [] _ 0 rfl (by simp) (by simp [hr]) ?_
 rintro k ⟨hk,hi⟩ N hN
 by_cases hk0:k=0
 · subst hk0
   simp only [if_true] at hi
   cases s with
   | nil=>simp [named] at hi; subst hi; simp (disch:=omega) [-List.reduceReplicate]
   | cons b t=>
     have hb:=b.toNat_lt
     simp only [named,List.all_cons] at hi
     replace hi:=hid hi
     simp (disch:=omega) [-List.reduceReplicate]
     repeat' (first | (refine BrKd.mk (fun h=>?_) (fun h=>?_)<;>simp (disch:=omega) [*]) | (refine BrK.mk (fun h=>?_) (fun h=>?_)<;>simp (disch:=omega) [*]))
     all_goals first
      | (refine hN.out _<|Nx.mk 1 (by simp [*]) ⟨by simp,?_⟩ (by simp); have hi:=hi.out; simpa (disch:=omega) [bJ,dF,decide_eq_true,decide_eq_false, *] using hi)
      | (have hi:=hi.out; simpa (disch:=omega) [bJ,dF,decide_eq_true,decide_eq_false, *] using hi)
      | omega
 · simp only [if_neg hk0] at hi
   rcases place s k hk with ⟨he,hd⟩ | ⟨hlt,x,hx,hd⟩<;>rw [hd] at hi<;>replace hi:=hid hi
   · simp (disch:=omega) [-List.reduceReplicate,he]
     have hi:=hi.out
     have:s≠[]:=by intro h; subst h; simp at he; omega
     simpa [this] using hi
   · have hb:=x.toNat_lt
     simp only [List.all_cons] at hi
     simp (disch:=omega) [-List.reduceReplicate,hx]
     repeat' (first | (refine BrKd.mk (fun h=>?_) (fun h=>?_)<;>simp (disch:=omega) [*]) | (refine BrK.mk (fun h=>?_) (fun h=>?_)<;>simp (disch:=omega) [*]))
     all_goals first
      | omega
      | (refine hN.out _<|Nx.mk (k + 1) (by simp [*]) ⟨by omega,?_⟩ (by omega); have hi:=hi.out; rw [if_neg (by omega)]; simpa (disch:=omega) [bJ,dF,decide_eq_true,decide_eq_false, *] using hi)
      | (have hi:=hi.out; simpa (disch:=omega) [bJ,dF,decide_eq_true,decide_eq_false, *] using hi)
theorem uB (s:Str):Fn Tryz.prog tZ [.str s] (.bool (tC s)):=by
 refine Fn.of_image mixed uo uj rfl fun ho=>?_
 unfold m1
 simp only [oks,ok,and_true] at ho
 simp (disch:=omega) [-List.reduceReplicate,tC]
 repeat' (first | (refine BrKd.mk (fun h=>?_) (fun h=>?_)<;>simp (disch:=omega) [*]) | (refine BrK.mk (fun h=>?_) (fun h=>?_)<;>simp (disch:=omega) [*]))
theorem px (s:Str):Fn Tryz.prog vY [.str s] (.bool (raw s)):=by
 refine Fn.of_image mixed wy wv rfl fun ho=>?_
 unfold pC
 simp only [oks,ok,and_true] at ho
 simp (disch:=omega) [-List.reduceReplicate,raw]
 repeat' (first | (refine BrKd.mk (fun h=>?_) (fun h=>?_)<;>simp (disch:=omega) [*]) | (refine BrK.mk (fun h=>?_) (fun h=>?_)<;>simp (disch:=omega) [*]))
theorem cN (p:Policy) (s:Str):Fn Tryz.prog ny [p.v,.str s] (.tup [((bq p.elements s).getD .zero).v,.bool (bq p.elements s).isSome]):=by
 refine Fn.of_image mixed od nQ rfl fun ho=>?_
 unfold io
 simp only [oks,ok,and_true] at ho
 have hlen:p.elements.length≤140737488355328:=by have:=ho.1; simp at this; exact this.2.1.1
 clear ho
 simp (disch:=omega) [-List.reduceReplicate]
 generalize hr:bq p.elements s=r
 refine ax (fun k:Nat=>⟨[(1,.str s),(4,.ptr 0 0),(9,.seq 3 (p.elements.map Allowed.v)),(10,.int .i64 p.elements.length),(11,.int .i64 k)],[some (.box [.str [],.nil 1,.nil 5])]⟩) (fun k=>k≤p.elements.length∧bq (p.elements.drop k) s=r) (fun k=>p.elements.length - k) [] _ 0 rfl (by simp [*]) (by simp [*]) ?_
 rintro k ⟨hk,hi⟩ N hN
 rcases place p.elements k hk with ⟨he,hd⟩ | ⟨hlt,x,hx,hd⟩<;>rw [hd] at hi<;>replace hi:=hid hi
 · simp (disch:=omega) [-List.reduceReplicate,he]
   simp [←hi.out,bq,Allowed.zero]
 · simp (disch:=omega) [-List.reduceReplicate,hx]
   repeat' (first | (refine BrKd.mk (fun h=>?_) (fun h=>?_)<;>simp (disch:=omega) [*]) | (refine BrK.mk (fun h=>?_) (fun h=>?_)<;>simp (disch:=omega) [*]))
   all_goals first
    | (refine hN.out _<|Nx.mk (k + 1) (by simp [*]) ⟨by omega,?_⟩ (by omega); simpa (disch:=omega) [*,decide_eq_true,decide_eq_false,bq] using hi.out)
    | (have hi:=hi.out; simp [bq, *] at hi; subst hi; simp [*])
end Go.Abs.F
end
