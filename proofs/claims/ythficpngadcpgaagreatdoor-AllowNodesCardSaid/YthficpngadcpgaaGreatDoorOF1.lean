/-
  What the first functions of the document's packages answer. No condition.
  What the next functions of the document's packages answer: constraints. No condition.
  What strainerref12.Good answers: a constraint that may be. No condition.
  What strainerref13's functions answer: the lists of a policy that may be. No condition.
  What strainerref13's rules and Good answer: a policy that may be. No condition.
  What the library's functions that guard calls answer: indexes, prefixes, cuts. No condition.
  Nodes; what guard.Any answers. No condition.
  What strainerref13's and strainerref21's functions answer: lists, patterns, rules, guards. No condition.
  What strainerref15's functions answer: which nodes a policy allows. No condition.
  What strainerref01's functions answer: characters. No condition.
  What strainerref03's functions answer that make nodes: cut, named, merged. No condition.
  What strainerref03's functions answer that make nodes that may be. No condition.
  What strainerref03's Good answers: nodes that may be. No condition.
  What strainerref06's functions answer that make stable nodes. No condition.
  What strainerref06's Good answers: stable nodes. No condition.
  What strainerref03's May, strainerref06's Stable and strainerref15's Nodes answer. No condition.
  How large strainerref06's Good makes nodes; what strainerlaw21's GuardMeek comes to: what a guard allows is not dangerous. No condition.
  What the program's functions for names, policies and lists answer. No condition.
-/
import Derived.Test.YthficpngadcpgaaGreatDoorOCodeA
import Derived.Lib.Bytealg
import Derived.Test.YthficpngadcpgaaGreatDoorOCodeW
set_option linter.unusedVariables false
set_option linter.unusedSimpArgs false
set_option linter.unusedSectionVars false
section
set_option maxHeartbeats 4000000
set_option maxRecDepth 100000
namespace Go.Abs.F
open Go.Proofs
attribute [-simp] getElem?_pos
theorem mixed:Tryz.prog.follows .mixedOrders=true:=by kernel_rfl
abbrev Str:=List UInt8
def small (b:UInt8):Bool:=97≤b.toNat && b.toNat≤122
theorem jx (b:UInt8):Fn Tryz.prog yu [.int .u8 b.toNat] (.bool (small b)):=by
 refine Fn.of_image mixed zL y8 rfl fun ho=>?_
 unfold jF
 simp only [oks,ok,and_true] at ho
 simp (disch:=omega) [-List.reduceReplicate,jF,small]
 repeat' (first | (refine BrKd.mk (fun h=>?_) (fun h=>?_)<;>simp (disch:=omega) [*]) | (refine BrK.mk (fun h=>?_) (fun h=>?_)<;>simp (disch:=omega) [*]))
def c9 (b:UInt8):Bool:=small b || (48≤b.toNat && b.toNat≤57) || decide (b.toNat=45)
def named:Str→Bool
 | []=>false
 | b::s=>small b && (b::s).all c9
theorem fq (s:Str):Fn Tryz.prog yw [.str s] (.bool (named s)):=by
 refine Fn.of_image mixed zN za rfl fun ho=>?_
 unfold fy
 simp only [oks,ok,and_true] at ho
 cases s with
 | nil=>simp (disch:=omega) [-List.reduceReplicate,fy,named]
 | cons b t=>
   simp (disch:=omega) [-List.reduceReplicate,fy]
   refine ac (jx b) rfl fun _=>?_
   simp (disch:=omega) [-List.reduceReplicate]
   generalize hr:named (b::t)=r
   generalize hs:b::t=s at *
   refine ak (fun k:Nat=>⟨[(0,.str s),(3,.bool (small b)),(4,.int .i64 k)],[]⟩) (fun k=>k≤s.length∧(small b && (s.drop k).all c9)=r) (fun k=>s.length - k) [] _ 0 rfl (by simp) (by simp [←hr,←hs,named]) ?_
   rintro k ⟨hk,hi⟩ N hN
   rcases place s k hk with ⟨he,hd⟩ | ⟨hlt,x,hx,hd⟩<;>rw [hd] at hi<;>replace hi:=hid hi
   · simp (disch:=omega) [-List.reduceReplicate,he]
     simpa using hi.out
   · simp (disch:=omega) [-List.reduceReplicate,hx]
     repeat' (first | (refine BrKd.mk (fun h=>?_) (fun h=>?_)<;>simp (disch:=omega) [*]) | (refine BrK.mk (fun h=>?_) (fun h=>?_)<;>simp (disch:=omega) [*]) | (refine ac (jx _) rfl (fun _=>?_)<;>simp (disch:=omega) [*]) | (refine al (jx _) rfl ?_<;>simp (disch:=omega) [*]))
     all_goals first
      | (refine hN.out _<|Nx.mk (k + 1) (by simp [*]) ⟨by omega,?_⟩ (by omega); simpa (disch:=omega) [*,decide_eq_true,decide_eq_false,c9] using hi.out)
      | (first | simpa (disch:=omega) [*,decide_eq_true,decide_eq_false,c9] using hi.out.symm | simpa (disch:=omega) [*,decide_eq_true,decide_eq_false,c9] using hi.out)
def plain (s:Str):Bool:=named s && s.length≤16
theorem fo (s:Str):Fn Tryz.prog yh [.str s] (.bool (plain s)):=by
 refine Fn.of_image mixed zA yS rfl fun ho=>?_
 unfold jC
 simp only [oks,ok,and_true] at ho
 simp (disch:=omega) [-List.reduceReplicate,jC,plain]
 repeat' (first | (refine BrKd.mk (fun h=>?_) (fun h=>?_)<;>simp (disch:=omega) [*]) | (refine BrK.mk (fun h=>?_) (fun h=>?_)<;>simp (disch:=omega) [*]) | (refine ac (fq _) rfl (fun _=>?_)<;>simp (disch:=omega) [*]) | (refine al (fq _) rfl ?_<;>simp (disch:=omega) [*]))
structure Attr where
 name:Str
 value:Str
structure Constraint where
 kind:Int
 words:List Str
 regex:Str
structure Rule where
 name:Str
 value:Constraint
 req:Bool
structure Allowed where
 name:Str
 kids:List Str
 rules:List Rule
structure Policy where
 top:List Str
 elements:List Allowed
 unwrap:List Str
@[simp] def Attr.v (a:Attr):V:=.strct [.str a.name,.str a.value]
def Constraint.c (c:Constraint):List V:=[.int .i64 c.kind,.seq 1 (c.words.map .str),.str c.regex]
@[simp] def Constraint.v (c:Constraint):V:=.strct c.c
@[simp] def Rule.v (r:Rule):V:=.strct [.str r.name,.int .i64 r.value.kind,.seq 1 (r.value.words.map .str),.str r.value.regex,.bool r.req]
@[simp] def Allowed.v (a:Allowed):V:=.strct [.str a.name,.seq 1 (a.kids.map .str),.seq 5 (a.rules.map Rule.v)]
@[simp] def Policy.v (p:Policy):V:=.strct [.seq 1 (p.top.map .str),.seq 3 (p.elements.map Allowed.v),.seq 1 (p.unwrap.map .str)]
attribute [simp] Constraint.c
def aZ:List Allowed→Str→Option Allowed
 | [],_=>none
 | e::l,s=>if e.name=s then some e else aZ l s
def Allowed.zero:Allowed:=⟨[],[],[]⟩
theorem gQ (p:Policy) (s:Str):Fn Tryz.prog Cc [p.v,.str s] (.tup [((aZ p.elements s).getD .zero).v,.bool (aZ p.elements s).isSome]):=by
 refine Fn.of_image mixed Dh CO rfl fun ho=>?_
 unfold kV
 simp only [oks,ok,and_true] at ho
 simp (disch:=omega) [-List.reduceReplicate,kV]
 generalize hr:aZ p.elements s=r
 refine ak (fun k:Nat=>⟨[(1,.str s),(2,.ptr 0 0),(4,.ptr 1 0),(6,.int .i64 k)],[some (.box [.seq 1 (p.top.map .str),.seq 3 (p.elements.map Allowed.v),.seq 1 (p.unwrap.map .str)]),some (.box [.str [],.nil 1,.nil 5])]⟩) (fun k=>k≤p.elements.length∧aZ (p.elements.drop k) s=r) (fun k=>p.elements.length - k) [] _ 0 rfl (by simp [*]) (by simp [*]) ?_
 rintro k ⟨hk,hi⟩ N hN
 rcases place p.elements k hk with ⟨he,hd⟩ | ⟨hlt,x,hx,hd⟩<;>rw [hd] at hi<;>replace hi:=hid hi
 · simp (disch:=omega) [-List.reduceReplicate,he]
   simp [←hi.out,aZ,Allowed.zero]
 · have hlen:p.elements.length≤140737488355328:=by have:=ho.1; simp at this; exact this.2.1.1
   simp (disch:=omega) [-List.reduceReplicate,hx]
   repeat' (first | (refine BrKd.mk (fun h=>?_) (fun h=>?_)<;>simp (disch:=omega) [*]) | (refine BrK.mk (fun h=>?_) (fun h=>?_)<;>simp (disch:=omega) [*]))
   all_goals first
    | (refine hN.out _<|Nx.mk (k + 1) (by simp [*]) ⟨by omega,?_⟩ (by omega); simpa (disch:=omega) [*,decide_eq_true,decide_eq_false,aZ] using hi.out)
    | (have hi:=hi.out; simp [aZ, *] at hi; subst hi; simp [*])
def dC (s:Str):Str × Bool:=match s[s.length - 1]? with
 | some x=>if x.toNat=42 then (s.take (s.length - 1),true) else (s,false)
 | none=>(s,false)
theorem re (s:Str):Fn Tryz.prog B5 [.str s] (.tup [.str (dC s).1,.bool (dC s).2]):=by
 refine Fn.of_image mixed Da CH rfl fun ho=>?_
 unfold gT
 simp only [oks,ok,and_true] at ho
 by_cases hp:0 < s.length
 · obtain ⟨x,hx⟩:=aO (l:=s) (k:=s.length - 1) (by omega)
   simp (disch:=omega) [-List.reduceReplicate,gT]
   simp [hx]
   repeat' (first | (refine BrKd.mk (fun h=>?_) (fun h=>?_)<;>simp (disch:=omega) [*]) | (refine BrK.mk (fun h=>?_) (fun h=>?_)<;>simp (disch:=omega) [*]))
   all_goals first | omega | simp [dC, *]
 · have:s=[]:=by cases s; rfl; simp at hp
   subst this
   simp (disch:=omega) [-List.reduceReplicate,gT,dC]
def hasS:List Str→Str→Bool
 | [],_=>false
 | x::l,s=>if x=s then true else hasS l s
theorem fW (l:List Str) (s:Str):Fn Tryz.prog EY [.seq 1 (l.map .str),.str s] (.bool (hasS l s)):=by
 refine Fn.of_image mixed FJ Fm rfl fun ho=>?_
 unfold m7
 simp only [oks,ok,and_true] at ho
 simp (disch:=omega) [-List.reduceReplicate,m7]
 generalize hr:hasS l s=r
 refine ak (fun k:Nat=>⟨[(0,.seq 1 (l.map .str)),(1,.str s),(5,.int .i64 k)],[]⟩) (fun k=>k≤l.length∧hasS (l.drop k) s=r) (fun k=>l.length - k) [] _ 0 rfl (by simp [*]) (by simp [*]) ?_
 rintro k ⟨hk,hi⟩ N hN
 rcases place l k hk with ⟨he,hd⟩ | ⟨hlt,x,hx,hd⟩<;>rw [hd] at hi<;>replace hi:=hid hi
 · simp (disch:=omega) [-List.reduceReplicate,he]
   simpa [hasS] using hi.out
 · have hlen:l.length≤140737488355328:=by have:=ho.1.1; simpa using this
   simp (disch:=omega) [-List.reduceReplicate,hx]
   repeat' (first | (refine BrKd.mk (fun h=>?_) (fun h=>?_)<;>simp (disch:=omega) [*]) | (refine BrK.mk (fun h=>?_) (fun h=>?_)<;>simp (disch:=omega) [*]))
   all_goals first
    | (refine hN.out _<|Nx.mk (k + 1) (by simp [*]) ⟨by omega,?_⟩ (by omega); simpa (disch:=omega) [*,decide_eq_true,decide_eq_false,hasS] using hi.out)
    | (first | simpa (disch:=omega) [*,decide_eq_true,decide_eq_false,hasS] using hi.out.symm | simpa (disch:=omega) [*,decide_eq_true,decide_eq_false,hasS] using hi.out)
def sign (b:UInt8):Bool:=32≤b.toNat && b.toNat≤126
theorem ju (s:Str):Fn Tryz.prog yj [.str s] (.bool (s.all sign)):=by
 refine Fn.of_image mixed zC yU rfl fun ho=>?_
 unfold jE
 simp only [oks,ok,and_true] at ho
 simp (disch:=omega) [-List.reduceReplicate,jE]
 generalize hr:s.all sign=r
 refine ak (fun k:Nat=>⟨[(0,.str s),(3,.int .i64 k)],[]⟩) (fun k=>k≤s.length∧(s.drop k).all sign=r) (fun k=>s.length - k) [] _ 0 rfl (by simp [*]) (by simp [*]) ?_
 rintro k ⟨hk,hi⟩ N hN
 rcases place s k hk with ⟨he,hd⟩ | ⟨hlt,x,hx,hd⟩<;>rw [hd] at hi<;>replace hi:=hid hi
 · simp (disch:=omega) [-List.reduceReplicate,he]
   simpa using hi.out
 · simp (disch:=omega) [-List.reduceReplicate,hx]
   repeat' (first | (refine BrKd.mk (fun h=>?_) (fun h=>?_)<;>simp (disch:=omega) [*]) | (refine BrK.mk (fun h=>?_) (fun h=>?_)<;>simp (disch:=omega) [*]))
   all_goals first
    | (refine hN.out _<|Nx.mk (k + 1) (by simp [*]) ⟨by omega,?_⟩ (by omega); simpa (disch:=omega) [*,decide_eq_true,decide_eq_false,sign] using hi.out)
    | (first | simpa (disch:=omega) [*,decide_eq_true,decide_eq_false,sign] using hi.out.symm | simpa (disch:=omega) [*,decide_eq_true,decide_eq_false,sign] using hi.out)
def scheme (s:Str):Bool:=s.all small && (1≤s.length && s.length≤16)
theorem mT (s:Str):Fn Tryz.prog vT [.str s] (.bool (scheme s)):=by
 refine Fn.of_image mixed wT ww rfl fun ho=>?_
 unfold iJ
 simp only [oks,ok,and_true] at ho
 simp (disch:=omega) [-List.reduceReplicate,iJ]
 generalize hr:scheme s=r
 refine ak (fun k:Nat=>⟨[(0,.str s),(3,.int .i64 k)],[]⟩) (fun k=>k≤s.length∧((s.drop k).all small && (1≤s.length && s.length≤16))=r) (fun k=>s.length - k) [] _ 0 rfl (by simp [*]) (by simp [*,←hr,scheme]) ?_
 rintro k ⟨hk,hi⟩ N hN
 rcases place s k hk with ⟨he,hd⟩ | ⟨hlt,x,hx,hd⟩<;>rw [hd] at hi<;>replace hi:=hid hi
 · simp (disch:=omega) [-List.reduceReplicate,he]
   repeat' (first | (refine BrKd.mk (fun h=>?_) (fun h=>?_)<;>simp (disch:=omega) [*]) | (refine BrK.mk (fun h=>?_) (fun h=>?_)<;>simp (disch:=omega) [*]))
   all_goals (first | simpa (disch:=omega) [*,decide_eq_true,decide_eq_false,] using hi.out.symm | simpa (disch:=omega) [*,decide_eq_true,decide_eq_false,] using hi.out)
 · simp (disch:=omega) [-List.reduceReplicate,hx]
   repeat' (first | (refine BrKd.mk (fun h=>?_) (fun h=>?_)<;>simp (disch:=omega) [*]) | (refine BrK.mk (fun h=>?_) (fun h=>?_)<;>simp (disch:=omega) [*]))
   all_goals first
    | (refine hN.out _<|Nx.mk (k + 1) (by simp [*]) ⟨by omega,?_⟩ (by omega); simpa (disch:=omega) [*,decide_eq_true,decide_eq_false,small] using hi.out)
    | (first | simpa (disch:=omega) [*,decide_eq_true,decide_eq_false,small] using hi.out.symm | simpa (disch:=omega) [*,decide_eq_true,decide_eq_false,small] using hi.out)
theorem cn {α:Type} {l:List α} {k:Nat} {x:α} (h:l[k]?=some x):l.take (k + 1)=l.take k++[x]:=by rw [List.take_add_one,h]; rfl
theorem take_drop {α:Type} {l:List α} {k j:Nat} {x:α} (h:l[j]?=some x) (hj:j < k):(l.take k).drop j=x::(l.take k).drop (j + 1):=
 sT (by rw [List.getElem?_take,if_pos hj,h])
def wordOK (sch:Bool) (x:Str):Bool:=if sch then scheme x else (x.all sign && decide (x.length≤40))
def wordsGo (sch:Bool):List Str→List Str→Bool
 | _,[]=>true
 | pre,x::l=>wordOK sch x && (!(hasS pre x) && wordsGo sch (pre++[x]) l)
def words (l:List Str) (sch:Bool):Bool:=wordsGo sch [] l && decide (l.length≤8)
theorem Af (l:List Str) (sch:Bool):Fn Tryz.prog yi [.seq 1 (l.map .str),.bool sch] (.bool (words l sch)):=by
 refine Fn.of_image mixed zB yT rfl fun ho=>?_
 unfold jD
 simp only [oks,ok,and_true] at ho
 have hlen:l.length≤140737488355328:=by have:=ho.1; simpa using this
 simp (disch:=omega) [-List.reduceReplicate,jD]
 generalize hr:words l sch=r
 refine ak (fun k:Nat=>⟨[(0,.seq 1 (l.map .str)),(1,.bool sch),(5,.int .i64 k)],[]⟩) (fun k=>k≤l.length∧(wordsGo sch (l.take k) (l.drop k) && decide (l.length≤8))=r) (fun k=>l.length - k) [] _ 0 rfl (by simp [*]) (by simp [*,←hr,words]) ?_
 rintro k ⟨hk,hi⟩ N hN
 rcases place l k hk with ⟨he,hd⟩ | ⟨hlt,x,hx,hd⟩<;>rw [hd] at hi<;>replace hi:=hid hi
 · simp (disch:=omega) [-List.reduceReplicate,he]
   simpa [wordsGo] using hi.out
 · rcases Bool.eq_false_or_eq_true sch with hsch | hsch
   all_goals
    simp (disch:=omega) [-List.reduceReplicate,hx]
    repeat' (first | (refine BrKd.mk (fun h=>?_) (fun h=>?_)<;>simp (disch:=omega) [*]) | (refine BrK.mk (fun h=>?_) (fun h=>?_)<;>simp (disch:=omega) [*]) | (refine ac (mT _) rfl (fun _=>?_)<;>simp (disch:=omega) [*]) | (refine al (mT _) rfl ?_<;>simp (disch:=omega) [*]) | (refine ac (ju _) rfl (fun _=>?_)<;>simp (disch:=omega) [*]) | (refine al (ju _) rfl ?_<;>simp (disch:=omega) [*]))
    all_goals first
     | (first | simpa (disch:=omega) [*,decide_eq_true,decide_eq_false,wordOK,wordsGo] using hi.out.symm | simpa (disch:=omega) [*,decide_eq_true,decide_eq_false,wordOK,wordsGo] using hi.out)
     | (have hi:=hi.out; simp (disch:=omega) [wordOK,wordsGo, *,decide_eq_true,decide_eq_false] at hi; replace hi:=hid hi
        refine ak (fun j:Nat=>⟨[(0,.seq 1 (l.map .str)),(1,.bool sch),(5,.int .i64 k),(8,.int .i64 j)],[]⟩) (fun j=>j≤k∧hasS (l.take k) x=hasS ((l.take k).drop j) x) (fun j=>k - j) [] _ 0 rfl (by simp [*]) (by simp) ?_
        rintro j ⟨hj,hi2⟩ N2 hN2
        by_cases hlt2:j < k
        · obtain ⟨y,hy⟩:=aO (l:=l) (k:=j) (by omega)
          rw [take_drop hy hlt2,hasS] at hi2; replace hi2:=hid hi2
          simp (disch:=omega) [*]
          repeat' (first | (refine BrKd.mk (fun h=>?_) (fun h=>?_)<;>simp (disch:=omega) [*]) | (refine BrK.mk (fun h=>?_) (fun h=>?_)<;>simp (disch:=omega) [*]))
          all_goals first
           | (refine hN2.out _<|Nx.mk (j + 1) (by simp [*]) ⟨by omega,?_⟩ (by omega); rw [hi2.out,if_neg h])
           | (have hi2:=hi2.out; rw [if_pos h] at hi2; have hi:=hi.out; simp [hi2] at hi; simp [hi])
        · have:(l.take k).drop j=[]:=by simp; omega
          rw [this,hasS] at hi2
          have hi:=hi.out; simp [hi2] at hi; replace hi:=hid hi
          simp (disch:=omega) [*]
          refine hN.out _<|Nx.mk (k + 1) (by simp [*]) ⟨by omega,?_⟩ (by omega)
          rw [cn hx]; simpa [*] using hi.out)
def sumB:Str→Nat
 | []=>0
 | b::s=>b.toNat + sumB s
def pool12:List Str:=[[97,42],[40,97,124,98,41,43],[91,48,45,57,93,43],[120,46,121],[91,94,97,93,42],[],[97,124,98,98,124,99]]
def pickW (sch:Bool):List Str→List Str→List Str
 | out,[]=>out
 | out,w::l=>pickW sch (if words (out++[w]) sch then out++[w] else out) l
def kind12 (k:Int):Int:=1 + (if k < 0 then -(k + 1) else k) % 4
def good12 (c:Constraint):Constraint:=
 let k:=kind12 c.kind
 if k=4 then ⟨4,[],(pool12[sumB c.regex % 7]?).getD []⟩
 else
  let ws:=if k=1 then [] else pickW (decide (k=3)) [] (c.words.take 4)
  ⟨k,if k=2∧ws=[] then [[120]] else ws,[]⟩
theorem kind12_range (k:Int):1≤kind12 k∧kind12 k≤4:=by
 unfold kind12
 have h:0≤(if k < 0 then -(k + 1) else k):=by split<;>omega
 generalize (if k < 0 then -(k + 1) else k)=m at h
 omega
theorem pickW_len (sch:Bool):∀ (l out:List Str),(pickW sch out l).length≤out.length + l.length
 | [],out=>by simp [pickW]
 | w::l,out=>by
   simp only [pickW]
   split
   · have:=pickW_len sch l (out++[w]); simp at this ⊢; omega
   · have:=pickW_len sch l out; simp at this ⊢; omega
theorem DM (c:Constraint) (hR:c.regex.length≤1125899906842624):Fn Tryz.prog Cd [c.v] (good12 c).v:=by
 refine Fn.of_image mixed Di CP rfl fun ho=>?_
 unfold kW
 simp only [oks,ok,and_true] at ho
 obtain ⟨kd,ws,rx⟩:=c
 simp at ho hR
 generalize hg:good12 ⟨kd,ws,rx⟩=g
 have hrg:=kind12_range kd
 have hgd:g=good12 ⟨kd,ws,rx⟩:=hg.symm
 simp only [good12] at hgd
 simp (disch:=omega) [-List.reduceReplicate,kW]
 refine BrKd.mk (fun h=>?_) (fun h=>?_)
 all_goals
  first
   | (have e:1 + -(kd + 1) % 4=kind12 kd:=by rw [kind12,if_pos h])
   | (have e:1 + kd % 4=kind12 kd:=by rw [kind12,if_neg h])
  simp (disch:=omega) [-List.reduceReplicate]
  rw [e]
  clear e
  generalize kind12 kd=q at *
  refine BrKd.mk (fun hq=>?_) (fun hq=>?_)
  · simp (disch:=omega) [-List.reduceReplicate]
    refine ak (fun (p:Nat × Nat)=>⟨[(1,.ptr 0 0),(2,.ptr 1 0),(4,.ptr 2 0),(5,.seq 1 (pool12.map .str)),(6,.int .i64 p.2),(7,.int .i64 p.1)],
     [some (.box [.int .i64 kd,.seq 1 (ws.map .str),.str rx]),some (.box [.int .i64 0,.nil 1,.str []]),some (.box [.int .i64 q,.nil 1,.str []])]⟩)
     (fun p=>p.1≤rx.length∧p.2≤255 * p.1∧p.2 + sumB (rx.drop p.1)=sumB rx) (fun p=>rx.length - p.1) [] _ (0,0) rfl (by simp [pool12]) (by simp) ?_
    rintro ⟨k,n⟩ ⟨hk,hn,hi⟩ N hN
    simp only at hk hn hi
    rcases place rx k hk with ⟨he,hd⟩ | ⟨hlt,x,hx,hd⟩<;>rw [hd,sumB] at hi
    · have hm:n % 7 < 7:=Nat.mod_lt _ (by decide)
      have ht:((n:Int) % 7).toNat=n % 7:=by omega
      obtain ⟨y,hy⟩:=aO (l:=pool12) (k:=n % 7) hm
      have hpl:pool12.length=7:=rfl
      subst hq
      rw [if_pos rfl] at hgd
      simp only [Nat.add_zero] at hi
      simp (disch:=omega) [-List.reduceReplicate,he,hpl,ht,hy]
      rw [hi] at hy
      simp [hgd,hy]
    · have hx8:=x.toNat_lt
      simp (disch:=omega) [-List.reduceReplicate,hx]
      refine hN.out _<|Nx.mk (k + 1,n + x.toNat) (by simp) ⟨by simp only; omega,by simp only; omega,by simp only; omega⟩ (by simp only; omega)
  · rw [if_neg hq] at hgd
    generalize hw:(if q=1 then [] else pickW (decide (q=3)) [] (List.take 4 ws))=w at hgd
    have hl4:(List.take 4 ws).length=min 4 ws.length:=List.length_take
    simp (disch:=omega) [-List.reduceReplicate]
    refine ak (fun (p:Nat × List Str)=>⟨[(1,.ptr 0 0),(2,.ptr 1 0),(4,.ptr 2 0),(8,.int .i64 p.1)],
     [some (.box [.int .i64 kd,.seq 1 (ws.map .str),.str rx]),some (.box [.int .i64 0,.nil 1,.str []]),some (.box [.int .i64 q,.ref 3 p.2.length,.str []]),some (.arr aL 1 (p.2.map .str))]⟩)
     (fun p=>p.1≤(List.take 4 ws).length∧p.2.length≤p.1∧(if q=1 then p.2 else pickW (decide (q=3)) p.2 ((List.take 4 ws).drop p.1))=w) (fun p=>(List.take 4 ws).length - p.1) [.b 2 1 aL 1] _ (0,[]) rfl (by simp) (by simp [hw]) ?_
    rintro ⟨k,out⟩ ⟨hk,hol,hi⟩ N hN
    simp only at hk hol hi
    by_cases hq1:q=1
    · rw [if_pos hq1] at hi
      subst hi
      simp (disch:=omega) [-List.reduceReplicate,hq1]
      repeat' (first | (refine BrKd.mk (fun h=>?_) (fun h=>?_)<;>simp (disch:=omega) [*]) | (refine BrK.mk (fun h=>?_) (fun h=>?_)<;>simp (disch:=omega) [*]))
      all_goals first | omega | simp [hgd,hq1]
    · rw [if_neg hq1] at hi
      rcases place (List.take 4 ws) k hk with ⟨he,hd⟩ | ⟨hlt,x,hx,hd⟩<;>rw [hd,pickW] at hi
      · subst hi
        clear hw
        simp (disch:=omega) [-List.reduceReplicate]
        repeat' (first | (refine BrKd.mk (fun h=>?_) (fun h=>?_)<;>simp (disch:=omega) [*]) | (refine BrK.mk (fun h=>?_) (fun h=>?_)<;>simp (disch:=omega) [*]))
        all_goals first | omega | (cases out<;>simp_all) | simp [*]
      · have hx2:ws[k]?=some x:=by rw [List.getElem?_take] at hx; simpa [show k < 4 by omega] using hx
        replace hi:=hid hi
        simp (disch:=omega) [-List.reduceReplicate,hx2,hq1]
        refine ac (by simpa using Af (out++[x]) (decide (q=3))) rfl fun _=>?_
        simp (disch:=omega) [-List.reduceReplicate]
        refine BrK.mk (fun hb=>?_) (fun hb=>?_)
        · simp (disch:=omega) [-List.reduceReplicate]
          refine hN.out _<|Nx.mk (k + 1,out++[x]) (by simp) ⟨by simp only; omega,by simp; omega,?_⟩ (by simp only; omega)
          have hi:=hi.out
          rw [if_pos hb] at hi
          simpa [hq1] using hi
        · simp (disch:=omega) [-List.reduceReplicate]
          refine hN.out _<|Nx.mk (k + 1,out) (by simp) ⟨by simp only; omega,by simp only; omega,?_⟩ (by simp only; omega)
          have hi:=hi.out
          rw [if_neg (by simp [hb])] at hi
          simpa [hq1] using hi
theorem L4 {P:Program} {d f vs us} {K:St→Prop} {σ:St} {r:V} (h:Fn P f us r) (hf:cg (jk r)=true) (k:ok (jk r)→K (σ.put d (jk r))):jL (Cn P) d f vs us K σ:=ac (Fn.jk h) hf k
theorem ND {l:List V} {sz:Nat}:cg (if l=[] then V.seq sz l else V.junk)=true:=by split<;>simp [cg, *]
theorem NC {α:Type} {f:α→V} {l:List α} {sz:Nat}:cg (if l=[] then V.seq sz (l.map f) else V.junk)=true:=by split<;>simp [cg, *]
theorem Bk:∀ {l:List Str},cf (l.map V.str)=true
 | []=>rfl
 | _::l=>by simp [cf,cg,Bk (l:=l)]
attribute [simp] ND NC Bk
def BK (s:Str):Bool:=decide (s=[98,114]) || (decide (s=[104,114]) || (decide (s=[105,109,103]) || (decide (s=[105,110,112,117,116]) || decide (s=[119,98,114]))))
theorem ri (s:Str):Fn Tryz.prog Cl [.str s] (.bool (BK s)):=by
 refine Fn.of_image mixed Ds CZ rfl fun ho=>?_
 unfold kX
 simp only [oks,ok,and_true] at ho
 simp (disch:=omega) [-List.reduceReplicate,kX,BK]
 repeat' (first | (refine BrKd.mk (fun h=>?_) (fun h=>?_)<;>simp (disch:=omega) [*]) | (refine BrK.mk (fun h=>?_) (fun h=>?_)<;>simp (disch:=omega) [*]))
def raw (s:Str):Bool:=decide (s=[115,99,114,105,112,116]) || decide (s=[115,116,121,108,101])
theorem tJ (s:Str):Fn Tryz.prog E3 [.str s] (.bool (raw s)):=by
 refine Fn.of_image mixed FP Ft rfl fun ho=>?_
 unfold nf
 simp only [oks,ok,and_true] at ho
 simp (disch:=omega) [-List.reduceReplicate,nf,raw]
 repeat' (first | (refine BrKd.mk (fun h=>?_) (fun h=>?_)<;>simp (disch:=omega) [*]) | (refine BrK.mk (fun h=>?_) (fun h=>?_)<;>simp (disch:=omega) [*]))
def bj (o:Str):List Str:=
 if o=[112] then [[98,108,111,99,107,113,117,111,116,101],[100,105,118],[104,49],[104,50],[104,114],[108,105],[111,108],[112],[112,114,101],[116,97,98,108,101],[117,108]]
 else if o=[108,105] then [[108,105]]
 else if o=[100,116]∨o=[100,100] then [[100,100],[100,116]]
 else if o=[111,112,116,105,111,110] then [[111,112,116,105,111,110]]
 else if o=[116,100] then [[116,100],[116,114]]
 else if o=[116,114] then [[116,114]]
 else []
def jz (o b:Str):Bool:=hasS (bj o) b
theorem mU (o b:Str):Fn Tryz.prog vW [.str o,.str b] (.bool (jz o b)):=by
 refine Fn.of_image mixed wY wB rfl fun ho=>?_
 unfold iK
 simp only [oks,ok,and_true] at ho
 simp (disch:=omega) [-List.reduceReplicate,iK]
 generalize hr:jz o b=r
 have hlen:(bj o).length≤11:=by unfold bj; repeat' (split<;>try simp)
 repeat' (first | (refine BrKd.mk (fun h=>?_) (fun h=>?_)<;>simp (disch:=omega) [*]) | (refine BrK.mk (fun h=>?_) (fun h=>?_)<;>simp (disch:=omega) [*]))
 all_goals
  by_cases hc:bj o=[]
  · refine ak (fun k:Nat=>⟨[(1,.str b),(5,.nil 1),(6,.int .i64 0)],[]⟩) (fun k=>k=0) (fun k=>0 - k) [] _ 0 rfl (by revert hc; simp [*,bj]) rfl ?_
    rintro k rfl N hN
    simp [←hr,jz,hc,hasS]
  refine ak (fun k:Nat=>⟨[(1,.str b),(5,.seq 1 ((bj o).map .str)),(6,.int .i64 k)],[]⟩) (fun k=>k≤(bj o).length∧hasS ((bj o).drop k) b=r) (fun k=>(bj o).length - k) [] _ 0 rfl (by revert hc; simp [*,bj]) (by simp [←hr,jz]) ?_
  clear hr hc
  generalize bj o=l at *
  rintro k ⟨hk,hi⟩ N hN
  rcases place l k hk with ⟨he,hd⟩ | ⟨hlt,x,hx,hd⟩<;>rw [hd] at hi<;>replace hi:=hid hi
  · simp (disch:=omega) [-List.reduceReplicate,he]
    simpa [hasS] using hi.out
  · simp (disch:=omega) [-List.reduceReplicate,hx]
    repeat' (first | (refine BrKd.mk (fun h=>?_) (fun h=>?_)<;>simp (disch:=omega) [*]) | (refine BrK.mk (fun h=>?_) (fun h=>?_)<;>simp (disch:=omega) [*]))
    all_goals first
     | (refine hN.out _<|Nx.mk (k + 1) (by simp [*]) ⟨by omega,?_⟩ (by omega); simpa (disch:=omega) [*,decide_eq_true,decide_eq_false,hasS] using hi.out)
     | (first | simpa (disch:=omega) [*,decide_eq_true,decide_eq_false,hasS] using hi.out.symm | simpa (disch:=omega) [*,decide_eq_true,decide_eq_false,hasS] using hi.out)
def A1:List Str→List Str→Bool
 | _,[]=>true
 | pre,x::l=>!hasS pre x && A1 (pre++[x]) l
def J7 (l:List Str):Bool:=A1 [] l
theorem DG (l:List Str):Fn Tryz.prog B6 [.seq 1 (l.map .str)] (.bool (J7 l)):=by
 refine Fn.of_image mixed Db CI rfl fun ho=>?_
 unfold kT
 simp only [oks,ok,and_true] at ho
 have hlen:l.length≤140737488355328:=by have:=ho.1; simpa using this
 simp (disch:=omega) [-List.reduceReplicate,kT]
 generalize hr:J7 l=r
 refine ak (fun k:Nat=>⟨[(0,.seq 1 (l.map .str)),(3,.int .i64 k)],[]⟩) (fun k=>k≤l.length∧A1 (l.take k) (l.drop k)=r) (fun k=>l.length - k) [] _ 0 rfl (by simp [*]) (by simp [*,←hr,J7]) ?_
 rintro k ⟨hk,hi⟩ N hN
 rcases place l k hk with ⟨he,hd⟩ | ⟨hlt,x,hx,hd⟩<;>rw [hd] at hi<;>replace hi:=hid hi
 · simp (disch:=omega) [-List.reduceReplicate,he]
   simpa [A1] using hi.out
 · simp (disch:=omega) [-List.reduceReplicate,hx]
   refine al (by simpa [List.map_take] using fW (l.take k) x) rfl ?_
   simp (disch:=omega) [-List.reduceReplicate]
   refine BrK.mk (fun h=>?_) (fun h=>?_)
   · simp (disch:=omega) [-List.reduceReplicate]
     have hi:=hi.out
     simpa [A1,h] using hi
   · simp (disch:=omega) [-List.reduceReplicate]
     refine hN.out _<|Nx.mk (k + 1) (by simp [*]) ⟨by omega,?_⟩ (by omega)
     have hi:=hi.out
     simp [A1,h] at hi
     rw [cn hx]; exact hi
def gz:Str:=[35,116,101,120,116]
def ct:Str:=[35,99,111,109,109,101,110,116]
def oD (p:Policy) (par x:Str):Bool:=!(BK par || (raw par && !decide (x=gz))) && ((decide (x=gz) || decide (x=ct)) || ((aZ p.elements x).isSome && !jz par x))
def kids (p:Policy) (par:Str) (l:List Str):Bool:=l.all (oD p par) && J7 l
theorem DH (p:Policy) (par:Str) (l:List Str):Fn Tryz.prog B7 [p.v,.str par,.seq 1 (l.map .str)] (.bool (kids p par l)):=by
 refine Fn.of_image mixed Dc CJ rfl fun ho=>?_
 unfold kU
 simp only [oks,ok,and_true] at ho
 have hlen:l.length≤140737488355328:=by have:=ho.2.2.1; simpa using this
 simp (disch:=omega) [-List.reduceReplicate,kU]
 refine ac (ri _) rfl fun _=>?_
 simp (disch:=omega) [-List.reduceReplicate]
 refine ac (tJ _) rfl fun _=>?_
 simp (disch:=omega) [-List.reduceReplicate]
 generalize hr:kids p par l=r
 refine ak (fun k:Nat=>⟨[(1,.str par),(2,.seq 1 (l.map .str)),(3,.ptr 0 0),(7,.bool (BK par)),(8,.bool (raw par)),(9,.int .i64 k)],[some (.box [.seq 1 (p.top.map .str),.seq 3 (p.elements.map Allowed.v),.seq 1 (p.unwrap.map .str)])]⟩) (fun k=>k≤l.length∧((l.drop k).all (oD p par) && J7 l)=r) (fun k=>l.length - k) [] _ 0 rfl (by simp [*]) (by simp [*,←hr,kids]) ?_
 rintro k ⟨hk,hi⟩ N hN
 rcases place l k hk with ⟨he,hd⟩ | ⟨hlt,x,hx,hd⟩<;>rw [hd] at hi<;>replace hi:=hid hi
 · simp (disch:=omega) [-List.reduceReplicate,he]
   refine ac (DG _) rfl fun _=>?_
   have hi:=hi.out
   simp at hi
   simp (disch:=omega) [-List.reduceReplicate,hi]
 · simp only [List.all_cons] at hi
   have hfin:oD p par x=false→r=false:=fun h=>by have hi:=hi.out; rw [h] at hi; simpa using hi.symm
   have hgo:oD p par x=true→((l.drop (k + 1)).all (oD p par) && J7 l)=r:=fun h=>by have hi:=hi.out; rw [h] at hi; simpa using hi
   replace hfin:=hid hfin
   replace hgo:=hid hgo
   simp (disch:=omega) [-List.reduceReplicate,hx]
   repeat' (first
    | (refine BrKd.mk (fun h=>?_) (fun h=>?_)<;>simp (disch:=omega) [*])
    | (refine BrK.mk (fun h=>?_) (fun h=>?_)<;>simp (disch:=omega) [*])
    | (refine al (Fn.jk (gQ p x)) (by simp) ?_<;>simp (disch:=omega) [*])
    | (refine ac (mU par x) rfl (fun _=>?_)<;>simp (disch:=omega) [*]))
   all_goals
    cases hf:aZ p.elements x
    all_goals
     first
     | (exfalso; simp_all; done)
     | (refine hN.out _<|Nx.mk (k + 1) (by simp [*]) ⟨by omega,hgo.out ?_⟩ (by omega); simp_all [oD,gz,ct]; done)
     | (rw [hfin.out ?_]; simp_all [oD,gz,ct]; done)
     | (refine (hfin.out ?_).symm; simp_all [oD,gz,ct]; done)
     | (refine (hfin.out ?_); simp_all [oD,gz,ct]; done)
def oJ (p:Policy) (par:Str):List Str→List Str→List Str
 | out,[]=>out
 | out,x::l=>oJ p par (if kids p par (out++[x]) then out++[x] else out) l
def fk (p:Policy) (par:Str) (l:List Str):List Str:=oJ p par [] (l.take 8)
theorem sM (p:Policy) (par:Str):∀ (l out:List Str),(oJ p par out l).length≤out.length + l.length
 | [],out=>by simp [oJ]
 | w::l,out=>by
   simp only [oJ]
   split
   · have:=sM p par l (out++[w]); simp at this ⊢; omega
   · have:=sM p par l out; simp at this ⊢; omega
theorem tG (p:Policy) (par:Str) (l:List Str):(fk p par l).length≤8:=by
 have:=sM p par (l.take 8) []
 simp at this; simp only [fk]; omega
theorem lE (p:Policy) (par:Str) (l:List Str):FnN Tryz.prog uo [p.v,.str par,.seq 1 (l.map .str)] (.seq 1 ((fk p par l).map .str)):=by
 refine FnN.of_image mixed uG uy rfl fun ho=>?_
 have hlen:l.length≤140737488355328:=by have:=ho.2.2.1.1; simpa using this
 unfold lH
 simp (disch:=omega) [-List.reduceReplicate]
 generalize hw:fk p par l=w
 have hl8:(List.take 8 l).length=min 8 l.length:=List.length_take
 refine ak (fun (q:Nat × List Str)=>⟨[(1,.str par),(2,.seq 1 (l.map .str)),(3,.ptr 0 0),(7,.ref 1 q.2.length),(8,.int .i64 q.1)],
  [some (.box [.seq 1 (p.top.map .str),.seq 3 (p.elements.map Allowed.v),.seq 1 (p.unwrap.map .str)]),some (.arr aL 1 (q.2.map .str))]⟩)
  (fun q=>q.1≤(List.take 8 l).length∧q.2.length≤q.1∧oJ p par q.2 ((List.take 8 l).drop q.1)=w) (fun q=>(List.take 8 l).length - q.1) [.r 7 aL 1] _ (0,[]) rfl (by simp) (by simp [←hw,fk]) ?_
 rintro ⟨k,out⟩ ⟨hk,hol,hi⟩ N hN
 simp only at hk hol hi
 rcases place (List.take 8 l) k hk with ⟨he,hd⟩ | ⟨hlt,x,hx,hd⟩<;>rw [hd,oJ] at hi
 · subst hi
   simp (disch:=omega) [-List.reduceReplicate]
   repeat' (first | (refine BrKd.mk (fun h=>?_) (fun h=>?_)<;>simp (disch:=omega) [*]) | (refine BrK.mk (fun h=>?_) (fun h=>?_)<;>simp (disch:=omega) [*]))
   all_goals first | omega | simp [*]
 · have hx2:l[k]?=some x:=by rw [List.getElem?_take] at hx; simpa [show k < 8 by omega] using hx
   replace hi:=hid hi
   simp (disch:=omega) [-List.reduceReplicate,hx2]
   refine ac (by simpa using DH p par (out++[x])) rfl fun _=>?_
   simp (disch:=omega) [-List.reduceReplicate]
   refine BrK.mk (fun hb=>?_) (fun hb=>?_)
   · simp (disch:=omega) [-List.reduceReplicate]
     refine hN.out _<|Nx.mk (k + 1,out++[x]) (by simp) ⟨by simp only; omega,by simp; omega,?_⟩ (by simp only; omega)
     have hi:=hi.out
     rw [if_pos hb] at hi
     simpa using hi
   · simp (disch:=omega) [-List.reduceReplicate]
     refine hN.out _<|Nx.mk (k + 1,out) (by simp) ⟨by simp only; omega,by simp only; omega,?_⟩ (by simp only; omega)
     have hi:=hi.out
     rw [if_neg (by simp [hb])] at hi
     simpa using hi
end Go.Abs.F
end
section
set_option maxHeartbeats 4000000
set_option maxRecDepth 100000
namespace Go.Abs.F
open Go.Proofs
attribute [-simp] getElem?_pos Option.not_isSome
def IW:List Str:=[[105,100],[104,114,101,102],[100,97,116,97,45,42]]
def fT (i:Nat) (r:Rule):Rule:=
 if plain (dC r.name).1 then ⟨r.name,good12 r.value,!(dC r.name).2 && r.req⟩
 else ⟨(IW[i]?).getD [],good12 r.value,!decide (i=2) && r.req⟩
def fg:Nat→List Rule→List Rule→List Rule
 | _,out,[]=>out
 | i,out,r::l=>fg (i + 1) (if hasS (out.map Rule.name) (fT i r).name then out else out++[fT i r]) l
def gI (l:List Rule):List Rule:=fg 0 [] (l.take 3)
theorem me:∀ (l out:List Rule) (i:Nat),(fg i out l).length≤out.length + l.length
 | [],out,i=>by simp [fg]
 | w::l,out,i=>by
   simp only [fg]
   split
   · have:=me l out (i + 1); simp at this ⊢; omega
   · have:=me l (out++[fT i w]) (i + 1); simp at this ⊢; omega
theorem Ey (l:List Rule):(gI l).length≤3:=by
 have:=me (l.take 3) [] 0
 simp at this; simp only [gI]; omega
theorem Ae (l:List Rule) (hR:∀ r∈l,r.value.regex.length≤1125899906842624):Fn Tryz.prog yg [.seq 5 (l.map Rule.v)] (.seq 5 ((gI l).map Rule.v)):=by
 refine Fn.of_image mixed zz yR rfl fun ho=>?_
 unfold jB
 simp only [oks,ok,and_true] at ho
 have hlen:l.length≤140737488355328:=by have:=ho.1; simpa using this
 clear ho
 simp (disch:=omega) [-List.reduceReplicate,jB]
 generalize hw:gI l=w
 have hl3:(List.take 3 l).length=min 3 l.length:=List.length_take
 refine ak (fun (q:Nat × List Rule)=>⟨[(0,.seq 5 (l.map Rule.v)),(3,.ref 0 q.2.length),(4,.ref 1 q.2.length),(5,.int .i64 q.1)],
  [some (.arr di 5 (q.2.map Rule.v)),some (.arr aL 1 ((q.2.map Rule.name).map .str))]⟩)
  (fun q=>q.1≤(List.take 3 l).length∧q.2.length≤q.1∧fg q.1 q.2 ((List.take 3 l).drop q.1)=w) (fun q=>(List.take 3 l).length - q.1) [.r 3 di 5,.r 4 aL 1] _ (0,[]) rfl (by simp) (by simp [←hw,gI]) ?_
 rintro ⟨k,out⟩ ⟨hk,hol,hi⟩ N hN
 simp only at hk hol hi
 rcases place (List.take 3 l) k hk with ⟨he,hd⟩ | ⟨hlt,x,hx,hd⟩<;>rw [hd,fg] at hi
 · subst hi
   clear hw
   simp (disch:=omega) [-List.reduceReplicate]
   repeat' (first | (refine BrKd.mk (fun h=>?_) (fun h=>?_)<;>simp (disch:=omega) [*]) | (refine BrK.mk (fun h=>?_) (fun h=>?_)<;>simp (disch:=omega) [*]))
   all_goals first | omega | simp [*]
 · have hx2:l[k]?=some x:=by rw [List.getElem?_take] at hx; simpa [show k < 3 by omega] using hx
   have hRx:=hR x (List.mem_of_getElem? hx2)
   replace hi:=hid hi
   simp (disch:=omega) [-List.reduceReplicate,hx2]
   refine cA (DM x.value hRx) (by simp) ?_
   simp (disch:=omega) [-List.reduceReplicate,hx2]
   refine ac (re _) rfl fun _=>?_
   simp (disch:=omega) [-List.reduceReplicate,hx2]
   refine ac (fo _) rfl fun _=>?_
   have hk3:k < 3:=by omega
   obtain ⟨pn,hpn⟩:∃ pn,IW[k]?=some pn:=aO (l:=IW) (k:=k) (by simpa [IW] using hk3)
   have hpn2:([.str [105,100],.str [104,114,101,102],.str [100,97,116,97,45,42]]:List V)[k]?=some (.str pn):=by
    have:(IW.map V.str)[k]?=some (.str pn):=by rw [List.getElem?_map,hpn]; rfl
    exact this
   have fin:∀ g:Rule,fT k x=g→∀ τ:St,τ.nrm [0,3,4,5]=⟨[(0,.seq 5 (l.map Rule.v)),(3,.ref 0 (if hasS (out.map Rule.name) g.name then out else out++[g]).length),(4,.ref 1 (if hasS (out.map Rule.name) g.name then out else out++[g]).length),(5,.int .i64 ((k + 1:Nat):Int))],
    [some (.arr di 5 ((if hasS (out.map Rule.name) g.name then out else out++[g]).map Rule.v)),some (.arr aL 1 (((if hasS (out.map Rule.name) g.name then out else out++[g]).map Rule.name).map .str))]⟩→N τ:=by
    intro g hg τ hτ
    have hi:=hi.out
    rw [hg] at hi
    refine hN.out _<|Nx.mk (k + 1,if hasS (out.map Rule.name) g.name then out else out++[g]) hτ ⟨by simp only; omega,?_,hi⟩ (by simp only; omega)
    split<;>simp<;>omega
   simp (disch:=omega) [-List.reduceReplicate,hx2]
   refine BrK.mk (fun hb=>?_) (fun hb=>?_)
   · simp (disch:=omega) [-List.reduceReplicate,hx2]
     refine BrK.mk (fun hm=>?_) (fun hm=>?_)
     all_goals
      simp (disch:=omega) [-List.reduceReplicate,hm,hx2]
      refine ac (by simpa using fW (out.map Rule.name) x.name) rfl fun _=>?_
      simp (disch:=omega) [-List.reduceReplicate,hx2]
      refine BrK.mk (fun hh=>?_) (fun hh=>?_)
      all_goals
       simp (disch:=omega) [-List.reduceReplicate,hh,hx2]
       refine fin _ (by simp only [fT,hb,if_true,hm,Bool.not_true,Bool.not_false,Bool.true_and,Bool.false_and]; rfl) _ ?_
       simp [hh]
   · simp (disch:=omega) [-List.reduceReplicate,hpn2,hx2]
     have hb':fT k x=⟨pn,good12 x.value,!decide (k=2) && x.req⟩:=by simp [fT,hb,hpn]
     refine BrKd.mk (fun hm=>?_) (fun hm=>?_)
     all_goals
      simp (disch:=omega) [-List.reduceReplicate,hm,hx2]
      refine ac (by simpa using fW (out.map Rule.name) pn) rfl fun _=>?_
      simp (disch:=omega) [-List.reduceReplicate,hx2]
      refine BrK.mk (fun hh=>?_) (fun hh=>?_)
      all_goals
       simp (disch:=omega) [-List.reduceReplicate,hh,hx2]
       refine fin _ hb' _ ?_
       simp [hh,hm]
def IX:List Str:=[[97],[98],[112],[98,114],[115,116,121,108,101]]
def qe (i:Nat) (s:Str):Str:=if plain s then s else (IX[i]?).getD []
def ja:Nat→List Allowed→List Allowed→List Allowed
 | _,out,[]=>out
 | i,out,e::l=>ja (i + 1) (if (aZ out (qe i e.name)).isSome then out else out++[⟨qe i e.name,[],gI e.rules⟩]) l
theorem nM:∀ (l out:List Allowed) (i:Nat),(ja i out l).length≤out.length + l.length
 | [],out,i=>by simp [ja]
 | w::l,out,i=>by
   simp only [ja]
   split
   · have:=nM l out (i + 1); simp at this ⊢; omega
   · have:=nM l (out++[⟨qe i w.name,[],gI w.rules⟩]) (i + 1); simp at this ⊢; omega
def dZ (els:List Allowed) (k:Nat) (own:List Str):List Allowed:=
 match els[k]? with
 | some e=>els.set k ⟨e.name,fk ⟨[],els,[]⟩ e.name own,e.rules⟩
 | none=>els
def d8:Nat→List Allowed→List Allowed→List Allowed
 | _,els,[]=>els
 | k,els,e::l=>d8 (k + 1) (dZ els k e.kids) l
theorem Er (els:List Allowed) (k:Nat) (own:List Str):(dZ els k own).length=els.length:=by
 unfold dZ; split<;>simp
def vl:List Str→List Str→List Str
 | out,[]=>out
 | out,x::l=>vl (if plain x && !hasS out x then out++[x] else out) l
def aT (p:Policy):Policy:=
 let a:=ja 0 [] (p.elements.take 5)
 let b:=d8 0 a (p.elements.take a.length)
 ⟨fk ⟨[],b,[]⟩ [] p.top,b,vl [] (p.unwrap.take 4)⟩
theorem DK (p:Policy) (hR:∀ e∈p.elements,∀ r∈e.rules,r.value.regex.length≤1125899906842624):Fn Tryz.prog Ca [p.v] (aT p).v:=by
 refine Fn.of_image mixed Df CM rfl fun ho=>?_
 unfold rF
 simp only [oks,ok,and_true] at ho
 have hlt:p.top.length≤140737488355328:=by have:=ho; simp at this; exact this.1.1
 have hle:p.elements.length≤140737488355328:=by have:=ho; simp at this; exact this.2.1.1
 have hlu:p.unwrap.length≤140737488355328:=by have:=ho; simp at this; exact this.2.2.1
 clear ho
 simp (disch:=omega) [-List.reduceReplicate]
 generalize hg:aT p=g
 have hgd:g=aT p:=hg.symm
 simp only [aT] at hgd
 have hl5:(List.take 5 p.elements).length=min 5 p.elements.length:=List.length_take
 have hal:=nM (p.elements.take 5) [] 0
 generalize ha:ja 0 [] (p.elements.take 5)=els at hgd hal
 refine ak (fun (q:Nat × List Allowed)=>⟨[(1,.ptr 0 0),(2,.ptr 1 0),(3,.ptr 2 0),(4,.int .i64 q.1)],
  [some (.box [.seq 1 (p.top.map .str),.seq 3 (p.elements.map Allowed.v),.seq 1 (p.unwrap.map .str)]),some (.box [.nil 1,.nil 3,.nil 1]),some (.box [.nil 1,.ref 3 q.2.length,.nil 1]),some (.arr bB 3 (q.2.map Allowed.v))]⟩)
  (fun q=>q.1≤(List.take 5 p.elements).length∧q.2.length≤q.1∧ja q.1 q.2 ((List.take 5 p.elements).drop q.1)=els) (fun q=>(List.take 5 p.elements).length - q.1) [.b 2 1 bB 3] _ (0,[]) rfl (by simp) (by simp [←ha]) ?_
 rintro ⟨k,out⟩ ⟨hk,hol,hi⟩ N hN
 simp only at hk hol hi
 rcases place (List.take 5 p.elements) k hk with ⟨he,hd⟩ | ⟨hlt,x,hx,hd⟩<;>rw [hd,ja] at hi
 · subst hi
   have hol5:out.length≤p.elements.length∧out.length≤5:=by simp only [List.length_nil] at hal; omega
   have hkk:(k < p.elements.length∧k=5)∨k=p.elements.length:=by omega
   clear hd hN hol hk he hal ha
   generalize hb:d8 0 out (p.elements.take out.length)=bs at hgd
   rcases hkk with hkk | hkk
   all_goals
    simp (disch:=omega) [-List.reduceReplicate,hkk]
    refine ak (fun (q:Nat × List Allowed)=>⟨[(1,.ptr 0 0),(2,.ptr 1 0),(3,.ptr 2 0),(10,.int .i64 q.1)],
     [some (.box [.seq 1 (p.top.map .str),.seq 3 (p.elements.map Allowed.v),.seq 1 (p.unwrap.map .str)]),some (.box [.nil 1,.nil 3,.nil 1]),some (.box [.nil 1,.ref 3 q.2.length,.nil 1]),some (.arr bB 3 (q.2.map Allowed.v))]⟩)
     (fun q=>q.1≤(p.elements.take out.length).length∧q.2.length=out.length∧d8 q.1 q.2 ((p.elements.take out.length).drop q.1)=bs) (fun q=>(p.elements.take out.length).length - q.1) [] _ (0,out) rfl (by simp) (by simp [←hb]) ?_
    have hlo:(p.elements.take out.length).length=out.length:=by rw [List.length_take]; omega
    rintro ⟨k,els⟩ ⟨hk,hol,hi⟩ N hN
    simp only at hk hol hi
    rcases place (p.elements.take out.length) k hk with ⟨he,hd⟩ | ⟨hlt,x,hx,hd⟩<;>rw [hd,d8] at hi
    · subst hi
      simp (disch:=omega) [-List.reduceReplicate,he]
      refine gY (by simpa using lE ⟨[],els,[]⟩ [] p.top) fun hok=>?_
      simp (disch:=omega) [-List.reduceReplicate]
      generalize hu:vl [] (p.unwrap.take 4)=us at hgd
      have hl4:(List.take 4 p.unwrap).length=min 4 p.unwrap.length:=List.length_take
      clear hN
      refine ak (fun (q:Nat × List Str)=>⟨[(1,.ptr 0 0),(2,.ptr 1 0),(3,.ptr 2 0),(12,.int .i64 q.1)],
       [some (.box [.seq 1 (p.top.map .str),.seq 3 (p.elements.map Allowed.v),.seq 1 (p.unwrap.map .str)]),some (.box [.nil 1,.nil 3,.nil 1]),some (.box [.seq 1 ((fk ⟨[],els,[]⟩ [] p.top).map .str),.ref 3 els.length,.ref 4 q.2.length]),some (.arr bB 3 (els.map Allowed.v)),some (.arr aL 1 (q.2.map .str))]⟩)
       (fun q=>q.1≤(List.take 4 p.unwrap).length∧q.2.length≤q.1∧vl q.2 ((List.take 4 p.unwrap).drop q.1)=us) (fun q=>(List.take 4 p.unwrap).length - q.1) [.b 2 2 aL 1] _ (0,[]) rfl (by simp) (by simp [←hu]) ?_
      rintro ⟨j,uw⟩ ⟨hj,hul,hi⟩ N hN
      simp only at hj hul hi
      rcases place (List.take 4 p.unwrap) j hj with ⟨he2,hd2⟩ | ⟨hlt2,y,hy,hd2⟩<;>rw [hd2,vl] at hi
      · subst hi
        have hjj:(j < p.unwrap.length∧j=4)∨j=p.unwrap.length:=by omega
        rcases hjj with hjj | hjj
        all_goals
         simp (disch:=omega) [-List.reduceReplicate,hjj]
         simp [hgd]
      · have hy2:p.unwrap[j]?=some y:=by rw [List.getElem?_take] at hy; simpa [show j < 4 by omega] using hy
        replace hi:=hid hi
        simp (disch:=omega) [-List.reduceReplicate,hy2]
        refine ac (fo _) rfl fun _=>?_
        simp (disch:=omega) [-List.reduceReplicate,hy2]
        refine al (by simpa using fW uw y) rfl ?_
        simp (disch:=omega) [-List.reduceReplicate,hy2]
        have yes:plain y=true→hasS uw y=false→vl (uw++[y]) ((List.take 4 p.unwrap).drop (j + 1))=us:=fun h h'=>by have hi:=hi.out; simpa [h,h'] using hi
        have no:(plain y && !hasS uw y)=false→vl uw ((List.take 4 p.unwrap).drop (j + 1))=us:=fun h=>by have hi:=hi.out; rw [if_neg (by simp [h])] at hi; exact hi
        replace yes:=hid yes
        replace no:=hid no
        refine BrK.mk (fun h1=>?_) (fun h1=>?_)
        · simp (disch:=omega) [-List.reduceReplicate,h1]
          refine BrK.mk (fun h2=>?_) (fun h2=>?_)
          · simp (disch:=omega) [-List.reduceReplicate,h1,h2]
            refine hN.out _<|Nx.mk (j + 1,uw) (by simp) ⟨by simp only; omega,by simp only; omega,no.out (by simp [h2])⟩ (by simp only; omega)
          · simp (disch:=omega) [-List.reduceReplicate,h1,h2,hy2]
            refine hN.out _<|Nx.mk (j + 1,uw++[y]) (by simp) ⟨by simp only; omega,by simp; omega,yes.out h1 h2⟩ (by simp only; omega)
        · simp (disch:=omega) [-List.reduceReplicate,h1]
          refine hN.out _<|Nx.mk (j + 1,uw) (by simp) ⟨by simp only; omega,by simp only; omega,no.out (by simp [h1])⟩ (by simp only; omega)
    · have hx2:p.elements[k]?=some x:=by rw [List.getElem?_take] at hx; simpa [show k < out.length by omega] using hx
      obtain ⟨e,hex⟩:=aO (l:=els) (k:=k) (by omega)
      replace hi:=hid hi
      simp (disch:=omega) [-List.reduceReplicate,hx2,hex]
      refine pA (by simpa using lE ⟨[],els,[]⟩ e.name x.kids) ?_
      simp (disch:=omega) [-List.reduceReplicate,hx2,hex]
      have hi:=hi.out
      have hsk:dZ els k x.kids=els.set k ⟨e.name,fk ⟨[],els,[]⟩ e.name x.kids,e.rules⟩:=by simp [dZ,hex]
      rw [hsk] at hi
      refine hN.out _<|Nx.mk (k + 1,els.set k ⟨e.name,fk ⟨[],els,[]⟩ e.name x.kids,e.rules⟩) (by simp [List.map_set]) ⟨by simp only; omega,by simp; omega,hi⟩ (by simp only; omega)
 · have hx2:p.elements[k]?=some x:=by rw [List.getElem?_take] at hx; simpa [show k < 5 by omega] using hx
   have hRx:=hR x (List.mem_of_getElem? hx2)
   obtain ⟨pn,hpn⟩:∃ pn,IX[k]?=some pn:=aO (l:=IX) (k:=k) (by simp only [IX,List.length_cons,List.length_nil]; omega)
   have hpn2:([.str [97],.str [98],.str [112],.str [98,114],.str [115,116,121,108,101]]:List V)[k]?=some (.str pn):=by
    have:(IX.map V.str)[k]?=some (.str pn):=by rw [List.getElem?_map,hpn]; rfl
    exact this
   replace hi:=hid hi
   simp (disch:=omega) [-List.reduceReplicate,hx2]
   refine ac (fo _) rfl fun _=>?_
   simp (disch:=omega) [-List.reduceReplicate,hx2]
   refine BrK.mk (fun hb=>?_) (fun hb=>?_)
   all_goals
    first
     | (have hnm:qe k x.name=x.name:=by rw [qe,if_pos hb])
     | (have hnm:qe k x.name=pn:=by rw [qe,if_neg (by simp [hb]),hpn]; rfl)
    have hi:=hi.out
    rw [hnm] at hi
    replace hi:=hid hi
    simp (disch:=omega) [-List.reduceReplicate,hx2,hpn2]
    refine L4 (by simpa using gQ ⟨[],out,[]⟩ _) (by simp) fun _=>?_
    simp (disch:=omega) [-List.reduceReplicate,hx2]
    refine BrK.mk (fun hf=>?_) (fun hf=>?_)
    · simp (disch:=omega) [-List.reduceReplicate,hx2]
      have hi:=hi.out
      rw [if_pos hf] at hi
      refine hN.out _<|Nx.mk (k + 1,out) (by simp) ⟨by simp only; omega,by simp only; omega,hi⟩ (by simp only; omega)
    · simp (disch:=omega) [-List.reduceReplicate,hx2]
      have hi:=hi.out
      rw [if_neg (by simp [hf])] at hi
      refine cA (Ae x.rules hRx) (by simp) ?_
      simp (disch:=omega) [-List.reduceReplicate,hx2]
      refine hN.out _<|Nx.mk (k + 1,out++[⟨_,[],gI x.rules⟩]) (by simp) ⟨by simp only; omega,by simp; omega,hi⟩ (by simp only; omega)
def fdx {α:Type} (f:α→Bool):Nat→List α→Int
 | _,[]=>-1
 | k,x::l=>if f x then k else fdx f (k + 1) l
theorem Jd {α:Type} (f:α→Bool):∀ (l:List α) (k:Nat),decide (0≤fdx f k l)=l.any f
 | [],k=>by simp [fdx]
 | x::l,k=>by
   simp only [fdx,List.any_cons]
   split
   · rename_i h; simp [h]
   · rename_i h; simp only [Bool.not_eq_true] at h; rw [Jd f l (k + 1),h]; rfl
theorem Gx (s:Str):∀ l:List Str,l.any (fun x=>decide (s=x))=hasS l s
 | []=>rfl
 | x::l=>by
   simp only [List.any_cons,hasS,Gx s l]
   by_cases h:x=s
   · simp [h]
   · have:¬s=x:=fun e=>h e.symm
     simp [h,this]
theorem lV (l:List Str) (s:Str):Fn Tryz.prog fI [.seq 1 (l.map .str),.str s] (.int .i64 (fdx (fun x=>decide (s=x)) 0 l)):=by
 refine Fn.of_image mixed fR fP rfl fun ho=>?_
 unfold cB
 simp only [oks,ok,and_true] at ho
 have hlen:l.length≤140737488355328:=by have:=ho.1.1; simpa using this
 clear ho
 simp (disch:=omega) [-List.reduceReplicate]
 generalize hr:fdx (fun x=>decide (s=x)) 0 l=r
 refine ak (fun k:Nat=>⟨[(0,.seq 1 (l.map .str)),(1,.str s),(7,.int .i64 l.length),(8,.int .i64 k)],[]⟩) (fun k=>k≤l.length∧fdx (fun x=>decide (s=x)) k (l.drop k)=r) (fun k=>l.length - k) [] _ 0 rfl (by simp [*]) (by simp [*]) ?_
 rintro k ⟨hk,hi⟩ N hN
 rcases place l k hk with ⟨he,hd⟩ | ⟨hlt,x,hx,hd⟩<;>rw [hd] at hi<;>replace hi:=hid hi
 · simp (disch:=omega) [-List.reduceReplicate,he]
   simpa [fdx] using hi.out
 · simp (disch:=omega) [-List.reduceReplicate,hx]
   refine BrKd.mk (fun h=>?_) (fun h=>?_)
   · simp (disch:=omega) [-List.reduceReplicate]
     have hi:=hi.out
     simpa [fdx,h] using hi
   · simp (disch:=omega) [-List.reduceReplicate]
     refine hN.out _<|Nx.mk (k + 1) (by simp [*]) ⟨by omega,?_⟩ (by omega)
     have hi:=hi.out
     simpa [fdx,h] using hi
theorem f_slices_Contains_string (l:List Str) (s:Str):Fn Tryz.prog eA [.seq 1 (l.map .str),.str s] (.bool (hasS l s)):=by
 refine Fn.of_image mixed eK eG rfl fun ho=>?_
 unfold bZ
 simp only [oks,ok,and_true] at ho
 simp (disch:=omega) [-List.reduceReplicate]
 refine ac (lV _ _) rfl fun _=>?_
 simp (disch:=omega) [-List.reduceReplicate]
 rw [Jd,Gx]
def dT (s p:Str):Bool:=decide (p.length≤s.length) && decide (s.take p.length=p)
theorem eo (s p:Str):Fn Tryz.prog eD [.str s,.str p] (.bool (dT s p)):=by
 refine Fn.of_image mixed eM eI rfl fun ho=>?_
 unfold b6
 simp only [oks,ok,and_true] at ho
 simp (disch:=omega) [-List.reduceReplicate,dT]
 repeat' (first | (refine BrKd.mk (fun h=>?_) (fun h=>?_)<;>simp (disch:=omega) [*]) | (refine BrK.mk (fun h=>?_) (fun h=>?_)<;>simp (disch:=omega) [*]))
theorem gA (s p:Str):Fn Tryz.prog nY [.str s,.str p] (.bool (dT s p)):=by
 refine Fn.of_image mixed oe n7 rfl fun ho=>?_
 unfold gC
 simp only [oks,ok,and_true] at ho
 simp (disch:=omega) [-List.reduceReplicate]
 repeat' (first | (refine BrKd.mk (fun h=>?_) (fun h=>?_)<;>simp (disch:=omega) [*]) | (refine BrK.mk (fun h=>?_) (fun h=>?_)<;>simp (disch:=omega) [*]) | (refine ac (eo _ _) rfl (fun _=>?_)<;>simp (disch:=omega) [*]) | (refine al (eo _ _) rfl ?_<;>simp (disch:=omega) [*]))
theorem f_lang_isValue (s:Str):Fn Tryz.prog v6 [.str s] (.bool (s.all sign)):=by
 refine Fn.of_image mixed w6 wF rfl fun ho=>?_
 unfold nj
 simp only [oks,ok,and_true] at ho
 simp (disch:=omega) [-List.reduceReplicate]
 generalize hr:s.all sign=r
 refine ak (fun k:Nat=>⟨[(0,.str s),(3,.int .i64 k)],[]⟩) (fun k=>k≤s.length∧(s.drop k).all sign=r) (fun k=>s.length - k) [] _ 0 rfl (by simp [*]) (by simp [*]) ?_
 rintro k ⟨hk,hi⟩ N hN
 rcases place s k hk with ⟨he,hd⟩ | ⟨hlt,x,hx,hd⟩<;>rw [hd] at hi<;>replace hi:=hid hi
 · simp (disch:=omega) [-List.reduceReplicate,he]
   simpa using hi.out
 · simp (disch:=omega) [-List.reduceReplicate,hx]
   repeat' (first | (refine BrKd.mk (fun h=>?_) (fun h=>?_)<;>simp (disch:=omega) [*]) | (refine BrK.mk (fun h=>?_) (fun h=>?_)<;>simp (disch:=omega) [*]))
   all_goals first
    | (refine hN.out _<|Nx.mk (k + 1) (by simp [*]) ⟨by omega,?_⟩ (by omega); simpa (disch:=omega) [*,decide_eq_true,decide_eq_false,sign] using hi.out)
    | (first | simpa (disch:=omega) [*,decide_eq_true,decide_eq_false,sign] using hi.out.symm | simpa (disch:=omega) [*,decide_eq_true,decide_eq_false,sign] using hi.out)
theorem cJ (c:UInt8):∀ s:Str,Lib.indexByte s c < (s.length:Int) + 1∧(0≤Lib.indexByte s c→Lib.indexByte s c < s.length)
 | []=>by simp [Lib.indexByte]
 | b::l=>by
   have:=cJ c l
   unfold Lib.indexByte
   simp only [List.length_cons]
   split
   · omega
   · split
     · omega
     · omega
theorem br (s:Str) (c:UInt8):Fn Tryz.prog bc [.str s,.int .u8 c.toNat] (.int .i64 (Lib.indexByte s c)):=by
 refine Fn.ext bN (by kernel_rfl) (by kernel_rfl) (by kernel_rfl) (e:=Extern.BytealgIndexByte.indexByte) (by kernel_rfl) ?_
 intro M w cs hM hus
 obtain ⟨cl⟩:=cs
 simp only [ae] at hus
 obtain ⟨_,_,rfl,⟨bs,rfl,rfl,_⟩,_,_,rfl,⟨rfl,_⟩,rfl⟩:=hus
 refine ⟨_,Lib.run_indexByteString bs (c.toNat:Int) w,?_⟩
 have hc:((c.toNat:Int)).toNat.toUInt8=c:=by simp
 rw [hc]
 simp only [rep]
 have h1:=Lib.indexByte_ge bs.data.toList c
 have h2:=cJ c bs.data.toList
 refine ⟨trivial,?_,?_⟩
 · simp; omega
 · simp; omega
theorem en (s:Str) (c:UInt8):Fn Tryz.prog bU [.str s,.int .u8 c.toNat] (.int .i64 (Lib.indexByte s c)):=by
 refine Fn.of_image mixed bX bW rfl fun ho=>?_
 unfold bp
 simp only [oks,ok,and_true] at ho
 simp (disch:=omega) [-List.reduceReplicate]
 repeat' (first | (refine BrKd.mk (fun h=>?_) (fun h=>?_)<;>simp (disch:=omega) [*]) | (refine BrK.mk (fun h=>?_) (fun h=>?_)<;>simp (disch:=omega) [*]) | (refine ac (br _ _) rfl (fun _=>?_)<;>simp (disch:=omega) [*]) | (refine al (br _ _) rfl ?_<;>simp (disch:=omega) [*]))
theorem mP (s:Str) (c:UInt8):Fn Tryz.prog a8 [.str s,.str [c]] (.int .i64 (Lib.indexByte s c)):=by
 refine Fn.of_image mixed gg gd rfl fun ho=>?_
 unfold cW
 simp only [oks,ok,and_true] at ho
 simp (disch:=omega) [-List.reduceReplicate]
 repeat' (first | (refine BrKd.mk (fun h=>?_) (fun h=>?_)<;>simp (disch:=omega) [*]) | (refine BrK.mk (fun h=>?_) (fun h=>?_)<;>simp (disch:=omega) [*]) | (refine ac (en _ _) rfl (fun _=>?_)<;>simp (disch:=omega) [*]) | (refine al (en _ _) rfl ?_<;>simp (disch:=omega) [*]))
 all_goals (try (subst h; simp [Lib.indexByte]))
def cutB (s:Str) (c:UInt8):Str × Str × Bool:=if 0≤Lib.indexByte s c then (s.take (Lib.indexByte s c).toNat,s.drop ((Lib.indexByte s c).toNat + 1),true) else (s,[],false)
theorem iB (s:Str) (c:UInt8):Fn Tryz.prog ik [.str s,.str [c]] (.tup [.str (cutB s c).1,.str (cutB s c).2.1,.bool (cutB s c).2.2]):=by
 refine Fn.of_image mixed iy iu rfl fun ho=>?_
 unfold dy
 simp only [oks,ok,and_true] at ho
 have hb:=cJ c s
 have hg:=Lib.indexByte_ge s c
 simp (disch:=omega) [-List.reduceReplicate]
 refine ac (mP _ _) rfl fun _=>?_
 unfold cutB
 generalize Lib.indexByte s c=n at *
 simp (disch:=omega) [-List.reduceReplicate]
 refine BrKd.mk (fun h=>?_) (fun h=>?_)
 · obtain ⟨m,rfl⟩:=Int.eq_ofNat_of_zero_le h
   have hm:=hb.2 h
   simp (disch:=omega) [-List.reduceReplicate]
   rw [List.take_of_length_le (by simp)]
 · simp (disch:=omega) [-List.reduceReplicate,h]
theorem f_strings_Cut1 (s:Str) (c:UInt8):Fn Tryz.prog yb [.str s,.str [c]] (.tup [.str (cutB s c).1,.str (cutB s c).2.1,.bool (cutB s c).2.2]):=by
 refine Fn.of_image mixed zr yL rfl fun ho=>?_
 unfold oQ
 simp only [oks,ok,and_true] at ho
 simp (disch:=omega) [-List.reduceReplicate]
 repeat' (first | (refine BrKd.mk (fun h=>?_) (fun h=>?_)<;>simp (disch:=omega) [*]) | (refine BrK.mk (fun h=>?_) (fun h=>?_)<;>simp (disch:=omega) [*]) | (refine ac (iB _ _) rfl (fun _=>?_)<;>simp (disch:=omega) [*]) | (refine al (iB _ _) rfl ?_<;>simp (disch:=omega) [*]))
def allowsL (c:Constraint) (v:Str):Bool:=
 v.all sign && (decide (c.kind=1) || ((decide (c.kind=2) && hasS c.words v) || (decide (c.kind=3) && (!(cutB v 58).2.2 || hasS c.words (cutB v 58).1))))
structure Node where
 kind:Int
 name:Str
 attrs:List Attr
 text:Str
 kids:List Node
mutual
def Node.v:Node→V
 | ⟨k,n,a,t,ks⟩=>.strct [.int .i64 k,.str n,.seq 2 (a.map Attr.v),.str t,.seq 5 (Node.vs ks)]
def Node.vs:List Node→List V
 | []=>[]
 | n::l=>n.v::Node.vs l
end
theorem Node.vs_map:∀ l:List Node,Node.vs l=l.map Node.v
 | []=>by simp [Node.vs]
 | n::l=>by simp [Node.vs,Node.vs_map l]
theorem Node.v_eq (n:Node):n.v=.strct [.int .i64 n.kind,.str n.name,.seq 2 (n.attrs.map Attr.v),.str n.text,.seq 5 (n.kids.map Node.v)]:=by
 cases n; simp [Node.v,Node.vs_map]
attribute [simp] Node.v_eq
section
variable {p:List Node→Prop} (h0:p []) (h1:∀ n l,p n.kids→p l→p (n::l))
include h0 h1
mutual
theorem aB:∀ l,p l
 | []=>h0
 | n::l=>h1 n l (Hm n) (aB l)
theorem Hm:∀ n:Node,p n.kids
 | ⟨_,_,_,_,ks⟩=>aB ks
end
end
def wj (p:Policy) (par:Str):List Str:=if par=[] then p.top else ((aZ p.elements par).getD .zero).kids
theorem DJ (p:Policy) (par:Str):Fn Tryz.prog B9 [p.v,.str par] (.seq 1 ((wj p par).map .str)):=by
 refine Fn.of_image mixed De CL rfl fun ho=>?_
 unfold rE
 simp only [oks,ok,and_true] at ho
 clear ho
 simp (disch:=omega) [-List.reduceReplicate,wj]
 refine BrKd.mk (fun h=>?_) (fun h=>?_)
 · simp (disch:=omega) [-List.reduceReplicate,h]
 · simp (disch:=omega) [-List.reduceReplicate,h]
   refine an (gQ p par) (by simp) fun _=>?_
   simp (disch:=omega) [-List.reduceReplicate,h]
def qS (p:Policy) (par:Str) (n:Node):Bool:=
 if n.kind=2 then hasS (wj p par) gz else if n.kind=3 then hasS (wj p par) ct else decide (n.kind=1) && hasS (wj p par) n.name
theorem xm (p:Policy) (par:Str) (n:Node):Fn Tryz.prog vS [p.v,.str par,n.v] (.bool (qS p par n)):=by
 refine Fn.of_image mixed wR wv rfl fun ho=>?_
 unfold m6
 simp only [oks,ok,and_true] at ho
 clear ho
 simp (disch:=omega) [-List.reduceReplicate,qS]
 refine an (DJ p par) (by simp) fun _=>?_
 simp (disch:=omega) [-List.reduceReplicate]
 repeat' (first
  | (refine BrKd.mk (fun h=>?_) (fun h=>?_)<;>simp (disch:=omega) [*])
  | (refine BrK.mk (fun h=>?_) (fun h=>?_)<;>simp (disch:=omega) [*])
  | (refine ac (fW (wj p par) _) rfl (fun _=>?_)<;>simp (disch:=omega) [gz,ct, *]))
def fits (pat nm:Str):Bool:=plain (dC pat).1 && (if (dC pat).2 then dT nm (dC pat).1 else decide (nm=(dC pat).1))
theorem DL (pat nm:Str):Fn Tryz.prog Cb [.str pat,.str nm] (.bool (fits pat nm)):=by
 refine Fn.of_image mixed Dg CN rfl fun ho=>?_
 unfold rG
 simp only [oks,ok,and_true] at ho
 have hs:(dC pat).1.length≤pat.length:=by
  unfold dC
  split
  · split<;>simp
  · simp
 simp (disch:=omega) [-List.reduceReplicate,fits]
 refine ac (re _) rfl fun _=>?_
 simp (disch:=omega) [-List.reduceReplicate]
 refine ac (fo _) rfl fun _=>?_
 generalize (dC pat).1=a at *
 generalize (dC pat).2=b at *
 simp (disch:=omega) [-List.reduceReplicate]
 repeat' (first | (refine BrKd.mk (fun h=>?_) (fun h=>?_)<;>simp (disch:=omega) [*]) | (refine BrK.mk (fun h=>?_) (fun h=>?_)<;>simp (disch:=omega) [*]))
 all_goals simp [dT, *]
def dY:List Rule→Str→Option Rule
 | [],_=>none
 | r::l,s=>if fits r.name s then some r else dY l s
def Rule.zero:Rule:=⟨[],⟨0,[],[]⟩,false⟩
theorem DI (e:Allowed) (s:Str):Fn Tryz.prog B8 [e.v,.str s] (.tup [((dY e.rules s).getD .zero).v,.bool (dY e.rules s).isSome]):=by
 refine Fn.of_image mixed Dd CK rfl fun ho=>?_
 unfold rD
 simp only [oks,ok,and_true] at ho
 have hlen:e.rules.length≤140737488355328:=by have:=ho.1; simp at this; exact this.2.2.1
 clear ho
 simp (disch:=omega) [-List.reduceReplicate]
 generalize hr:dY e.rules s=r
 refine ak (fun k:Nat=>⟨[(1,.str s),(2,.ptr 0 0),(4,.ptr 1 0),(6,.int .i64 k)],[some (.box [.str e.name,.seq 1 (e.kids.map .str),.seq 5 (e.rules.map Rule.v)]),some (.box [.str [],.int .i64 0,.nil 1,.str [],.bool false])]⟩) (fun k=>k≤e.rules.length∧dY (e.rules.drop k) s=r) (fun k=>e.rules.length - k) [] _ 0 rfl (by simp [*]) (by simp [*]) ?_
 rintro k ⟨hk,hi⟩ N hN
 rcases place e.rules k hk with ⟨he,hd⟩ | ⟨hlt,x,hx,hd⟩<;>rw [hd] at hi<;>replace hi:=hid hi
 · simp (disch:=omega) [-List.reduceReplicate,he]
   simp [←hi.out,dY,Rule.zero]
 · simp (disch:=omega) [-List.reduceReplicate,hx]
   refine ac (DL _ _) rfl fun _=>?_
   simp (disch:=omega) [-List.reduceReplicate]
   refine BrK.mk (fun h=>?_) (fun h=>?_)
   · simp (disch:=omega) [-List.reduceReplicate,hx]
     have hi:=hi.out
     simp [dY,h] at hi
     subst hi
     simp
   · simp (disch:=omega) [-List.reduceReplicate]
     refine hN.out _<|Nx.mk (k + 1) (by simp [*]) ⟨by omega,?_⟩ (by omega)
     have hi:=hi.out
     simpa [dY,h] using hi
def Policy.few (p:Policy):Prop:=p.top.length≤1000000∧p.elements.length≤1000000∧∀ e∈p.elements,e.kids.length≤1000000∧e.rules.length≤1000000
def nn (A:Constraint→Str→Bool) (e:Allowed) (a:Attr):Bool:=match dY e.rules a.name with
 | some r=>A r.value a.value
 | none=>false
theorem sN:∀ {l:List Rule} {s:Str} {r:Rule},dY l s=some r→r∈l∧fits r.name s=true
 | [],s,r,h=>by simp [dY] at h
 | x::l,s,r,h=>by
   simp only [dY] at h
   split at h
   · cases h; exact ⟨by simp,by assumption⟩
   · obtain ⟨h1,h2⟩:=sN h; exact ⟨by simp [h1],h2⟩
theorem DF (A:Constraint→Str→Bool) (e:Allowed) (a:Attr) (hA:∀ r∈e.rules,Fn Tryz.prog cq [r.value.v,.str a.value] (.bool (A r.value a.value))):
 Fn Tryz.prog B4 [e.v,a.v] (.bool (nn A e a)):=by
 refine Fn.of_image mixed C9 CG rfl fun ho=>?_
 unfold rC
 simp only [oks,ok,and_true] at ho
 clear ho
 simp (disch:=omega) [-List.reduceReplicate,nn]
 refine an (DI e a.name) (by simp) fun _=>?_
 cases hf:dY e.rules a.name with
 | none=>
   simp (disch:=omega) [hf]
 | some r=>
   simp (disch:=omega) [-List.reduceReplicate,hf]
   refine ac (by simpa using hA r (sN hf).1) rfl fun _=>?_
   simp (disch:=omega) [-List.reduceReplicate]
def ln (A:Constraint→Str→Bool) (e:Allowed) (l:List Attr):List Attr:=l.filter (nn A e)
theorem DE (A:Constraint→Str→Bool) (e:Allowed) (l:List Attr) (hl:l.length≤1000000) (hA:∀ r∈e.rules,∀ a∈l,Fn Tryz.prog cq [r.value.v,.str a.value] (.bool (A r.value a.value))):
 FnN Tryz.prog B3 [e.v,.seq 2 (l.map Attr.v)] (.seq 2 ((ln A e l).map Attr.v)):=by
 refine FnN.of_image mixed C8 CF rfl fun ho=>?_
 unfold rB
 clear ho
 simp (disch:=omega) [-List.reduceReplicate]
 generalize hw:ln A e l=w
 refine ak (fun (q:Nat × List Attr)=>⟨[(1,.seq 2 (l.map Attr.v)),(2,.ptr 0 0),(5,.ref 1 q.2.length),(6,.int .i64 q.1)],[some (.box [.str e.name,.seq 1 (e.kids.map .str),.seq 5 (e.rules.map Rule.v)]),some (.arr bI 2 (q.2.map Attr.v))]⟩)
  (fun q=>q.1≤l.length∧q.2.length≤q.1∧q.2++ln A e (l.drop q.1)=w) (fun q=>l.length - q.1) [.r 5 bI 2] _ (0,[]) rfl (by simp) (by simp [←hw]) ?_
 rintro ⟨k,out⟩ ⟨hk,hol,hi⟩ N hN
 simp only at hk hol hi
 have hfl:∀ l:List Attr,cf (l.map Attr.v)=true:=fun l=>by induction l<;>simp [cf,cg, *]
 rcases place l k hk with ⟨he,hd⟩ | ⟨hlt,x,hx,hd⟩<;>rw [hd] at hi
 · simp [ln] at hi
   subst hi
   simp (disch:=omega) [-List.reduceReplicate,he,hfl]
 · simp only [ln,List.filter_cons] at hi
   replace hi:=hid hi
   simp (disch:=omega) [-List.reduceReplicate,hx]
   refine al (by simpa using DF A e x (fun r hr=>hA r hr x (List.mem_of_getElem? hx))) rfl ?_
   simp (disch:=omega) [-List.reduceReplicate]
   refine BrK.mk (fun h=>?_) (fun h=>?_)
   · simp (disch:=omega) [-List.reduceReplicate,hx]
     have hi:=hi.out
     refine hN.out _<|Nx.mk (k + 1,out++[x]) (by simp) ⟨by simp only; omega,by simp; omega,?_⟩ (by simp only; omega)
     simpa [h,ln] using hi
   · simp (disch:=omega) [-List.reduceReplicate,hx]
     have hi:=hi.out
     refine hN.out _<|Nx.mk (k + 1,out) (by simp) ⟨by simp only; omega,by simp only; omega,?_⟩ (by simp only; omega)
     simpa [h,ln] using hi
def eU:List Attr→Str→Option Str
 | [],_=>none
 | a::l,s=>if a.name=s then some a.value else eU l s
theorem oK (n:Node) (s:Str):Fn Tryz.prog yv [n.v,.str s] (.tup [.str ((eU n.attrs s).getD []),.bool (eU n.attrs s).isSome]):=by
 refine Fn.of_image mixed zM y9 rfl fun ho=>?_
 unfold pe
 simp only [oks,ok,and_true] at ho
 have hlen:n.attrs.length≤140737488355328:=by have:=ho.1; simp at this; exact this.2.2.1.1
 clear ho
 simp (disch:=omega) [-List.reduceReplicate]
 generalize hr:eU n.attrs s=r
 refine ak (fun k:Nat=>⟨[(1,.str s),(2,.ptr 0 0),(6,.int .i64 k)],[some (.box [.int .i64 n.kind,.str n.name,.seq 2 (n.attrs.map Attr.v),.str n.text,.seq 5 (n.kids.map Node.v)])]⟩) (fun k=>k≤n.attrs.length∧eU (n.attrs.drop k) s=r) (fun k=>n.attrs.length - k) [] _ 0 rfl (by simp [*]) (by simp [*]) ?_
 rintro k ⟨hk,hi⟩ N hN
 rcases place n.attrs k hk with ⟨he,hd⟩ | ⟨hlt,x,hx,hd⟩<;>rw [hd] at hi<;>replace hi:=hid hi
 · simp (disch:=omega) [-List.reduceReplicate,he]
   simp [←hi.out,eU]
 · simp (disch:=omega) [-List.reduceReplicate,hx]
   refine BrKd.mk (fun h=>?_) (fun h=>?_)
   · simp (disch:=omega) [-List.reduceReplicate,hx]
     have hi:=hi.out
     simp [eU,h] at hi
     subst hi
     simp
   · simp (disch:=omega) [-List.reduceReplicate]
     refine hN.out _<|Nx.mk (k + 1) (by simp [*]) ⟨by omega,?_⟩ (by omega)
     have hi:=hi.out
     simpa [eU,h] using hi
def whole (e:Allowed) (l:List Attr):Bool:=e.rules.all fun r=>!(r.req && !(eU l r.name).isSome)
theorem Ac (e:Allowed) (l:List Attr):Fn Tryz.prog yd [e.v,.seq 2 (l.map Attr.v)] (.bool (whole e l)):=by
 refine Fn.of_image mixed zw yO rfl fun ho=>?_
 unfold oT
 simp only [oks,ok,and_true] at ho
 have hlen:e.rules.length≤140737488355328:=by have:=ho.1; simp at this; exact this.2.2.1
 clear ho
 simp (disch:=omega) [-List.reduceReplicate]
 generalize hr:whole e l=r
 refine ak (fun k:Nat=>⟨[(1,.seq 2 (l.map Attr.v)),(2,.ptr 0 0),(5,.int .i64 k)],[some (.box [.str e.name,.seq 1 (e.kids.map .str),.seq 5 (e.rules.map Rule.v)])]⟩) (fun k=>k≤e.rules.length∧((e.rules.drop k).all fun r=>!(r.req && !(eU l r.name).isSome))=r) (fun k=>e.rules.length - k) [] _ 0 rfl (by simp [*]) (by simp [*,←hr,whole]) ?_
 rintro k ⟨hk,hi⟩ N hN
 rcases place e.rules k hk with ⟨he,hd⟩ | ⟨hlt,x,hx,hd⟩<;>rw [hd] at hi<;>replace hi:=hid hi
 · simp (disch:=omega) [-List.reduceReplicate,he]
   simpa using hi.out
 · simp only [List.all_cons] at hi
   simp (disch:=omega) [-List.reduceReplicate,hx]
   refine ac (by simpa using oK ⟨0,[],l,[],[]⟩ x.name) rfl fun _=>?_
   simp (disch:=omega) [-List.reduceReplicate,hx]
   refine BrK.mk (fun h1=>?_) (fun h1=>?_)
   · simp (disch:=omega) [-List.reduceReplicate,h1]
     refine BrK.mk (fun h2=>?_) (fun h2=>?_)
     · simp (disch:=omega) [-List.reduceReplicate,h2]
       refine hN.out _<|Nx.mk (k + 1) (by simp [*]) ⟨by omega,?_⟩ (by omega)
       have hi:=hi.out
       simpa [h1,h2] using hi
     · simp (disch:=omega) [-List.reduceReplicate,h2]
       have hi:=hi.out
       simpa [h1,h2] using hi
   · simp (disch:=omega) [-List.reduceReplicate,h1]
     refine hN.out _<|Nx.mk (k + 1) (by simp [*]) ⟨by omega,?_⟩ (by omega)
     have hi:=hi.out
     simpa [h1] using hi
def mI (A:Constraint→Str→Bool) (e:Allowed) (l:List Attr):Bool:=decide ((ln A e l).length=l.length) && whole e l
theorem Ad (A:Constraint→Str→Bool) (e:Allowed) (l:List Attr) (hl:l.length≤1000000) (hA:∀ r∈e.rules,∀ a∈l,Fn Tryz.prog cq [r.value.v,.str a.value] (.bool (A r.value a.value))):
 Fn Tryz.prog yf [e.v,.seq 2 (l.map Attr.v)] (.bool (mI A e l)):=by
 refine Fn.of_image mixed zy yQ rfl fun ho=>?_
 unfold oV
 simp only [oks,ok,and_true] at ho
 clear ho
 simp (disch:=omega) [-List.reduceReplicate,mI]
 refine gY (by simpa using DE A e l hl hA) fun _=>?_
 simp (disch:=omega) [-List.reduceReplicate]
 refine BrKd.mk (fun h=>?_) (fun h=>?_)
 · have h':(ln A e l).length=l.length:=by omega
   simp (disch:=omega) [-List.reduceReplicate,h]
   refine ac (by simpa using Ac e l) rfl fun _=>?_
   simp (disch:=omega) [-List.reduceReplicate,h,h']
 · have h':¬(ln A e l).length=l.length:=by omega
   simp (disch:=omega) [-List.reduceReplicate,h,h']
mutual
def Og (f:Node→Prop):Node→Prop
 | ⟨k,n,a,t,ks⟩=>f ⟨k,n,a,t,ks⟩∧aj f ks
def aj (f:Node→Prop):List Node→Prop
 | []=>True
 | n::l=>Og f n∧aj f l
end
mutual
def Iq:Node→Nat
 | ⟨k,n,a,t,ks⟩=>1 + am ks
def am:List Node→Nat
 | []=>0
 | n::l=>Iq n + am l
end
theorem b9 (f:Node→Prop) (n:Node):Og f n=(f n∧aj f n.kids):=by cases n; simp [Og]
theorem dJ (n:Node):Iq n=1 + am n.kids:=by cases n; simp [Iq]
theorem ru:∀ {l:List Node} {n:Node},n∈l→am n.kids + 1≤am l
 | [],n,h=>by cases h
 | x::l,n,h=>by
   simp only [am,dJ]
   rcases List.mem_cons.1 h with rfl | h
   · omega
   · have:=ru h; omega
theorem cu {f:Node→Prop}:∀ {l:List Node} {n:Node},aj f l→n∈l→f n∧aj f n.kids
 | [],n,_,h=>by cases h
 | x::l,n,ha,h=>by
   simp only [aj,b9] at ha
   rcases List.mem_cons.1 h with rfl | h
   · exact ha.1
   · exact cu ha.2 h
def kG (A:Constraint→Str→Bool) (p:Policy) (par:Str) (n:Node):Bool:=
 qS p par n && (!decide (n.kind=1) || mI A ((aZ p.elements n.name).getD .zero) n.attrs)
mutual
def MX (A:Constraint→Str→Bool) (p:Policy):Node→Int × Nat
 | ⟨_,nm,_,_,ks⟩=>bF A p nm ks 0
def bF (A:Constraint→Str→Bool) (p:Policy) (par:Str):List Node→Nat→Int × Nat
 | [],many=>(-1,many)
 | n::l,many=>if kG A p par n then (if 0≤(MX A p n).1 then ((many + 1:Int) + (MX A p n).1,many + 1) else bF A p par l (many + 1 + (MX A p n).2)) else (many,many)
end
theorem u4 (A:Constraint→Str→Bool) (p:Policy) (n:Node):MX A p n=bF A p n.name n.kids 0:=by cases n; simp [MX]
theorem kE (A:Constraint→Str→Bool) (p:Policy):∀ (l:List Node) (par:Str) (many:Nat),many≤(bF A p par l many).2∧(bF A p par l many).2≤many + am l∧-1≤(bF A p par l many).1∧(bF A p par l many).1≤many + am l:=by
 refine aB (fun par many=>by simp [bF,am]) ?_
 intro n l h1 h2 par many
 have g1:=h1 n.name 0
 simp only [bF,am,dJ,u4]
 split
 · split
   · simp only; omega
   · have g2:=h2 par (many + 1 + (bF A p n.name n.kids 0).2)
     omega
 · simp only; omega
def lC (n:Node):Prop:=n.attrs.length≤1000000∧∀ a∈n.attrs,a.value.length≤1000
theorem jZ:∀ {l:List Allowed} {s:Str} {r:Allowed},aZ l s=some r→r∈l∧r.name=s
 | [],s,r,h=>by simp [aZ] at h
 | x::l,s,r,h=>by
   simp only [aZ] at h
   split at h
   · cases h; exact ⟨by simp,by assumption⟩
   · obtain ⟨h1,h2⟩:=jZ h; exact ⟨by simp [h1],h2⟩
def r0 (A:Constraint→Str→Bool) (p:Policy):Prop:=∀ e∈p.elements,∀ r∈e.rules,∀ v:Str,v.length≤1000→Fn Tryz.prog cq [r.value.v,.str v] (.bool (A r.value v))
theorem Gc (A:Constraint→Str→Bool) (p:Policy) (hA:r0 A p):∀ (l:List Node) (par:Str),aj lC l→am l≤1000000000→
 Fn Tryz.prog iZ [p.v,.str par,.seq 5 (l.map Node.v)] (.tup [.int .i64 (bF A p par l 0).1,.int .i64 (bF A p par l 0).2]):=by
 have key:∀ l:List Node,(∀ n∈l,∀ (par:Str),aj lC n.kids→am n.kids≤1000000000→Fn Tryz.prog iZ [p.v,.str par,.seq 5 (n.kids.map Node.v)] (.tup [.int .i64 (bF A p par n.kids 0).1,.int .i64 (bF A p par n.kids 0).2]))→
  ∀ (par:Str),aj lC l→am l≤1000000000→Fn Tryz.prog iZ [p.v,.str par,.seq 5 (l.map Node.v)] (.tup [.int .i64 (bF A p par l 0).1,.int .i64 (bF A p par l 0).2]):=by
  intro l hrec par hfi hc
  refine Fn.of_image mixed FH Fk rfl fun ho=>?_
  unfold tT
  simp only [oks,ok,and_true] at ho
  have hlen:l.length≤140737488355328:=by have:=ho.2.2; simp at this; exact this.1
  clear ho
  simp (disch:=omega) [-List.reduceReplicate]
  generalize hR:bF A p par l 0=R
  have hRb:=kE A p l par 0
  rw [hR] at hRb
  refine ak (fun (q:Nat × Nat)=>⟨[(1,.str par),(2,.seq 5 (l.map Node.v)),(3,.ptr 0 0),(8,.int .i64 q.2),(9,.int .i64 q.1)],[some (.box [.seq 1 (p.top.map .str),.seq 3 (p.elements.map Allowed.v),.seq 1 (p.unwrap.map .str)])]⟩)
   (fun q=>q.1≤l.length∧bF A p par (l.drop q.1) q.2=R) (fun q=>l.length - q.1) [] _ (0,0) rfl (by simp) (by simp [hR]) ?_
  rintro ⟨k,many⟩ ⟨hk,hi⟩ N hN
  simp only at hk hi
  rcases place l k hk with ⟨he,hd⟩ | ⟨hlt,x,hx,hd⟩<;>rw [hd] at hi
  · simp only [bF] at hi
    subst hi
    simp (disch:=omega) [-List.reduceReplicate,he]
  · have hxm:=List.mem_of_getElem? hx
    obtain ⟨hfx,hfk⟩:=cu hfi hxm
    have hcx:=ru hxm
    have hm:=kE A p (l.drop k) par many
    rw [hd,hi] at hm
    have hxk:=kE A p x.kids x.name 0
    simp only [bF,u4] at hi
    replace hi:=hid hi
    simp (disch:=omega) [-List.reduceReplicate,hx]
    refine al (by simpa using xm p par x) rfl ?_
    simp (disch:=omega) [-List.reduceReplicate,hx]
    refine cA (by simpa using gQ p x.name) (by simp) ?_
    have hAe:∀ r∈((aZ p.elements x.name).getD .zero).rules,∀ a∈x.attrs,Fn Tryz.prog cq [r.value.v,.str a.value] (.bool (A r.value a.value)):=by
     intro r hr a ha
     cases hf:aZ p.elements x.name with
     | none=>rw [hf] at hr; simp [Allowed.zero] at hr
     | some e=>rw [hf] at hr; exact hA e (jZ hf).1 r hr a.value (hfx.2 a ha)
    generalize hE:(aZ p.elements x.name).getD .zero=E at hAe
    have bad:kG A p par x=false→R=((many:Int),many):=fun h=>by have hi:=hi.out; rw [if_neg (by simp [h])] at hi; exact hi.symm
    have good:kG A p par x=true→(if 0≤(bF A p x.name x.kids 0).1 then ((many + 1:Int) + (bF A p x.name x.kids 0).1,many + 1) else bF A p par (l.drop (k + 1)) (many + 1 + (bF A p x.name x.kids 0).2))=R:=fun h=>by have hi:=hi.out; rw [if_pos h] at hi; exact hi
    replace bad:=hid bad
    replace good:=hid good
    have fin:kG A p par x=true→∀ τ:St,τ.nrm [1,2,3,8,9]=⟨[(1,.str par),(2,.seq 5 (l.map Node.v)),(3,.ptr 0 0),(8,.int .i64 ((many + 1 + (bF A p x.name x.kids 0).2:Nat):Int)),(9,.int .i64 ((k + 1:Nat):Int))],[some (.box [.seq 1 (p.top.map .str),.seq 3 (p.elements.map Allowed.v),.seq 1 (p.unwrap.map .str)])]⟩→
     ¬0≤(bF A p x.name x.kids 0).1→N τ:=by
     intro h τ hτ hn
     have g:=good.out h
     rw [if_neg hn] at g
     exact hN.out _<|Nx.mk (k + 1,many + 1 + (bF A p x.name x.kids 0).2) hτ ⟨by simp only; omega,g⟩ (by simp only; omega)
    simp (disch:=omega) [-List.reduceReplicate,hx]
    repeat' (first
     | (refine BrKd.mk (fun h=>?_) (fun h=>?_)<;>simp (disch:=omega) [hE, *])
     | (refine BrK.mk (fun h=>?_) (fun h=>?_)<;>simp (disch:=omega) [hE, *])
     | (refine al (by simpa using Ad A E x.attrs hfx.1 hAe) rfl ?_<;>simp (disch:=omega) [*])
     | (refine al (by simpa using hrec x hxm x.name hfk (by omega)) rfl ?_<;>simp (disch:=omega) [*]))
    all_goals
     first
     | (have hb:=bad.out (by simp [kG,hE, *]); simp [hb]; done)
     | (have hok:kG A p par x=true:=by simp [kG,hE, *]
        first
        | (refine fin hok _ (by simp<;>omega) (by omega); done)
        | (have g:=good.out hok
           rw [if_pos (show 0≤(bF A p x.name x.kids 0).1 by omega)] at g
           simp [←g]; done))
 have all:∀ l:List Node,∀ n∈l,∀ (par:Str),aj lC n.kids→am n.kids≤1000000000→Fn Tryz.prog iZ [p.v,.str par,.seq 5 (n.kids.map Node.v)] (.tup [.int .i64 (bF A p par n.kids 0).1,.int .i64 (bF A p par n.kids 0).2]):=by
  refine aB (fun x hx=>by cases hx) ?_
  intro n l h1 h2 x hx
  rcases List.mem_cons.1 hx with rfl | hx
  · exact fun par=>key _ h1 par
  · exact h2 x hx
 exact fun l par=>key l (all l) par
def bV (b:UInt8):V:=.int .u8 b.toNat
theorem Iu (s:Str):fc s=s.map bV:=BA s
theorem Jk (b:UInt8):bV b=.int .u8 b.toNat:=rfl
attribute [simp] Iu Jk
def follows (b:UInt8):Bool:=decide (128≤b.toNat) && decide (b.toNat < 192)
theorem uP (b:UInt8):Fn Tryz.prog ut [.int .u8 b.toNat] (.bool (follows b)):=by
 refine Fn.of_image mixed uJ uB rfl fun ho=>?_
 unfold lK
 simp only [oks,ok,and_true] at ho
 simp (disch:=omega) [-List.reduceReplicate,follows]
 repeat' (first | (refine BrKd.mk (fun h=>?_) (fun h=>?_)<;>simp (disch:=omega) [*]) | (refine BrK.mk (fun h=>?_) (fun h=>?_)<;>simp (disch:=omega) [*]))
def hdr (c:Nat):Nat × Nat × Nat:=
 if 192≤c∧c < 224 then (2,c - 192,128) else if 224≤c∧c < 240 then (3,c - 224,2048) else if 240≤c∧c < 248 then (4,c - 240,65536) else (0,0,0)
def goV:Str→Nat→Option Nat
 | [],v=>some v
 | b::l,v=>if follows b then goV l (64 * v + b.toNat - 128) else none
def vK (n least:Nat):Option Nat→Nat × Nat
 | none=>(65533,1)
 | some v=>if v < least∨1114111 < v∨(55296≤v∧v≤57343) then (65533,1) else (v,n)
def one:Str→Nat × Nat
 | []=>(65533,1)
 | b::t=>if b.toNat < 128 then (b.toNat,1)
   else if (hdr b.toNat).1=0∨t.length + 1 < (hdr b.toNat).1 then (65533,1)
   else vK (hdr b.toNat).1 (hdr b.toNat).2.2 (goV (t.take ((hdr b.toNat).1 - 1)) (hdr b.toNat).2.1)
theorem Bh (c:Nat):(hdr c).1=0∨(2≤(hdr c).1∧(hdr c).1≤4∧(hdr c).2.1 < 64∧(hdr c).2.2≤65536):=by
 unfold hdr
 split
 · simp; omega
 · split
   · simp; omega
   · split
     · simp; omega
     · simp
theorem eY (s:Str):1≤(one s).2∧(one s).2≤4∧(s≠[]→(one s).2≤s.length)∧(one s).1≤1114111∧¬(55296≤(one s).1∧(one s).1≤57343):=by
 cases s with
 | nil=>simp [one]
 | cons b t=>
   have hb:=b.toNat_lt
   have hr:=Bh b.toNat
   simp only [one]
   split
   · simp; omega
   · split
     · simp
     · rename_i h
       unfold vK
       split
       · simp
       · split
         · simp
         · rename_i h2
           simp only [List.length_cons]
           omega
theorem HX {b:UInt8} (h:follows b=true):128≤b.toNat∧b.toNat < 192:=by simpa [follows] using h
theorem Gh (b:UInt8) (t:Str):Fn Tryz.prog E5 [.seq 1 ((b::t).map bV)] (.tup [.int .i32 (one (b::t)).1,.int .i64 (one (b::t)).2]):=by
 refine Fn.of_image mixed FU Fx rfl fun ho=>?_
 unfold ua
 simp only [oks,ok,and_true] at ho
 have hlen:t.length < 140737488355328:=by have:=ho.1; simp at this; omega
 clear ho
 have hb:=b.toNat_lt
 generalize hR:one (b::t)=R
 have hR2:=hR
 simp only [one] at hR2
 simp (disch:=omega) [-List.reduceReplicate]
 have hr:=Bh b.toNat
 refine BrKd.mk (fun h=>?_) (fun h=>?_)
 · rw [if_pos h] at hR2
   simp (disch:=omega) [-List.reduceReplicate,←hR2]
 · rw [if_neg h] at hR2
   have hz:(hdr b.toNat).1=0→R=(65533,1):=fun h=>by rw [if_pos (.inl h)] at hR2; exact hR2.symm
   have hs:t.length + 1 < (hdr b.toNat).1→R=(65533,1):=fun h=>by rw [if_pos (.inr h)] at hR2; exact hR2.symm
   have hok:¬(hdr b.toNat).1=0→¬t.length + 1 < (hdr b.toNat).1→vK (hdr b.toNat).1 (hdr b.toNat).2.2 (goV (t.take ((hdr b.toNat).1 - 1)) (hdr b.toNat).2.1)=R:=fun h h'=>by rw [if_neg (by simp [h,h'])] at hR2; exact hR2
   clear hR2
   replace hz:=hid hz
   replace hs:=hid hs
   replace hok:=hid hok
   simp (disch:=omega) [-List.reduceReplicate]
   repeat' (first
    | (refine BrKd.mk (fun h=>?_) (fun h=>?_)<;>simp (disch:=omega) [*])
    | (refine BrK.mk (fun h=>?_) (fun h=>?_)<;>simp (disch:=omega) [*]))
   all_goals
    first
    | (have hq:hdr b.toNat=(2,b.toNat - 192,128):=by unfold hdr; rw [if_pos (by omega)])
    | (have hq:hdr b.toNat=(3,b.toNat - 224,2048):=by unfold hdr; rw [if_neg (by omega),if_pos (by omega)])
    | (have hq:hdr b.toNat=(4,b.toNat - 240,65536):=by unfold hdr; rw [if_neg (by omega),if_neg (by omega),if_pos (by omega)])
    | (have hq:hdr b.toNat=(0,0,0):=by unfold hdr; rw [if_neg (by omega),if_neg (by omega),if_neg (by omega)])
    by_cases h0:(hdr b.toNat).1=0
    · first
      | (have h0:=hz.out h0; simp [h0]; done)
      | (exfalso; rw [hq] at h0; simp at h0; done)
    by_cases h1:t.length + 1 < (hdr b.toNat).1
    · first
      | (have h0:=hs.out h1; simp [h0]; done)
      | (exfalso; rw [hq] at h1; simp at h1; omega)
    first
    | (exfalso; rw [hq] at h0; exact h0 rfl)
    | (exfalso; rw [hq] at h1; simp only at h1; omega)
    | skip
   all_goals
    obtain ⟨n,hn⟩:∃ n:Nat,n=(hdr b.toNat).1:=⟨_,rfl⟩
    obtain ⟨v0,hv⟩:∃ n:Nat,n=(hdr b.toNat).2.1:=⟨_,rfl⟩
    obtain ⟨le,hl⟩:∃ n:Nat,n=(hdr b.toNat).2.2:=⟨_,rfl⟩
    rw [←hn,←hv,←hl] at hok hr
    rw [hq] at hn hv hl
    simp only at hn hv hl
    have hok:=hok.out (by omega) (by omega)
    have htl:(t.take (n - 1)).length=n - 1:=by rw [List.length_take]; omega
    refine ak (fun (q:Nat × Nat)=>⟨[(0,.seq 1 ((b::t).map bV)),(5,.int .i64 n),(6,.int .i64 q.2),(7,.int .i64 le),(8,.int .i64 ((q.1:Int) + 1))],[]⟩)
     (fun q=>q.1≤(t.take (n - 1)).length∧vK n le (goV ((t.take (n - 1)).drop q.1) q.2)=R∧((q.1=0∧q.2 < 64)∨(q.1=1∧q.2 < 4096)∨(q.1=2∧q.2 < 262144)∨(q.1=3∧q.2 < 16777216))) (fun q=>(t.take (n - 1)).length - q.1) [] _ (0,v0) rfl (by simp [hn,hv,hl]; omega) (by simp [hok]; omega) ?_
    have hn24:2≤n∧n≤4∧le≤65536:=by omega
    clear hq hn hv hl
    rintro ⟨j,v⟩ ⟨hj,hi,hvb⟩ N hN
    simp only at hj hi hvb
    rcases place (t.take (n - 1)) j hj with ⟨he,hd⟩ | ⟨hlt,x,hx,hd⟩<;>rw [hd,goV] at hi
    · simp only [vK] at hi
      have bad:(v < le∨1114111 < v∨(55296≤v∧v≤57343))→R=(65533,1):=fun h=>by rw [if_pos h] at hi; exact hi.symm
      have good:¬(v < le∨1114111 < v∨(55296≤v∧v≤57343))→R=(v,n):=fun h=>by rw [if_neg h] at hi; exact hi.symm
      clear hi
      replace bad:=hid bad
      replace good:=hid good
      have hjn:j + 1=n:=by omega
      have hjn2:¬((j:Int) + 1 < n):=by omega
      simp (disch:=omega) [-List.reduceReplicate,hjn2]
      repeat' (first
       | (refine BrKd.mk (fun h=>?_) (fun h=>?_)<;>simp (disch:=omega) [*])
       | (refine BrK.mk (fun h=>?_) (fun h=>?_)<;>simp (disch:=omega) [*]))
      all_goals first
       | (rw [bad.out (by omega)]; simp; done)
       | (rw [good.out (by omega)]; simp; done)
    · have hx2:t[j]?=some x:=by rw [List.getElem?_take] at hx; simpa [show j < n - 1 by omega] using hx
      have hxb:=x.toNat_lt
      have hjn2:(j:Int) + 1 < n:=by omega
      replace hi:=hid hi
      simp (disch:=omega) [-List.reduceReplicate,hx2,hjn2]
      refine ac (uP x) rfl fun _=>?_
      simp (disch:=omega) [-List.reduceReplicate]
      refine BrK.mk (fun h=>?_) (fun h=>?_)
      · have hf:=HX h
        simp (disch:=omega) [-List.reduceReplicate,hx2]
        have hi:=hi.out
        rw [if_pos h] at hi
        refine hN.out _<|Nx.mk (j + 1,64 * v + x.toNat - 128) (by simp; omega) ⟨by simp only; omega,hi,by simp only; omega⟩ (by simp only; omega)
      · simp (disch:=omega) [-List.reduceReplicate]
        have hi:=hi.out
        rw [if_neg (by simp [h])] at hi
        simp [←hi,vK]
def eX:Nat→Str→List Nat
 | 0,_=>[]
 | _,[]=>[]
 | f + 1,b::t=>(one (b::t)).1::eX f ((b::t).drop (one (b::t)).2)
def cQ (s:Str):List Nat:=eX s.length s
theorem G3:∀ (f:Nat) (s:Str),s.length≤f→eX f s=cQ s:=by
 have key:∀ (n f g:Nat) (s:Str),s.length≤n→s.length≤f→s.length≤g→eX f s=eX g s:=by
  intro n
  induction n with
  | zero=>intro f g s h1 _ _; have:s=[]:=List.eq_nil_of_length_eq_zero (by omega); subst this; cases f<;>cases g<;>rfl
  | succ n ih=>
    intro f g s h1 h2 h3
    cases s with
    | nil=>cases f<;>cases g<;>rfl
    | cons b t=>
      cases f with
      | zero=>simp at h2
      | succ f=>cases g with
        | zero=>simp at h3
        | succ g=>
          simp only [eX]
          have:=eY (b::t)
          simp only [List.length_cons] at h1 h2 h3
          rw [ih f g _ (by simp; omega) (by simp; omega) (by simp; omega)]
 intro f s h
 exact key s.length f s.length s (Nat.le_refl _) h (Nat.le_refl _)
theorem eW (b:UInt8) (t:Str):cQ (b::t)=(one (b::t)).1::cQ ((b::t).drop (one (b::t)).2):=by
 have:=eY (b::t)
 rw [←G3 t.length ((b::t).drop (one (b::t)).2) (by simp; omega)]
 rfl
theorem AI:∀ (n:Nat) (s:Str),s.length≤n→(cQ s).length≤s.length:=by
 intro n
 induction n with
 | zero=>intro s h; have:s=[]:=List.eq_nil_of_length_eq_zero (by omega); subst this; simp [cQ,eX]
 | succ n ih=>
   intro s h
   cases s with
   | nil=>simp [cQ,eX]
   | cons b t=>
     have h1:=eY (b::t)
     rw [eW]
     simp only [List.length_cons] at h ⊢
     have:=ih ((b::t).drop (one (b::t)).2) (by simp; omega)
     simp at this; omega
theorem JU:∀ (n:Nat) (s:Str),s.length≤n→∀ r∈cQ s,r≤1114111∧¬(55296≤r∧r≤57343):=by
 intro n
 induction n with
 | zero=>intro s h r hr; have:s=[]:=List.eq_nil_of_length_eq_zero (by omega); subst this; simp [cQ,eX] at hr
 | succ n ih=>
   intro s h r hr
   cases s with
   | nil=>simp [cQ,eX] at hr
   | cons b t=>
     have h1:=eY (b::t)
     rw [eW] at hr
     simp only [List.length_cons] at h
     rcases List.mem_cons.1 hr with rfl | hr
     · exact h1.2.2.2
     · exact ih _ (by simp; omega) r hr
def rV (r:Nat):V:=.int .i32 r
theorem rV_eq (r:Nat):rV r=.int .i32 r:=rfl
attribute [simp] rV_eq
theorem Am (s:Str) (hs:s.length≤1000000):FnN Tryz.prog yz [.seq 1 (s.map bV)] (.seq 1 ((cQ s).map rV)):=by
 refine FnN.of_image mixed zQ ze rfl fun ho=>?_
 unfold ph
 clear ho
 simp (disch:=omega) [-List.reduceReplicate]
 generalize hw:cQ s=w
 refine ak (fun (q:Nat × List Nat)=>⟨[(0,.seq 1 (s.map bV)),(3,.ref 0 q.2.length),(4,.int .i64 q.1)],[some (.arr jO 1 (q.2.map rV))]⟩)
  (fun q=>q.1≤s.length∧q.2.length≤q.1∧q.2++cQ (s.drop q.1)=w) (fun q=>s.length - q.1) [.r 3 jO 1] _ (0,[]) rfl (by simp) (by simp [←hw]) ?_
 rintro ⟨k,out⟩ ⟨hk,hol,hi⟩ N hN
 simp only at hk hol hi
 have hfl:∀ l:List Nat,cf (l.map rV)=true:=fun l=>by induction l<;>simp [cf,cg, *]
 rcases place s k hk with ⟨he,hd⟩ | ⟨hlt,x,hx,hd⟩<;>rw [hd] at hi
 · simp [cQ,eX] at hi
   subst hi
   simp (disch:=omega) [-List.reduceReplicate,he,hfl]
 · have h1:=eY (x::s.drop (k + 1))
   rw [eW] at hi
   have hd2:(x::s.drop (k + 1)).drop (one (x::s.drop (k + 1))).2=s.drop (k + (one (x::s.drop (k + 1))).2):=by rw [←hd,List.drop_drop]
   rw [hd2] at hi
   have hle:=h1.2.2.1 (by simp)
   simp only [List.length_cons,List.length_drop] at hle
   replace hi:=hid hi
   have hsl:se (s.map bV) k s.length=some ((x::s.drop (k + 1)).map bV):=by
    simp only [se]
    rw [if_pos (by simp; omega),←hd]
    simp
    rw [List.take_of_length_le (by simp)]
   simp (disch:=omega) [hsl,-List.map_cons,-se]
   refine ac (Gh x (s.drop (k + 1))) rfl fun _=>?_
   generalize one (x::s.drop (k + 1))=o at *
   simp (disch:=omega) [-List.reduceReplicate]
   refine hN.out _<|Nx.mk (k + o.2,out++[o.1]) (by simp) ⟨by simp only; omega,by simp; omega,by simpa using hi.out⟩ (by simp only; omega)
def b8 (n:Nat):UInt8:=UInt8.ofNat n
theorem rY {n:Nat} (h:n < 256):(b8 n).toNat=n:=by simp [b8,UInt8.toNat_ofNat,Nat.mod_eq_of_lt h]
def eP (r:Nat):Str:=
 let v:=if 1114111 < r∨(55296≤r∧r≤57343) then 65533 else r
 if v < 128 then [b8 v]
 else if v < 2048 then [b8 (192 + v / 64),b8 (128 + v % 64)]
 else if v < 65536 then [b8 (224 + v / 4096),b8 (128 + v / 64 % 64),b8 (128 + v % 64)]
 else [b8 (240 + v / 262144),b8 (128 + v / 4096 % 64),b8 (128 + v / 64 % 64),b8 (128 + v % 64)]
theorem xR (r:Nat):(eP r).length≤4:=by
 unfold eP
 simp only
 repeat' split
 all_goals simp
theorem Al (r:Nat) (h:r≤1114111):Fn Tryz.prog yy [.int .i32 r] (.seq 1 ((eP r).map bV)):=by
 refine Fn.of_image mixed zP zd rfl fun ho=>?_
 unfold pg
 simp only [oks,ok,and_true] at ho
 clear ho
 generalize hR:eP r=R
 unfold eP at hR
 simp only at hR
 by_cases hb:1114111 < r∨(55296≤r∧r≤57343)
 · rw [if_pos hb] at hR
   simp (disch:=omega) [-List.reduceReplicate]
   repeat' (first
    | (refine BrKd.mk (fun h=>?_) (fun h=>?_)<;>simp (disch:=omega) [*])
    | (refine BrK.mk (fun h=>?_) (fun h=>?_)<;>simp (disch:=omega) [*]))
   all_goals first | omega | (subst hR; rfl)
 · rw [if_neg hb] at hR
   simp (disch:=omega) [-List.reduceReplicate]
   repeat' (first
    | (refine BrKd.mk (fun h=>?_) (fun h=>?_)<;>simp (disch:=omega) [*])
    | (refine BrK.mk (fun h=>?_) (fun h=>?_)<;>simp (disch:=omega) [*]))
   all_goals (subst hR; simp (disch:=omega) [rY])
def iQ (l:List Nat):Str:=(l.map eP).flatten
theorem AE:∀ l:List Nat,(iQ l).length≤4 * l.length
 | []=>by simp [iQ]
 | r::l=>by
   have h1:=xR r
   have h2:=AE l
   simp only [iQ,List.map_cons,List.flatten_cons,List.length_append,List.length_cons] at *
   omega
theorem qH:∀ s:Str,dX (s.map bV)=some s
 | []=>rfl
 | b::s=>by
   have:=qH s
   simp only [List.map_cons,Jk,dX,this,Option.map_some,Option.some.injEq,List.cons.injEq,and_true]
   simp
attribute [simp] qH
theorem DT (l:List Nat) (hl:l.length≤1000000) (hr:∀ r∈l,r≤1114111):Fn Tryz.prog Co [.seq 1 (l.map rV)] (.str (iQ l)):=by
 refine Fn.of_image mixed Du C1 rfl fun ho=>?_
 unfold rR
 simp only [oks,ok,and_true] at ho
 clear ho
 simp (disch:=omega) [-List.reduceReplicate]
 generalize hw:iQ l=w
 refine ak (fun (q:Nat × Str)=>⟨[(0,.seq 1 (l.map rV)),(3,.ref 0 q.2.length),(4,.int .i64 q.1)],[some (.arr jN 1 (q.2.map bV))]⟩)
  (fun q=>q.1≤l.length∧q.2.length≤4 * q.1∧q.2++iQ (l.drop q.1)=w) (fun q=>l.length - q.1) [.r 3 jN 1] _ (0,[]) rfl (by simp) (by simp [←hw]) ?_
 rintro ⟨k,out⟩ ⟨hk,hol,hi⟩ N hN
 simp only at hk hol hi
 rcases place l k hk with ⟨he,hd⟩ | ⟨hlt,x,hx,hd⟩<;>rw [hd] at hi
 · simp [iQ] at hi
   subst hi
   simp (disch:=omega) [he,-Jk]
 · simp only [iQ,List.map_cons,List.flatten_cons] at hi
   have hxl:=xR x
   replace hi:=hid hi
   simp (disch:=omega) [-List.reduceReplicate,hx]
   refine an (Al x (hr x (List.mem_of_getElem? hx))) (by simp) fun _=>?_
   simp (disch:=omega) [-List.reduceReplicate]
   refine hN.out _<|Nx.mk (k + 1,out++eP x) (by simp) ⟨by simp only; omega,by simp; omega,by simpa [iQ] using hi.out⟩ (by simp only; omega)
def jm:Option Nat→List Nat→List Nat
 | _,[]=>[]
 | p,r::l=>(if r=10∧p=some 13 then [] else [if r=13 then 10 else if r=0 then 65533 else r])++jm (some r) l
theorem F6:∀ (l:List Nat) (p:Option Nat),(jm p l).length≤l.length
 | [],p=>by simp [jm]
 | r::l,p=>by
   have:=F6 l (some r)
   simp only [jm,List.length_append,List.length_cons]
   split<;>simp<;>omega
theorem F5:∀ (l:List Nat) (p:Option Nat),(∀ r∈l,r≤1114111)→∀ r∈jm p l,r≤1114111
 | [],p,_,r,hr=>by simp [jm] at hr
 | x::l,p,h,r,hr=>by
   simp only [jm,List.mem_append] at hr
   rcases hr with hr | hr
   · have:=h x (by simp)
     split at hr
     · cases hr
     · simp at hr; subst hr; split<;>(try split)<;>omega
   · exact F5 l _ (fun y hy=>h y (by simp [hy])) r hr
def de (s:Str):Str:=iQ (jm none (cQ s))
def lg (l:List Nat) (k:Nat):Option Nat:=if k=0 then none else l[k - 1]?
theorem jy (s:Str) (hs:s.length≤1000000):Fn Tryz.prog yA [.seq 1 (s.map bV)] (.str (de s)):=by
 refine Fn.of_image mixed zR zf rfl fun ho=>?_
 unfold pi
 simp only [oks,ok,and_true] at ho
 clear ho
 have hrl:=AI s.length s (Nat.le_refl _)
 have hrm:=JU s.length s (Nat.le_refl _)
 simp (disch:=omega) [-List.reduceReplicate]
 refine gY (Am s hs) fun _=>?_
 unfold de
 generalize cQ s=l at *
 simp (disch:=omega) [-List.reduceReplicate]
 generalize hw:jm none l=w
 have hwm:=F5 l none (fun r hr=>(hrm r hr).1)
 rw [hw] at hwm
 refine ak (fun (q:Nat × List Nat)=>⟨[(3,.seq 1 (l.map rV)),(4,.ref 0 q.2.length),(5,.int .i64 q.1)],[some (.arr jO 1 (q.2.map rV))]⟩)
  (fun q=>q.1≤l.length∧q.2.length≤q.1∧q.2++jm (lg l q.1) (l.drop q.1)=w) (fun q=>l.length - q.1) [.r 4 jO 1] _ (0,[]) rfl (by simp) (by simp [←hw,lg]) ?_
 rintro ⟨k,out⟩ ⟨hk,hol,hi⟩ N hN
 simp only at hk hol hi
 rcases place l k hk with ⟨he,hd⟩ | ⟨hlt,x,hx,hd⟩<;>rw [hd] at hi
 · simp [jm] at hi
   subst hi
   simp (disch:=omega) [-List.reduceReplicate,he]
   refine ac (DT out (by omega) hwm) rfl fun _=>?_
   simp (disch:=omega) [-List.reduceReplicate]
 · have hp1:lg l (k + 1)=some x:=by simp [lg,hx]
   simp only [jm,←hp1] at hi
   have skip:(x=10∧lg l k=some 13)→out++jm (lg l (k + 1)) (l.drop (k + 1))=w:=fun h=>by rw [if_pos h] at hi; simpa using hi
   have put:¬(x=10∧lg l k=some 13)→(out++[if x=13 then 10 else if x=0 then 65533 else x])++jm (lg l (k + 1)) (l.drop (k + 1))=w:=fun h=>by rw [if_neg h] at hi; simpa using hi
   clear hi
   replace skip:=hid skip
   replace put:=hid put
   have hxr:=(hrm x (List.mem_of_getElem? hx)).1
   have fin:∀ τ:St,∀ o2:List Nat,τ.nrm [3,4,5]=⟨[(3,.seq 1 (l.map rV)),(4,.ref 0 o2.length),(5,.int .i64 ((k + 1:Nat):Int))],[some (.arr jO 1 (o2.map rV))]⟩→o2.length≤k + 1→o2++jm (lg l (k + 1)) (l.drop (k + 1))=w→N τ:=by
    intro τ o2 h1 h2 h3
    exact hN.out _<|Nx.mk (k + 1,o2) h1 ⟨by simp only; omega,h2,h3⟩ (by simp only; omega)
   by_cases h10:x=10
   · subst h10
     rcases Nat.eq_zero_or_pos k with hk0 | hk0
     · subst hk0
       simp (disch:=omega) [-List.reduceReplicate,hx]
       exact fin _ (out++[10]) (by simp) (by simp only [List.length_append,List.length_cons,List.length_nil]; omega) (by simpa using put.out (by simp [lg]))
     · obtain ⟨y,hy⟩:=aO (l:=l) (k:=k - 1) (by omega)
       have hkt:((k:Int) - 1).toNat=k - 1:=by omega
       simp (disch:=omega) [-List.reduceReplicate,hx,hy,hkt]
       refine BrKd.mk (fun h=>?_) (fun h=>?_)
       · simp (disch:=omega) [-List.reduceReplicate,hx]
         exact fin _ out (by simp) (by omega) (skip.out ⟨rfl,by simp [lg,hy]; omega⟩)
       · simp (disch:=omega) [-List.reduceReplicate,hx]
         exact fin _ (out++[10]) (by simp) (by simp; omega) (by simpa using put.out (by simp [lg,hy]; omega))
   · by_cases h13:x=13
     · subst h13
       simp (disch:=omega) [-List.reduceReplicate,hx]
       exact fin _ (out++[10]) (by simp) (by simp; omega) (by simpa using put.out (by simp))
     · by_cases h0:x=0
       · subst h0
         simp (disch:=omega) [-List.reduceReplicate,hx]
         exact fin _ (out++[65533]) (by simp) (by simp; omega) (by simpa using put.out (by simp))
       · simp (disch:=omega) [-List.reduceReplicate,hx,h10,h13,h0]
         exact fin _ (out++[x]) (by simp) (by simp; omega) (by simpa [h13,h0] using put.out (by simp [h10]))
theorem p8 (s:Str) (hs:s.length≤1000000):Fn Tryz.prog Hq [.str s] (.bool (decide (de s=s))):=by
 refine Fn.of_image mixed HM HG rfl fun ho=>?_
 unfold xL
 simp only [oks,ok,and_true] at ho
 simp (disch:=omega) [-List.reduceReplicate]
 refine ac (by simpa using jy s hs) rfl fun _=>?_
 simp (disch:=omega) [-List.reduceReplicate]
def ol (s:Str):Str:=s.take 30
theorem i9 (s:Str):Fn Tryz.prog E2 [.str s] (.str (ol s)):=by
 refine Fn.of_image mixed FO Fs rfl fun ho=>?_
 unfold tZ
 simp only [oks,ok,and_true] at ho
 simp (disch:=omega) [-List.reduceReplicate,ol]
 refine BrKd.mk (fun h=>?_) (fun h=>?_)
 · simp (disch:=omega) [-List.reduceReplicate,h]
 · simp (disch:=omega) [-List.reduceReplicate,h]
   rw [List.take_of_length_le (by omega)]
def KN (a:Attr):Attr:=⟨ol a.name,ol a.value⟩
mutual
def NS:Node→Nat→List Node × Nat
 | ⟨_,_,_,_,ks⟩,m=>cL ks m
def cL:List Node→Nat→List Node × Nat
 | [],m=>([],m)
 | n::l,m=>if m=0 then ([],0) else
   (⟨n.kind,ol n.name,(n.attrs.take 5).map KN,ol n.text,(NS n (m - 1)).1⟩::(cL l (NS n (m - 1)).2).1,(cL l (NS n (m - 1)).2).2)
end
theorem ve (n:Node) (m:Nat):NS n m=cL n.kids m:=by cases n; simp [NS]
theorem rt:∀ (l:List Node) (m:Nat),am (cL l m).1 + (cL l m).2≤m:=by
 refine aB (fun m=>by simp [cL,am]) ?_
 intro n l h1 h2 m
 simp only [cL,ve]
 split
 · simp [am]
 · have g1:=h1 (m - 1)
   have g2:=h2 (cL n.kids (m - 1)).2
   simp only [am,Iq]
   omega
theorem fx:∀ l:List Node,l.length≤am l
 | []=>by simp [am]
 | n::l=>by have:=fx l; simp [am,dJ]; omega
theorem Gg:∀ (l:List Node) (m:Nat),m≤1000→Fn Tryz.prog i4 [.seq 5 (l.map Node.v),.int .i64 m] (.tup [.seq 5 ((cL l m).1.map Node.v),.int .i64 (cL l m).2]):=by
 have key:∀ l:List Node,(∀ n∈l,∀ m:Nat,m≤1000→Fn Tryz.prog i4 [.seq 5 (n.kids.map Node.v),.int .i64 m] (.tup [.seq 5 ((cL n.kids m).1.map Node.v),.int .i64 (cL n.kids m).2]))→
  ∀ m:Nat,m≤1000→Fn Tryz.prog i4 [.seq 5 (l.map Node.v),.int .i64 m] (.tup [.seq 5 ((cL l m).1.map Node.v),.int .i64 (cL l m).2]):=by
  intro l hrec m hm
  refine Fn.of_image mixed FT Fw rfl fun ho=>?_
  unfold t8
  simp only [oks,ok,and_true] at ho
  have hlen:l.length≤140737488355328:=by have:=ho.1; simp at this; exact this.1
  clear ho
  simp (disch:=omega) [-List.reduceReplicate]
  generalize hR:cL l m=R
  refine ak (fun (q:Nat × Nat × List Node)=>⟨[(0,.seq 5 (l.map Node.v)),(1,.int .i64 q.2.1),(6,.ref 0 q.2.2.length),(7,.int .i64 q.1)],[some (.arr aD 5 (q.2.2.map Node.v))]⟩)
   (fun q=>q.1≤l.length∧q.2.2.length + q.2.1≤1000∧(q.2.2++(cL (l.drop q.1) q.2.1).1,(cL (l.drop q.1) q.2.1).2)=R) (fun q=>l.length - q.1) [.r 6 aD 5] _ (0,m,[]) rfl (by simp) (by simp [hR]; omega) ?_
  rintro ⟨k,m,out⟩ ⟨hk,hol,hi⟩ N hN
  simp only at hk hol hi
  rcases place l k hk with ⟨he,hd⟩ | ⟨hlt,x,hx,hd⟩<;>rw [hd] at hi
  · simp [cL] at hi
    subst hi
    simp (disch:=omega) [-List.reduceReplicate,he]
  · simp only [cL,ve] at hi
    rcases Nat.eq_zero_or_pos m with hm0 | hm0
    · subst hm0
      simp at hi
      subst hi
      simp (disch:=omega) [-List.reduceReplicate]
    · rw [if_neg (by omega)] at hi
      have hxc:=rt x.kids (m - 1)
      replace hi:=hid hi
      simp (disch:=omega) [-List.reduceReplicate,hx]
      refine ac (i9 _) rfl fun _=>?_
      simp (disch:=omega) [-List.reduceReplicate]
      refine ac (i9 _) rfl fun _=>?_
      simp (disch:=omega) [-List.reduceReplicate]
      have hm1:((m:Int) - 1)=((m - 1:Nat):Int):=by omega
      rw [hm1]
      refine an (hrec x (List.mem_of_getElem? hx) (m - 1) (by omega)) (by simp) fun _=>?_
      generalize cL x.kids (m - 1)=ck at *
      simp (disch:=omega) [-List.reduceReplicate]
      have hl5:(List.take 5 x.attrs).length=min 5 x.attrs.length:=List.length_take
      refine ak (fun (q:Nat)=>⟨[(0,.seq 5 (l.map Node.v)),(1,.int .i64 ck.2),(6,.ref 0 out.length),(7,.int .i64 k),(8,.ptr 1 0),(9,.ref 2 ((x.attrs.take 5).take q).length),(10,.int .i64 q)],
       [some (.arr aD 5 (out.map Node.v)),some (.box [.int .i64 x.kind,.str (ol x.name),.seq 2 (x.attrs.map Attr.v),.str (ol x.text),.seq 5 (ck.1.map Node.v)]),some (.arr bI 2 ((((x.attrs.take 5).take q).map KN).map Attr.v))]⟩)
       (fun q=>q≤(x.attrs.take 5).length) (fun q=>(x.attrs.take 5).length - q) [.r 9 bI 2] _ 0 rfl (by simp) (by simp) ?_
      rintro j hj N2 hN2
      have hjl:((x.attrs.take 5).take j).length=j:=by rw [List.length_take]; omega
      rcases place (x.attrs.take 5) j hj with ⟨he2,hd2⟩ | ⟨hlt2,y,hy,hd2⟩
      · have htk:(x.attrs.take 5).take j=x.attrs.take 5:=List.take_of_length_le (by omega)
        rw [htk] at hjl ⊢
        have hjj:(j < x.attrs.length∧j=5)∨j=x.attrs.length:=by omega
        rcases hjj with hjj | hjj
        all_goals
         simp (disch:=omega) [-List.reduceReplicate,hjj,hjl]
         refine hN.out _<|Nx.mk (k + 1,ck.2,out++[⟨x.kind,ol x.name,(x.attrs.take 5).map KN,ol x.text,ck.1⟩]) (by simp) ⟨by simp only; omega,by simp; omega,by simpa using hi.out⟩ (by simp only; omega)
      · have hy2:x.attrs[j]?=some y:=by rw [List.getElem?_take] at hy; simpa [show j < 5 by omega] using hy
        rw [hjl]
        simp (disch:=omega) [-List.reduceReplicate,hy2,hjl]
        refine al (i9 _) rfl ?_
        simp (disch:=omega) [-List.reduceReplicate,hy2,hjl]
        refine al (i9 _) rfl ?_
        simp (disch:=omega) [-List.reduceReplicate,hy2,hjl]
        refine hN2.out _<|Nx.mk (j + 1) ?_ (by omega) (by omega)
        have hjl2:((x.attrs.take 5).take (j + 1)).length=j + 1:=by rw [List.length_take]; omega
        rw [hjl2,cn hy]
        simp [KN]
 have all:∀ l:List Node,∀ n∈l,∀ m:Nat,m≤1000→Fn Tryz.prog i4 [.seq 5 (n.kids.map Node.v),.int .i64 m] (.tup [.seq 5 ((cL n.kids m).1.map Node.v),.int .i64 (cL n.kids m).2]):=by
  refine aB (fun x hx=>by cases hx) ?_
  intro n l h1 h2 x hx
  rcases List.mem_cons.1 hx with rfl | hx
  · exact key _ h1
  · exact h2 x hx
 exact fun l=>key l (all l)
theorem tK (l:List Node):Fn Tryz.prog E4 [.seq 5 (l.map Node.v)] (.seq 5 ((cL l 40).1.map Node.v)):=by
 refine Fn.of_image mixed FS Fv rfl fun ho=>?_
 unfold t7
 simp only [oks,ok,and_true] at ho
 clear ho
 simp (disch:=omega) [-List.reduceReplicate]
 refine an (Gg l 40 (by omega)) (by simp) fun _=>?_
 simp (disch:=omega) [-List.reduceReplicate]
def IY:List Str:=[[97],[98],[112],[117,108],[108,105],[98,114],[105,109,103],[100,105,118],[115,99,114,105,112,116],[120,45,121]]
def r5 (s:Str):Str:=if named s then s else (IY[sumB s % 10]?).getD []
theorem DR (s:Str) (hs:s.length≤1000000):Fn Tryz.prog Ck [.str s] (.str (r5 s)):=by
 refine Fn.of_image mixed Dq CX rfl fun ho=>?_
 unfold rO
 simp only [oks,ok,and_true] at ho
 clear ho
 simp (disch:=omega) [-List.reduceReplicate]
 refine ak (fun (p:Nat × Nat)=>⟨[(0,.str s),(3,.seq 1 (IY.map .str)),(4,.int .i64 p.2),(5,.int .i64 p.1)],[]⟩)
  (fun p=>p.1≤s.length∧p.2≤255 * p.1∧p.2 + sumB (s.drop p.1)=sumB s) (fun p=>s.length - p.1) [] _ (0,0) rfl (by simp [IY]) (by simp) ?_
 rintro ⟨k,n⟩ ⟨hk,hn,hi⟩ N hN
 simp only at hk hn hi
 rcases place s k hk with ⟨he,hd⟩ | ⟨hlt,x,hx,hd⟩<;>rw [hd,sumB] at hi
 · have hm:n % 10 < 10:=Nat.mod_lt _ (by decide)
   have ht:((n:Int) % 10).toNat=n % 10:=by omega
   obtain ⟨y,hy⟩:=aO (l:=IY) (k:=n % 10) hm
   have hpl:IY.length=10:=rfl
   simp only [Nat.add_zero] at hi
   simp (disch:=omega) [-List.reduceReplicate,he]
   refine ac (fq s) rfl fun _=>?_
   simp (disch:=omega) [-List.reduceReplicate]
   refine BrK.mk (fun h=>?_) (fun h=>?_)
   · simp (disch:=omega) [-List.reduceReplicate]
     simp [r5,h]
   · simp (disch:=omega) [-List.reduceReplicate,hpl,ht,hy]
     simp [r5,h,←hi,hy]
 · have hx8:=x.toNat_lt
   simp (disch:=omega) [-List.reduceReplicate,hx]
   refine hN.out _<|Nx.mk (k + 1,n + x.toNat) (by simp) ⟨by simp only; omega,by simp only; omega,by simp only; omega⟩ (by simp only; omega)
def dE (b:UInt8):Bool:=(decide (65≤b.toNat) && decide (b.toNat≤90)) || (decide (b.toNat=9) || (decide (b.toNat=10) || (decide (b.toNat=12) || (decide (b.toNat=32) || (decide (b.toNat=47) || (decide (b.toNat=62) || decide (b.toNat=61)))))))
def dA (s:Str):Bool:=s.all (fun b=>!dE b) && (decide (de s=s) && decide (0 < s.length))
theorem iD (s:Str) (hs:s.length≤1000000):Fn Tryz.prog pO [.str s] (.bool (dA s)):=by
 refine Fn.of_image mixed pY pT rfl fun ho=>?_
 unfold iL
 simp only [oks,ok,and_true] at ho
 clear ho
 simp (disch:=omega) [-List.reduceReplicate]
 refine ac (p8 s hs) rfl fun _=>?_
 simp (disch:=omega) [-List.reduceReplicate]
 generalize hr:dA s=r
 refine ak (fun k:Nat=>⟨[(0,.str s),(3,.bool (decide (de s=s))),(4,.int .i64 k)],[]⟩) (fun k=>k≤s.length∧((s.drop k).all (fun b=>!dE b) && (decide (de s=s) && decide (0 < s.length)))=r) (fun k=>s.length - k) [] _ 0 rfl (by simp [*]) (by simp [*,←hr,dA]) ?_
 rintro k ⟨hk,hi⟩ N hN
 rcases place s k hk with ⟨he,hd⟩ | ⟨hlt,x,hx,hd⟩<;>rw [hd] at hi<;>replace hi:=hid hi
 · have hi:=hi.out
   simp (disch:=omega) [-List.reduceReplicate,he]
   repeat' (first | (refine BrKd.mk (fun h=>?_) (fun h=>?_)<;>simp (disch:=omega) [*]) | (refine BrK.mk (fun h=>?_) (fun h=>?_)<;>simp (disch:=omega) [*]))
   all_goals (first | simpa [*] using hi | (simp [*] at hi; simp [←hi, *]))
 · simp only [List.all_cons] at hi
   have no:dE x=true→r=false:=fun h=>by have hi:=hi.out; simpa [h] using hi.symm
   have go:dE x=false→((s.drop (k + 1)).all (fun b=>!dE b) && (decide (de s=s) && decide (0 < s.length)))=r:=fun h=>by have hi:=hi.out; rw [h] at hi; simpa using hi
   replace no:=hid no
   replace go:=hid go
   simp (disch:=omega) [-List.reduceReplicate,hx]
   repeat' (first | (refine BrKd.mk (fun h=>?_) (fun h=>?_)<;>simp (disch:=omega) [*]) | (refine BrK.mk (fun h=>?_) (fun h=>?_)<;>simp (disch:=omega) [*]))
   all_goals first
    | (refine hN.out _<|Nx.mk (k + 1) (by simp [*]) ⟨by omega,go.out ?_⟩ (by omega); simp [dE, *]; done)
    | (refine hN.out _<|Nx.mk (k + 1) (by simp [*]) ⟨by omega,go.out ?_⟩ (by omega); unfold dE; simp; omega)
    | (rw [no.out ?_]; simp [dE, *]; done)
    | (refine (no.out ?_); simp [dE, *]; done)
    | (refine (no.out ?_).symm; simp [dE, *]; done)
def MT:List Str:=[[105,100],[104,114,101,102],[116,105,116,108,101],[100,97,116,97,45,97],[111,110,99,108,105,99,107]]
def ce (s:Str):Str:=if dA s then s else (MT[s.length % 5]?).getD []
theorem rh (s:Str) (hs:s.length≤1000000):Fn Tryz.prog qK [.str s] (.str (ce s)):=by
 refine Fn.of_image mixed qY qV rfl fun ho=>?_
 unfold jf
 simp only [oks,ok,and_true] at ho
 clear ho
 simp (disch:=omega) [-List.reduceReplicate]
 refine ac (iD s hs) rfl fun _=>?_
 simp (disch:=omega) [-List.reduceReplicate]
 have hm:s.length % 5 < 5:=Nat.mod_lt _ (by decide)
 have ht:((s.length:Int) % 5).toNat=s.length % 5:=by omega
 obtain ⟨y,hy⟩:=aO (l:=MT) (k:=s.length % 5) hm
 have hy2:([.str [105,100],.str [104,114,101,102],.str [116,105,116,108,101],.str [100,97,116,97,45,97],.str [111,110,99,108,105,99,107]]:List V)[s.length % 5]?=some (.str y):=by
  have:(MT.map V.str)[s.length % 5]?=some (.str y):=by rw [List.getElem?_map,hy]; rfl
  exact this
 refine BrK.mk (fun h=>?_) (fun h=>?_)
 · simp (disch:=omega) [-List.reduceReplicate]
   simp [ce,h]
 · simp (disch:=omega) [-List.reduceReplicate,ht,hy2]
   simp [ce,h,hy]
def bG:List Node→List Node→List Node
 | out,[]=>out
 | out,n::l=>
   if n.kind=2∧n.text=[] then bG out l
   else match out[out.length - 1]? with
    | some o=>if n.kind=2∧o.kind=2 then bG (out.set (out.length - 1) ⟨o.kind,o.name,o.attrs,o.text++n.text,o.kids⟩) l else bG (out++[n]) l
    | none=>bG (out++[n]) l
def cR (l:List Node):List Node:=bG [] l
theorem oL (l:List Node) (hl:l.length≤1000000) (ht:∀ n∈l,n.text.length≤1000000):Fn Tryz.prog yx [.seq 5 (l.map Node.v)] (.seq 5 ((cR l).map Node.v)):=by
 refine Fn.of_image mixed zO zb rfl fun ho=>?_
 unfold pf
 simp only [oks,ok,and_true] at ho
 clear ho
 simp (disch:=omega) [-List.reduceReplicate]
 generalize hw:cR l=w
 refine ak (fun (q:Nat × List Node)=>⟨[(0,.seq 5 (l.map Node.v)),(3,.ref 0 q.2.length),(4,.int .i64 q.1)],[some (.arr aD 5 (q.2.map Node.v))]⟩)
  (fun q=>q.1≤l.length∧q.2.length≤q.1∧(∀ n∈q.2,n.text.length≤1000000 * q.1)∧bG q.2 (l.drop q.1)=w) (fun q=>l.length - q.1) [.r 3 aD 5] _ (0,[]) rfl (by simp) (by simp [←hw,cR]) ?_
 rintro ⟨k,out⟩ ⟨hk,hol,htx,hi⟩ N hN
 simp only at hk hol htx hi
 rcases place l k hk with ⟨he,hd⟩ | ⟨hlt,x,hx,hd⟩<;>rw [hd] at hi
 · simp [bG] at hi
   subst hi
   simp (disch:=omega) [-List.reduceReplicate,he]
 · have hxt:=ht x (List.mem_of_getElem? hx)
   simp only [bG] at hi
   by_cases h2:x.kind=2
   · by_cases ht0:x.text=[]
     · rw [if_pos ⟨h2,ht0⟩] at hi
       replace hi:=hid hi
       simp (disch:=omega) [-List.reduceReplicate,hx,h2,ht0]
       refine hN.out _<|Nx.mk (k + 1,out) (by simp) ⟨by simp only; omega,by simp only; omega,fun n hn=>by have:=htx n hn; simp only; omega,hi.out⟩ (by simp only; omega)
     · rw [if_neg (fun h=>ht0 h.2)] at hi
       rcases Nat.eq_zero_or_pos out.length with h0 | h0
       · have ho0:out=[]:=List.eq_nil_of_length_eq_zero h0
         subst ho0
         simp only [List.getElem?_nil,List.nil_append] at hi
         replace hi:=hid hi
         simp (disch:=omega) [-List.reduceReplicate,hx,h2,ht0]
         refine hN.out _<|Nx.mk (k + 1,[x]) (by simp [h2]) ⟨by simp only; omega,by simp,fun n hn=>by simp at hn; subst hn; simp only; omega,hi.out⟩ (by simp only; omega)
       · obtain ⟨o,ho⟩:=aO (l:=out) (k:=out.length - 1) (by omega)
         rw [ho] at hi
         simp only at hi
         have hot:=htx o (List.mem_of_getElem? ho)
         have hoz:((out.length:Int) - 1).toNat=out.length - 1:=by omega
         replace hi:=hid hi
         simp (disch:=omega) [-List.reduceReplicate,hx,h2,ht0,hoz,ho]
         refine BrKd.mk (fun hk2=>?_) (fun hk2=>?_)
         · simp (disch:=omega) [-List.reduceReplicate,hx,h2,ht0,hoz,ho,hk2]
           have hi:=hi.out
           rw [if_pos ⟨h2,hk2⟩] at hi
           refine hN.out _<|Nx.mk (k + 1,out.set (out.length - 1) ⟨o.kind,o.name,o.attrs,o.text++x.text,o.kids⟩) (by simp [List.map_set,hk2]) ⟨by simp only; omega,by simp; omega,?_,hi⟩ (by simp only; omega)
           intro n hn
           rcases List.mem_or_eq_of_mem_set hn with hn | rfl
           · have:=htx n hn; simp only; omega
           · simp only [List.length_append]; omega
         · simp (disch:=omega) [-List.reduceReplicate,hx,h2,ht0,hoz,ho,hk2]
           have hi:=hi.out
           rw [if_neg (fun h=>hk2 h.2)] at hi
           refine hN.out _<|Nx.mk (k + 1,out++[x]) (by simp [h2]) ⟨by simp only; omega,by simp; omega,?_,hi⟩ (by simp only; omega)
           intro n hn
           simp only [List.mem_append,List.mem_singleton] at hn
           rcases hn with hn | rfl
           · have:=htx n hn; simp only; omega
           · simp only; omega
   · rw [if_neg (fun h=>h2 h.1)] at hi
     have hi2:bG (out++[x]) (l.drop (k + 1))=w:=by
      split at hi
      · rw [if_neg (fun h=>h2 h.1)] at hi; exact hi
      · exact hi
     clear hi
     replace hi2:=hid hi2
     simp (disch:=omega) [-List.reduceReplicate,hx,h2]
     refine hN.out _<|Nx.mk (k + 1,out++[x]) (by simp) ⟨by simp only; omega,by simp; omega,?_,hi2.out⟩ (by simp only; omega)
     intro n hn
     simp only [List.mem_append,List.mem_singleton] at hn
     rcases hn with hn | rfl
     · have:=htx n hn; simp only; omega
     · simp only; omega
end Go.Abs.F
end
section
set_option maxHeartbeats 4000000
set_option maxRecDepth 100000
namespace Go.Abs.F
open Go.Proofs
attribute [-simp] getElem?_pos Option.not_isSome List.map_map
def Bb (k:Int):Int:=if k < 1∨3 < k then 1 else k
def lB:List Attr→List Attr→List Attr
 | acc,[]=>acc
 | acc,a::l=>lB (if (eU acc (ce a.name)).isSome then acc else acc++[⟨ce a.name,de a.value⟩]) l
mutual
def bY:Node→Node
 | ⟨k,nm,a,t,ks⟩=>if Bb k=1 then ⟨1,r5 nm,lB [] a,[],cR (w9 ks)⟩ else ⟨Bb k,[],[],de t,[]⟩
def w9:List Node→List Node
 | []=>[]
 | n::l=>bY n::w9 l
end
theorem w8:∀ l:List Node,w9 l=l.map bY
 | []=>by simp [w9]
 | n::l=>by simp [w9,w8 l]
theorem iz (n:Node):bY n=if Bb n.kind=1 then ⟨1,r5 n.name,lB [] n.attrs,[],cR (n.kids.map bY)⟩ else ⟨Bb n.kind,[],[],de n.text,[]⟩:=by
 cases n; simp [bY,w8]
def Bn (n:Node):Prop:=n.name.length≤1000∧n.text.length≤1000∧n.attrs.length≤1000∧∀ a∈n.attrs,a.name.length≤1000∧a.value.length≤1000
theorem pH (s:Str):(de s).length≤4 * s.length:=by
 have h1:=AE (jm none (cQ s))
 have h2:=F6 (cQ s) none
 have h3:=AI s.length s (Nat.le_refl _)
 unfold de
 omega
theorem HR (n:Node) (h:Bn n):(bY n).text.length≤4000:=by
 rw [iz]
 split
 · simp
 · have:=pH n.text; have:=h.2.1; simp only; omega
theorem DS:∀ (l:List Node),aj Bn l→am l≤1000→Fn Tryz.prog gK [.seq 5 (l.map Node.v)] (.seq 5 ((cR (l.map bY)).map Node.v)):=by
 have key:∀ l:List Node,(∀ n∈l,aj Bn n.kids→am n.kids≤1000→Fn Tryz.prog gK [.seq 5 (n.kids.map Node.v)] (.seq 5 ((cR (n.kids.map bY)).map Node.v)))→
  aj Bn l→am l≤1000→Fn Tryz.prog gK [.seq 5 (l.map Node.v)] (.seq 5 ((cR (l.map bY)).map Node.v)):=by
  intro l hrec hfi hc
  refine Fn.of_image mixed Dr CY rfl fun ho=>?_
  unfold rP
  simp only [oks,ok,and_true] at ho
  clear ho
  have hlen:=fx l
  simp (disch:=omega) [-List.reduceReplicate]
  refine ak (fun (k:Nat)=>⟨[(0,.seq 5 (l.map Node.v)),(3,.ref 0 k),(4,.int .i64 k)],[some (.arr aD 5 (((l.take k).map bY).map Node.v))]⟩)
   (fun k=>k≤l.length) (fun k=>l.length - k) [.r 3 aD 5] _ 0 rfl (by simp) (by simp) ?_
  rintro k hk N hN
  have hkl:(l.take k).length=k:=by rw [List.length_take]; omega
  rcases place l k hk with ⟨he,hd⟩ | ⟨hlt,x,hx,hd⟩
  · have htk:l.take k=l:=List.take_of_length_le (by omega)
    rw [htk]
    simp (disch:=omega) [-List.reduceReplicate,he]
    refine cD (oL (l.map bY) (by simp; omega) (fun n hn=>?_)) fun _=>?_
    · obtain ⟨y,hy,rfl⟩:=List.mem_map.1 hn
      have:=HR y (cu hfi hy).1
      omega
    · simp (disch:=omega) [-List.reduceReplicate]
  · have hxm:=List.mem_of_getElem? hx
    obtain ⟨hfx,hfk⟩:=cu hfi hxm
    obtain ⟨hx1,hx2,hx3,hx4⟩:=hfx
    have hcx:=ru hxm
    have fin:∀ τ:St,τ.nrm [0,3,4]=⟨[(0,.seq 5 (l.map Node.v)),(3,.ref 0 (k + 1)),(4,.int .i64 ((k + 1:Nat):Int))],[some (.arr aD 5 (((l.take k).map bY).map Node.v++[(bY x).v]))]⟩→N τ:=by
     intro τ h
     refine hN.out _<|Nx.mk (k + 1) ?_ (by omega) (by omega)
     rw [h,cn hx]
     simp
    have hkind:x.kind < 1∨3 < x.kind∨x.kind=1∨x.kind=2∨x.kind=3:=by omega
    rcases hkind with h | h | h | h | h
    case inr.inr.inr.inr.inl | inr.inr.inr.inr.inr=>
     have hg:bY x=⟨x.kind,[],[],de x.text,[]⟩:=by
      rw [iz,h]; simp [Bb]
     simp (disch:=omega) [-List.reduceReplicate,hx,h,hkl]
     refine ac (by simpa using jy x.text (by omega)) rfl fun _=>?_
     simp (disch:=omega) [-List.reduceReplicate,hkl]
     refine fin _ ?_
     rw [hg,h]
     simp
    all_goals
     have hg:bY x=⟨1,r5 x.name,lB [] x.attrs,[],cR (x.kids.map bY)⟩:=by
      rw [iz,if_pos]
      unfold Bb
      split<;>omega
     simp (disch:=omega) [-List.reduceReplicate,hx,h,hkl]
     refine ac (DR x.name (by omega)) rfl fun _=>?_
     simp (disch:=omega) [-List.reduceReplicate,hkl]
     generalize hga:lB [] x.attrs=GA at hg
     refine ak (fun (q:Nat × List Attr)=>⟨[(0,.seq 5 (l.map Node.v)),(3,.ref 0 k),(4,.int .i64 k),(5,.ptr 1 0),(6,.int .i64 q.1)],
      [some (.arr aD 5 (((l.take k).map bY).map Node.v)),some (.box [.int .i64 1,.str (r5 x.name),.ref 2 q.2.length,.str [],.nil 5]),some (.arr bI 2 (q.2.map Attr.v))]⟩)
      (fun q=>q.1≤x.attrs.length∧q.2.length≤q.1∧lB q.2 (x.attrs.drop q.1)=GA) (fun q=>x.attrs.length - q.1) [.b 1 2 bI 2] _ (0,[]) rfl (by simp) (by simp [hga]) ?_
     rintro ⟨j,acc⟩ ⟨hj,hal,hi⟩ N2 hN2
     simp only at hj hal hi
     rcases place x.attrs j hj with ⟨he2,hd2⟩ | ⟨hlt2,y,hy,hd2⟩<;>rw [hd2] at hi
     · simp only [lB] at hi
       subst hi
       simp (disch:=omega) [-List.reduceReplicate,hx,he2]
       refine an (hrec x hxm hfk (by omega)) (by simp) fun _=>?_
       simp (disch:=omega) [-List.reduceReplicate,hkl]
       refine fin _ ?_
       rw [hg]
       simp
     · obtain ⟨hy1,hy2⟩:=hx4 y (List.mem_of_getElem? hy)
       simp only [lB] at hi
       replace hi:=hid hi
       simp (disch:=omega) [-List.reduceReplicate,hx,hy]
       refine al (rh y.name (by omega)) rfl ?_
       simp (disch:=omega) [-List.reduceReplicate,hx,hy]
       refine al (by simpa using jy y.value (by omega)) rfl ?_
       simp (disch:=omega) [-List.reduceReplicate,hx,hy]
       refine ac (by simpa using oK ⟨1,r5 x.name,acc,[],[]⟩ (ce y.name)) rfl fun _=>?_
       simp (disch:=omega) [-List.reduceReplicate,hx,hy]
       refine BrK.mk (fun hb=>?_) (fun hb=>?_)
       · simp (disch:=omega) [-List.reduceReplicate]
         have hi:=hi.out
         rw [if_pos hb] at hi
         refine hN2.out _<|Nx.mk (j + 1,acc) (by simp) ⟨by simp only; omega,by simp only; omega,hi⟩ (by simp only; omega)
       · simp (disch:=omega) [-List.reduceReplicate,hkl]
         have hi:=hi.out
         rw [if_neg (by simp [hb])] at hi
         refine hN2.out _<|Nx.mk (j + 1,acc++[⟨ce y.name,de y.value⟩]) (by simp) ⟨by simp only; omega,by simp; omega,hi⟩ (by simp only; omega)
 have all:∀ l:List Node,∀ n∈l,aj Bn n.kids→am n.kids≤1000→Fn Tryz.prog gK [.seq 5 (n.kids.map Node.v)] (.seq 5 ((cR (n.kids.map bY)).map Node.v)):=by
  refine aB (fun x hx=>by cases hx) ?_
  intro n l h1 h2 x hx
  rcases List.mem_cons.1 hx with rfl | hx
  · exact key _ h1
  · exact h2 x hx
 exact fun l=>key l (all l)
theorem K6:∀ (l:List Node) (m:Nat),aj Bn (cL l m).1:=by
 refine aB (fun m=>by simp [cL,aj]) ?_
 intro n l h1 h2 m
 simp only [cL,ve]
 split
 · simp [aj]
 · simp only [aj,Og]
   refine ⟨⟨⟨by simp [ol]; omega,by simp [ol]; omega,by simp; omega,fun a ha=>?_⟩,h1 _⟩,h2 _⟩
   simp only [List.mem_map] at ha
   obtain ⟨b,_,rfl⟩:=ha
   simp [KN,ol]; omega
def bO (l:List Node):List Node:=cR ((cL l 40).1.map bY)
theorem rj (l:List Node):Fn Tryz.prog Cm [.seq 5 (l.map Node.v)] (.seq 5 ((bO l).map Node.v)):=by
 refine Fn.of_image mixed Dt C0 rfl fun ho=>?_
 unfold rQ
 simp only [oks,ok,and_true] at ho
 clear ho
 simp (disch:=omega) [-List.reduceReplicate]
 refine an (tK l) (by simp) fun _=>?_
 simp (disch:=omega) [-List.reduceReplicate]
 refine an (DS (cL l 40).1 (K6 l 40) (by have:=rt l 40; omega)) (by simp) fun _=>?_
 simp (disch:=omega) [-List.reduceReplicate,bO]
def gP (w:Str):Str→Bool
 | []=>dT [] w
 | b::t=>dT (b::t) w || gP w t
theorem wI (w:Str):∀ s:Str,s.length < w.length→gP w s=false
 | [],h=>by simp [gP,dT]; intro h'; subst h'; simp at h
 | b::t,h=>by
   have:=wI w t (by simp at h; omega)
   simp only [gP,this,Bool.or_false,dT,Bool.and_eq_false_iff,decide_eq_false_iff_not]
   left; omega
theorem KE (w:Str) (s:Str) (h:w.length≤s.length):gP w s=(decide (s.take w.length=w) || (if s=[] then false else gP w s.tail)):=by
 cases s with
 | nil=>have:w=[]:=List.eq_nil_of_length_eq_zero (by simpa using h); subst this; simp [gP,dT]
 | cons b t=>
   simp only [List.length_cons] at h
   simp [gP,dT,decide_eq_true h]
theorem tI (s w:Str) (hw0:0 < w.length) (hs:s.length≤1000000000) (hwl:w.length≤1000000000):Fn Tryz.prog E0 [.str s,.str w] (.bool (gP w s)):=by
 refine Fn.of_image mixed FL Fp rfl fun ho=>?_
 unfold tW
 simp only [oks,ok,and_true] at ho
 clear ho
 simp (disch:=omega) [-List.reduceReplicate]
 generalize hr:gP w s=r
 refine ak (fun k:Nat=>⟨[(0,.str s),(1,.str w),(5,.int .i64 k)],[]⟩) (fun k=>k≤s.length∧gP w (s.drop k)=r) (fun k=>s.length - k) [] _ 0 rfl (by simp) (by simp [hr]) ?_
 rintro k ⟨hk,hi⟩ N hN
 by_cases hlt:k + w.length≤s.length
 · rw [KE w _ (by simp; omega),if_neg (by simp; omega),List.tail_drop] at hi
   replace hi:=hid hi
   have e:((k:Int) + (w.length:Int)).toNat - k=w.length:=by omega
   simp (disch:=omega) [-List.reduceReplicate,e]
   refine BrKd.mk (fun h=>?_) (fun h=>?_)
   · simp (disch:=omega) [-List.reduceReplicate]
     have hi:=hi.out
     simpa [h] using hi
   · simp (disch:=omega) [-List.reduceReplicate]
     have hi:=hi.out
     refine hN.out _<|Nx.mk (k + 1) (by simp) ⟨by omega,by simpa [h] using hi⟩ (by omega)
 · rw [wI w _ (by simp; omega)] at hi
   subst hi
   simp (disch:=omega) [-List.reduceReplicate]
def dh (b:UInt8):UInt8:=if 65≤b.toNat∧b.toNat≤90 then b8 (b.toNat + 32) else b
theorem DU (s:Str) (hs:s.length≤1000000000):Fn Tryz.prog Cp [.str s] (.str (s.map dh)):=by
 refine Fn.of_image mixed Dv C2 rfl fun ho=>?_
 unfold rS
 simp only [oks,ok,and_true] at ho
 clear ho
 simp (disch:=omega) [-List.reduceReplicate]
 refine ak (fun (k:Nat)=>⟨[(0,.str s),(3,.ref 0 k),(4,.int .i64 k)],[some (.arr jN 1 (((s.take k).map dh).map bV))]⟩)
  (fun k=>k≤s.length) (fun k=>s.length - k) [.r 3 jN 1] _ 0 rfl (by simp) (by simp) ?_
 rintro k hk N hN
 have hkl:(s.take k).length=k:=by rw [List.length_take]; omega
 rcases place s k hk with ⟨he,hd⟩ | ⟨hlt,x,hx,hd⟩
 · have htk:s.take k=s:=List.take_of_length_le (by omega)
   rw [htk]
   simp (disch:=omega) [-List.reduceReplicate,he,-Jk]
 · simp (disch:=omega) [-List.reduceReplicate,hx]
   have fin:∀ τ:St,τ.nrm [0,3,4]=⟨[(0,.str s),(3,.ref 0 (k + 1)),(4,.int .i64 ((k + 1:Nat):Int))],[some (.arr jN 1 (((s.take k).map dh).map bV++[bV (dh x)]))]⟩→N τ:=by
    intro τ h
    refine hN.out _<|Nx.mk (k + 1) ?_ (by omega) (by omega)
    rw [h,cn hx]
    simp
   repeat' (first
    | (refine BrKd.mk (fun h=>?_) (fun h=>?_)<;>simp (disch:=omega) [hkl, *])
    | (refine BrK.mk (fun h=>?_) (fun h=>?_)<;>simp (disch:=omega) [hkl, *]))
   all_goals
    first
    | (have hf:dh x=b8 (x.toNat + 32):=by rw [dh,if_pos (by omega)])
    | (have hf:dh x=x:=by rw [dh,if_neg (by omega)])
    refine fin _ ?_
    rw [hf]
    simp (disch:=omega) [rY]
def Gt (b:UInt8):Bool:=decide (b.toNat=9) || (decide (b.toNat=10) || (decide (b.toNat=12) || decide (b.toNat=32)))
theorem Ak (b:UInt8):Fn Tryz.prog yr [.int .u8 b.toNat] (.bool (Gt b)):=by
 refine Fn.of_image mixed zK y7 rfl fun ho=>?_
 unfold pd
 simp only [oks,ok,and_true] at ho
 clear ho
 simp (disch:=omega) [-List.reduceReplicate,Gt]
 repeat' (first | (refine BrKd.mk (fun h=>?_) (fun h=>?_)<;>simp (disch:=omega) [*]) | (refine BrK.mk (fun h=>?_) (fun h=>?_)<;>simp (disch:=omega) [*]))
def Aw (b:UInt8):Bool:=Gt b || (decide (b.toNat=47) || decide (b.toNat=62))
def rn (nm:Str) (s:Str):Bool:=decide ((s.take (2 + nm.length)).map dh=[60,47]++nm) && (match s[2 + nm.length]? with
 | some c=>Aw c
 | none=>false)
def dv (nm:Str):Nat→Str→Int
 | _,[]=>-1
 | i,b::t=>if rn nm (b::t) then i else dv nm (i + 1) t
def ends (s nm:Str):Int:=dv nm 0 s
theorem rm (nm:Str):∀ (s:Str) (i:Nat),s.length≤2 + nm.length→dv nm i s=-1
 | [],i,h=>rfl
 | b::t,i,h=>by
   have:=rm nm t (i + 1) (by simp at h; omega)
   simp only [dv,this]
   rw [if_neg]
   simp only [rn,Bool.and_eq_true,not_and,Bool.not_eq_true]
   intro _
   rw [List.getElem?_eq_none (by omega)]
theorem DQ (s nm:Str) (hs:s.length≤1000000000) (hn:nm.length≤1000000):Fn Tryz.prog Cj [.str s,.str nm] (.int .i64 (ends s nm)):=by
 refine Fn.of_image mixed Dp CW rfl fun ho=>?_
 unfold rN
 simp only [oks,ok,and_true] at ho
 clear ho
 simp (disch:=omega) [-List.reduceReplicate]
 generalize hr:ends s nm=r
 refine ak (fun k:Nat=>⟨[(0,.str s),(1,.str nm),(5,.int .i64 (2 + nm.length)),(6,.int .i64 k)],[]⟩) (fun k=>k≤s.length∧dv nm k (s.drop k)=r) (fun k=>s.length - k) [] _ 0 rfl (by simp) (by simp [←hr,ends]) ?_
 rintro k ⟨hk,hi⟩ N hN
 by_cases hlt:k + (2 + nm.length) < s.length
 · obtain ⟨x,hx⟩:=aO (l:=s) (k:=k) (by omega)
   obtain ⟨c,hc⟩:=aO (l:=s) (k:=k + (2 + nm.length)) hlt
   have hd:=sT hx
   have hat:rn nm (s.drop k)=(decide (((s.drop k).take (2 + nm.length)).map dh=[60,47]++nm) && Aw c):=by
    simp only [rn,List.getElem?_drop,hc]
   rw [hd] at hi
   simp only [dv] at hi
   rw [←hd,hat] at hi
   replace hi:=hid hi
   have hkt:((k:Int) + (2 + (nm.length:Int))).toNat=k + (2 + nm.length):=by omega
   simp (disch:=omega) [-List.reduceReplicate,hkt,hc]
   have hlb:((s.drop k).take (2 + nm.length)).length≤1000000000:=by simp; omega
   refine ac (DU _ hlb) rfl fun _=>?_
   generalize hT:((s.drop k).take (2 + nm.length)).map dh=T at hi
   have no:(decide (T=[60,47]++nm) && Aw c)=false→dv nm (k + 1) (s.drop (k + 1))=r:=fun h=>by have hi:=hi.out; rw [if_neg (by rw [h]; exact Bool.false_ne_true)] at hi; exact hi
   have yes:(decide (T=[60,47]++nm) && Aw c)=true→r=k:=fun h=>by have hi:=hi.out; rw [if_pos h] at hi; exact hi.symm
   replace no:=hid no
   replace yes:=hid yes
   simp (disch:=omega) [-List.reduceReplicate]
   repeat' (first
    | (refine BrKd.mk (fun h=>?_) (fun h=>?_)<;>simp (disch:=omega) [*])
    | (refine BrK.mk (fun h=>?_) (fun h=>?_)<;>simp (disch:=omega) [*])
    | (refine ac (Ak _) rfl (fun _=>?_)<;>simp (disch:=omega) [*]))
   all_goals first
    | (refine hN.out _<|Nx.mk (k + 1) (by simp) ⟨by omega,no.out ?_⟩ (by omega); simp_all [Aw]; done)
    | (rw [yes.out ?_]; simp_all [Aw]; done)
    | (refine (yes.out ?_).symm; simp_all [Aw]; done)
 · rw [rm nm _ _ (by simp; omega)] at hi
   subst hi
   simp (disch:=omega) [-List.reduceReplicate]
def dt (par:Str) (n:Node):Bool:=
 if BK par then false
 else if raw par then decide (n.kind=2) && decide (ends (n.text++[60,47]++par++[62]) par=n.text.length)
 else !decide (n.kind=1) || !jz par n.name
theorem rf (par:Str) (n:Node) (hp:par.length≤1000000) (ht:n.text.length≤100000000):Fn Tryz.prog Ci [.str par,n.v] (.bool (dt par n)):=by
 refine Fn.of_image mixed Do CV rfl fun ho=>?_
 unfold rM
 simp only [oks,ok,and_true] at ho
 clear ho
 simp (disch:=omega) [-List.reduceReplicate,dt]
 refine ac (ri _) rfl fun _=>?_
 simp (disch:=omega) [-List.reduceReplicate]
 refine ac (tJ _) rfl fun _=>?_
 simp (disch:=omega) [-List.reduceReplicate]
 refine BrK.mk (fun hv=>?_) (fun hv=>?_)
 · simp (disch:=omega) [-List.reduceReplicate,hv]
 · simp (disch:=omega) [-List.reduceReplicate,hv]
   refine BrK.mk (fun hr=>?_) (fun hr=>?_)
   · simp (disch:=omega) [-List.reduceReplicate,hr]
     refine BrKd.mk (fun hk=>?_) (fun hk=>?_)
     · simp (disch:=omega) [-List.reduceReplicate,hk]
       have e:n.text++[60,47]++par++[62]=n.text++60::47::(par++[62]):=by simp
       have hE:=DQ (n.text++[60,47]++par++[62]) par (by simp; omega) hp
       rw [e] at hE
       refine al hE rfl ?_
       simp (disch:=omega) [-List.reduceReplicate,hk]
     · simp (disch:=omega) [-List.reduceReplicate,hk]
   · simp (disch:=omega) [-List.reduceReplicate,hr]
     refine ac (mU _ _) rfl fun _=>?_
     simp (disch:=omega) [-List.reduceReplicate]
     repeat' (first | (refine BrKd.mk (fun h=>?_) (fun h=>?_)<;>simp (disch:=omega) [*]) | (refine BrK.mk (fun h=>?_) (fun h=>?_)<;>simp (disch:=omega) [*]))
def aE (par:Str) (l:List Node):List Node:=l.filter (dt par)
theorem lF (par:Str) (l:List Node) (hp:par.length≤1000000) (hl:l.length≤1000000) (ht:∀ n∈l,n.text.length≤100000000):
 Fn Tryz.prog uq [.str par,.seq 5 (l.map Node.v)] (.seq 5 ((aE par l).map Node.v)):=by
 refine Fn.of_image mixed uH uz rfl fun ho=>?_
 unfold lI
 simp only [oks,ok,and_true] at ho
 clear ho
 simp (disch:=omega) [-List.reduceReplicate]
 generalize hw:aE par l=w
 refine ak (fun (q:Nat × List Node)=>⟨[(0,.str par),(1,.seq 5 (l.map Node.v)),(5,.ref 0 q.2.length),(6,.int .i64 q.1)],[some (.arr aD 5 (q.2.map Node.v))]⟩)
  (fun q=>q.1≤l.length∧q.2.length≤q.1∧q.2++aE par (l.drop q.1)=w) (fun q=>l.length - q.1) [.r 5 aD 5] _ (0,[]) rfl (by simp) (by simp [←hw]) ?_
 rintro ⟨k,out⟩ ⟨hk,hol,hi⟩ N hN
 simp only at hk hol hi
 rcases place l k hk with ⟨he,hd⟩ | ⟨hlt,x,hx,hd⟩<;>rw [hd] at hi
 · simp [aE] at hi
   subst hi
   simp (disch:=omega) [-List.reduceReplicate,he]
 · simp only [aE,List.filter_cons] at hi
   replace hi:=hid hi
   simp (disch:=omega) [-List.reduceReplicate,hx]
   refine ac (by simpa using rf par x hp (ht x (List.mem_of_getElem? hx))) rfl fun _=>?_
   simp (disch:=omega) [-List.reduceReplicate]
   refine BrK.mk (fun h=>?_) (fun h=>?_)
   · simp (disch:=omega) [-List.reduceReplicate,hx]
     have hi:=hi.out
     refine hN.out _<|Nx.mk (k + 1,out++[x]) (by simp) ⟨by simp only; omega,by simp; omega,?_⟩ (by simp only; omega)
     simpa [h,aE] using hi
   · simp (disch:=omega) [-List.reduceReplicate,hx]
     have hi:=hi.out
     refine hN.out _<|Nx.mk (k + 1,out) (by simp) ⟨by simp only; omega,by simp only; omega,?_⟩ (by simp only; omega)
     simpa [h,aE] using hi
def eR:Str:=[45,45,62]
mutual
def aK:Node→List Node
 | ⟨k,nm,a,t,ks⟩=>if k=3∧gP eR t=true then [] else if k=1 then [⟨k,nm,a,t,aE nm (cR (qv (dt nm) ks))⟩] else [⟨k,nm,a,t,ks⟩]
def qv (f:Node→Bool):List Node→List Node
 | []=>[]
 | n::l=>(if f n then aK n else [])++qv f l
end
theorem vr (f:Node→Bool):∀ l:List Node,qv f l=(l.filter f).flatMap aK
 | []=>by simp [qv]
 | n::l=>by
   simp only [qv,vr f l,List.filter_cons]
   cases f n<;>simp
theorem kq (n:Node):aK n=if n.kind=3∧gP eR n.text=true then [] else if n.kind=1 then [⟨n.kind,n.name,n.attrs,n.text,aE n.name (cR ((aE n.name n.kids).flatMap aK))⟩] else [n]:=by
 cases n; simp [aK,vr,aE]
def f8 (l:List Node):List Node:=cR (l.flatMap aK)
def bA (l:List Node):Nat:=(l.map fun n=>n.text.length).sum
theorem ma:∀ {l:List Node} {n:Node},n∈l→n.text.length≤bA l
 | [],n,h=>by cases h
 | x::l,n,h=>by
   simp only [bA,List.map_cons,List.sum_cons]
   rcases List.mem_cons.1 h with rfl | h
   · omega
   · have:=ma h; simp only [bA] at this; omega
theorem tf (a b:List Node):bA (a++b)=bA a + bA b:=by simp [bA]
theorem te (f:Node→Bool):∀ l:List Node,bA (l.filter f)≤bA l
 | []=>by simp [bA]
 | n::l=>by
   have:=te f l
   simp only [bA,List.filter_cons] at *
   split<;>simp<;>omega
theorem Ei:∀ (l:List Node) (i:Nat) (o n:Node),l[i]?=some o→bA (l.set i n) + o.text.length=bA l + n.text.length
 | [],i,o,n,h=>by simp at h
 | x::l,0,o,n,h=>by simp at h; subst h; simp [bA]; omega
 | x::l,i + 1,o,n,h=>by
   have:=Ei l i o n (by simpa using h)
   simp only [bA,List.set_cons_succ,List.map_cons,List.sum_cons] at *
   omega
theorem gL:∀ (l out:List Node),(bG out l).length≤out.length + l.length∧bA (bG out l)≤bA out + bA l
 | [],out=>by simp [bG,bA]
 | n::l,out=>by
   have hc:bA (n::l)=n.text.length + bA l:=by simp [bA]
   have h1:=gL l out
   have h2:=gL l (out++[n])
   rw [tf] at h2
   have hn:bA [n]=n.text.length:=by simp [bA]
   simp only [List.length_append,List.length_cons,List.length_nil] at h2
   simp only [bG,List.length_cons]
   split
   · omega
   · split
     · rename_i o ho
       split
       · have h3:=gL l (out.set (out.length - 1) ⟨o.kind,o.name,o.attrs,o.text++n.text,o.kids⟩)
         have h4:=Ei out (out.length - 1) o ⟨o.kind,o.name,o.attrs,o.text++n.text,o.kids⟩ ho
         simp only [List.length_set,List.length_append] at h3 h4
         omega
       · omega
     · omega
theorem io (l:List Node):(cR l).length≤l.length∧bA (cR l)≤bA l:=by
 have:=gL l []
 simpa [cR,bA] using this
theorem BQ (n:Node):(aK n).length≤1∧bA (aK n)≤n.text.length:=by
 rw [kq]
 split
 · simp [bA]
 · split<;>simp [bA]
theorem eu:∀ l:List Node,(l.flatMap aK).length≤l.length∧bA (l.flatMap aK)≤bA l
 | []=>by simp [bA]
 | n::l=>by
   have h1:=BQ n
   have h2:=eu l
   have hc:bA (n::l)=n.text.length + bA l:=by simp [bA]
   simp only [List.flatMap_cons,List.length_append,tf,List.length_cons]
   omega
theorem jn (par:Str) (l:List Node):(aE par l).length≤l.length∧bA (aE par l)≤bA l:=⟨List.length_filter_le _ _,te _ _⟩
def Bm (n:Node):Prop:=n.name.length≤1000∧n.kids.length≤1000∧bA n.kids≤1000000
theorem xo:∀ (l:List Node),aj Bm l→l.length≤1000→bA l≤1000000→Fn Tryz.prog eB [.seq 5 (l.map Node.v)] (.seq 5 ((f8 l).map Node.v)):=by
 have key:∀ l:List Node,(∀ n∈l,∀ l':List Node,(∀ y∈l',y∈n.kids)→aj Bm n.kids→l'.length≤1000→bA l'≤1000000→Fn Tryz.prog eB [.seq 5 (l'.map Node.v)] (.seq 5 ((f8 l').map Node.v)))→
  (∀ n∈l,Bm n∧aj Bm n.kids)→l.length≤1000→bA l≤1000000→Fn Tryz.prog eB [.seq 5 (l.map Node.v)] (.seq 5 ((f8 l).map Node.v)):=by
  intro l hrec hfi hlen hts
  refine Fn.of_image mixed wW wz rfl fun ho=>?_
  unfold nc
  simp only [oks,ok,and_true] at ho
  clear ho
  simp (disch:=omega) [-List.reduceReplicate]
  generalize hw:l.flatMap aK=w
  have hws:=eu l
  rw [hw] at hws
  refine ak (fun (q:Nat × List Node)=>⟨[(0,.seq 5 (l.map Node.v)),(3,.ref 0 q.2.length),(4,.int .i64 q.1)],[some (.arr aD 5 (q.2.map Node.v))]⟩)
   (fun q=>q.1≤l.length∧q.2.length≤q.1∧q.2++(l.drop q.1).flatMap aK=w) (fun q=>l.length - q.1) [.r 3 aD 5] _ (0,[]) rfl (by simp) (by simp [←hw]) ?_
  rintro ⟨k,out⟩ ⟨hk,hol,hi⟩ N hN
  simp only at hk hol hi
  rcases place l k hk with ⟨he,hd⟩ | ⟨hlt,x,hx,hd⟩<;>rw [hd] at hi
  · simp at hi
    subst hi
    simp (disch:=omega) [-List.reduceReplicate,he]
    refine cD (oL out (by omega) (fun n hn=>by have:=ma hn; omega)) fun _=>?_
    simp (disch:=omega) [-List.reduceReplicate,f8,hw]
  · have hxm:=List.mem_of_getElem? hx
    obtain ⟨⟨hx1,hx2,hx3⟩,hxk⟩:=hfi x hxm
    have hxt:=ma hxm
    rw [List.flatMap_cons,kq] at hi
    replace hi:=hid hi
    have fin:∀ τ:St,∀ o2:List Node,τ.nrm [0,3,4]=⟨[(0,.seq 5 (l.map Node.v)),(3,.ref 0 o2.length),(4,.int .i64 ((k + 1:Nat):Int))],[some (.arr aD 5 (o2.map Node.v))]⟩→o2.length≤k + 1→o2++(l.drop (k + 1)).flatMap aK=w→N τ:=by
     intro τ o2 h1 h2 h3
     exact hN.out _<|Nx.mk (k + 1,o2) h1 ⟨by simp only; omega,h2,h3⟩ (by simp only; omega)
    by_cases h3:x.kind=3
    · simp (disch:=omega) [-List.reduceReplicate,hx,h3]
      refine ac (tI x.text eR (by simp [eR]) (by omega) (by simp [eR])) rfl fun _=>?_
      simp (disch:=omega) [-List.reduceReplicate]
      refine BrK.mk (fun hb=>?_) (fun hb=>?_)
      · simp (disch:=omega) [-List.reduceReplicate]
        have hi:=hi.out
        rw [if_pos ⟨h3,hb⟩] at hi
        exact fin _ out (by simp) (by omega) (by simpa using hi)
      · simp (disch:=omega) [-List.reduceReplicate,hx,h3]
        have hi:=hi.out
        rw [if_neg (by simp [hb]),if_neg (by omega)] at hi
        exact fin _ (out++[x]) (by simp [h3]) (by simp; omega) (by simpa using hi)
    · by_cases h1:x.kind=1
      · have hi:=hi.out
        rw [if_neg (by simp [h3]),if_pos h1] at hi
        have hf1:=jn x.name x.kids
        have hf2:=eu (aE x.name x.kids)
        have hf3:=io ((aE x.name x.kids).flatMap aK)
        simp (disch:=omega) [-List.reduceReplicate,hx,h1]
        refine cA (lF x.name x.kids (by omega) (by omega) (fun n hn=>by have:=ma hn; omega)) (by simp) ?_
        simp (disch:=omega) [-List.reduceReplicate,hx,h1]
        refine cA (hrec x hxm (aE x.name x.kids) (fun y hy=>(List.mem_filter.1 hy).1) hxk (by omega) (by omega)) (by simp) ?_
        simp (disch:=omega) [-List.reduceReplicate,hx,h1]
        refine cA (lF x.name (f8 (aE x.name x.kids)) (by omega) (by simp only [f8]; omega) (fun n hn=>by have:=ma hn; simp only [f8] at this; omega)) (by simp) ?_
        simp (disch:=omega) [-List.reduceReplicate,hx,h1]
        exact fin _ (out++[⟨x.kind,x.name,x.attrs,x.text,aE x.name (cR ((aE x.name x.kids).flatMap aK))⟩]) (by simp [h1,f8]) (by simp; omega) (by simpa using hi)
      · have hi:=hi.out
        rw [if_neg (by simp [h3]),if_neg h1] at hi
        simp (disch:=omega) [-List.reduceReplicate,hx,h1,h3]
        exact fin _ (out++[x]) (by simp) (by simp; omega) (by simpa using hi)
 have all:∀ l:List Node,∀ n∈l,∀ l':List Node,(∀ y∈l',y∈n.kids)→aj Bm n.kids→l'.length≤1000→bA l'≤1000000→Fn Tryz.prog eB [.seq 5 (l'.map Node.v)] (.seq 5 ((f8 l').map Node.v)):=by
  refine aB (fun x hx=>by cases hx) ?_
  intro n l h1 h2 x hx
  rcases List.mem_cons.1 hx with rfl | hx
  · intro l' hs hf
    exact key l' (fun m hm=>h1 m (hs m hm)) (fun m hm=>cu hf (hs m hm))
  · exact h2 x hx
 exact fun l hf=>key l (all l) (fun n hn=>cu hf hn)
def ow (s:Str):Bool:=decide (de s=s)
def ge:List Attr→Str→Bool
 | [],_=>false
 | a::l,s=>if a.name=s then true else ge l s
def oo:List Attr→List Attr→Int
 | _,[]=>0
 | pre,a::l=>if dA a.name then (if ge pre a.name then 5 else oo (pre++[a]) l) else 4
def fh:List Attr→Bool
 | []=>true
 | a::l=>ow a.value && fh l
def iF (n:Node):Int:=
 if n.text=[] then (if named n.name then (if oo [] n.attrs=0 then (if fh n.attrs then 0 else 2) else oo [] n.attrs) else 4) else 7
theorem qf:∀ (l pre:List Attr),oo pre l=0∨oo pre l=4∨oo pre l=5
 | [],pre=>by simp [oo]
 | a::l,pre=>by
   simp only [oo]
   split
   · split
     · simp
     · exact qf l _
   · simp
def cU (n:Node):Prop:=n.name.length≤1000000∧n.text.length≤1000000∧n.attrs.length≤1000000∧∀ a∈n.attrs,a.name.length≤1000000∧a.value.length≤1000000
theorem uO (n:Node) (hf:cU n):Fn Tryz.prog ur [n.v] (.int .i64 (iF n)):=by
 refine Fn.of_image mixed uI uA rfl fun ho=>?_
 unfold lJ
 simp only [oks,ok,and_true] at ho
 clear ho
 obtain ⟨h1,h2,h3,h4⟩:=hf
 simp (disch:=omega) [-List.reduceReplicate,iF]
 refine ac (fq _) rfl fun _=>?_
 simp (disch:=omega) [-List.reduceReplicate]
 refine BrKd.mk (fun ht=>?_) (fun ht=>?_)
 · simp (disch:=omega) [-List.reduceReplicate,ht]
   refine BrK.mk (fun hn=>?_) (fun hn=>?_)
   · simp (disch:=omega) [-List.reduceReplicate,hn]
     generalize hD:oo [] n.attrs=D
     have hDc:=qf n.attrs []
     rw [hD] at hDc
     refine ak (fun (k:Nat)=>⟨[(1,.ptr 0 0),(4,.int .i64 k)],[some (.box [.int .i64 n.kind,.str n.name,.seq 2 (n.attrs.map Attr.v),.str [],.seq 5 (n.kids.map Node.v)])]⟩)
      (fun k=>k≤n.attrs.length∧oo (n.attrs.take k) (n.attrs.drop k)=D) (fun k=>n.attrs.length - k) [] _ 0 rfl (by simp) (by simp [hD]) ?_
     rintro k ⟨hk,hi⟩ N hN
     rcases place n.attrs k hk with ⟨he,hd⟩ | ⟨hlt,x,hx,hd⟩<;>rw [hd] at hi
     · simp only [oo] at hi
       subst hi
       simp (disch:=omega) [-List.reduceReplicate,he]
       generalize hV:fh n.attrs=R
       refine ak (fun (k:Nat)=>⟨[(1,.ptr 0 0),(7,.int .i64 k)],[some (.box [.int .i64 n.kind,.str n.name,.seq 2 (n.attrs.map Attr.v),.str [],.seq 5 (n.kids.map Node.v)])]⟩)
        (fun k=>k≤n.attrs.length∧fh (n.attrs.drop k)=R) (fun k=>n.attrs.length - k) [] _ 0 rfl (by simp) (by simp [hV]) ?_
       rintro k ⟨hk,hi⟩ N hN
       rcases place n.attrs k hk with ⟨he,hd⟩ | ⟨hlt,x,hx,hd⟩<;>rw [hd] at hi
       · simp only [fh] at hi
         subst hi
         simp (disch:=omega) [-List.reduceReplicate,he,hV]
       · obtain ⟨g1,g2⟩:=h4 x (List.mem_of_getElem? hx)
         simp only [fh] at hi
         replace hi:=hid hi
         simp (disch:=omega) [-List.reduceReplicate,hx]
         refine ac (p8 x.value g2) rfl fun _=>?_
         simp (disch:=omega) [-List.reduceReplicate]
         refine BrKd.mk (fun h=>?_) (fun h=>?_)
         · simp (disch:=omega) [-List.reduceReplicate,h]
           have hi:=hi.out
           refine hN.out _<|Nx.mk (k + 1) (by simp) ⟨by omega,?_⟩ (by omega)
           simpa [ow,h] using hi
         · simp (disch:=omega) [-List.reduceReplicate,h]
           have hi:=hi.out
           simp [ow,h] at hi
           simp [hi]
     · obtain ⟨g1,g2⟩:=h4 x (List.mem_of_getElem? hx)
       simp only [oo] at hi
       replace hi:=hid hi
       simp (disch:=omega) [-List.reduceReplicate,hx]
       refine ac (iD x.name g1) rfl fun _=>?_
       simp (disch:=omega) [-List.reduceReplicate]
       refine BrK.mk (fun h=>?_) (fun h=>?_)
       · have hi:=hi.out
         rw [if_pos h] at hi
         replace hi:=hid hi
         simp (disch:=omega) [-List.reduceReplicate,h]
         refine ak (fun (j:Nat)=>⟨[(1,.ptr 0 0),(4,.int .i64 k),(6,.int .i64 j)],[some (.box [.int .i64 n.kind,.str n.name,.seq 2 (n.attrs.map Attr.v),.str [],.seq 5 (n.kids.map Node.v)])]⟩)
          (fun j=>j≤k∧ge (n.attrs.take k) x.name=ge ((n.attrs.take k).drop j) x.name) (fun j=>k - j) [] _ 0 rfl (by simp) (by simp) ?_
         rintro j ⟨hj,hi2⟩ N2 hN2
         by_cases hlt2:j < k
         · obtain ⟨y,hy⟩:=aO (l:=n.attrs) (k:=j) (by omega)
           rw [take_drop hy hlt2,ge] at hi2
           replace hi2:=hid hi2
           simp (disch:=omega) [-List.reduceReplicate,hx,hy]
           refine BrKd.mk (fun h=>?_) (fun h=>?_)
           · simp (disch:=omega) [-List.reduceReplicate,h]
             have hi:=hi.out
             have hi2:=hi2.out
             rw [if_pos h] at hi2
             rw [if_pos hi2] at hi
             subst hi
             simp
           · simp (disch:=omega) [-List.reduceReplicate,h]
             have hi2:=hi2.out
             rw [if_neg h] at hi2
             exact hN2.out _<|Nx.mk (j + 1) (by simp) ⟨by omega,hi2⟩ (by omega)
         · have e:(n.attrs.take k).drop j=[]:=by simp; omega
           rw [e,ge] at hi2
           have hi:=hi.out
           rw [if_neg (by simp [hi2])] at hi
           replace hi:=hid hi
           simp (disch:=omega) [-List.reduceReplicate]
           refine hN.out _<|Nx.mk (k + 1) (by simp) ⟨by omega,?_⟩ (by omega)
           rw [cn hx]
           exact hi.out
       · have hi:=hi.out
         rw [if_neg (by simp [h])] at hi
         subst hi
         simp (disch:=omega) [-List.reduceReplicate,h]
   · simp (disch:=omega) [-List.reduceReplicate,hn]
 · simp (disch:=omega) [-List.reduceReplicate,ht]
def gJ (n:Node) (txt:Bool):Int:=
 if n.kind=1 then iF n
 else if n.kind=2∨n.kind=3 then (if n.name=[]∧n.attrs=[]∧n.kids=[] then (if ow n.text∧(n.kind=2→¬n.text=[]∧txt=false) then 0 else 2) else 7)
 else 7
theorem Ge (n:Node) (txt:Bool) (hf:cU n):Fn Tryz.prog tz [n.v,.bool txt] (.int .i64 (gJ n txt)):=by
 refine Fn.of_image mixed FN Fr rfl fun ho=>?_
 unfold tY
 simp only [oks,ok,and_true] at ho
 clear ho
 have hla:0 < n.attrs.length↔¬n.attrs=[]:=by rw [List.length_pos_iff]
 have hlk:0 < n.kids.length↔¬n.kids=[]:=by rw [List.length_pos_iff]
 have hf2:=hf.2.1
 simp (disch:=omega) [-List.reduceReplicate,gJ]
 repeat' (first
  | (refine BrKd.mk (fun h=>?_) (fun h=>?_)<;>simp (disch:=omega) [hla,hlk, *])
  | (refine BrK.mk (fun h=>?_) (fun h=>?_)<;>simp (disch:=omega) [hla,hlk, *])
  | (refine ac (by simpa [*] using uO n hf) rfl (fun _=>?_)<;>simp (disch:=omega) [hla,hlk, *])
  | (refine ac (p8 n.text hf2) rfl (fun _=>?_)<;>simp (disch:=omega) [hla,hlk,ow, *]))
mutual
def Qe:Node→Int
 | ⟨_,_,_,_,ks⟩=>lS false ks
def lS:Bool→List Node→Int
 | _,[]=>0
 | txt,n::l=>if gJ n txt=0 then (if Qe n=0 then lS (decide (n.kind=2)) l else Qe n) else gJ n txt
end
theorem u6 (n:Node):Qe n=lS false n.kids:=by cases n; simp [Qe]
def may (l:List Node):Int:=lS false l
def bq (l:List Node) (k:Nat):Bool:=decide (0 < k) && (match l[k - 1]? with
 | some n=>decide (n.kind=2)
 | none=>false)
theorem Gf:∀ (l:List Node),aj cU l→Fn Tryz.prog i3 [.seq 5 (l.map Node.v)] (.int .i64 (may l)):=by
 have key:∀ l:List Node,(∀ n∈l,aj cU n.kids→Fn Tryz.prog i3 [.seq 5 (n.kids.map Node.v)] (.int .i64 (may n.kids)))→aj cU l→Fn Tryz.prog i3 [.seq 5 (l.map Node.v)] (.int .i64 (may l)):=by
  intro l hrec hfi
  refine Fn.of_image mixed FQ Fu rfl fun ho=>?_
  unfold t6
  simp only [oks,ok,and_true] at ho
  have hlen:l.length≤140737488355328:=by have:=ho.1; simpa using this
  clear ho
  simp (disch:=omega) [-List.reduceReplicate]
  generalize hr:may l=r
  refine ak (fun k:Nat=>⟨[(0,.seq 5 (l.map Node.v)),(3,.int .i64 k)],[]⟩) (fun k=>k≤l.length∧lS (bq l k) (l.drop k)=r) (fun k=>l.length - k) [] _ 0 rfl (by simp [*]) (by simp [*,←hr,may,bq]) ?_
  rintro k ⟨hk,hi⟩ N hN
  rcases place l k hk with ⟨he,hd⟩ | ⟨hlt,x,hx,hd⟩<;>rw [hd] at hi<;>replace hi:=hid hi
  · simp only [lS] at hi
    have hi:=hi.out
    subst hi
    simp (disch:=omega) [-List.reduceReplicate,he]
  · have hxm:=List.mem_of_getElem? hx
    obtain ⟨hfx,hfk⟩:=cu hfi hxm
    have hp1:bq l (k + 1)=decide (x.kind=2):=by simp [bq,hx]
    simp only [lS,u6] at hi
    rw [←hp1] at hi
    change Hid ((if gJ x (bq l k)=0 then if may x.kids=0 then lS (bq l (k + 1)) (l.drop (k + 1)) else may x.kids else gJ x (bq l k))=r) at hi
    have e1:gJ x (bq l k)≠0→r=gJ x (bq l k):=fun h=>by have hi:=hi.out; rw [if_neg h] at hi; exact hi.symm
    have e2:gJ x (bq l k)=0→may x.kids≠0→r=may x.kids:=fun h h'=>by have hi:=hi.out; rw [if_pos h] at hi; rw [if_neg h'] at hi; exact hi.symm
    have e3:gJ x (bq l k)=0→may x.kids=0→lS (bq l (k + 1)) (l.drop (k + 1))=r:=fun h h'=>by have hi:=hi.out; rw [if_pos h] at hi; rw [if_pos h'] at hi; exact hi
    replace e1:=hid e1
    replace e2:=hid e2
    replace e3:=hid e3
    clear hi
    have hone:∀ b:Bool,b=bq l k→Fn Tryz.prog tz [x.v,.bool b] (.int .i64 (gJ x (bq l k))):=fun b hb=>by rw [hb]; exact Ge x (bq l k) hfx
    have rest:∀ K:St→Prop,(∀ τ:St,τ.nrm [0,3]=⟨[(0,.seq 5 (l.map Node.v)),(3,.int .i64 ((k + 1:Nat):Int))],[]⟩→gJ x (bq l k)=0→may x.kids=0→N τ):=by
     intro K τ h h1 h2
     exact hN.out _<|Nx.mk (k + 1) h ⟨by omega,e3.out h1 h2⟩ (by omega)
    replace rest:=rest (fun _=>True)
    rcases Nat.eq_zero_or_pos k with hk0 | hk0
    · subst hk0
      have hp0:bq l 0=false:=by simp [bq]
      simp (disch:=omega) [-List.reduceReplicate,hx]
      refine al (by simpa using hone false hp0.symm) rfl ?_
      simp (disch:=omega) [-List.reduceReplicate,hx]
      refine BrKd.mk (fun h=>?_) (fun h=>?_)
      · simp (disch:=omega) [-List.reduceReplicate,h,hx]
        refine ac (hrec x hxm hfk) rfl fun _=>?_
        simp (disch:=omega) [-List.reduceReplicate,hx]
        refine BrKd.mk (fun h2=>?_) (fun h2=>?_)
        · simp (disch:=omega) [-List.reduceReplicate,h2]
          exact rest _ (by simp) h h2
        · simp (disch:=omega) [-List.reduceReplicate,h2]
          exact (e2.out h h2).symm
      · simp (disch:=omega) [-List.reduceReplicate,h]
        exact (e1.out h).symm
    · obtain ⟨y,hy⟩:=aO (l:=l) (k:=k - 1) (by omega)
      have hkt:((k:Int) - 1).toNat=k - 1:=by omega
      have hpk:bq l k=decide (y.kind=2):=by simp [bq,hy,hk0]
      simp (disch:=omega) [-List.reduceReplicate,hx,hy,hkt]
      refine al (by simpa using hone (decide (y.kind=2)) hpk.symm) rfl ?_
      simp (disch:=omega) [-List.reduceReplicate,hx]
      refine BrKd.mk (fun h=>?_) (fun h=>?_)
      · simp (disch:=omega) [-List.reduceReplicate,h,hx]
        refine ac (hrec x hxm hfk) rfl fun _=>?_
        simp (disch:=omega) [-List.reduceReplicate,hx]
        refine BrKd.mk (fun h2=>?_) (fun h2=>?_)
        · simp (disch:=omega) [-List.reduceReplicate,h2]
          exact rest _ (by simp) h h2
        · simp (disch:=omega) [-List.reduceReplicate,h2]
          exact (e2.out h h2).symm
      · simp (disch:=omega) [-List.reduceReplicate,h]
        exact (e1.out h).symm
 have all:∀ l:List Node,∀ n∈l,aj cU n.kids→Fn Tryz.prog i3 [.seq 5 (n.kids.map Node.v)] (.int .i64 (may n.kids)):=by
  refine aB (fun x hx=>by cases hx) ?_
  intro n l h1 h2 x hx
  rcases List.mem_cons.1 hx with rfl | hx
  · exact key _ h1
  · exact h2 x hx
 exact fun l=>key l (all l)
mutual
def SU:Node→Bool
 | ⟨_,_,_,_,ks⟩=>lW ks
def lW:List Node→Bool
 | []=>true
 | n::l=>(!(decide (n.kind=3) && gP eR n.text) && (n.kids.all (dt n.name) && SU n)) && lW l
end
theorem Jm (n:Node):SU n=lW n.kids:=by cases n; simp [SU]
theorem Gd:∀ (l:List Node),aj cU l→Fn Tryz.prog i1 [.seq 5 (l.map Node.v)] (.bool (lW l)):=by
 have key:∀ l:List Node,(∀ n∈l,aj cU n.kids→Fn Tryz.prog i1 [.seq 5 (n.kids.map Node.v)] (.bool (lW n.kids)))→aj cU l→Fn Tryz.prog i1 [.seq 5 (l.map Node.v)] (.bool (lW l)):=by
  intro l hrec hfi
  refine Fn.of_image mixed FM Fq rfl fun ho=>?_
  unfold tX
  simp only [oks,ok,and_true] at ho
  have hlen:l.length≤140737488355328:=by have:=ho.1; simpa using this
  have hlenk:∀ x∈l,x.kids.length≤140737488355328:=fun x hx=>by
   have h:=(IZ.1 ho.2) _ (List.mem_map_of_mem hx)
   simp at h
   exact h.2.2.2.2.1
  clear ho
  simp (disch:=omega) [-List.reduceReplicate]
  generalize hr:lW l=r
  refine ak (fun k:Nat=>⟨[(0,.seq 5 (l.map Node.v)),(3,.int .i64 k)],[]⟩) (fun k=>k≤l.length∧lW (l.drop k)=r) (fun k=>l.length - k) [] _ 0 rfl (by simp [*]) (by simp [*]) ?_
  rintro k ⟨hk,hi⟩ N hN
  rcases place l k hk with ⟨he,hd⟩ | ⟨hlt,x,hx,hd⟩<;>rw [hd] at hi<;>replace hi:=hid hi
  · have hi:=hi.out
    simp only [lW] at hi
    subst hi
    simp (disch:=omega) [-List.reduceReplicate,he]
  · have hxm:=List.mem_of_getElem? hx
    obtain ⟨hfx,hfk⟩:=cu hfi hxm
    have hxk:=hlenk x hxm
    simp only [lW,Jm] at hi
    have bad:(!(decide (x.kind=3) && gP eR x.text) && (x.kids.all (dt x.name) && lW x.kids))=false→r=false:=fun h=>by have hi:=hi.out; rw [h] at hi; simpa using hi.symm
    have good:(!(decide (x.kind=3) && gP eR x.text) && (x.kids.all (dt x.name) && lW x.kids))=true→lW (l.drop (k + 1))=r:=fun h=>by have hi:=hi.out; rw [h] at hi; simpa using hi
    replace bad:=hid bad
    replace good:=hid good
    clear hi
    have hax:0 < eR.length:=by simp [eR]
    have hal:eR.length≤1000000000:=by simp [eR]
    have hxt:=hfx.2.1
    simp (disch:=omega) [-List.reduceReplicate,hx]
    generalize hA:x.kids.all (dt x.name)=A at bad good
    repeat' (first
     | (refine BrKd.mk (fun h=>?_) (fun h=>?_)<;>simp (disch:=omega) [hx, *])
     | (refine BrK.mk (fun h=>?_) (fun h=>?_)<;>simp (disch:=omega) [hx, *])
     | (refine ac (tI x.text eR hax (by omega) hal) rfl (fun _=>?_)<;>simp (disch:=omega) [hx, *]))
    all_goals
     first
     | (rw [bad.out (by simp [*])]; done)
     | (refine (bad.out (by simp [*])); done)
     | (refine (bad.out (by simp [*])).symm; done)
     | skip
    all_goals
     refine ak (fun (j:Nat)=>⟨[(0,.seq 5 (l.map Node.v)),(3,.int .i64 k),(4,.int .i64 j)],[]⟩)
      (fun j=>j≤x.kids.length∧((x.kids.drop j).all (dt x.name))=A) (fun j=>x.kids.length - j) [] _ 0 rfl (by simp) (by simp [hA]) ?_
     rintro j ⟨hj,hi⟩ N2 hN2
     rcases place x.kids j hj with ⟨he2,hd2⟩ | ⟨hlt2,y,hy,hd2⟩<;>rw [hd2] at hi
     · simp only [List.all_nil] at hi
       subst hi
       simp (disch:=omega) [-List.reduceReplicate,hx,he2]
       refine ac (hrec x hxm hfk) rfl fun _=>?_
       simp (disch:=omega) [-List.reduceReplicate]
       refine BrK.mk (fun h2=>?_) (fun h2=>?_)
       · simp (disch:=omega) [-List.reduceReplicate]
         refine hN.out _<|Nx.mk (k + 1) (by simp) ⟨by omega,good.out (by simp [*])⟩ (by omega)
       · simp (disch:=omega) [-List.reduceReplicate]
         have hb:=bad.out (by simp [*])
         simp [hb]
     · obtain ⟨hfy,_⟩:=cu hfk (List.mem_of_getElem? hy)
       simp only [List.all_cons] at hi
       have ht2:y.text.length≤100000000:=by have:=hfy.2.1; omega
       replace hi:=hid hi
       simp (disch:=omega) [-List.reduceReplicate,hx,hy]
       refine al (by simpa using rf x.name y hfx.1 ht2) rfl ?_
       simp (disch:=omega) [-List.reduceReplicate]
       refine BrK.mk (fun h2=>?_) (fun h2=>?_)
       · simp (disch:=omega) [-List.reduceReplicate]
         have hi:=hi.out
         rw [h2] at hi
         refine hN2.out _<|Nx.mk (j + 1) (by simp) ⟨by omega,by simpa using hi⟩ (by omega)
       · simp (disch:=omega) [-List.reduceReplicate]
         have hi:=hi.out
         rw [h2] at hi
         simp only [Bool.false_and] at hi
         subst hi
         have hb:=bad.out (by simp)
         simp [hb]
 have all:∀ l:List Node,∀ n∈l,aj cU n.kids→Fn Tryz.prog i1 [.seq 5 (n.kids.map Node.v)] (.bool (lW n.kids)):=by
  refine aB (fun x hx=>by cases hx) ?_
  intro n l h1 h2 x hx
  rcases List.mem_cons.1 hx with rfl | hx
  · exact key _ h1
  · exact h2 x hx
 exact fun l=>key l (all l)
def pD (l:List Node):Bool:=decide (may l=0) && lW l
theorem xp (l:List Node) (hf:aj cU l):Fn Tryz.prog vV [.seq 5 (l.map Node.v)] (.bool (pD l)):=by
 refine Fn.of_image mixed wX wA rfl fun ho=>?_
 unfold nd
 simp only [oks,ok,and_true] at ho
 clear ho
 simp (disch:=omega) [-List.reduceReplicate,pD]
 refine ac (Gf l hf) rfl fun _=>?_
 simp (disch:=omega) [-List.reduceReplicate]
 refine BrKd.mk (fun h=>?_) (fun h=>?_)
 · simp (disch:=omega) [-List.reduceReplicate,h]
   refine ac (Gd l hf) rfl fun _=>?_
   simp (disch:=omega) [-List.reduceReplicate,h]
 · simp (disch:=omega) [-List.reduceReplicate,h]
def tu (A:Constraint→Str→Bool) (p:Policy) (l:List Node):Int:=(bF A p [] l 0).1
theorem mS (A:Constraint→Str→Bool) (p:Policy) (hA:r0 A p) (l:List Node) (hf:aj lC l) (hc:am l≤1000000000):Fn Tryz.prog EX [p.v,.seq 5 (l.map Node.v)] (.int .i64 (tu A p l)):=by
 refine Fn.of_image mixed FI Fl rfl fun ho=>?_
 unfold tU
 simp only [oks,ok,and_true] at ho
 clear ho
 simp (disch:=omega) [-List.reduceReplicate,tu]
 refine ac (by simpa using Gc A p hA l [] hf hc) rfl fun _=>?_
 simp (disch:=omega) [-List.reduceReplicate]
def iY (A:Constraint→Str→Bool) (p:Policy) (l:List Node):Bool:=pD l && decide (tu A p l < 0)
theorem jt (A:Constraint→Str→Bool) (p:Policy) (hA:r0 A p) (l:List Node) (hf:aj lC l) (hf1:aj cU l) (hc:am l≤1000000000):Fn Tryz.prog ye [p.v,.seq 5 (l.map Node.v)] (.bool (iY A p l)):=by
 refine Fn.of_image mixed zx yP rfl fun ho=>?_
 unfold oU
 simp only [oks,ok,and_true] at ho
 clear ho
 simp (disch:=omega) [-List.reduceReplicate,iY]
 refine ac (xp l hf1) rfl fun _=>?_
 simp (disch:=omega) [-List.reduceReplicate]
 refine BrK.mk (fun h=>?_) (fun h=>?_)
 · simp (disch:=omega) [-List.reduceReplicate,h]
   refine ac (by simpa using mS A p hA l hf hc) rfl fun _=>?_
   simp (disch:=omega) [-List.reduceReplicate,h]
 · simp (disch:=omega) [-List.reduceReplicate,h]
theorem aP {f:Node→Prop}:∀ {l:List Node},aj f l↔∀ n∈l,f n∧aj f n.kids
 | []=>by simp [aj]
 | n::l=>by simp [aj,b9,aP (l:=l)]
theorem nR {f g:Node→Prop} (h:∀ n,f n→aj f n.kids→g n):∀ l:List Node,aj f l→aj g l:=by
 refine aB (fun _=>by simp [aj]) ?_
 intro n l h1 h2 ha
 simp only [aj,b9] at ha ⊢
 exact ⟨⟨h n ha.1.1 ha.1.2,h1 ha.1.2⟩,h2 ha.2⟩
theorem gS (a b:List Node):am (a++b)=am a + am b:=by
 induction a with
 | nil=>simp [am]
 | cons x a ih=>simp only [List.cons_append,am,ih]; omega
theorem ry (f:Node→Bool):∀ l:List Node,am (l.filter f)≤am l
 | []=>by simp [am]
 | n::l=>by
   have:=ry f l
   simp only [List.filter_cons]
   split<;>simp only [am]<;>omega
theorem Bv:∀ (l:List Node) (i:Nat) (o n:Node),l[i]?=some o→am n.kids=am o.kids→am (l.set i n)=am l
 | [],i,o,n,h,_=>by simp at h
 | x::l,0,o,n,h,hk=>by simp at h; subst h; simp [am,dJ,hk]
 | x::l,i + 1,o,n,h,hk=>by
   have:=Bv l i o n (by simpa using h) hk
   simp only [List.set_cons_succ,am,this]
theorem i6:∀ (l out:List Node),am (bG out l)≤am out + am l
 | [],out=>by simp [bG,am]
 | n::l,out=>by
   have h1:=i6 l out
   have h2:=i6 l (out++[n])
   rw [gS] at h2
   have hn:am [n]=Iq n:=by simp [am]
   have hc:am (n::l)=Iq n + am l:=by simp [am]
   simp only [bG]
   split
   · omega
   · split
     · rename_i o ho
       split
       · have h3:=i6 l (out.set (out.length - 1) ⟨o.kind,o.name,o.attrs,o.text++n.text,o.kids⟩)
         have e:=Bv out (out.length - 1) o ⟨o.kind,o.name,o.attrs,o.text++n.text,o.kids⟩ ho rfl
         rw [e] at h3
         omega
       · omega
     · omega
theorem nK (l:List Node):am (cR l)≤am l:=by
 have:=i6 l []
 simpa [cR,am] using this
theorem fK {P:Node→Prop} (hP:∀ k n a t ks t',P ⟨k,n,a,t,ks⟩→P ⟨k,n,a,t',ks⟩):∀ (l out:List Node),(∀ n∈out,P n)→(∀ n∈l,P n)→∀ n∈bG out l,P n
 | [],out,ho,_=>by simpa [bG] using ho
 | n::l,out,ho,hl=>by
   have hn:=hl n (by simp)
   have hl':∀ n∈l,P n:=fun x hx=>hl x (by simp [hx])
   have hon:∀ x∈out++[n],P x:=fun x hx=>by
    rcases List.mem_append.1 hx with h | h
    · exact ho x h
    · simp at h; subst h; exact hn
   simp only [bG]
   split
   · exact fK hP l out ho hl'
   · split
     · rename_i o hoo
       split
       · refine fK hP l _ (fun x hx=>?_) hl'
         rcases List.mem_or_eq_of_mem_set hx with h | h
         · exact ho x h
         · subst h
           have:=ho o (List.mem_of_getElem? hoo)
           obtain ⟨k0,n0,a0,t0,ks0⟩:=o
           exact hP _ _ _ _ _ _ this
       · exact fK hP l _ hon hl'
     · exact fK hP l _ hon hl'
theorem A4 {P:Node→Prop} (hP:∀ k n a t ks t',P ⟨k,n,a,t,ks⟩→P ⟨k,n,a,t',ks⟩) {l:List Node} (h:∀ n∈l,P n):∀ n∈cR l,P n:=fK hP l [] (fun _ h=>by cases h) h
def fV (n:Node):Prop:=n.name.length≤1000∧n.attrs.length≤1000∧(∀ a∈n.attrs,a.name.length≤1000∧a.value.length≤1000)∧n.kids.length≤1000∧bA n.kids≤1000000
theorem i5 {l:List Node} (h:aj fV l):aj fV (cR l):=
 aP.2 (A4 (P:=fun n=>fV n∧aj fV n.kids) (fun k n a t ks t' h=>h) (aP.1 h))
def DB (n:Node):Prop:=n.name.length≤30∧n.text.length≤30∧n.attrs.length≤5∧∀ a∈n.attrs,a.name.length≤30∧a.value.length≤30
theorem tP:∀ (l:List Node) (m:Nat),aj DB (cL l m).1:=by
 refine aB (fun m=>by simp [cL,aj]) ?_
 intro n l h1 h2 m
 simp only [cL,ve]
 split
 · simp [aj]
 · simp only [aj,Og]
   refine ⟨⟨⟨by simp [ol]; omega,by simp [ol]; omega,by simp; omega,fun a ha=>?_⟩,h1 _⟩,h2 _⟩
   simp only [List.mem_map] at ha
   obtain ⟨b,_,rfl⟩:=ha
   simp [KN,ol]; omega
theorem EN {l:List Str} {m:Nat} (h:l.all (fun s=>decide (s.length≤m))=true) (i:Nat):((l[i]?).getD []).length≤m:=by
 cases hi:l[i]? with
 | none=>simp
 | some x=>simpa using List.all_eq_true.1 h x (List.mem_of_getElem? hi)
theorem p2:∀ (l acc:List Attr),(∀ a∈l,a.name.length≤30∧a.value.length≤30)→(∀ a∈acc,a.name.length≤1000∧a.value.length≤1000)→
 (lB acc l).length≤acc.length + l.length∧∀ a∈lB acc l,a.name.length≤1000∧a.value.length≤1000
 | [],acc,_,ha=>by simpa [lB] using ha
 | x::l,acc,hl,ha=>by
   have hx:=hl x (by simp)
   have hl':∀ a∈l,a.name.length≤30∧a.value.length≤30:=fun a h=>hl a (by simp [h])
   simp only [lB]
   split
   · have:=p2 l acc hl' ha
     exact ⟨by simp; omega,this.2⟩
   · have:=p2 l (acc++[⟨ce x.name,de x.value⟩]) hl' (fun a h=>by
      rcases List.mem_append.1 h with h | h
      · exact ha a h
      · simp at h; subst h
        have h1:=pH x.value
        have h2:(ce x.name).length≤1000:=by
         unfold ce
         split
         · omega
         · have:=EN (l:=MT) (m:=1000) (by decide) (x.name.length % 5)
           omega
        exact ⟨h2,by simp only; omega⟩)
     exact ⟨by have:=this.1; simp at this ⊢; omega,this.2⟩
theorem vn (f:Node→Node) (c:Nat):∀ l:List Node,(∀ n∈l,(f n).text.length≤c)→bA (l.map f)≤c * l.length
 | [],_=>by simp [bA]
 | n::l,h=>by
   have h1:=h n (by simp)
   have h2:=vn f c l (fun x hx=>h x (by simp [hx]))
   simp only [bA,List.map_cons,List.sum_cons,List.length_cons,Nat.mul_succ] at *
   omega
theorem HS:∀ l:List Node,aj DB l→am l≤1000→aj fV (l.map bY)∧am (l.map bY)≤am l∧(∀ n∈l.map bY,n.text.length≤120):=by
 refine aB (fun _ _=>by simp [aj,am]) ?_
 intro n l h1 h2 ha hc
 simp only [aj,b9] at ha
 simp only [am,dJ] at hc
 obtain ⟨g1,g2,g3⟩:=h2 ha.2 (by omega)
 obtain ⟨k1,k2,k3⟩:=h1 ha.1.2 (by omega)
 have hw:(r5 n.name).length≤1000:=by
  unfold r5
  split
  · have:=ha.1.1.1; omega
  · have:=EN (l:=IY) (m:=1000) (by decide) (sumB n.name % 10); omega
 have hA:=p2 n.attrs [] ha.1.1.2.2.2 (fun _ h=>by cases h)
 have hr:=pH n.text
 have ht:=ha.1.1.2.1
 have hat:=ha.1.1.2.2.1
 have hm:=io (n.kids.map bY)
 have hmc:=nK (n.kids.map bY)
 have hkl:=fx n.kids
 have hts:=vn bY 120 n.kids (fun x hx=>k3 _ (List.mem_map_of_mem hx))
 have hts2:120 * n.kids.length≤120 * 1000:=Nat.mul_le_mul_left _ (by omega)
 simp only [List.length_map] at hm
 simp only [List.length_nil,Nat.zero_add] at hA
 refine ⟨?_,?_,?_⟩
 · simp only [List.map_cons,aj,b9]
   refine ⟨?_,g1⟩
   rw [iz]
   split
   · refine ⟨⟨hw,?_,hA.2,?_,?_⟩,i5 k1⟩
     · simp only; omega
     · simp only; omega
     · simp only; omega
   · exact ⟨⟨by simp,by simp,by simp,by simp,by simp [bA]⟩,by simp [aj]⟩
 · simp only [List.map_cons,am,dJ]
   rw [iz]
   split
   · simp only; omega
   · simp only [am]; omega
 · intro x hx
   simp only [List.map_cons,List.mem_cons] at hx
   rcases hx with rfl | hx
   · rw [iz]
     split
     · simp
     · simp only; omega
   · exact g3 x hx
theorem mO (l:List Node):aj fV (bO l)∧am (bO l)≤40∧bA (bO l)≤4800:=by
 have hc:=rt l 40
 obtain ⟨h1,h2,h3⟩:=HS (cL l 40).1 (tP l 40) (by omega)
 have hm:=io ((cL l 40).1.map bY)
 have hmc:=nK ((cL l 40).1.map bY)
 have ht:=vn bY 120 (cL l 40).1 (fun x hx=>h3 _ (List.mem_map_of_mem hx))
 have hl:=fx (cL l 40).1
 have:120 * (cL l 40).1.length≤120 * 40:=Nat.mul_le_mul_left _ (by omega)
 exact ⟨i5 h1,by unfold bO; omega,by unfold bO; omega⟩
theorem BR:∀ l:List Node,aj fV l→aj fV (l.flatMap aK)∧am (l.flatMap aK)≤am l:=by
 refine aB (fun _=>by simp [aj,am]) ?_
 intro n l h1 h2 ha
 simp only [aj,b9] at ha
 obtain ⟨g1,g2⟩:=h2 ha.2
 have happ:∀ a b:List Node,aj fV a→aj fV b→aj fV (a++b):=fun a b ha hb=>aP.2 fun x hx=>by
  rcases List.mem_append.1 hx with h | h
  · exact aP.1 ha x h
  · exact aP.1 hb x h
 have key:aj fV (aK n)∧am (aK n)≤Iq n:=by
  rw [kq]
  split
  · simp [aj,am]
  · split
    · have hk1:aj fV (n.kids.flatMap aK)∧am (n.kids.flatMap aK)≤am n.kids:=h1 ha.1.2
      have hf:=jn n.name n.kids
      have hs:=eu (aE n.name n.kids)
      have hm:=io ((aE n.name n.kids).flatMap aK)
      have hf2:=jn n.name (cR ((aE n.name n.kids).flatMap aK))
      have hsub:aj fV ((aE n.name n.kids).flatMap aK):=aP.2 fun x hx=>by
       obtain ⟨y,hy,hxy⟩:=List.mem_flatMap.1 hx
       exact aP.1 hk1.1 x (List.mem_flatMap.2 ⟨y,(List.mem_filter.1 hy).1,hxy⟩)
      have hcs:∀ ks:List Node,am ((aE n.name ks).flatMap aK)≤am (ks.flatMap aK):=by
       intro ks
       induction ks with
       | nil=>simp [aE,am]
       | cons y ks ih=>
         simp only [aE,List.filter_cons,List.flatMap_cons,gS] at ih ⊢
         split
         · simp only [List.flatMap_cons,gS]; omega
         · omega
      have hmy:=i5 hsub
      have hc1:=hcs n.kids
      have hc2:=nK ((aE n.name n.kids).flatMap aK)
      have hc3:=ry (dt n.name) (cR ((aE n.name n.kids).flatMap aK))
      have hl:=ha.1.1.2.2.2
      simp only [aj,b9,am,dJ]
      refine ⟨⟨⟨⟨ha.1.1.1,ha.1.1.2.1,ha.1.1.2.2.1,?_,?_⟩,?_⟩,trivial⟩,?_⟩
      · simp only; omega
      · simp only; omega
      · exact aP.2 fun x hx=>aP.1 hmy x (List.mem_filter.1 hx).1
      · simp only [aE] at *; omega
    · simp only [aj,b9,am]
      exact ⟨⟨ha.1,trivial⟩,by omega⟩
 simp only [List.flatMap_cons,gS]
 exact ⟨happ _ _ key.1 g1,by simp only [am]; omega⟩
def eb (l:List Node):List Node:=f8 (bO l)
theorem F0 (l:List Node):aj fV (eb l)∧am (eb l)≤40∧bA (eb l)≤4800:=by
 obtain ⟨h1,h2,h3⟩:=mO l
 obtain ⟨g1,g2⟩:=BR (bO l) h1
 have hs:=eu (bO l)
 have hm:=io ((bO l).flatMap aK)
 have hc:=nK ((bO l).flatMap aK)
 exact ⟨i5 g1,by unfold eb f8; omega,by unfold eb f8; omega⟩
theorem va:∀ l:List Node,aj fV l→bA l≤1000000→aj cU l:=by
 refine aB (fun _ _=>by simp [aj]) ?_
 intro n l h1 h2 ha ht
 simp only [aj,b9] at ha ⊢
 have hc:bA (n::l)=n.text.length + bA l:=by simp [bA]
 obtain ⟨⟨⟨a1,a2,a3,a4,a5⟩,a6⟩,a7⟩:=ha
 exact ⟨⟨⟨by omega,by omega,by omega,fun a h=>by have:=a3 a h; omega⟩,h1 a6 a5⟩,h2 a7 (by omega)⟩
theorem i8 (l:List Node) (h:aj fV l):aj lC l:=nR (fun n h _=>⟨by have:=h.2.1; omega,fun a ha=>(h.2.2.1 a ha).2⟩) l h
theorem DP (l:List Node):Fn Tryz.prog Ch [.seq 5 (l.map Node.v)] (.seq 5 ((eb l).map Node.v)):=by
 refine Fn.of_image mixed Dn CU rfl fun ho=>?_
 unfold rL
 simp only [oks,ok,and_true] at ho
 clear ho
 obtain ⟨h1,h2,h3⟩:=mO l
 have hl:=fx (bO l)
 have hf:aj Bm (bO l):=nR (fun n h _=>⟨h.1,h.2.2.2⟩) _ h1
 simp (disch:=omega) [-List.reduceReplicate]
 refine an (rj l) (by simp) fun _=>?_
 simp (disch:=omega) [-List.reduceReplicate]
 refine an (xo (bO l) hf (by omega) (by omega)) (by simp) fun _=>?_
 simp (disch:=omega) [-List.reduceReplicate,eb]
theorem mV (s:Str):Fn Tryz.prog E7 [.str s] (.bool (named s)):=by
 refine Fn.of_image mixed FW Fz rfl fun ho=>?_
 unfold uc
 simp only [oks,ok,and_true] at ho
 simp (disch:=omega) [-List.reduceReplicate]
 generalize hr:named s=r
 refine ak (fun k:Nat=>⟨[(0,.str s),(7,.int .i64 s.length),(8,.int .i64 k)],[]⟩) (fun k=>k≤s.length∧(if k=0 then named s else (s.drop k).all c9)=r) (fun k=>s.length - k) [] _ 0 rfl (by simp) (by simp [hr]) ?_
 rintro k ⟨hk,hi⟩ N hN
 by_cases hk0:k=0
 · subst hk0
   simp only [if_true] at hi
   cases s with
   | nil=>simp [named] at hi; subst hi; simp (disch:=omega) [-List.reduceReplicate]
   | cons b t=>
     have hb:=b.toNat_lt
     simp only [named,List.all_cons] at hi
     replace hi:=hid hi
     simp (disch:=omega) [-List.reduceReplicate]
     repeat' (first | (refine BrKd.mk (fun h=>?_) (fun h=>?_)<;>simp (disch:=omega) [*]) | (refine BrK.mk (fun h=>?_) (fun h=>?_)<;>simp (disch:=omega) [*]))
     all_goals first
      | (refine hN.out _<|Nx.mk 1 (by simp [*]) ⟨by simp,?_⟩ (by simp); have hi:=hi.out; simpa (disch:=omega) [c9,small,decide_eq_true,decide_eq_false, *] using hi)
      | (have hi:=hi.out; simpa (disch:=omega) [c9,small,decide_eq_true,decide_eq_false, *] using hi)
      | omega
 · simp only [if_neg hk0] at hi
   rcases place s k hk with ⟨he,hd⟩ | ⟨hlt,x,hx,hd⟩<;>rw [hd] at hi<;>replace hi:=hid hi
   · simp (disch:=omega) [-List.reduceReplicate,he]
     have hi:=hi.out
     have:s≠[]:=by intro h; subst h; simp at he; omega
     simpa [this] using hi
   · have hb:=x.toNat_lt
     simp only [List.all_cons] at hi
     simp (disch:=omega) [-List.reduceReplicate,hx]
     repeat' (first | (refine BrKd.mk (fun h=>?_) (fun h=>?_)<;>simp (disch:=omega) [*]) | (refine BrK.mk (fun h=>?_) (fun h=>?_)<;>simp (disch:=omega) [*]))
     all_goals first
      | omega
      | (refine hN.out _<|Nx.mk (k + 1) (by simp [*]) ⟨by omega,?_⟩ (by omega); have hi:=hi.out; rw [if_neg (by omega)]; simpa (disch:=omega) [c9,small,decide_eq_true,decide_eq_false, *] using hi)
      | (have hi:=hi.out; simpa (disch:=omega) [c9,small,decide_eq_true,decide_eq_false, *] using hi)
theorem Ig (s:Str):Fn Tryz.prog Ht [.str s] (.bool (BK s)):=by
 refine Fn.of_image mixed HP HJ rfl fun ho=>?_
 unfold xO
 simp only [oks,ok,and_true] at ho
 simp (disch:=omega) [-List.reduceReplicate,BK]
 repeat' (first | (refine BrKd.mk (fun h=>?_) (fun h=>?_)<;>simp (disch:=omega) [*]) | (refine BrK.mk (fun h=>?_) (fun h=>?_)<;>simp (disch:=omega) [*]))
theorem Bo (s:Str):Fn Tryz.prog Kc [.str s] (.bool (raw s)):=by
 refine Fn.of_image mixed KF KB rfl fun ho=>?_
 unfold Bx
 simp only [oks,ok,and_true] at ho
 simp (disch:=omega) [-List.reduceReplicate,raw]
 repeat' (first | (refine BrKd.mk (fun h=>?_) (fun h=>?_)<;>simp (disch:=omega) [*]) | (refine BrK.mk (fun h=>?_) (fun h=>?_)<;>simp (disch:=omega) [*]))
theorem xq (s:Str):Fn Tryz.prog vX [.str s] (.bool (plain s)):=by
 refine Fn.of_image mixed wZ wC rfl fun ho=>?_
 unfold ng
 simp only [oks,ok,and_true] at ho
 simp (disch:=omega) [-List.reduceReplicate,plain]
 repeat' (first | (refine BrKd.mk (fun h=>?_) (fun h=>?_)<;>simp (disch:=omega) [*]) | (refine BrK.mk (fun h=>?_) (fun h=>?_)<;>simp (disch:=omega) [*]) | (refine ac (mV _) rfl (fun _=>?_)<;>simp (disch:=omega) [*]) | (refine al (mV _) rfl ?_<;>simp (disch:=omega) [*]))
 all_goals simp [*]
theorem fu (p:Policy) (s:Str):Fn Tryz.prog yD [p.v,.str s] (.tup [((aZ p.elements s).getD .zero).v,.bool (aZ p.elements s).isSome]):=by
 refine Fn.of_image mixed zU zi rfl fun ho=>?_
 unfold pm
 simp only [oks,ok,and_true] at ho
 have hlen:p.elements.length≤140737488355328:=by have:=ho.1; simp at this; exact this.2.1.1
 clear ho
 simp (disch:=omega) [-List.reduceReplicate]
 generalize hr:aZ p.elements s=r
 refine ak (fun k:Nat=>⟨[(1,.str s),(4,.ptr 0 0),(9,.seq 3 (p.elements.map Allowed.v)),(10,.int .i64 p.elements.length),(11,.int .i64 k)],[some (.box [.str [],.nil 1,.nil 5])]⟩) (fun k=>k≤p.elements.length∧aZ (p.elements.drop k) s=r) (fun k=>p.elements.length - k) [] _ 0 rfl (by simp [*]) (by simp [*]) ?_
 rintro k ⟨hk,hi⟩ N hN
 rcases place p.elements k hk with ⟨he,hd⟩ | ⟨hlt,x,hx,hd⟩<;>rw [hd] at hi<;>replace hi:=hid hi
 · simp (disch:=omega) [-List.reduceReplicate,he]
   simp [←hi.out,aZ,Allowed.zero]
 · simp (disch:=omega) [-List.reduceReplicate,hx]
   repeat' (first | (refine BrKd.mk (fun h=>?_) (fun h=>?_)<;>simp (disch:=omega) [*]) | (refine BrK.mk (fun h=>?_) (fun h=>?_)<;>simp (disch:=omega) [*]))
   all_goals first
    | (refine hN.out _<|Nx.mk (k + 1) (by simp [*]) ⟨by omega,?_⟩ (by omega); simpa (disch:=omega) [*,decide_eq_true,decide_eq_false,aZ] using hi.out)
    | (have hi:=hi.out; simp [aZ, *] at hi; subst hi; simp [*])
end Go.Abs.F
end
