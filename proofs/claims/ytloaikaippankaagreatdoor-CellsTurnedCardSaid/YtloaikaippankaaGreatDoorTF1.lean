/-
  What the first functions of the document's packages answer. No condition.
  What the next functions of the document's packages answer: constraints. No condition.
  What strainerref12.Good answers: a constraint that may be. No condition.
  What strainerref13's functions answer: the lists of a policy that may be. No condition.
  What strainerref13's rules and Good answer: a policy that may be. No condition.
  What the library's functions that guard calls answer: indexes, prefixes, cuts. No condition.
  Nodes; what guard.Any answers. No condition.
  What strainerref13's and strainerref21's functions answer: lists, patterns, rules, guards. No condition.
  What strainerref15's functions answer: which nodes a policy allows. No condition.
  What strainerref01's functions answer: characters. No condition.
  What strainerref03's functions answer that make nodes: cut, named, merged. No condition.
  What strainerref03's functions answer that make nodes that may be. No condition.
  What strainerref03's Good answers: nodes that may be. No condition.
  What strainerref06's functions answer that make stable nodes. No condition.
  What strainerref06's Good answers: stable nodes. No condition.
  What strainerref03's May, strainerref06's Stable and strainerref15's Nodes answer. No condition.
  How large strainerref06's Good makes nodes; what strainerlaw21's GuardMeek comes to: what a guard allows is not dangerous. No condition.
  What the program's functions for names, policies and lists answer. No condition.
-/
import Derived.Test.YtloaikaippankaaGreatDoorTCodeA
import Derived.Lib.Bytealg
import Derived.Test.YtloaikaippankaaGreatDoorTCodeW
set_option linter.unusedVariables false
set_option linter.unusedSimpArgs false
set_option linter.unusedSectionVars false
section
set_option maxHeartbeats 4000000
set_option maxRecDepth 100000
namespace Go.Abs.F
open Go.Proofs
attribute [-simp] getElem?_pos
theorem mixed:Tryz.prog.follows .mixedOrders=true:=by kernel_rfl
abbrev Str:=List UInt8
def small (b:UInt8):Bool:=97≤b.toNat && b.toNat≤122
theorem j0 (b:UInt8):Fn Tryz.prog yI [.int .u8 b.toNat] (.bool (small b)):=by
 refine Fn.of_image mixed zC zb rfl fun ho=>?_
 unfold j8
 simp only [oks,ok,and_true] at ho
 simp (disch:=omega) [-List.reduceReplicate,j8,small]
 repeat' (first | (refine BrKd.mk (fun h=>?_) (fun h=>?_)<;>simp (disch:=omega) [*]) | (refine BrK.mk (fun h=>?_) (fun h=>?_)<;>simp (disch:=omega) [*]))
def c6 (b:UInt8):Bool:=small b || (48≤b.toNat && b.toNat≤57) || decide (b.toNat=45)
def named:Str→Bool
 | []=>false
 | b::s=>small b && (b::s).all c6
theorem pS (s:Str):Fn Tryz.prog yJ [.str s] (.bool (named s)):=by
 refine Fn.of_image mixed zD zd rfl fun ho=>?_
 unfold fZ
 simp only [oks,ok,and_true] at ho
 cases s with
 | nil=>simp (disch:=omega) [-List.reduceReplicate,fZ,named]
 | cons b t=>
   simp (disch:=omega) [-List.reduceReplicate,fZ]
   refine ae (j0 b) rfl fun _=>?_
   simp (disch:=omega) [-List.reduceReplicate]
   generalize hr:named (b::t)=r
   generalize hs:b::t=s at *
   refine ak (fun k:Nat=>⟨[(0,.str s),(3,.bool (small b)),(4,.int .i64 k)],[]⟩) (fun k=>k≤s.length∧(small b && (s.drop k).all c6)=r) (fun k=>s.length - k) [] _ 0 rfl (by simp) (by simp [←hr,←hs,named]) ?_
   rintro k ⟨hk,hi⟩ N hN
   rcases place s k hk with ⟨he,hd⟩ | ⟨hlt,x,hx,hd⟩<;>rw [hd] at hi<;>replace hi:=hid hi
   · simp (disch:=omega) [-List.reduceReplicate,he]
     simpa using hi.out
   · simp (disch:=omega) [-List.reduceReplicate,hx]
     repeat' (first | (refine BrKd.mk (fun h=>?_) (fun h=>?_)<;>simp (disch:=omega) [*]) | (refine BrK.mk (fun h=>?_) (fun h=>?_)<;>simp (disch:=omega) [*]) | (refine ae (j0 _) rfl (fun _=>?_)<;>simp (disch:=omega) [*]) | (refine aN (j0 _) rfl ?_<;>simp (disch:=omega) [*]))
     all_goals first
      | (refine hN.out _<|Nx.mk (k + 1) (by simp [*]) ⟨by omega,?_⟩ (by omega); simpa (disch:=omega) [*,decide_eq_true,decide_eq_false,c6] using hi.out)
      | (first | simpa (disch:=omega) [*,decide_eq_true,decide_eq_false,c6] using hi.out.symm | simpa (disch:=omega) [*,decide_eq_true,decide_eq_false,c6] using hi.out)
def plain (s:Str):Bool:=named s && s.length≤16
theorem jZ (s:Str):Fn Tryz.prog yF [.str s] (.bool (plain s)):=by
 refine Fn.of_image mixed zz y8 rfl fun ho=>?_
 unfold j5
 simp only [oks,ok,and_true] at ho
 simp (disch:=omega) [-List.reduceReplicate,j5,plain]
 repeat' (first | (refine BrKd.mk (fun h=>?_) (fun h=>?_)<;>simp (disch:=omega) [*]) | (refine BrK.mk (fun h=>?_) (fun h=>?_)<;>simp (disch:=omega) [*]) | (refine ae (pS _) rfl (fun _=>?_)<;>simp (disch:=omega) [*]) | (refine aN (pS _) rfl ?_<;>simp (disch:=omega) [*]))
structure Attr where
 name:Str
 value:Str
structure Constraint where
 kind:Int
 words:List Str
 regex:Str
structure Rule where
 name:Str
 value:Constraint
 req:Bool
structure Allowed where
 name:Str
 kids:List Str
 rules:List Rule
structure Policy where
 top:List Str
 elements:List Allowed
 unwrap:List Str
@[simp] def Attr.v (a:Attr):V:=.strct [.str a.name,.str a.value]
def Constraint.c (c:Constraint):List V:=[.int .i64 c.kind,.seq 1 (c.words.map .str),.str c.regex]
@[simp] def Constraint.v (c:Constraint):V:=.strct c.c
@[simp] def Rule.v (r:Rule):V:=.strct [.str r.name,.int .i64 r.value.kind,.seq 1 (r.value.words.map .str),.str r.value.regex,.bool r.req]
@[simp] def Allowed.v (a:Allowed):V:=.strct [.str a.name,.seq 1 (a.kids.map .str),.seq 5 (a.rules.map Rule.v)]
@[simp] def Policy.v (p:Policy):V:=.strct [.seq 1 (p.top.map .str),.seq 3 (p.elements.map Allowed.v),.seq 1 (p.unwrap.map .str)]
attribute [simp] Constraint.c
def bX:List Allowed→Str→Option Allowed
 | [],_=>none
 | e::l,s=>if e.name=s then some e else bX l s
def Allowed.zero:Allowed:=⟨[],[],[]⟩
theorem sC (p:Policy) (s:Str):Fn Tryz.prog B3 [p.v,.str s] (.tup [((bX p.elements s).getD .zero).v,.bool (bX p.elements s).isSome]):=by
 refine Fn.of_image mixed CN Ct rfl fun ho=>?_
 unfold lG
 simp only [oks,ok,and_true] at ho
 simp (disch:=omega) [-List.reduceReplicate,lG]
 generalize hr:bX p.elements s=r
 refine ak (fun k:Nat=>⟨[(1,.str s),(2,.ptr 0 0),(4,.ptr 1 0),(6,.int .i64 k)],[some (.box [.seq 1 (p.top.map .str),.seq 3 (p.elements.map Allowed.v),.seq 1 (p.unwrap.map .str)]),some (.box [.str [],.nil 1,.nil 5])]⟩) (fun k=>k≤p.elements.length∧bX (p.elements.drop k) s=r) (fun k=>p.elements.length - k) [] _ 0 rfl (by simp [*]) (by simp [*]) ?_
 rintro k ⟨hk,hi⟩ N hN
 rcases place p.elements k hk with ⟨he,hd⟩ | ⟨hlt,x,hx,hd⟩<;>rw [hd] at hi<;>replace hi:=hid hi
 · simp (disch:=omega) [-List.reduceReplicate,he]
   simp [←hi.out,bX,Allowed.zero]
 · have hlen:p.elements.length≤140737488355328:=by have:=ho.1; simp at this; exact this.2.1.1
   simp (disch:=omega) [-List.reduceReplicate,hx]
   repeat' (first | (refine BrKd.mk (fun h=>?_) (fun h=>?_)<;>simp (disch:=omega) [*]) | (refine BrK.mk (fun h=>?_) (fun h=>?_)<;>simp (disch:=omega) [*]))
   all_goals first
    | (refine hN.out _<|Nx.mk (k + 1) (by simp [*]) ⟨by omega,?_⟩ (by omega); simpa (disch:=omega) [*,decide_eq_true,decide_eq_false,bX] using hi.out)
    | (have hi:=hi.out; simp [bX, *] at hi; subst hi; simp [*])
def dX (s:Str):Str × Bool:=match s[s.length - 1]? with
 | some x=>if x.toNat=42 then (s.take (s.length - 1),true) else (s,false)
 | none=>(s,false)
theorem Da (s:Str):Fn Tryz.prog BZ [.str s] (.tup [.str (dX s).1,.bool (dX s).2]):=by
 refine Fn.of_image mixed CJ Cp rfl fun ho=>?_
 unfold iB
 simp only [oks,ok,and_true] at ho
 by_cases hp:0 < s.length
 · obtain ⟨x,hx⟩:=ap (l:=s) (k:=s.length - 1) (by omega)
   simp (disch:=omega) [-List.reduceReplicate,iB]
   simp [hx]
   repeat' (first | (refine BrKd.mk (fun h=>?_) (fun h=>?_)<;>simp (disch:=omega) [*]) | (refine BrK.mk (fun h=>?_) (fun h=>?_)<;>simp (disch:=omega) [*]))
   all_goals first | omega | simp [dX, *]
 · have:s=[]:=by cases s; rfl; simp at hp
   subst this
   simp (disch:=omega) [-List.reduceReplicate,iB,dX]
def hasS:List Str→Str→Bool
 | [],_=>false
 | x::l,s=>if x=s then true else hasS l s
theorem jL (l:List Str) (s:Str):Fn Tryz.prog D8 [.seq 1 (l.map .str),.str s] (.bool (hasS l s)):=by
 refine Fn.of_image mixed EB Et rfl fun ho=>?_
 unfold n6
 simp only [oks,ok,and_true] at ho
 simp (disch:=omega) [-List.reduceReplicate,n6]
 generalize hr:hasS l s=r
 refine ak (fun k:Nat=>⟨[(0,.seq 1 (l.map .str)),(1,.str s),(5,.int .i64 k)],[]⟩) (fun k=>k≤l.length∧hasS (l.drop k) s=r) (fun k=>l.length - k) [] _ 0 rfl (by simp [*]) (by simp [*]) ?_
 rintro k ⟨hk,hi⟩ N hN
 rcases place l k hk with ⟨he,hd⟩ | ⟨hlt,x,hx,hd⟩<;>rw [hd] at hi<;>replace hi:=hid hi
 · simp (disch:=omega) [-List.reduceReplicate,he]
   simpa [hasS] using hi.out
 · have hlen:l.length≤140737488355328:=by have:=ho.1.1; simpa using this
   simp (disch:=omega) [-List.reduceReplicate,hx]
   repeat' (first | (refine BrKd.mk (fun h=>?_) (fun h=>?_)<;>simp (disch:=omega) [*]) | (refine BrK.mk (fun h=>?_) (fun h=>?_)<;>simp (disch:=omega) [*]))
   all_goals first
    | (refine hN.out _<|Nx.mk (k + 1) (by simp [*]) ⟨by omega,?_⟩ (by omega); simpa (disch:=omega) [*,decide_eq_true,decide_eq_false,hasS] using hi.out)
    | (first | simpa (disch:=omega) [*,decide_eq_true,decide_eq_false,hasS] using hi.out.symm | simpa (disch:=omega) [*,decide_eq_true,decide_eq_false,hasS] using hi.out)
def sign (b:UInt8):Bool:=32≤b.toNat && b.toNat≤126
theorem pR (s:Str):Fn Tryz.prog yH [.str s] (.bool (s.all sign)):=by
 refine Fn.of_image mixed zB za rfl fun ho=>?_
 unfold j7
 simp only [oks,ok,and_true] at ho
 simp (disch:=omega) [-List.reduceReplicate,j7]
 generalize hr:s.all sign=r
 refine ak (fun k:Nat=>⟨[(0,.str s),(3,.int .i64 k)],[]⟩) (fun k=>k≤s.length∧(s.drop k).all sign=r) (fun k=>s.length - k) [] _ 0 rfl (by simp [*]) (by simp [*]) ?_
 rintro k ⟨hk,hi⟩ N hN
 rcases place s k hk with ⟨he,hd⟩ | ⟨hlt,x,hx,hd⟩<;>rw [hd] at hi<;>replace hi:=hid hi
 · simp (disch:=omega) [-List.reduceReplicate,he]
   simpa using hi.out
 · simp (disch:=omega) [-List.reduceReplicate,hx]
   repeat' (first | (refine BrKd.mk (fun h=>?_) (fun h=>?_)<;>simp (disch:=omega) [*]) | (refine BrK.mk (fun h=>?_) (fun h=>?_)<;>simp (disch:=omega) [*]))
   all_goals first
    | (refine hN.out _<|Nx.mk (k + 1) (by simp [*]) ⟨by omega,?_⟩ (by omega); simpa (disch:=omega) [*,decide_eq_true,decide_eq_false,sign] using hi.out)
    | (first | simpa (disch:=omega) [*,decide_eq_true,decide_eq_false,sign] using hi.out.symm | simpa (disch:=omega) [*,decide_eq_true,decide_eq_false,sign] using hi.out)
def scheme (s:Str):Bool:=s.all small && (1≤s.length && s.length≤16)
theorem nQ (s:Str):Fn Tryz.prog wP [.str s] (.bool (scheme s)):=by
 refine Fn.of_image mixed xo xb rfl fun ho=>?_
 unfold jm
 simp only [oks,ok,and_true] at ho
 simp (disch:=omega) [-List.reduceReplicate,jm]
 generalize hr:scheme s=r
 refine ak (fun k:Nat=>⟨[(0,.str s),(3,.int .i64 k)],[]⟩) (fun k=>k≤s.length∧((s.drop k).all small && (1≤s.length && s.length≤16))=r) (fun k=>s.length - k) [] _ 0 rfl (by simp [*]) (by simp [*,←hr,scheme]) ?_
 rintro k ⟨hk,hi⟩ N hN
 rcases place s k hk with ⟨he,hd⟩ | ⟨hlt,x,hx,hd⟩<;>rw [hd] at hi<;>replace hi:=hid hi
 · simp (disch:=omega) [-List.reduceReplicate,he]
   repeat' (first | (refine BrKd.mk (fun h=>?_) (fun h=>?_)<;>simp (disch:=omega) [*]) | (refine BrK.mk (fun h=>?_) (fun h=>?_)<;>simp (disch:=omega) [*]))
   all_goals (first | simpa (disch:=omega) [*,decide_eq_true,decide_eq_false,] using hi.out.symm | simpa (disch:=omega) [*,decide_eq_true,decide_eq_false,] using hi.out)
 · simp (disch:=omega) [-List.reduceReplicate,hx]
   repeat' (first | (refine BrKd.mk (fun h=>?_) (fun h=>?_)<;>simp (disch:=omega) [*]) | (refine BrK.mk (fun h=>?_) (fun h=>?_)<;>simp (disch:=omega) [*]))
   all_goals first
    | (refine hN.out _<|Nx.mk (k + 1) (by simp [*]) ⟨by omega,?_⟩ (by omega); simpa (disch:=omega) [*,decide_eq_true,decide_eq_false,small] using hi.out)
    | (first | simpa (disch:=omega) [*,decide_eq_true,decide_eq_false,small] using hi.out.symm | simpa (disch:=omega) [*,decide_eq_true,decide_eq_false,small] using hi.out)
theorem aS {α:Type} {l:List α} {k:Nat} {x:α} (h:l[k]?=some x):l.take (k + 1)=l.take k++[x]:=by rw [List.take_add_one,h]; rfl
theorem take_drop {α:Type} {l:List α} {k j:Nat} {x:α} (h:l[j]?=some x) (hj:j < k):(l.take k).drop j=x::(l.take k).drop (j + 1):=
 oV (by rw [List.getElem?_take,if_pos hj,h])
def wordOK (sch:Bool) (x:Str):Bool:=if sch then scheme x else (x.all sign && decide (x.length≤40))
def wordsGo (sch:Bool):List Str→List Str→Bool
 | _,[]=>true
 | pre,x::l=>wordOK sch x && (!(hasS pre x) && wordsGo sch (pre++[x]) l)
def words (l:List Str) (sch:Bool):Bool:=wordsGo sch [] l && decide (l.length≤8)
theorem zY (l:List Str) (sch:Bool):Fn Tryz.prog yG [.seq 1 (l.map .str),.bool sch] (.bool (words l sch)):=by
 refine Fn.of_image mixed zA y9 rfl fun ho=>?_
 unfold j6
 simp only [oks,ok,and_true] at ho
 have hlen:l.length≤140737488355328:=by have:=ho.1; simpa using this
 simp (disch:=omega) [-List.reduceReplicate,j6]
 generalize hr:words l sch=r
 refine ak (fun k:Nat=>⟨[(0,.seq 1 (l.map .str)),(1,.bool sch),(5,.int .i64 k)],[]⟩) (fun k=>k≤l.length∧(wordsGo sch (l.take k) (l.drop k) && decide (l.length≤8))=r) (fun k=>l.length - k) [] _ 0 rfl (by simp [*]) (by simp [*,←hr,words]) ?_
 rintro k ⟨hk,hi⟩ N hN
 rcases place l k hk with ⟨he,hd⟩ | ⟨hlt,x,hx,hd⟩<;>rw [hd] at hi<;>replace hi:=hid hi
 · simp (disch:=omega) [-List.reduceReplicate,he]
   simpa [wordsGo] using hi.out
 · rcases Bool.eq_false_or_eq_true sch with hsch | hsch
   all_goals
    simp (disch:=omega) [-List.reduceReplicate,hx]
    repeat' (first | (refine BrKd.mk (fun h=>?_) (fun h=>?_)<;>simp (disch:=omega) [*]) | (refine BrK.mk (fun h=>?_) (fun h=>?_)<;>simp (disch:=omega) [*]) | (refine ae (nQ _) rfl (fun _=>?_)<;>simp (disch:=omega) [*]) | (refine aN (nQ _) rfl ?_<;>simp (disch:=omega) [*]) | (refine ae (pR _) rfl (fun _=>?_)<;>simp (disch:=omega) [*]) | (refine aN (pR _) rfl ?_<;>simp (disch:=omega) [*]))
    all_goals first
     | (first | simpa (disch:=omega) [*,decide_eq_true,decide_eq_false,wordOK,wordsGo] using hi.out.symm | simpa (disch:=omega) [*,decide_eq_true,decide_eq_false,wordOK,wordsGo] using hi.out)
     | (have hi:=hi.out; simp (disch:=omega) [wordOK,wordsGo, *,decide_eq_true,decide_eq_false] at hi; replace hi:=hid hi
        refine ak (fun j:Nat=>⟨[(0,.seq 1 (l.map .str)),(1,.bool sch),(5,.int .i64 k),(8,.int .i64 j)],[]⟩) (fun j=>j≤k∧hasS (l.take k) x=hasS ((l.take k).drop j) x) (fun j=>k - j) [] _ 0 rfl (by simp [*]) (by simp) ?_
        rintro j ⟨hj,hi2⟩ N2 hN2
        by_cases hlt2:j < k
        · obtain ⟨y,hy⟩:=ap (l:=l) (k:=j) (by omega)
          rw [take_drop hy hlt2,hasS] at hi2; replace hi2:=hid hi2
          simp (disch:=omega) [*]
          repeat' (first | (refine BrKd.mk (fun h=>?_) (fun h=>?_)<;>simp (disch:=omega) [*]) | (refine BrK.mk (fun h=>?_) (fun h=>?_)<;>simp (disch:=omega) [*]))
          all_goals first
           | (refine hN2.out _<|Nx.mk (j + 1) (by simp [*]) ⟨by omega,?_⟩ (by omega); rw [hi2.out,if_neg h])
           | (have hi2:=hi2.out; rw [if_pos h] at hi2; have hi:=hi.out; simp [hi2] at hi; simp [hi])
        · have:(l.take k).drop j=[]:=by simp; omega
          rw [this,hasS] at hi2
          have hi:=hi.out; simp [hi2] at hi; replace hi:=hid hi
          simp (disch:=omega) [*]
          refine hN.out _<|Nx.mk (k + 1) (by simp [*]) ⟨by omega,?_⟩ (by omega)
          rw [aS hx]; simpa [*] using hi.out)
def sumB:Str→Nat
 | []=>0
 | b::s=>b.toNat + sumB s
def pool12:List Str:=[[97,42],[40,97,124,98,41,43],[91,48,45,57,93,43],[120,46,121],[91,94,97,93,42],[],[97,124,98,98,124,99]]
def pickW (sch:Bool):List Str→List Str→List Str
 | out,[]=>out
 | out,w::l=>pickW sch (if words (out++[w]) sch then out++[w] else out) l
def kind12 (k:Int):Int:=1 + (if k < 0 then -(k + 1) else k) % 4
def good12 (c:Constraint):Constraint:=
 let k:=kind12 c.kind
 if k=4 then ⟨4,[],(pool12[sumB c.regex % 7]?).getD []⟩
 else
  let ws:=if k=1 then [] else pickW (decide (k=3)) [] (c.words.take 4)
  ⟨k,if k=2∧ws=[] then [[120]] else ws,[]⟩
theorem kind12_range (k:Int):1≤kind12 k∧kind12 k≤4:=by
 unfold kind12
 have h:0≤(if k < 0 then -(k + 1) else k):=by split<;>omega
 generalize (if k < 0 then -(k + 1) else k)=m at h
 omega
theorem pickW_len (sch:Bool):∀ (l out:List Str),(pickW sch out l).length≤out.length + l.length
 | [],out=>by simp [pickW]
 | w::l,out=>by
   simp only [pickW]
   split
   · have:=pickW_len sch l (out++[w]); simp at this ⊢; omega
   · have:=pickW_len sch l out; simp at this ⊢; omega
theorem Dd (c:Constraint) (hR:c.regex.length≤1125899906842624):Fn Tryz.prog B4 [c.v] (good12 c).v:=by
 refine Fn.of_image mixed CO Cu rfl fun ho=>?_
 unfold lH
 simp only [oks,ok,and_true] at ho
 obtain ⟨kd,ws,rx⟩:=c
 simp at ho hR
 generalize hg:good12 ⟨kd,ws,rx⟩=g
 have hrg:=kind12_range kd
 have hgd:g=good12 ⟨kd,ws,rx⟩:=hg.symm
 simp only [good12] at hgd
 simp (disch:=omega) [-List.reduceReplicate,lH]
 refine BrKd.mk (fun h=>?_) (fun h=>?_)
 all_goals
  first
   | (have e:1 + -(kd + 1) % 4=kind12 kd:=by rw [kind12,if_pos h])
   | (have e:1 + kd % 4=kind12 kd:=by rw [kind12,if_neg h])
  simp (disch:=omega) [-List.reduceReplicate]
  rw [e]
  clear e
  generalize kind12 kd=q at *
  refine BrKd.mk (fun hq=>?_) (fun hq=>?_)
  · simp (disch:=omega) [-List.reduceReplicate]
    refine ak (fun (p:Nat × Nat)=>⟨[(1,.ptr 0 0),(2,.ptr 1 0),(4,.ptr 2 0),(5,.seq 1 (pool12.map .str)),(6,.int .i64 p.2),(7,.int .i64 p.1)],
     [some (.box [.int .i64 kd,.seq 1 (ws.map .str),.str rx]),some (.box [.int .i64 0,.nil 1,.str []]),some (.box [.int .i64 q,.nil 1,.str []])]⟩)
     (fun p=>p.1≤rx.length∧p.2≤255 * p.1∧p.2 + sumB (rx.drop p.1)=sumB rx) (fun p=>rx.length - p.1) [] _ (0,0) rfl (by simp [pool12]) (by simp) ?_
    rintro ⟨k,n⟩ ⟨hk,hn,hi⟩ N hN
    simp only at hk hn hi
    rcases place rx k hk with ⟨he,hd⟩ | ⟨hlt,x,hx,hd⟩<;>rw [hd,sumB] at hi
    · have hm:n % 7 < 7:=Nat.mod_lt _ (by decide)
      have ht:((n:Int) % 7).toNat=n % 7:=by omega
      obtain ⟨y,hy⟩:=ap (l:=pool12) (k:=n % 7) hm
      have hpl:pool12.length=7:=rfl
      subst hq
      rw [if_pos rfl] at hgd
      simp only [Nat.add_zero] at hi
      simp (disch:=omega) [-List.reduceReplicate,he,hpl,ht,hy]
      rw [hi] at hy
      simp [hgd,hy]
    · have hx8:=x.toNat_lt
      simp (disch:=omega) [-List.reduceReplicate,hx]
      refine hN.out _<|Nx.mk (k + 1,n + x.toNat) (by simp) ⟨by simp only; omega,by simp only; omega,by simp only; omega⟩ (by simp only; omega)
  · rw [if_neg hq] at hgd
    generalize hw:(if q=1 then [] else pickW (decide (q=3)) [] (List.take 4 ws))=w at hgd
    have hl4:(List.take 4 ws).length=min 4 ws.length:=List.length_take
    simp (disch:=omega) [-List.reduceReplicate]
    refine ak (fun (p:Nat × List Str)=>⟨[(1,.ptr 0 0),(2,.ptr 1 0),(4,.ptr 2 0),(8,.int .i64 p.1)],
     [some (.box [.int .i64 kd,.seq 1 (ws.map .str),.str rx]),some (.box [.int .i64 0,.nil 1,.str []]),some (.box [.int .i64 q,.ref 3 p.2.length,.str []]),some (.arr au 1 (p.2.map .str))]⟩)
     (fun p=>p.1≤(List.take 4 ws).length∧p.2.length≤p.1∧(if q=1 then p.2 else pickW (decide (q=3)) p.2 ((List.take 4 ws).drop p.1))=w) (fun p=>(List.take 4 ws).length - p.1) [.b 2 1 au 1] _ (0,[]) rfl (by simp) (by simp [hw]) ?_
    rintro ⟨k,out⟩ ⟨hk,hol,hi⟩ N hN
    simp only at hk hol hi
    by_cases hq1:q=1
    · rw [if_pos hq1] at hi
      subst hi
      simp (disch:=omega) [-List.reduceReplicate,hq1]
      repeat' (first | (refine BrKd.mk (fun h=>?_) (fun h=>?_)<;>simp (disch:=omega) [*]) | (refine BrK.mk (fun h=>?_) (fun h=>?_)<;>simp (disch:=omega) [*]))
      all_goals first | omega | simp [hgd,hq1]
    · rw [if_neg hq1] at hi
      rcases place (List.take 4 ws) k hk with ⟨he,hd⟩ | ⟨hlt,x,hx,hd⟩<;>rw [hd,pickW] at hi
      · subst hi
        clear hw
        simp (disch:=omega) [-List.reduceReplicate]
        repeat' (first | (refine BrKd.mk (fun h=>?_) (fun h=>?_)<;>simp (disch:=omega) [*]) | (refine BrK.mk (fun h=>?_) (fun h=>?_)<;>simp (disch:=omega) [*]))
        all_goals first | omega | (cases out<;>simp_all) | simp [*]
      · have hx2:ws[k]?=some x:=by rw [List.getElem?_take] at hx; simpa [show k < 4 by omega] using hx
        replace hi:=hid hi
        simp (disch:=omega) [-List.reduceReplicate,hx2,hq1]
        refine ae (by simpa using zY (out++[x]) (decide (q=3))) rfl fun _=>?_
        simp (disch:=omega) [-List.reduceReplicate]
        refine BrK.mk (fun hb=>?_) (fun hb=>?_)
        · simp (disch:=omega) [-List.reduceReplicate]
          refine hN.out _<|Nx.mk (k + 1,out++[x]) (by simp) ⟨by simp only; omega,by simp; omega,?_⟩ (by simp only; omega)
          have hi:=hi.out
          rw [if_pos hb] at hi
          simpa [hq1] using hi
        · simp (disch:=omega) [-List.reduceReplicate]
          refine hN.out _<|Nx.mk (k + 1,out) (by simp) ⟨by simp only; omega,by simp only; omega,?_⟩ (by simp only; omega)
          have hi:=hi.out
          rw [if_neg (by simp [hb])] at hi
          simpa [hq1] using hi
theorem KJ {P:Program} {d f vs us} {K:St→Prop} {σ:St} {r:V} (h:Fn P f us r) (hf:bY (jk r)=true) (k:ok (jk r)→K (σ.put d (jk r))):lQ (Cn P) d f vs us K σ:=ae (Fn.jk h) hf k
theorem Mm {l:List V} {sz:Nat}:bY (if l=[] then V.seq sz l else V.junk)=true:=by split<;>simp [bY, *]
theorem Ml {α:Type} {f:α→V} {l:List α} {sz:Nat}:bY (if l=[] then V.seq sz (l.map f) else V.junk)=true:=by split<;>simp [bY, *]
theorem Bd:∀ {l:List Str},dx (l.map V.str)=true
 | []=>rfl
 | _::l=>by simp [dx,bY,Bd (l:=l)]
attribute [simp] Mm Ml Bd
def Oj (s:Str):Bool:=decide (s=[98,114]) || (decide (s=[104,114]) || (decide (s=[105,109,103]) || (decide (s=[105,110,112,117,116]) || decide (s=[119,98,114]))))
theorem De (s:Str):Fn Tryz.prog B5 [.str s] (.bool (Oj s)):=by
 refine Fn.of_image mixed CP Cv rfl fun ho=>?_
 unfold lI
 simp only [oks,ok,and_true] at ho
 simp (disch:=omega) [-List.reduceReplicate,lI,Oj]
 repeat' (first | (refine BrKd.mk (fun h=>?_) (fun h=>?_)<;>simp (disch:=omega) [*]) | (refine BrK.mk (fun h=>?_) (fun h=>?_)<;>simp (disch:=omega) [*]))
def raw (s:Str):Bool:=decide (s=[115,99,114,105,112,116]) || decide (s=[115,116,121,108,101])
theorem EU (s:Str):Fn Tryz.prog D9 [.str s] (.bool (raw s)):=by
 refine Fn.of_image mixed EC Eu rfl fun ho=>?_
 unfold n7
 simp only [oks,ok,and_true] at ho
 simp (disch:=omega) [-List.reduceReplicate,n7,raw]
 repeat' (first | (refine BrKd.mk (fun h=>?_) (fun h=>?_)<;>simp (disch:=omega) [*]) | (refine BrK.mk (fun h=>?_) (fun h=>?_)<;>simp (disch:=omega) [*]))
def fp (o:Str):List Str:=
 if o=[112] then [[98,108,111,99,107,113,117,111,116,101],[100,105,118],[104,49],[104,50],[104,114],[108,105],[111,108],[112],[112,114,101],[116,97,98,108,101],[117,108]]
 else if o=[108,105] then [[108,105]]
 else if o=[100,116]∨o=[100,100] then [[100,100],[100,116]]
 else if o=[111,112,116,105,111,110] then [[111,112,116,105,111,110]]
 else if o=[116,100] then [[116,100],[116,114]]
 else if o=[116,114] then [[116,114]]
 else []
def ya (o b:Str):Bool:=hasS (fp o) b
theorem xK (o b:Str):Fn Tryz.prog wQ [.str o,.str b] (.bool (ya o b)):=by
 refine Fn.of_image mixed xp xc rfl fun ho=>?_
 unfold jn
 simp only [oks,ok,and_true] at ho
 simp (disch:=omega) [-List.reduceReplicate,jn]
 generalize hr:ya o b=r
 have hlen:(fp o).length≤11:=by unfold fp; repeat' (split<;>try simp)
 repeat' (first | (refine BrKd.mk (fun h=>?_) (fun h=>?_)<;>simp (disch:=omega) [*]) | (refine BrK.mk (fun h=>?_) (fun h=>?_)<;>simp (disch:=omega) [*]))
 all_goals
  by_cases hc:fp o=[]
  · refine ak (fun k:Nat=>⟨[(1,.str b),(5,.nil 1),(6,.int .i64 0)],[]⟩) (fun k=>k=0) (fun k=>0 - k) [] _ 0 rfl (by revert hc; simp [*,fp]) rfl ?_
    rintro k rfl N hN
    simp [←hr,ya,hc,hasS]
  refine ak (fun k:Nat=>⟨[(1,.str b),(5,.seq 1 ((fp o).map .str)),(6,.int .i64 k)],[]⟩) (fun k=>k≤(fp o).length∧hasS ((fp o).drop k) b=r) (fun k=>(fp o).length - k) [] _ 0 rfl (by revert hc; simp [*,fp]) (by simp [←hr,ya]) ?_
  clear hr hc
  generalize fp o=l at *
  rintro k ⟨hk,hi⟩ N hN
  rcases place l k hk with ⟨he,hd⟩ | ⟨hlt,x,hx,hd⟩<;>rw [hd] at hi<;>replace hi:=hid hi
  · simp (disch:=omega) [-List.reduceReplicate,he]
    simpa [hasS] using hi.out
  · simp (disch:=omega) [-List.reduceReplicate,hx]
    repeat' (first | (refine BrKd.mk (fun h=>?_) (fun h=>?_)<;>simp (disch:=omega) [*]) | (refine BrK.mk (fun h=>?_) (fun h=>?_)<;>simp (disch:=omega) [*]))
    all_goals first
     | (refine hN.out _<|Nx.mk (k + 1) (by simp [*]) ⟨by omega,?_⟩ (by omega); simpa (disch:=omega) [*,decide_eq_true,decide_eq_false,hasS] using hi.out)
     | (first | simpa (disch:=omega) [*,decide_eq_true,decide_eq_false,hasS] using hi.out.symm | simpa (disch:=omega) [*,decide_eq_true,decide_eq_false,hasS] using hi.out)
def AL:List Str→List Str→Bool
 | _,[]=>true
 | pre,x::l=>!hasS pre x && AL (pre++[x]) l
def I0 (l:List Str):Bool:=AL [] l
theorem Db (l:List Str):Fn Tryz.prog B0 [.seq 1 (l.map .str)] (.bool (I0 l)):=by
 refine Fn.of_image mixed CK Cq rfl fun ho=>?_
 unfold lE
 simp only [oks,ok,and_true] at ho
 have hlen:l.length≤140737488355328:=by have:=ho.1; simpa using this
 simp (disch:=omega) [-List.reduceReplicate,lE]
 generalize hr:I0 l=r
 refine ak (fun k:Nat=>⟨[(0,.seq 1 (l.map .str)),(3,.int .i64 k)],[]⟩) (fun k=>k≤l.length∧AL (l.take k) (l.drop k)=r) (fun k=>l.length - k) [] _ 0 rfl (by simp [*]) (by simp [*,←hr,I0]) ?_
 rintro k ⟨hk,hi⟩ N hN
 rcases place l k hk with ⟨he,hd⟩ | ⟨hlt,x,hx,hd⟩<;>rw [hd] at hi<;>replace hi:=hid hi
 · simp (disch:=omega) [-List.reduceReplicate,he]
   simpa [AL] using hi.out
 · simp (disch:=omega) [-List.reduceReplicate,hx]
   refine aN (by simpa [List.map_take] using jL (l.take k) x) rfl ?_
   simp (disch:=omega) [-List.reduceReplicate]
   refine BrK.mk (fun h=>?_) (fun h=>?_)
   · simp (disch:=omega) [-List.reduceReplicate]
     have hi:=hi.out
     simpa [AL,h] using hi
   · simp (disch:=omega) [-List.reduceReplicate]
     refine hN.out _<|Nx.mk (k + 1) (by simp [*]) ⟨by omega,?_⟩ (by omega)
     have hi:=hi.out
     simp [AL,h] at hi
     rw [aS hx]; exact hi
def Bc:Str:=[35,116,101,120,116]
def nJ:Str:=[35,99,111,109,109,101,110,116]
def sc (p:Policy) (par x:Str):Bool:=!(Oj par || (raw par && !decide (x=Bc))) && ((decide (x=Bc) || decide (x=nJ)) || ((bX p.elements x).isSome && !ya par x))
def kids (p:Policy) (par:Str) (l:List Str):Bool:=l.all (sc p par) && I0 l
theorem Dc (p:Policy) (par:Str) (l:List Str):Fn Tryz.prog B1 [p.v,.str par,.seq 1 (l.map .str)] (.bool (kids p par l)):=by
 refine Fn.of_image mixed CL Cr rfl fun ho=>?_
 unfold lF
 simp only [oks,ok,and_true] at ho
 have hlen:l.length≤140737488355328:=by have:=ho.2.2.1; simpa using this
 simp (disch:=omega) [-List.reduceReplicate,lF]
 refine ae (De _) rfl fun _=>?_
 simp (disch:=omega) [-List.reduceReplicate]
 refine ae (EU _) rfl fun _=>?_
 simp (disch:=omega) [-List.reduceReplicate]
 generalize hr:kids p par l=r
 refine ak (fun k:Nat=>⟨[(1,.str par),(2,.seq 1 (l.map .str)),(3,.ptr 0 0),(7,.bool (Oj par)),(8,.bool (raw par)),(9,.int .i64 k)],[some (.box [.seq 1 (p.top.map .str),.seq 3 (p.elements.map Allowed.v),.seq 1 (p.unwrap.map .str)])]⟩) (fun k=>k≤l.length∧((l.drop k).all (sc p par) && I0 l)=r) (fun k=>l.length - k) [] _ 0 rfl (by simp [*]) (by simp [*,←hr,kids]) ?_
 rintro k ⟨hk,hi⟩ N hN
 rcases place l k hk with ⟨he,hd⟩ | ⟨hlt,x,hx,hd⟩<;>rw [hd] at hi<;>replace hi:=hid hi
 · simp (disch:=omega) [-List.reduceReplicate,he]
   refine ae (Db _) rfl fun _=>?_
   have hi:=hi.out
   simp at hi
   simp (disch:=omega) [-List.reduceReplicate,hi]
 · simp only [List.all_cons] at hi
   have hfin:sc p par x=false→r=false:=fun h=>by have hi:=hi.out; rw [h] at hi; simpa using hi.symm
   have hgo:sc p par x=true→((l.drop (k + 1)).all (sc p par) && I0 l)=r:=fun h=>by have hi:=hi.out; rw [h] at hi; simpa using hi
   replace hfin:=hid hfin
   replace hgo:=hid hgo
   simp (disch:=omega) [-List.reduceReplicate,hx]
   repeat' (first
    | (refine BrKd.mk (fun h=>?_) (fun h=>?_)<;>simp (disch:=omega) [*])
    | (refine BrK.mk (fun h=>?_) (fun h=>?_)<;>simp (disch:=omega) [*])
    | (refine aN (Fn.jk (sC p x)) (by simp) ?_<;>simp (disch:=omega) [*])
    | (refine ae (xK par x) rfl (fun _=>?_)<;>simp (disch:=omega) [*]))
   all_goals
    cases hf:bX p.elements x
    all_goals
     first
     | (exfalso; simp_all; done)
     | (refine hN.out _<|Nx.mk (k + 1) (by simp [*]) ⟨by omega,hgo.out ?_⟩ (by omega); simp_all [sc,Bc,nJ]; done)
     | (rw [hfin.out ?_]; simp_all [sc,Bc,nJ]; done)
     | (refine (hfin.out ?_).symm; simp_all [sc,Bc,nJ]; done)
     | (refine (hfin.out ?_); simp_all [sc,Bc,nJ]; done)
def xF (p:Policy) (par:Str):List Str→List Str→List Str
 | out,[]=>out
 | out,x::l=>xF p par (if kids p par (out++[x]) then out++[x] else out) l
def fW (p:Policy) (par:Str) (l:List Str):List Str:=xF p par [] (l.take 8)
theorem tM (p:Policy) (par:Str):∀ (l out:List Str),(xF p par out l).length≤out.length + l.length
 | [],out=>by simp [xF]
 | w::l,out=>by
   simp only [xF]
   split
   · have:=tM p par l (out++[w]); simp at this ⊢; omega
   · have:=tM p par l out; simp at this ⊢; omega
theorem EO (p:Policy) (par:Str) (l:List Str):(fW p par l).length≤8:=by
 have:=tM p par (l.take 8) []
 simp at this; simp only [fW]; omega
theorem mg (p:Policy) (par:Str) (l:List Str):FnN Tryz.prog ve [p.v,.str par,.seq 1 (l.map .str)] (.seq 1 ((fW p par l).map .str)):=by
 refine FnN.of_image mixed vq vi rfl fun ho=>?_
 have hlen:l.length≤140737488355328:=by have:=ho.2.2.1.1; simpa using this
 unfold ml
 simp (disch:=omega) [-List.reduceReplicate]
 generalize hw:fW p par l=w
 have hl8:(List.take 8 l).length=min 8 l.length:=List.length_take
 refine ak (fun (q:Nat × List Str)=>⟨[(1,.str par),(2,.seq 1 (l.map .str)),(3,.ptr 0 0),(7,.ref 1 q.2.length),(8,.int .i64 q.1)],
  [some (.box [.seq 1 (p.top.map .str),.seq 3 (p.elements.map Allowed.v),.seq 1 (p.unwrap.map .str)]),some (.arr au 1 (q.2.map .str))]⟩)
  (fun q=>q.1≤(List.take 8 l).length∧q.2.length≤q.1∧xF p par q.2 ((List.take 8 l).drop q.1)=w) (fun q=>(List.take 8 l).length - q.1) [.r 7 au 1] _ (0,[]) rfl (by simp) (by simp [←hw,fW]) ?_
 rintro ⟨k,out⟩ ⟨hk,hol,hi⟩ N hN
 simp only at hk hol hi
 rcases place (List.take 8 l) k hk with ⟨he,hd⟩ | ⟨hlt,x,hx,hd⟩<;>rw [hd,xF] at hi
 · subst hi
   simp (disch:=omega) [-List.reduceReplicate]
   repeat' (first | (refine BrKd.mk (fun h=>?_) (fun h=>?_)<;>simp (disch:=omega) [*]) | (refine BrK.mk (fun h=>?_) (fun h=>?_)<;>simp (disch:=omega) [*]))
   all_goals first | omega | simp [*]
 · have hx2:l[k]?=some x:=by rw [List.getElem?_take] at hx; simpa [show k < 8 by omega] using hx
   replace hi:=hid hi
   simp (disch:=omega) [-List.reduceReplicate,hx2]
   refine ae (by simpa using Dc p par (out++[x])) rfl fun _=>?_
   simp (disch:=omega) [-List.reduceReplicate]
   refine BrK.mk (fun hb=>?_) (fun hb=>?_)
   · simp (disch:=omega) [-List.reduceReplicate]
     refine hN.out _<|Nx.mk (k + 1,out++[x]) (by simp) ⟨by simp only; omega,by simp; omega,?_⟩ (by simp only; omega)
     have hi:=hi.out
     rw [if_pos hb] at hi
     simpa using hi
   · simp (disch:=omega) [-List.reduceReplicate]
     refine hN.out _<|Nx.mk (k + 1,out) (by simp) ⟨by simp only; omega,by simp only; omega,?_⟩ (by simp only; omega)
     have hi:=hi.out
     rw [if_neg (by simp [hb])] at hi
     simpa using hi
end Go.Abs.F
end
section
set_option maxHeartbeats 4000000
set_option maxRecDepth 100000
namespace Go.Abs.F
open Go.Proofs
attribute [-simp] getElem?_pos Option.not_isSome
def HI:List Str:=[[105,100],[104,114,101,102],[100,97,116,97,45,42]]
def gu (i:Nat) (r:Rule):Rule:=
 if plain (dX r.name).1 then ⟨r.name,good12 r.value,!(dX r.name).2 && r.req⟩
 else ⟨(HI[i]?).getD [],good12 r.value,!decide (i=2) && r.req⟩
def fS:Nat→List Rule→List Rule→List Rule
 | _,out,[]=>out
 | i,out,r::l=>fS (i + 1) (if hasS (out.map Rule.name) (gu i r).name then out else out++[gu i r]) l
def fT (l:List Rule):List Rule:=fS 0 [] (l.take 3)
theorem mS:∀ (l out:List Rule) (i:Nat),(fS i out l).length≤out.length + l.length
 | [],out,i=>by simp [fS]
 | w::l,out,i=>by
   simp only [fS]
   split
   · have:=mS l out (i + 1); simp at this ⊢; omega
   · have:=mS l (out++[gu i w]) (i + 1); simp at this ⊢; omega
theorem DP (l:List Rule):(fT l).length≤3:=by
 have:=mS (l.take 3) [] 0
 simp at this; simp only [fT]; omega
theorem zX (l:List Rule) (hR:∀ r∈l,r.value.regex.length≤1125899906842624):Fn Tryz.prog yE [.seq 5 (l.map Rule.v)] (.seq 5 ((fT l).map Rule.v)):=by
 refine Fn.of_image mixed zy y7 rfl fun ho=>?_
 unfold j4
 simp only [oks,ok,and_true] at ho
 have hlen:l.length≤140737488355328:=by have:=ho.1; simpa using this
 clear ho
 simp (disch:=omega) [-List.reduceReplicate,j4]
 generalize hw:fT l=w
 have hl3:(List.take 3 l).length=min 3 l.length:=List.length_take
 refine ak (fun (q:Nat × List Rule)=>⟨[(0,.seq 5 (l.map Rule.v)),(3,.ref 0 q.2.length),(4,.ref 1 q.2.length),(5,.int .i64 q.1)],
  [some (.arr dm 5 (q.2.map Rule.v)),some (.arr au 1 ((q.2.map Rule.name).map .str))]⟩)
  (fun q=>q.1≤(List.take 3 l).length∧q.2.length≤q.1∧fS q.1 q.2 ((List.take 3 l).drop q.1)=w) (fun q=>(List.take 3 l).length - q.1) [.r 3 dm 5,.r 4 au 1] _ (0,[]) rfl (by simp) (by simp [←hw,fT]) ?_
 rintro ⟨k,out⟩ ⟨hk,hol,hi⟩ N hN
 simp only at hk hol hi
 rcases place (List.take 3 l) k hk with ⟨he,hd⟩ | ⟨hlt,x,hx,hd⟩<;>rw [hd,fS] at hi
 · subst hi
   clear hw
   simp (disch:=omega) [-List.reduceReplicate]
   repeat' (first | (refine BrKd.mk (fun h=>?_) (fun h=>?_)<;>simp (disch:=omega) [*]) | (refine BrK.mk (fun h=>?_) (fun h=>?_)<;>simp (disch:=omega) [*]))
   all_goals first | omega | simp [*]
 · have hx2:l[k]?=some x:=by rw [List.getElem?_take] at hx; simpa [show k < 3 by omega] using hx
   have hRx:=hR x (List.mem_of_getElem? hx2)
   replace hi:=hid hi
   simp (disch:=omega) [-List.reduceReplicate,hx2]
   refine aF (Dd x.value hRx) (by simp) ?_
   simp (disch:=omega) [-List.reduceReplicate,hx2]
   refine ae (Da _) rfl fun _=>?_
   simp (disch:=omega) [-List.reduceReplicate,hx2]
   refine ae (jZ _) rfl fun _=>?_
   have hk3:k < 3:=by omega
   obtain ⟨pn,hpn⟩:∃ pn,HI[k]?=some pn:=ap (l:=HI) (k:=k) (by simpa [HI] using hk3)
   have hpn2:([.str [105,100],.str [104,114,101,102],.str [100,97,116,97,45,42]]:List V)[k]?=some (.str pn):=by
    have:(HI.map V.str)[k]?=some (.str pn):=by rw [List.getElem?_map,hpn]; rfl
    exact this
   have fin:∀ g:Rule,gu k x=g→∀ τ:St,τ.nrm [0,3,4,5]=⟨[(0,.seq 5 (l.map Rule.v)),(3,.ref 0 (if hasS (out.map Rule.name) g.name then out else out++[g]).length),(4,.ref 1 (if hasS (out.map Rule.name) g.name then out else out++[g]).length),(5,.int .i64 ((k + 1:Nat):Int))],
    [some (.arr dm 5 ((if hasS (out.map Rule.name) g.name then out else out++[g]).map Rule.v)),some (.arr au 1 (((if hasS (out.map Rule.name) g.name then out else out++[g]).map Rule.name).map .str))]⟩→N τ:=by
    intro g hg τ hτ
    have hi:=hi.out
    rw [hg] at hi
    refine hN.out _<|Nx.mk (k + 1,if hasS (out.map Rule.name) g.name then out else out++[g]) hτ ⟨by simp only; omega,?_,hi⟩ (by simp only; omega)
    split<;>simp<;>omega
   simp (disch:=omega) [-List.reduceReplicate,hx2]
   refine BrK.mk (fun hb=>?_) (fun hb=>?_)
   · simp (disch:=omega) [-List.reduceReplicate,hx2]
     refine BrK.mk (fun hm=>?_) (fun hm=>?_)
     all_goals
      simp (disch:=omega) [-List.reduceReplicate,hm,hx2]
      refine ae (by simpa using jL (out.map Rule.name) x.name) rfl fun _=>?_
      simp (disch:=omega) [-List.reduceReplicate,hx2]
      refine BrK.mk (fun hh=>?_) (fun hh=>?_)
      all_goals
       simp (disch:=omega) [-List.reduceReplicate,hh,hx2]
       refine fin _ (by simp only [gu,hb,if_true,hm,Bool.not_true,Bool.not_false,Bool.true_and,Bool.false_and]; rfl) _ ?_
       simp [hh]
   · simp (disch:=omega) [-List.reduceReplicate,hpn2,hx2]
     have hb':gu k x=⟨pn,good12 x.value,!decide (k=2) && x.req⟩:=by simp [gu,hb,hpn]
     refine BrKd.mk (fun hm=>?_) (fun hm=>?_)
     all_goals
      simp (disch:=omega) [-List.reduceReplicate,hm,hx2]
      refine ae (by simpa using jL (out.map Rule.name) pn) rfl fun _=>?_
      simp (disch:=omega) [-List.reduceReplicate,hx2]
      refine BrK.mk (fun hh=>?_) (fun hh=>?_)
      all_goals
       simp (disch:=omega) [-List.reduceReplicate,hh,hx2]
       refine fin _ hb' _ ?_
       simp [hh,hm]
def HJ:List Str:=[[97],[98],[112],[98,114],[115,116,121,108,101]]
def ri (i:Nat) (s:Str):Str:=if plain s then s else (HJ[i]?).getD []
def kD:Nat→List Allowed→List Allowed→List Allowed
 | _,out,[]=>out
 | i,out,e::l=>kD (i + 1) (if (bX out (ri i e.name)).isSome then out else out++[⟨ri i e.name,[],fT e.rules⟩]) l
theorem oU:∀ (l out:List Allowed) (i:Nat),(kD i out l).length≤out.length + l.length
 | [],out,i=>by simp [kD]
 | w::l,out,i=>by
   simp only [kD]
   split
   · have:=oU l out (i + 1); simp at this ⊢; omega
   · have:=oU l (out++[⟨ri i w.name,[],fT w.rules⟩]) (i + 1); simp at this ⊢; omega
def kW (els:List Allowed) (k:Nat) (own:List Str):List Allowed:=
 match els[k]? with
 | some e=>els.set k ⟨e.name,fW ⟨[],els,[]⟩ e.name own,e.rules⟩
 | none=>els
def i4:Nat→List Allowed→List Allowed→List Allowed
 | _,els,[]=>els
 | k,els,e::l=>i4 (k + 1) (kW els k e.kids) l
def wg:List Str→List Str→List Str
 | out,[]=>out
 | out,x::l=>wg (if plain x && !hasS out x then out++[x] else out) l
def dw (p:Policy):Policy:=
 let a:=kD 0 [] (p.elements.take 5)
 let b:=i4 0 a (p.elements.take a.length)
 ⟨fW ⟨[],b,[]⟩ [] p.top,b,wg [] (p.unwrap.take 4)⟩
theorem sB (p:Policy) (hR:∀ e∈p.elements,∀ r∈e.rules,r.value.regex.length≤1125899906842624):Fn Tryz.prog lc [p.v] (dw p).v:=by
 refine Fn.of_image mixed CM Cs rfl fun ho=>?_
 unfold sN
 simp only [oks,ok,and_true] at ho
 have hlt:p.top.length≤140737488355328:=by have:=ho; simp at this; exact this.1.1
 have hle:p.elements.length≤140737488355328:=by have:=ho; simp at this; exact this.2.1.1
 have hlu:p.unwrap.length≤140737488355328:=by have:=ho; simp at this; exact this.2.2.1
 clear ho
 simp (disch:=omega) [-List.reduceReplicate]
 generalize hg:dw p=g
 have hgd:g=dw p:=hg.symm
 simp only [dw] at hgd
 have hl5:(List.take 5 p.elements).length=min 5 p.elements.length:=List.length_take
 have hal:=oU (p.elements.take 5) [] 0
 generalize ha:kD 0 [] (p.elements.take 5)=els at hgd hal
 refine ak (fun (q:Nat × List Allowed)=>⟨[(1,.ptr 0 0),(2,.ptr 1 0),(3,.ptr 2 0),(4,.int .i64 q.1)],
  [some (.box [.seq 1 (p.top.map .str),.seq 3 (p.elements.map Allowed.v),.seq 1 (p.unwrap.map .str)]),some (.box [.nil 1,.nil 3,.nil 1]),some (.box [.nil 1,.ref 3 q.2.length,.nil 1]),some (.arr bB 3 (q.2.map Allowed.v))]⟩)
  (fun q=>q.1≤(List.take 5 p.elements).length∧q.2.length≤q.1∧kD q.1 q.2 ((List.take 5 p.elements).drop q.1)=els) (fun q=>(List.take 5 p.elements).length - q.1) [.b 2 1 bB 3] _ (0,[]) rfl (by simp) (by simp [←ha]) ?_
 rintro ⟨k,out⟩ ⟨hk,hol,hi⟩ N hN
 simp only at hk hol hi
 rcases place (List.take 5 p.elements) k hk with ⟨he,hd⟩ | ⟨hlt,x,hx,hd⟩<;>rw [hd,kD] at hi
 · subst hi
   have hol5:out.length≤p.elements.length∧out.length≤5:=by simp only [List.length_nil] at hal; omega
   have hkk:(k < p.elements.length∧k=5)∨k=p.elements.length:=by omega
   clear hd hN hol hk he hal ha
   generalize hb:i4 0 out (p.elements.take out.length)=bs at hgd
   rcases hkk with hkk | hkk
   all_goals
    simp (disch:=omega) [-List.reduceReplicate,hkk]
    refine ak (fun (q:Nat × List Allowed)=>⟨[(1,.ptr 0 0),(2,.ptr 1 0),(3,.ptr 2 0),(10,.int .i64 q.1)],
     [some (.box [.seq 1 (p.top.map .str),.seq 3 (p.elements.map Allowed.v),.seq 1 (p.unwrap.map .str)]),some (.box [.nil 1,.nil 3,.nil 1]),some (.box [.nil 1,.ref 3 q.2.length,.nil 1]),some (.arr bB 3 (q.2.map Allowed.v))]⟩)
     (fun q=>q.1≤(p.elements.take out.length).length∧q.2.length=out.length∧i4 q.1 q.2 ((p.elements.take out.length).drop q.1)=bs) (fun q=>(p.elements.take out.length).length - q.1) [] _ (0,out) rfl (by simp) (by simp [←hb]) ?_
    have hlo:(p.elements.take out.length).length=out.length:=by rw [List.length_take]; omega
    rintro ⟨k,els⟩ ⟨hk,hol,hi⟩ N hN
    simp only at hk hol hi
    rcases place (p.elements.take out.length) k hk with ⟨he,hd⟩ | ⟨hlt,x,hx,hd⟩<;>rw [hd,i4] at hi
    · subst hi
      simp (disch:=omega) [-List.reduceReplicate,he]
      refine s9 (by simpa using mg ⟨[],els,[]⟩ [] p.top) fun hok=>?_
      simp (disch:=omega) [-List.reduceReplicate]
      generalize hu:wg [] (p.unwrap.take 4)=us at hgd
      have hl4:(List.take 4 p.unwrap).length=min 4 p.unwrap.length:=List.length_take
      clear hN
      refine ak (fun (q:Nat × List Str)=>⟨[(1,.ptr 0 0),(2,.ptr 1 0),(3,.ptr 2 0),(12,.int .i64 q.1)],
       [some (.box [.seq 1 (p.top.map .str),.seq 3 (p.elements.map Allowed.v),.seq 1 (p.unwrap.map .str)]),some (.box [.nil 1,.nil 3,.nil 1]),some (.box [.seq 1 ((fW ⟨[],els,[]⟩ [] p.top).map .str),.ref 3 els.length,.ref 4 q.2.length]),some (.arr bB 3 (els.map Allowed.v)),some (.arr au 1 (q.2.map .str))]⟩)
       (fun q=>q.1≤(List.take 4 p.unwrap).length∧q.2.length≤q.1∧wg q.2 ((List.take 4 p.unwrap).drop q.1)=us) (fun q=>(List.take 4 p.unwrap).length - q.1) [.b 2 2 au 1] _ (0,[]) rfl (by simp) (by simp [←hu]) ?_
      rintro ⟨j,uw⟩ ⟨hj,hul,hi⟩ N hN
      simp only at hj hul hi
      rcases place (List.take 4 p.unwrap) j hj with ⟨he2,hd2⟩ | ⟨hlt2,y,hy,hd2⟩<;>rw [hd2,wg] at hi
      · subst hi
        have hjj:(j < p.unwrap.length∧j=4)∨j=p.unwrap.length:=by omega
        rcases hjj with hjj | hjj
        all_goals
         simp (disch:=omega) [-List.reduceReplicate,hjj]
         simp [hgd]
      · have hy2:p.unwrap[j]?=some y:=by rw [List.getElem?_take] at hy; simpa [show j < 4 by omega] using hy
        replace hi:=hid hi
        simp (disch:=omega) [-List.reduceReplicate,hy2]
        refine ae (jZ _) rfl fun _=>?_
        simp (disch:=omega) [-List.reduceReplicate,hy2]
        refine aN (by simpa using jL uw y) rfl ?_
        simp (disch:=omega) [-List.reduceReplicate,hy2]
        have yes:plain y=true→hasS uw y=false→wg (uw++[y]) ((List.take 4 p.unwrap).drop (j + 1))=us:=fun h h'=>by have hi:=hi.out; simpa [h,h'] using hi
        have no:(plain y && !hasS uw y)=false→wg uw ((List.take 4 p.unwrap).drop (j + 1))=us:=fun h=>by have hi:=hi.out; rw [if_neg (by simp [h])] at hi; exact hi
        replace yes:=hid yes
        replace no:=hid no
        refine BrK.mk (fun h1=>?_) (fun h1=>?_)
        · simp (disch:=omega) [-List.reduceReplicate,h1]
          refine BrK.mk (fun h2=>?_) (fun h2=>?_)
          · simp (disch:=omega) [-List.reduceReplicate,h1,h2]
            refine hN.out _<|Nx.mk (j + 1,uw) (by simp) ⟨by simp only; omega,by simp only; omega,no.out (by simp [h2])⟩ (by simp only; omega)
          · simp (disch:=omega) [-List.reduceReplicate,h1,h2,hy2]
            refine hN.out _<|Nx.mk (j + 1,uw++[y]) (by simp) ⟨by simp only; omega,by simp; omega,yes.out h1 h2⟩ (by simp only; omega)
        · simp (disch:=omega) [-List.reduceReplicate,h1]
          refine hN.out _<|Nx.mk (j + 1,uw) (by simp) ⟨by simp only; omega,by simp only; omega,no.out (by simp [h1])⟩ (by simp only; omega)
    · have hx2:p.elements[k]?=some x:=by rw [List.getElem?_take] at hx; simpa [show k < out.length by omega] using hx
      obtain ⟨e,hex⟩:=ap (l:=els) (k:=k) (by omega)
      replace hi:=hid hi
      simp (disch:=omega) [-List.reduceReplicate,hx2,hex]
      refine Fz (by simpa using mg ⟨[],els,[]⟩ e.name x.kids) ?_
      simp (disch:=omega) [-List.reduceReplicate,hx2,hex]
      have hi:=hi.out
      have hsk:kW els k x.kids=els.set k ⟨e.name,fW ⟨[],els,[]⟩ e.name x.kids,e.rules⟩:=by simp [kW,hex]
      rw [hsk] at hi
      refine hN.out _<|Nx.mk (k + 1,els.set k ⟨e.name,fW ⟨[],els,[]⟩ e.name x.kids,e.rules⟩) (by simp [List.map_set]) ⟨by simp only; omega,by simp; omega,hi⟩ (by simp only; omega)
 · have hx2:p.elements[k]?=some x:=by rw [List.getElem?_take] at hx; simpa [show k < 5 by omega] using hx
   have hRx:=hR x (List.mem_of_getElem? hx2)
   obtain ⟨pn,hpn⟩:∃ pn,HJ[k]?=some pn:=ap (l:=HJ) (k:=k) (by simp only [HJ,List.length_cons,List.length_nil]; omega)
   have hpn2:([.str [97],.str [98],.str [112],.str [98,114],.str [115,116,121,108,101]]:List V)[k]?=some (.str pn):=by
    have:(HJ.map V.str)[k]?=some (.str pn):=by rw [List.getElem?_map,hpn]; rfl
    exact this
   replace hi:=hid hi
   simp (disch:=omega) [-List.reduceReplicate,hx2]
   refine ae (jZ _) rfl fun _=>?_
   simp (disch:=omega) [-List.reduceReplicate,hx2]
   refine BrK.mk (fun hb=>?_) (fun hb=>?_)
   all_goals
    first
     | (have hnm:ri k x.name=x.name:=by rw [ri,if_pos hb])
     | (have hnm:ri k x.name=pn:=by rw [ri,if_neg (by simp [hb]),hpn]; rfl)
    have hi:=hi.out
    rw [hnm] at hi
    replace hi:=hid hi
    simp (disch:=omega) [-List.reduceReplicate,hx2,hpn2]
    refine KJ (by simpa using sC ⟨[],out,[]⟩ _) (by simp) fun _=>?_
    simp (disch:=omega) [-List.reduceReplicate,hx2]
    refine BrK.mk (fun hf=>?_) (fun hf=>?_)
    · simp (disch:=omega) [-List.reduceReplicate,hx2]
      have hi:=hi.out
      rw [if_pos hf] at hi
      refine hN.out _<|Nx.mk (k + 1,out) (by simp) ⟨by simp only; omega,by simp only; omega,hi⟩ (by simp only; omega)
    · simp (disch:=omega) [-List.reduceReplicate,hx2]
      have hi:=hi.out
      rw [if_neg (by simp [hf])] at hi
      refine aF (zX x.rules hRx) (by simp) ?_
      simp (disch:=omega) [-List.reduceReplicate,hx2]
      refine hN.out _<|Nx.mk (k + 1,out++[⟨_,[],fT x.rules⟩]) (by simp) ⟨by simp only; omega,by simp; omega,hi⟩ (by simp only; omega)
def fdx {α:Type} (f:α→Bool):Nat→List α→Int
 | _,[]=>-1
 | k,x::l=>if f x then k else fdx f (k + 1) l
theorem H5 {α:Type} (f:α→Bool):∀ (l:List α) (k:Nat),decide (0≤fdx f k l)=l.any f
 | [],k=>by simp [fdx]
 | x::l,k=>by
   simp only [fdx,List.any_cons]
   split
   · rename_i h; simp [h]
   · rename_i h; simp only [Bool.not_eq_true] at h; rw [H5 f l (k + 1),h]; rfl
theorem Fl (s:Str):∀ l:List Str,l.any (fun x=>decide (s=x))=hasS l s
 | []=>rfl
 | x::l=>by
   simp only [List.any_cons,hasS,Fl s l]
   by_cases h:x=s
   · simp [h]
   · have:¬s=x:=fun e=>h e.symm
     simp [h,this]
theorem mB (l:List Str) (s:Str):Fn Tryz.prog ge [.seq 1 (l.map .str),.str s] (.int .i64 (fdx (fun x=>decide (s=x)) 0 l)):=by
 refine Fn.of_image mixed gq gn rfl fun ho=>?_
 unfold cJ
 simp only [oks,ok,and_true] at ho
 have hlen:l.length≤140737488355328:=by have:=ho.1.1; simpa using this
 clear ho
 simp (disch:=omega) [-List.reduceReplicate]
 generalize hr:fdx (fun x=>decide (s=x)) 0 l=r
 refine ak (fun k:Nat=>⟨[(0,.seq 1 (l.map .str)),(1,.str s),(7,.int .i64 l.length),(8,.int .i64 k)],[]⟩) (fun k=>k≤l.length∧fdx (fun x=>decide (s=x)) k (l.drop k)=r) (fun k=>l.length - k) [] _ 0 rfl (by simp [*]) (by simp [*]) ?_
 rintro k ⟨hk,hi⟩ N hN
 rcases place l k hk with ⟨he,hd⟩ | ⟨hlt,x,hx,hd⟩<;>rw [hd] at hi<;>replace hi:=hid hi
 · simp (disch:=omega) [-List.reduceReplicate,he]
   simpa [fdx] using hi.out
 · simp (disch:=omega) [-List.reduceReplicate,hx]
   refine BrKd.mk (fun h=>?_) (fun h=>?_)
   · simp (disch:=omega) [-List.reduceReplicate]
     have hi:=hi.out
     simpa [fdx,h] using hi
   · simp (disch:=omega) [-List.reduceReplicate]
     refine hN.out _<|Nx.mk (k + 1) (by simp [*]) ⟨by omega,?_⟩ (by omega)
     have hi:=hi.out
     simpa [fdx,h] using hi
theorem f_slices_Contains_string (l:List Str) (s:Str):Fn Tryz.prog eB [.seq 1 (l.map .str),.str s] (.bool (hasS l s)):=by
 refine Fn.of_image mixed eX eO rfl fun ho=>?_
 unfold b7
 simp only [oks,ok,and_true] at ho
 simp (disch:=omega) [-List.reduceReplicate]
 refine ae (mB _ _) rfl fun _=>?_
 simp (disch:=omega) [-List.reduceReplicate]
 rw [H5,Fl]
def ow (s p:Str):Bool:=decide (p.length≤s.length) && decide (s.take p.length=p)
theorem ep (s p:Str):Fn Tryz.prog eH [.str s,.str p] (.bool (ow s p)):=by
 refine Fn.of_image mixed fd eV rfl fun ho=>?_
 unfold cc
 simp only [oks,ok,and_true] at ho
 simp (disch:=omega) [-List.reduceReplicate,ow]
 repeat' (first | (refine BrKd.mk (fun h=>?_) (fun h=>?_)<;>simp (disch:=omega) [*]) | (refine BrK.mk (fun h=>?_) (fun h=>?_)<;>simp (disch:=omega) [*]))
theorem gY (s p:Str):Fn Tryz.prog pe [.str s,.str p] (.bool (ow s p)):=by
 refine Fn.of_image mixed pu pl rfl fun ho=>?_
 unfold g9
 simp only [oks,ok,and_true] at ho
 simp (disch:=omega) [-List.reduceReplicate]
 repeat' (first | (refine BrKd.mk (fun h=>?_) (fun h=>?_)<;>simp (disch:=omega) [*]) | (refine BrK.mk (fun h=>?_) (fun h=>?_)<;>simp (disch:=omega) [*]) | (refine ae (ep _ _) rfl (fun _=>?_)<;>simp (disch:=omega) [*]) | (refine aN (ep _ _) rfl ?_<;>simp (disch:=omega) [*]))
theorem f_lang_isValue (s:Str):Fn Tryz.prog wU [.str s] (.bool (s.all sign)):=by
 refine Fn.of_image mixed xv xg rfl fun ho=>?_
 unfold oe
 simp only [oks,ok,and_true] at ho
 simp (disch:=omega) [-List.reduceReplicate]
 generalize hr:s.all sign=r
 refine ak (fun k:Nat=>⟨[(0,.str s),(3,.int .i64 k)],[]⟩) (fun k=>k≤s.length∧(s.drop k).all sign=r) (fun k=>s.length - k) [] _ 0 rfl (by simp [*]) (by simp [*]) ?_
 rintro k ⟨hk,hi⟩ N hN
 rcases place s k hk with ⟨he,hd⟩ | ⟨hlt,x,hx,hd⟩<;>rw [hd] at hi<;>replace hi:=hid hi
 · simp (disch:=omega) [-List.reduceReplicate,he]
   simpa using hi.out
 · simp (disch:=omega) [-List.reduceReplicate,hx]
   repeat' (first | (refine BrKd.mk (fun h=>?_) (fun h=>?_)<;>simp (disch:=omega) [*]) | (refine BrK.mk (fun h=>?_) (fun h=>?_)<;>simp (disch:=omega) [*]))
   all_goals first
    | (refine hN.out _<|Nx.mk (k + 1) (by simp [*]) ⟨by omega,?_⟩ (by omega); simpa (disch:=omega) [*,decide_eq_true,decide_eq_false,sign] using hi.out)
    | (first | simpa (disch:=omega) [*,decide_eq_true,decide_eq_false,sign] using hi.out.symm | simpa (disch:=omega) [*,decide_eq_true,decide_eq_false,sign] using hi.out)
theorem eN (c:UInt8):∀ s:Str,Lib.indexByte s c < (s.length:Int) + 1∧(0≤Lib.indexByte s c→Lib.indexByte s c < s.length)
 | []=>by simp [Lib.indexByte]
 | b::l=>by
   have:=eN c l
   unfold Lib.indexByte
   simp only [List.length_cons]
   split
   · omega
   · split
     · omega
     · omega
theorem dK (s:Str) (c:UInt8):Fn Tryz.prog a6 [.str s,.int .u8 c.toNat] (.int .i64 (Lib.indexByte s c)):=by
 refine Fn.ext bT (by kernel_rfl) (by kernel_rfl) (by kernel_rfl) (e:=Extern.BytealgIndexByte.indexByte) (by kernel_rfl) ?_
 intro M w cs hM hus
 obtain ⟨cl⟩:=cs
 simp only [aa] at hus
 obtain ⟨_,_,rfl,⟨bs,rfl,rfl,_⟩,_,_,rfl,⟨rfl,_⟩,rfl⟩:=hus
 refine ⟨_,Lib.run_indexByteString bs (c.toNat:Int) w,?_⟩
 have hc:((c.toNat:Int)).toNat.toUInt8=c:=by simp
 rw [hc]
 simp only [rep]
 have h1:=Lib.indexByte_ge bs.data.toList c
 have h2:=eN c bs.data.toList
 refine ⟨trivial,?_,?_⟩
 · simp; omega
 · simp; omega
def cutB (s:Str) (c:UInt8):Str × Str × Bool:=if 0≤Lib.indexByte s c then (s.take (Lib.indexByte s c).toNat,s.drop ((Lib.indexByte s c).toNat + 1),true) else (s,[],false)
structure Node where
 kind:Int
 name:Str
 attrs:List Attr
 text:Str
 kids:List Node
mutual
def Node.v:Node→V
 | ⟨k,n,a,t,ks⟩=>.strct [.int .i64 k,.str n,.seq 2 (a.map Attr.v),.str t,.seq 5 (Node.vs ks)]
def Node.vs:List Node→List V
 | []=>[]
 | n::l=>n.v::Node.vs l
end
theorem Node.vs_map:∀ l:List Node,Node.vs l=l.map Node.v
 | []=>by simp [Node.vs]
 | n::l=>by simp [Node.vs,Node.vs_map l]
theorem Node.v_eq (n:Node):n.v=.strct [.int .i64 n.kind,.str n.name,.seq 2 (n.attrs.map Attr.v),.str n.text,.seq 5 (n.kids.map Node.v)]:=by
 cases n; simp [Node.v,Node.vs_map]
attribute [simp] Node.v_eq
section
variable {p:List Node→Prop} (h0:p []) (h1:∀ n l,p n.kids→p l→p (n::l))
include h0 h1
end
def fits (pat nm:Str):Bool:=plain (dX pat).1 && (if (dX pat).2 then ow nm (dX pat).1 else decide (nm=(dX pat).1))
def gX:List Rule→Str→Option Rule
 | [],_=>none
 | r::l,s=>if fits r.name s then some r else gX l s
def Rule.zero:Rule:=⟨[],⟨0,[],[]⟩,false⟩
def RK (A:Constraint→Str→Bool) (e:Allowed) (a:Attr):Bool:=match gX e.rules a.name with
 | some r=>A r.value a.value
 | none=>false
theorem Bf:∀ {l:List Rule} {s:Str} {r:Rule},gX l s=some r→r∈l∧fits r.name s=true
 | [],s,r,h=>by simp [gX] at h
 | x::l,s,r,h=>by
   simp only [gX] at h
   split at h
   · cases h; exact ⟨by simp,by assumption⟩
   · obtain ⟨h1,h2⟩:=Bf h; exact ⟨by simp [h1],h2⟩
def keptA (A:Constraint→Str→Bool) (e:Allowed) (l:List Attr):List Attr:=l.filter (RK A e)
def KP:List Attr→Str→Option Str
 | [],_=>none
 | a::l,s=>if a.name=s then some a.value else KP l s
def whole (e:Allowed) (l:List Attr):Bool:=e.rules.all fun r=>!(r.req && !(KP l r.name).isSome)
def PP (A:Constraint→Str→Bool) (e:Allowed) (l:List Attr):Bool:=decide ((keptA A e l).length=l.length) && whole e l
theorem Bg:∀ {l:List Allowed} {s:Str} {r:Allowed},bX l s=some r→r∈l∧r.name=s
 | [],s,r,h=>by simp [bX] at h
 | x::l,s,r,h=>by
   simp only [bX] at h
   split at h
   · cases h; exact ⟨by simp,by assumption⟩
   · obtain ⟨h1,h2⟩:=Bg h; exact ⟨by simp [h1],h2⟩
def bV (b:UInt8):V:=.int .u8 b.toNat
theorem Hh (s:Str):fN s=s.map bV:=Bt s
theorem PR (b:UInt8):bV b=.int .u8 b.toNat:=rfl
attribute [simp] Hh PR
def follows (b:UInt8):Bool:=decide (128≤b.toNat) && decide (b.toNat < 192)
def hdr (c:Nat):Nat × Nat × Nat:=
 if 192≤c∧c < 224 then (2,c - 192,128) else if 224≤c∧c < 240 then (3,c - 224,2048) else if 240≤c∧c < 248 then (4,c - 240,65536) else (0,0,0)
def goV:Str→Nat→Option Nat
 | [],v=>some v
 | b::l,v=>if follows b then goV l (64 * v + b.toNat - 128) else none
def oneT (n least:Nat):Option Nat→Nat × Nat
 | none=>(65533,1)
 | some v=>if v < least∨1114111 < v∨(55296≤v∧v≤57343) then (65533,1) else (v,n)
def one:Str→Nat × Nat
 | []=>(65533,1)
 | b::t=>if b.toNat < 128 then (b.toNat,1)
   else if (hdr b.toNat).1=0∨t.length + 1 < (hdr b.toNat).1 then (65533,1)
   else oneT (hdr b.toNat).1 (hdr b.toNat).2.2 (goV (t.take ((hdr b.toNat).1 - 1)) (hdr b.toNat).2.1)
def Lh:Nat→Str→List Nat
 | 0,_=>[]
 | _,[]=>[]
 | f + 1,b::t=>(one (b::t)).1::Lh f ((b::t).drop (one (b::t)).2)
def runes (s:Str):List Nat:=Lh s.length s
def rV (r:Nat):V:=.int .i32 r
theorem rV_eq (r:Nat):rV r=.int .i32 r:=rfl
attribute [simp] rV_eq
def b8 (n:Nat):UInt8:=UInt8.ofNat n
def RH (r:Nat):Str:=
 let v:=if 1114111 < r∨(55296≤r∧r≤57343) then 65533 else r
 if v < 128 then [b8 v]
 else if v < 2048 then [b8 (192 + v / 64),b8 (128 + v % 64)]
 else if v < 65536 then [b8 (224 + v / 4096),b8 (128 + v / 64 % 64),b8 (128 + v % 64)]
 else [b8 (240 + v / 262144),b8 (128 + v / 4096 % 64),b8 (128 + v / 64 % 64),b8 (128 + v % 64)]
def textR (l:List Nat):Str:=(l.map RH).flatten
theorem rW:∀ s:Str,cz (s.map bV)=some s
 | []=>rfl
 | b::s=>by
   have:=rW s
   simp only [List.map_cons,PR,cz,this,Option.map_some,Option.some.injEq,List.cons.injEq,and_true]
   simp
attribute [simp] rW
def fixR:Option Nat→List Nat→List Nat
 | _,[]=>[]
 | p,r::l=>(if r=10∧p=some 13 then [] else [if r=13 then 10 else if r=0 then 65533 else r])++fixR (some r) l
def QS (s:Str):Str:=textR (fixR none (runes s))
end Go.Abs.F
end
section
set_option maxHeartbeats 4000000
set_option maxRecDepth 100000
namespace Go.Abs.F
open Go.Proofs
attribute [-simp] getElem?_pos Option.not_isSome
end Go.Abs.F

end
section
set_option maxHeartbeats 4000000
set_option maxRecDepth 100000
namespace Go.Abs.F
open Go.Proofs
attribute [-simp] getElem?_pos Option.not_isSome
end Go.Abs.F

end
section
set_option maxHeartbeats 4000000
set_option maxRecDepth 100000
namespace Go.Abs.F
open Go.Proofs
attribute [-simp] getElem?_pos Option.not_isSome List.map_map
end Go.Abs.F

end
section
set_option maxHeartbeats 4000000
set_option maxRecDepth 100000
namespace Go.Abs.F
open Go.Proofs
attribute [-simp] getElem?_pos Option.not_isSome List.map_map
def bg (w:Str):Str→Bool
 | []=>ow [] w
 | b::t=>ow (b::t) w || bg w t
def foldB (b:UInt8):UInt8:=if 65≤b.toNat∧b.toNat≤90 then b8 (b.toNat + 32) else b
def blank (b:UInt8):Bool:=decide (b.toNat=9) || (decide (b.toNat=10) || (decide (b.toNat=12) || decide (b.toNat=32)))
def endC (b:UInt8):Bool:=blank b || (decide (b.toNat=47) || decide (b.toNat=62))
def endAt (nm:Str) (s:Str):Bool:=decide ((s.take (2 + nm.length)).map foldB=[60,47]++nm) && (match s[2 + nm.length]? with
 | some c=>endC c
 | none=>false)
def Mw (nm:Str):Nat→Str→Int
 | _,[]=>-1
 | i,b::t=>if endAt nm (b::t) then i else Mw nm (i + 1) t
def ends (s nm:Str):Int:=Mw nm 0 s
end Go.Abs.F
end
section
set_option maxHeartbeats 4000000
set_option maxRecDepth 100000
namespace Go.Abs.F
open Go.Proofs
attribute [-simp] getElem?_pos Option.not_isSome List.map_map
end Go.Abs.F

end
section
set_option maxHeartbeats 4000000
set_option maxRecDepth 100000
namespace Go.Abs.F
open Go.Proofs
attribute [-simp] getElem?_pos Option.not_isSome List.map_map
def right (s:Str):Bool:=decide (QS s=s)
end Go.Abs.F
end
section
set_option maxHeartbeats 4000000
set_option maxRecDepth 100000
namespace Go.Abs.F
open Go.Proofs
attribute [-simp] getElem?_pos Option.not_isSome List.map_map
end Go.Abs.F

end
section
set_option maxHeartbeats 4000000
set_option maxRecDepth 100000
namespace Go.Abs.F
open Go.Proofs
attribute [-simp] getElem?_pos Option.not_isSome List.map_map
theorem uS (s:Str):Fn Tryz.prog Ea [.str s] (.bool (named s)):=by
 refine Fn.of_image mixed EE Ew rfl fun ho=>?_
 unfold uZ
 simp only [oks,ok,and_true] at ho
 simp (disch:=omega) [-List.reduceReplicate]
 generalize hr:named s=r
 refine ak (fun k:Nat=>⟨[(0,.str s),(7,.int .i64 s.length),(8,.int .i64 k)],[]⟩) (fun k=>k≤s.length∧(if k=0 then named s else (s.drop k).all c6)=r) (fun k=>s.length - k) [] _ 0 rfl (by simp) (by simp [hr]) ?_
 rintro k ⟨hk,hi⟩ N hN
 by_cases hk0:k=0
 · subst hk0
   simp only [if_true] at hi
   cases s with
   | nil=>simp [named] at hi; subst hi; simp (disch:=omega) [-List.reduceReplicate]
   | cons b t=>
     have hb:=b.toNat_lt
     simp only [named,List.all_cons] at hi
     replace hi:=hid hi
     simp (disch:=omega) [-List.reduceReplicate]
     repeat' (first | (refine BrKd.mk (fun h=>?_) (fun h=>?_)<;>simp (disch:=omega) [*]) | (refine BrK.mk (fun h=>?_) (fun h=>?_)<;>simp (disch:=omega) [*]))
     all_goals first
      | (refine hN.out _<|Nx.mk 1 (by simp [*]) ⟨by simp,?_⟩ (by simp); have hi:=hi.out; simpa (disch:=omega) [c6,small,decide_eq_true,decide_eq_false, *] using hi)
      | (have hi:=hi.out; simpa (disch:=omega) [c6,small,decide_eq_true,decide_eq_false, *] using hi)
      | omega
 · simp only [if_neg hk0] at hi
   rcases place s k hk with ⟨he,hd⟩ | ⟨hlt,x,hx,hd⟩<;>rw [hd] at hi<;>replace hi:=hid hi
   · simp (disch:=omega) [-List.reduceReplicate,he]
     have hi:=hi.out
     have:s≠[]:=by intro h; subst h; simp at he; omega
     simpa [this] using hi
   · have hb:=x.toNat_lt
     simp only [List.all_cons] at hi
     simp (disch:=omega) [-List.reduceReplicate,hx]
     repeat' (first | (refine BrKd.mk (fun h=>?_) (fun h=>?_)<;>simp (disch:=omega) [*]) | (refine BrK.mk (fun h=>?_) (fun h=>?_)<;>simp (disch:=omega) [*]))
     all_goals first
      | omega
      | (refine hN.out _<|Nx.mk (k + 1) (by simp [*]) ⟨by omega,?_⟩ (by omega); have hi:=hi.out; rw [if_neg (by omega)]; simpa (disch:=omega) [c6,small,decide_eq_true,decide_eq_false, *] using hi)
      | (have hi:=hi.out; simpa (disch:=omega) [c6,small,decide_eq_true,decide_eq_false, *] using hi)
theorem xL (s:Str):Fn Tryz.prog wR [.str s] (.bool (plain s)):=by
 refine Fn.of_image mixed xq xd rfl fun ho=>?_
 unfold n8
 simp only [oks,ok,and_true] at ho
 simp (disch:=omega) [-List.reduceReplicate,plain]
 repeat' (first | (refine BrKd.mk (fun h=>?_) (fun h=>?_)<;>simp (disch:=omega) [*]) | (refine BrK.mk (fun h=>?_) (fun h=>?_)<;>simp (disch:=omega) [*]) | (refine ae (uS _) rfl (fun _=>?_)<;>simp (disch:=omega) [*]) | (refine aN (uS _) rfl ?_<;>simp (disch:=omega) [*]))
 all_goals simp [*]
theorem pU (p:Policy) (s:Str):Fn Tryz.prog yM [p.v,.str s] (.tup [((bX p.elements s).getD .zero).v,.bool (bX p.elements s).isSome]):=by
 refine Fn.of_image mixed zG zg rfl fun ho=>?_
 unfold qc
 simp only [oks,ok,and_true] at ho
 have hlen:p.elements.length≤140737488355328:=by have:=ho.1; simp at this; exact this.2.1.1
 clear ho
 simp (disch:=omega) [-List.reduceReplicate]
 generalize hr:bX p.elements s=r
 refine ak (fun k:Nat=>⟨[(1,.str s),(4,.ptr 0 0),(9,.seq 3 (p.elements.map Allowed.v)),(10,.int .i64 p.elements.length),(11,.int .i64 k)],[some (.box [.str [],.nil 1,.nil 5])]⟩) (fun k=>k≤p.elements.length∧bX (p.elements.drop k) s=r) (fun k=>p.elements.length - k) [] _ 0 rfl (by simp [*]) (by simp [*]) ?_
 rintro k ⟨hk,hi⟩ N hN
 rcases place p.elements k hk with ⟨he,hd⟩ | ⟨hlt,x,hx,hd⟩<;>rw [hd] at hi<;>replace hi:=hid hi
 · simp (disch:=omega) [-List.reduceReplicate,he]
   simp [←hi.out,bX,Allowed.zero]
 · simp (disch:=omega) [-List.reduceReplicate,hx]
   repeat' (first | (refine BrKd.mk (fun h=>?_) (fun h=>?_)<;>simp (disch:=omega) [*]) | (refine BrK.mk (fun h=>?_) (fun h=>?_)<;>simp (disch:=omega) [*]))
   all_goals first
    | (refine hN.out _<|Nx.mk (k + 1) (by simp [*]) ⟨by omega,?_⟩ (by omega); simpa (disch:=omega) [*,decide_eq_true,decide_eq_false,bX] using hi.out)
    | (have hi:=hi.out; simp [bX, *] at hi; subst hi; simp [*])
end Go.Abs.F
end
