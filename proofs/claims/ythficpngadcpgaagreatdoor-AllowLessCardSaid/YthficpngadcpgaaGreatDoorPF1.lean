/-
  What the first functions of the document's packages answer. No condition.
  What the next functions of the document's packages answer: constraints. No condition.
  What strainerref12.Good answers: a constraint that may be. No condition.
  What strainerref13's functions answer: the lists of a policy that may be. No condition.
  What strainerref13's rules and Good answer: a policy that may be. No condition.
  What the library's functions that guard calls answer: indexes, prefixes, cuts. No condition.
  Nodes; what guard.Any answers. No condition.
  What strainerref13's and strainerref21's functions answer: lists, patterns, rules, guards. No condition.
  What strainerref15's functions answer: which nodes a policy allows. No condition.
  What strainerref01's functions answer: characters. No condition.
  What strainerref03's functions answer that make nodes: cut, named, merged. No condition.
  What strainerref03's functions answer that make nodes that may be. No condition.
  What strainerref03's Good answers: nodes that may be. No condition.
  What strainerref06's functions answer that make stable nodes. No condition.
  What strainerref06's Good answers: stable nodes. No condition.
  What strainerref03's May, strainerref06's Stable and strainerref15's Nodes answer. No condition.
  How large strainerref06's Good makes nodes; what strainerlaw21's GuardMeek comes to: what a guard allows is not dangerous. No condition.
  What the program's functions for names, policies and lists answer. No condition.
-/
import Derived.Test.YthficpngadcpgaaGreatDoorPCodeA
import Derived.Lib.Bytealg
import Derived.Test.YthficpngadcpgaaGreatDoorPCodeW
set_option linter.unusedVariables false
set_option linter.unusedSimpArgs false
set_option linter.unusedSectionVars false
section
set_option maxHeartbeats 4000000
set_option maxRecDepth 100000
namespace Go.Abs.F
open Go.Proofs
attribute [-simp] getElem?_pos
theorem mixed:Tryz.prog.follows .mixedOrders=true:=by kernel_rfl
abbrev Str:=List UInt8
def small (b:UInt8):Bool:=97≤b.toNat && b.toNat≤122
theorem iK (b:UInt8):Fn Tryz.prog vY [.int .u8 b.toNat] (.bool (small b)):=by
 refine Fn.of_image mixed wZ wy rfl fun ho=>?_
 unfold iT
 simp only [oks,ok,and_true] at ho
 simp (disch:=omega) [-List.reduceReplicate,iT,small]
 repeat' (first | (refine BrKd.mk (fun h=>?_) (fun h=>?_)<;>simp (disch:=omega) [*]) | (refine BrK.mk (fun h=>?_) (fun h=>?_)<;>simp (disch:=omega) [*]))
def cG (b:UInt8):Bool:=small b || (48≤b.toNat && b.toNat≤57) || decide (b.toNat=45)
def named:Str→Bool
 | []=>false
 | b::s=>small b && (b::s).all cG
theorem iL (s:Str):Fn Tryz.prog v6 [.str s] (.bool (named s)):=by
 refine Fn.of_image mixed w5 wA rfl fun ho=>?_
 unfold eN
 simp only [oks,ok,and_true] at ho
 cases s with
 | nil=>simp (disch:=omega) [-List.reduceReplicate,eN,named]
 | cons b t=>
   simp (disch:=omega) [-List.reduceReplicate,eN]
   refine ac (iK b) rfl fun _=>?_
   simp (disch:=omega) [-List.reduceReplicate]
   generalize hr:named (b::t)=r
   generalize hs:b::t=s at *
   refine am (fun k:Nat=>⟨[(0,.str s),(3,.bool (small b)),(4,.int .i64 k)],[]⟩) (fun k=>k≤s.length∧(small b && (s.drop k).all cG)=r) (fun k=>s.length - k) [] _ 0 rfl (by simp) (by simp [←hr,←hs,named]) ?_
   rintro k ⟨hk,hi⟩ N hN
   rcases place s k hk with ⟨he,hd⟩ | ⟨hlt,x,hx,hd⟩<;>rw [hd] at hi<;>replace hi:=hid hi
   · simp (disch:=omega) [-List.reduceReplicate,he]
     simpa using hi.out
   · simp (disch:=omega) [-List.reduceReplicate,hx]
     repeat' (first | (refine BrKd.mk (fun h=>?_) (fun h=>?_)<;>simp (disch:=omega) [*]) | (refine BrK.mk (fun h=>?_) (fun h=>?_)<;>simp (disch:=omega) [*]) | (refine ac (iK _) rfl (fun _=>?_)<;>simp (disch:=omega) [*]) | (refine az (iK _) rfl ?_<;>simp (disch:=omega) [*]))
     all_goals first
      | (refine hN.out _<|Nx.mk (k + 1) (by simp [*]) ⟨by omega,?_⟩ (by omega); simpa (disch:=omega) [*,decide_eq_true,decide_eq_false,cG] using hi.out)
      | (first | simpa (disch:=omega) [*,decide_eq_true,decide_eq_false,cG] using hi.out.symm | simpa (disch:=omega) [*,decide_eq_true,decide_eq_false,cG] using hi.out)
def plain (s:Str):Bool:=named s && s.length≤16
theorem iJ (s:Str):Fn Tryz.prog vU [.str s] (.bool (plain s)):=by
 refine Fn.of_image mixed wV wu rfl fun ho=>?_
 unfold iQ
 simp only [oks,ok,and_true] at ho
 simp (disch:=omega) [-List.reduceReplicate,iQ,plain]
 repeat' (first | (refine BrKd.mk (fun h=>?_) (fun h=>?_)<;>simp (disch:=omega) [*]) | (refine BrK.mk (fun h=>?_) (fun h=>?_)<;>simp (disch:=omega) [*]) | (refine ac (iL _) rfl (fun _=>?_)<;>simp (disch:=omega) [*]) | (refine az (iL _) rfl ?_<;>simp (disch:=omega) [*]))
structure Attr where
 name:Str
 value:Str
structure Constraint where
 kind:Int
 words:List Str
 regex:Str
structure Rule where
 name:Str
 value:Constraint
 req:Bool
structure Allowed where
 name:Str
 kids:List Str
 rules:List Rule
structure Policy where
 top:List Str
 elements:List Allowed
 unwrap:List Str
@[simp] def Attr.v (a:Attr):V:=.strct [.str a.name,.str a.value]
def Constraint.c (c:Constraint):List V:=[.int .i64 c.kind,.seq 1 (c.words.map .str),.str c.regex]
@[simp] def Constraint.v (c:Constraint):V:=.strct c.c
@[simp] def Rule.v (r:Rule):V:=.strct [.str r.name,.int .i64 r.value.kind,.seq 1 (r.value.words.map .str),.str r.value.regex,.bool r.req]
@[simp] def Allowed.v (a:Allowed):V:=.strct [.str a.name,.seq 1 (a.kids.map .str),.seq 5 (a.rules.map Rule.v)]
@[simp] def Policy.v (p:Policy):V:=.strct [.seq 1 (p.top.map .str),.seq 3 (p.elements.map Allowed.v),.seq 1 (p.unwrap.map .str)]
attribute [simp] Constraint.c
def a8:List Allowed→Str→Option Allowed
 | [],_=>none
 | e::l,s=>if e.name=s then some e else a8 l s
def Allowed.zero:Allowed:=⟨[],[],[]⟩
theorem pL (p:Policy) (s:Str):Fn Tryz.prog zq [p.v,.str s] (.tup [((a8 p.elements s).getD .zero).v,.bool (a8 p.elements s).isSome]):=by
 refine Fn.of_image mixed Ao zX rfl fun ho=>?_
 unfold jW
 simp only [oks,ok,and_true] at ho
 simp (disch:=omega) [-List.reduceReplicate,jW]
 generalize hr:a8 p.elements s=r
 refine am (fun k:Nat=>⟨[(1,.str s),(2,.ptr 0 0),(4,.ptr 1 0),(6,.int .i64 k)],[some (.box [.seq 1 (p.top.map .str),.seq 3 (p.elements.map Allowed.v),.seq 1 (p.unwrap.map .str)]),some (.box [.str [],.nil 1,.nil 5])]⟩) (fun k=>k≤p.elements.length∧a8 (p.elements.drop k) s=r) (fun k=>p.elements.length - k) [] _ 0 rfl (by simp [*]) (by simp [*]) ?_
 rintro k ⟨hk,hi⟩ N hN
 rcases place p.elements k hk with ⟨he,hd⟩ | ⟨hlt,x,hx,hd⟩<;>rw [hd] at hi<;>replace hi:=hid hi
 · simp (disch:=omega) [-List.reduceReplicate,he]
   simp [←hi.out,a8,Allowed.zero]
 · have hlen:p.elements.length≤140737488355328:=by have:=ho.1; simp at this; exact this.2.1.1
   simp (disch:=omega) [-List.reduceReplicate,hx]
   repeat' (first | (refine BrKd.mk (fun h=>?_) (fun h=>?_)<;>simp (disch:=omega) [*]) | (refine BrK.mk (fun h=>?_) (fun h=>?_)<;>simp (disch:=omega) [*]))
   all_goals first
    | (refine hN.out _<|Nx.mk (k + 1) (by simp [*]) ⟨by omega,?_⟩ (by omega); simpa (disch:=omega) [*,decide_eq_true,decide_eq_false,a8] using hi.out)
    | (have hi:=hi.out; simp [a8, *] at hi; subst hi; simp [*])
def dU (s:Str):Str × Bool:=match s[s.length - 1]? with
 | some x=>if x.toNat=42 then (s.take (s.length - 1),true) else (s,false)
 | none=>(s,false)
theorem AJ (s:Str):Fn Tryz.prog zm [.str s] (.tup [.str (dU s).1,.bool (dU s).2]):=by
 refine Fn.of_image mixed Ak zS rfl fun ho=>?_
 unfold ga
 simp only [oks,ok,and_true] at ho
 by_cases hp:0 < s.length
 · obtain ⟨x,hx⟩:=aV (l:=s) (k:=s.length - 1) (by omega)
   simp (disch:=omega) [-List.reduceReplicate,ga]
   simp [hx]
   repeat' (first | (refine BrKd.mk (fun h=>?_) (fun h=>?_)<;>simp (disch:=omega) [*]) | (refine BrK.mk (fun h=>?_) (fun h=>?_)<;>simp (disch:=omega) [*]))
   all_goals first | omega | simp [dU, *]
 · have:s=[]:=by cases s; rfl; simp at hp
   subst this
   simp (disch:=omega) [-List.reduceReplicate,ga,dU]
def hasS:List Str→Str→Bool
 | [],_=>false
 | x::l,s=>if x=s then true else hasS l s
theorem il (l:List Str) (s:Str):Fn Tryz.prog BV [.seq 1 (l.map .str),.str s] (.bool (hasS l s)):=by
 refine Fn.of_image mixed Cw Ch rfl fun ho=>?_
 unfold l7
 simp only [oks,ok,and_true] at ho
 simp (disch:=omega) [-List.reduceReplicate,l7]
 generalize hr:hasS l s=r
 refine am (fun k:Nat=>⟨[(0,.seq 1 (l.map .str)),(1,.str s),(5,.int .i64 k)],[]⟩) (fun k=>k≤l.length∧hasS (l.drop k) s=r) (fun k=>l.length - k) [] _ 0 rfl (by simp [*]) (by simp [*]) ?_
 rintro k ⟨hk,hi⟩ N hN
 rcases place l k hk with ⟨he,hd⟩ | ⟨hlt,x,hx,hd⟩<;>rw [hd] at hi<;>replace hi:=hid hi
 · simp (disch:=omega) [-List.reduceReplicate,he]
   simpa [hasS] using hi.out
 · have hlen:l.length≤140737488355328:=by have:=ho.1.1; simpa using this
   simp (disch:=omega) [-List.reduceReplicate,hx]
   repeat' (first | (refine BrKd.mk (fun h=>?_) (fun h=>?_)<;>simp (disch:=omega) [*]) | (refine BrK.mk (fun h=>?_) (fun h=>?_)<;>simp (disch:=omega) [*]))
   all_goals first
    | (refine hN.out _<|Nx.mk (k + 1) (by simp [*]) ⟨by omega,?_⟩ (by omega); simpa (disch:=omega) [*,decide_eq_true,decide_eq_false,hasS] using hi.out)
    | (first | simpa (disch:=omega) [*,decide_eq_true,decide_eq_false,hasS] using hi.out.symm | simpa (disch:=omega) [*,decide_eq_true,decide_eq_false,hasS] using hi.out)
def sign (b:UInt8):Bool:=32≤b.toNat && b.toNat≤126
theorem nn (s:Str):Fn Tryz.prog vW [.str s] (.bool (s.all sign)):=by
 refine Fn.of_image mixed wX ww rfl fun ho=>?_
 unfold iS
 simp only [oks,ok,and_true] at ho
 simp (disch:=omega) [-List.reduceReplicate,iS]
 generalize hr:s.all sign=r
 refine am (fun k:Nat=>⟨[(0,.str s),(3,.int .i64 k)],[]⟩) (fun k=>k≤s.length∧(s.drop k).all sign=r) (fun k=>s.length - k) [] _ 0 rfl (by simp [*]) (by simp [*]) ?_
 rintro k ⟨hk,hi⟩ N hN
 rcases place s k hk with ⟨he,hd⟩ | ⟨hlt,x,hx,hd⟩<;>rw [hd] at hi<;>replace hi:=hid hi
 · simp (disch:=omega) [-List.reduceReplicate,he]
   simpa using hi.out
 · simp (disch:=omega) [-List.reduceReplicate,hx]
   repeat' (first | (refine BrKd.mk (fun h=>?_) (fun h=>?_)<;>simp (disch:=omega) [*]) | (refine BrK.mk (fun h=>?_) (fun h=>?_)<;>simp (disch:=omega) [*]))
   all_goals first
    | (refine hN.out _<|Nx.mk (k + 1) (by simp [*]) ⟨by omega,?_⟩ (by omega); simpa (disch:=omega) [*,decide_eq_true,decide_eq_false,sign] using hi.out)
    | (first | simpa (disch:=omega) [*,decide_eq_true,decide_eq_false,sign] using hi.out.symm | simpa (disch:=omega) [*,decide_eq_true,decide_eq_false,sign] using hi.out)
def scheme (s:Str):Bool:=s.all small && (1≤s.length && s.length≤16)
theorem lQ (s:Str):Fn Tryz.prog tS [.str s] (.bool (scheme s)):=by
 refine Fn.of_image mixed uI uq rfl fun ho=>?_
 unfold gQ
 simp only [oks,ok,and_true] at ho
 simp (disch:=omega) [-List.reduceReplicate,gQ]
 generalize hr:scheme s=r
 refine am (fun k:Nat=>⟨[(0,.str s),(3,.int .i64 k)],[]⟩) (fun k=>k≤s.length∧((s.drop k).all small && (1≤s.length && s.length≤16))=r) (fun k=>s.length - k) [] _ 0 rfl (by simp [*]) (by simp [*,←hr,scheme]) ?_
 rintro k ⟨hk,hi⟩ N hN
 rcases place s k hk with ⟨he,hd⟩ | ⟨hlt,x,hx,hd⟩<;>rw [hd] at hi<;>replace hi:=hid hi
 · simp (disch:=omega) [-List.reduceReplicate,he]
   repeat' (first | (refine BrKd.mk (fun h=>?_) (fun h=>?_)<;>simp (disch:=omega) [*]) | (refine BrK.mk (fun h=>?_) (fun h=>?_)<;>simp (disch:=omega) [*]))
   all_goals (first | simpa (disch:=omega) [*,decide_eq_true,decide_eq_false,] using hi.out.symm | simpa (disch:=omega) [*,decide_eq_true,decide_eq_false,] using hi.out)
 · simp (disch:=omega) [-List.reduceReplicate,hx]
   repeat' (first | (refine BrKd.mk (fun h=>?_) (fun h=>?_)<;>simp (disch:=omega) [*]) | (refine BrK.mk (fun h=>?_) (fun h=>?_)<;>simp (disch:=omega) [*]))
   all_goals first
    | (refine hN.out _<|Nx.mk (k + 1) (by simp [*]) ⟨by omega,?_⟩ (by omega); simpa (disch:=omega) [*,decide_eq_true,decide_eq_false,small] using hi.out)
    | (first | simpa (disch:=omega) [*,decide_eq_true,decide_eq_false,small] using hi.out.symm | simpa (disch:=omega) [*,decide_eq_true,decide_eq_false,small] using hi.out)
theorem cC {α:Type} {l:List α} {k:Nat} {x:α} (h:l[k]?=some x):l.take (k + 1)=l.take k++[x]:=by rw [List.take_add_one,h]; rfl
theorem take_drop {α:Type} {l:List α} {k j:Nat} {x:α} (h:l[j]?=some x) (hj:j < k):(l.take k).drop j=x::(l.take k).drop (j + 1):=
 qP (by rw [List.getElem?_take,if_pos hj,h])
def wordOK (sch:Bool) (x:Str):Bool:=if sch then scheme x else (x.all sign && decide (x.length≤40))
def wordsGo (sch:Bool):List Str→List Str→Bool
 | _,[]=>true
 | pre,x::l=>wordOK sch x && (!(hasS pre x) && wordsGo sch (pre++[x]) l)
def words (l:List Str) (sch:Bool):Bool:=wordsGo sch [] l && decide (l.length≤8)
theorem xp (l:List Str) (sch:Bool):Fn Tryz.prog vV [.seq 1 (l.map .str),.bool sch] (.bool (words l sch)):=by
 refine Fn.of_image mixed wW wv rfl fun ho=>?_
 unfold iR
 simp only [oks,ok,and_true] at ho
 have hlen:l.length≤140737488355328:=by have:=ho.1; simpa using this
 simp (disch:=omega) [-List.reduceReplicate,iR]
 generalize hr:words l sch=r
 refine am (fun k:Nat=>⟨[(0,.seq 1 (l.map .str)),(1,.bool sch),(5,.int .i64 k)],[]⟩) (fun k=>k≤l.length∧(wordsGo sch (l.take k) (l.drop k) && decide (l.length≤8))=r) (fun k=>l.length - k) [] _ 0 rfl (by simp [*]) (by simp [*,←hr,words]) ?_
 rintro k ⟨hk,hi⟩ N hN
 rcases place l k hk with ⟨he,hd⟩ | ⟨hlt,x,hx,hd⟩<;>rw [hd] at hi<;>replace hi:=hid hi
 · simp (disch:=omega) [-List.reduceReplicate,he]
   simpa [wordsGo] using hi.out
 · rcases Bool.eq_false_or_eq_true sch with hsch | hsch
   all_goals
    simp (disch:=omega) [-List.reduceReplicate,hx]
    repeat' (first | (refine BrKd.mk (fun h=>?_) (fun h=>?_)<;>simp (disch:=omega) [*]) | (refine BrK.mk (fun h=>?_) (fun h=>?_)<;>simp (disch:=omega) [*]) | (refine ac (lQ _) rfl (fun _=>?_)<;>simp (disch:=omega) [*]) | (refine az (lQ _) rfl ?_<;>simp (disch:=omega) [*]) | (refine ac (nn _) rfl (fun _=>?_)<;>simp (disch:=omega) [*]) | (refine az (nn _) rfl ?_<;>simp (disch:=omega) [*]))
    all_goals first
     | (first | simpa (disch:=omega) [*,decide_eq_true,decide_eq_false,wordOK,wordsGo] using hi.out.symm | simpa (disch:=omega) [*,decide_eq_true,decide_eq_false,wordOK,wordsGo] using hi.out)
     | (have hi:=hi.out; simp (disch:=omega) [wordOK,wordsGo, *,decide_eq_true,decide_eq_false] at hi; replace hi:=hid hi
        refine am (fun j:Nat=>⟨[(0,.seq 1 (l.map .str)),(1,.bool sch),(5,.int .i64 k),(8,.int .i64 j)],[]⟩) (fun j=>j≤k∧hasS (l.take k) x=hasS ((l.take k).drop j) x) (fun j=>k - j) [] _ 0 rfl (by simp [*]) (by simp) ?_
        rintro j ⟨hj,hi2⟩ N2 hN2
        by_cases hlt2:j < k
        · obtain ⟨y,hy⟩:=aV (l:=l) (k:=j) (by omega)
          rw [take_drop hy hlt2,hasS] at hi2; replace hi2:=hid hi2
          simp (disch:=omega) [*]
          repeat' (first | (refine BrKd.mk (fun h=>?_) (fun h=>?_)<;>simp (disch:=omega) [*]) | (refine BrK.mk (fun h=>?_) (fun h=>?_)<;>simp (disch:=omega) [*]))
          all_goals first
           | (refine hN2.out _<|Nx.mk (j + 1) (by simp [*]) ⟨by omega,?_⟩ (by omega); rw [hi2.out,if_neg h])
           | (have hi2:=hi2.out; rw [if_pos h] at hi2; have hi:=hi.out; simp [hi2] at hi; simp [hi])
        · have:(l.take k).drop j=[]:=by simp; omega
          rw [this,hasS] at hi2
          have hi:=hi.out; simp [hi2] at hi; replace hi:=hid hi
          simp (disch:=omega) [*]
          refine hN.out _<|Nx.mk (k + 1) (by simp [*]) ⟨by omega,?_⟩ (by omega)
          rw [cC hx]; simpa [*] using hi.out)
def sumB:Str→Nat
 | []=>0
 | b::s=>b.toNat + sumB s
def pool12:List Str:=[[97,42],[40,97,124,98,41,43],[91,48,45,57,93,43],[120,46,121],[91,94,97,93,42],[],[97,124,98,98,124,99]]
def pickW (sch:Bool):List Str→List Str→List Str
 | out,[]=>out
 | out,w::l=>pickW sch (if words (out++[w]) sch then out++[w] else out) l
def kind12 (k:Int):Int:=1 + (if k < 0 then -(k + 1) else k) % 4
def good12 (c:Constraint):Constraint:=
 let k:=kind12 c.kind
 if k=4 then ⟨4,[],(pool12[sumB c.regex % 7]?).getD []⟩
 else
  let ws:=if k=1 then [] else pickW (decide (k=3)) [] (c.words.take 4)
  ⟨k,if k=2∧ws=[] then [[120]] else ws,[]⟩
theorem kind12_range (k:Int):1≤kind12 k∧kind12 k≤4:=by
 unfold kind12
 have h:0≤(if k < 0 then -(k + 1) else k):=by split<;>omega
 generalize (if k < 0 then -(k + 1) else k)=m at h
 omega
theorem pickW_len (sch:Bool):∀ (l out:List Str),(pickW sch out l).length≤out.length + l.length
 | [],out=>by simp [pickW]
 | w::l,out=>by
   simp only [pickW]
   split
   · have:=pickW_len sch l (out++[w]); simp at this ⊢; omega
   · have:=pickW_len sch l out; simp at this ⊢; omega
theorem AN (c:Constraint) (hR:c.regex.length≤1125899906842624):Fn Tryz.prog zr [c.v] (good12 c).v:=by
 refine Fn.of_image mixed Ap zY rfl fun ho=>?_
 unfold jX
 simp only [oks,ok,and_true] at ho
 obtain ⟨kd,ws,rx⟩:=c
 simp at ho hR
 generalize hg:good12 ⟨kd,ws,rx⟩=g
 have hrg:=kind12_range kd
 have hgd:g=good12 ⟨kd,ws,rx⟩:=hg.symm
 simp only [good12] at hgd
 simp (disch:=omega) [-List.reduceReplicate,jX]
 refine BrKd.mk (fun h=>?_) (fun h=>?_)
 all_goals
  first
   | (have e:1 + -(kd + 1) % 4=kind12 kd:=by rw [kind12,if_pos h])
   | (have e:1 + kd % 4=kind12 kd:=by rw [kind12,if_neg h])
  simp (disch:=omega) [-List.reduceReplicate]
  rw [e]
  clear e
  generalize kind12 kd=q at *
  refine BrKd.mk (fun hq=>?_) (fun hq=>?_)
  · simp (disch:=omega) [-List.reduceReplicate]
    refine am (fun (p:Nat × Nat)=>⟨[(1,.ptr 0 0),(2,.ptr 1 0),(4,.ptr 2 0),(5,.seq 1 (pool12.map .str)),(6,.int .i64 p.2),(7,.int .i64 p.1)],
     [some (.box [.int .i64 kd,.seq 1 (ws.map .str),.str rx]),some (.box [.int .i64 0,.nil 1,.str []]),some (.box [.int .i64 q,.nil 1,.str []])]⟩)
     (fun p=>p.1≤rx.length∧p.2≤255 * p.1∧p.2 + sumB (rx.drop p.1)=sumB rx) (fun p=>rx.length - p.1) [] _ (0,0) rfl (by simp [pool12]) (by simp) ?_
    rintro ⟨k,n⟩ ⟨hk,hn,hi⟩ N hN
    simp only at hk hn hi
    rcases place rx k hk with ⟨he,hd⟩ | ⟨hlt,x,hx,hd⟩<;>rw [hd,sumB] at hi
    · have hm:n % 7 < 7:=Nat.mod_lt _ (by decide)
      have ht:((n:Int) % 7).toNat=n % 7:=by omega
      obtain ⟨y,hy⟩:=aV (l:=pool12) (k:=n % 7) hm
      have hpl:pool12.length=7:=rfl
      subst hq
      rw [if_pos rfl] at hgd
      simp only [Nat.add_zero] at hi
      simp (disch:=omega) [-List.reduceReplicate,he,hpl,ht,hy]
      rw [hi] at hy
      simp [hgd,hy]
    · have hx8:=x.toNat_lt
      simp (disch:=omega) [-List.reduceReplicate,hx]
      refine hN.out _<|Nx.mk (k + 1,n + x.toNat) (by simp) ⟨by simp only; omega,by simp only; omega,by simp only; omega⟩ (by simp only; omega)
  · rw [if_neg hq] at hgd
    generalize hw:(if q=1 then [] else pickW (decide (q=3)) [] (List.take 4 ws))=w at hgd
    have hl4:(List.take 4 ws).length=min 4 ws.length:=List.length_take
    simp (disch:=omega) [-List.reduceReplicate]
    refine am (fun (p:Nat × List Str)=>⟨[(1,.ptr 0 0),(2,.ptr 1 0),(4,.ptr 2 0),(8,.int .i64 p.1)],
     [some (.box [.int .i64 kd,.seq 1 (ws.map .str),.str rx]),some (.box [.int .i64 0,.nil 1,.str []]),some (.box [.int .i64 q,.ref 3 p.2.length,.str []]),some (.arr aG 1 (p.2.map .str))]⟩)
     (fun p=>p.1≤(List.take 4 ws).length∧p.2.length≤p.1∧(if q=1 then p.2 else pickW (decide (q=3)) p.2 ((List.take 4 ws).drop p.1))=w) (fun p=>(List.take 4 ws).length - p.1) [.b 2 1 aG 1] _ (0,[]) rfl (by simp) (by simp [hw]) ?_
    rintro ⟨k,out⟩ ⟨hk,hol,hi⟩ N hN
    simp only at hk hol hi
    by_cases hq1:q=1
    · rw [if_pos hq1] at hi
      subst hi
      simp (disch:=omega) [-List.reduceReplicate,hq1]
      repeat' (first | (refine BrKd.mk (fun h=>?_) (fun h=>?_)<;>simp (disch:=omega) [*]) | (refine BrK.mk (fun h=>?_) (fun h=>?_)<;>simp (disch:=omega) [*]))
      all_goals first | omega | simp [hgd,hq1]
    · rw [if_neg hq1] at hi
      rcases place (List.take 4 ws) k hk with ⟨he,hd⟩ | ⟨hlt,x,hx,hd⟩<;>rw [hd,pickW] at hi
      · subst hi
        clear hw
        simp (disch:=omega) [-List.reduceReplicate]
        repeat' (first | (refine BrKd.mk (fun h=>?_) (fun h=>?_)<;>simp (disch:=omega) [*]) | (refine BrK.mk (fun h=>?_) (fun h=>?_)<;>simp (disch:=omega) [*]))
        all_goals first | omega | (cases out<;>simp_all) | simp [*]
      · have hx2:ws[k]?=some x:=by rw [List.getElem?_take] at hx; simpa [show k < 4 by omega] using hx
        replace hi:=hid hi
        simp (disch:=omega) [-List.reduceReplicate,hx2,hq1]
        refine ac (by simpa using xp (out++[x]) (decide (q=3))) rfl fun _=>?_
        simp (disch:=omega) [-List.reduceReplicate]
        refine BrK.mk (fun hb=>?_) (fun hb=>?_)
        · simp (disch:=omega) [-List.reduceReplicate]
          refine hN.out _<|Nx.mk (k + 1,out++[x]) (by simp) ⟨by simp only; omega,by simp; omega,?_⟩ (by simp only; omega)
          have hi:=hi.out
          rw [if_pos hb] at hi
          simpa [hq1] using hi
        · simp (disch:=omega) [-List.reduceReplicate]
          refine hN.out _<|Nx.mk (k + 1,out) (by simp) ⟨by simp only; omega,by simp only; omega,?_⟩ (by simp only; omega)
          have hi:=hi.out
          rw [if_neg (by simp [hb])] at hi
          simpa [hq1] using hi
theorem Iw {P:Program} {d f vs us} {K:St→Prop} {σ:St} {r:V} (h:Fn P f us r) (hf:b7 (jk r)=true) (k:ok (jk r)→K (σ.put d (jk r))):j5 (Cn P) d f vs us K σ:=ac (Fn.jk h) hf k
theorem JY {l:List V} {sz:Nat}:b7 (if l=[] then V.seq sz l else V.junk)=true:=by split<;>simp [b7, *]
theorem JX {α:Type} {f:α→V} {l:List α} {sz:Nat}:b7 (if l=[] then V.seq sz (l.map f) else V.junk)=true:=by split<;>simp [b7, *]
theorem yx:∀ {l:List Str},cw (l.map V.str)=true
 | []=>rfl
 | _::l=>by simp [cw,b7,yx (l:=l)]
attribute [simp] JY JX yx
def yY (s:Str):Bool:=decide (s=[98,114]) || (decide (s=[104,114]) || (decide (s=[105,109,103]) || (decide (s=[105,110,112,117,116]) || decide (s=[119,98,114]))))
theorem pN (s:Str):Fn Tryz.prog zy [.str s] (.bool (yY s)):=by
 refine Fn.of_image mixed Av Ab rfl fun ho=>?_
 unfold jY
 simp only [oks,ok,and_true] at ho
 simp (disch:=omega) [-List.reduceReplicate,jY,yY]
 repeat' (first | (refine BrKd.mk (fun h=>?_) (fun h=>?_)<;>simp (disch:=omega) [*]) | (refine BrK.mk (fun h=>?_) (fun h=>?_)<;>simp (disch:=omega) [*]))
def raw (s:Str):Bool:=decide (s=[115,99,114,105,112,116]) || decide (s=[115,116,121,108,101])
theorem rE (s:Str):Fn Tryz.prog BY [.str s] (.bool (raw s)):=by
 refine Fn.of_image mixed Cz Ck rfl fun ho=>?_
 unfold l9
 simp only [oks,ok,and_true] at ho
 simp (disch:=omega) [-List.reduceReplicate,l9,raw]
 repeat' (first | (refine BrKd.mk (fun h=>?_) (fun h=>?_)<;>simp (disch:=omega) [*]) | (refine BrK.mk (fun h=>?_) (fun h=>?_)<;>simp (disch:=omega) [*]))
def aZ (o:Str):List Str:=
 if o=[112] then [[98,108,111,99,107,113,117,111,116,101],[100,105,118],[104,49],[104,50],[104,114],[108,105],[111,108],[112],[112,114,101],[116,97,98,108,101],[117,108]]
 else if o=[108,105] then [[108,105]]
 else if o=[100,116]∨o=[100,100] then [[100,100],[100,116]]
 else if o=[111,112,116,105,111,110] then [[111,112,116,105,111,110]]
 else if o=[116,100] then [[116,100],[116,114]]
 else if o=[116,114] then [[116,114]]
 else []
def iN (o b:Str):Bool:=hasS (aZ o) b
theorem lR (o b:Str):Fn Tryz.prog tT [.str o,.str b] (.bool (iN o b)):=by
 refine Fn.of_image mixed uK ut rfl fun ho=>?_
 unfold gR
 simp only [oks,ok,and_true] at ho
 simp (disch:=omega) [-List.reduceReplicate,gR]
 generalize hr:iN o b=r
 have hlen:(aZ o).length≤11:=by unfold aZ; repeat' (split<;>try simp)
 repeat' (first | (refine BrKd.mk (fun h=>?_) (fun h=>?_)<;>simp (disch:=omega) [*]) | (refine BrK.mk (fun h=>?_) (fun h=>?_)<;>simp (disch:=omega) [*]))
 all_goals
  by_cases hc:aZ o=[]
  · refine am (fun k:Nat=>⟨[(1,.str b),(5,.nil 1),(6,.int .i64 0)],[]⟩) (fun k=>k=0) (fun k=>0 - k) [] _ 0 rfl (by revert hc; simp [*,aZ]) rfl ?_
    rintro k rfl N hN
    simp [←hr,iN,hc,hasS]
  refine am (fun k:Nat=>⟨[(1,.str b),(5,.seq 1 ((aZ o).map .str)),(6,.int .i64 k)],[]⟩) (fun k=>k≤(aZ o).length∧hasS ((aZ o).drop k) b=r) (fun k=>(aZ o).length - k) [] _ 0 rfl (by revert hc; simp [*,aZ]) (by simp [←hr,iN]) ?_
  clear hr hc
  generalize aZ o=l at *
  rintro k ⟨hk,hi⟩ N hN
  rcases place l k hk with ⟨he,hd⟩ | ⟨hlt,x,hx,hd⟩<;>rw [hd] at hi<;>replace hi:=hid hi
  · simp (disch:=omega) [-List.reduceReplicate,he]
    simpa [hasS] using hi.out
  · simp (disch:=omega) [-List.reduceReplicate,hx]
    repeat' (first | (refine BrKd.mk (fun h=>?_) (fun h=>?_)<;>simp (disch:=omega) [*]) | (refine BrK.mk (fun h=>?_) (fun h=>?_)<;>simp (disch:=omega) [*]))
    all_goals first
     | (refine hN.out _<|Nx.mk (k + 1) (by simp [*]) ⟨by omega,?_⟩ (by omega); simpa (disch:=omega) [*,decide_eq_true,decide_eq_false,hasS] using hi.out)
     | (first | simpa (disch:=omega) [*,decide_eq_true,decide_eq_false,hasS] using hi.out.symm | simpa (disch:=omega) [*,decide_eq_true,decide_eq_false,hasS] using hi.out)
def yc:List Str→List Str→Bool
 | _,[]=>true
 | pre,x::l=>!hasS pre x && yc (pre++[x]) l
def Gy (l:List Str):Bool:=yc [] l
theorem AK (l:List Str):Fn Tryz.prog zn [.seq 1 (l.map .str)] (.bool (Gy l)):=by
 refine Fn.of_image mixed Al zT rfl fun ho=>?_
 unfold jU
 simp only [oks,ok,and_true] at ho
 have hlen:l.length≤140737488355328:=by have:=ho.1; simpa using this
 simp (disch:=omega) [-List.reduceReplicate,jU]
 generalize hr:Gy l=r
 refine am (fun k:Nat=>⟨[(0,.seq 1 (l.map .str)),(3,.int .i64 k)],[]⟩) (fun k=>k≤l.length∧yc (l.take k) (l.drop k)=r) (fun k=>l.length - k) [] _ 0 rfl (by simp [*]) (by simp [*,←hr,Gy]) ?_
 rintro k ⟨hk,hi⟩ N hN
 rcases place l k hk with ⟨he,hd⟩ | ⟨hlt,x,hx,hd⟩<;>rw [hd] at hi<;>replace hi:=hid hi
 · simp (disch:=omega) [-List.reduceReplicate,he]
   simpa [yc] using hi.out
 · simp (disch:=omega) [-List.reduceReplicate,hx]
   refine az (by simpa [List.map_take] using il (l.take k) x) rfl ?_
   simp (disch:=omega) [-List.reduceReplicate]
   refine BrK.mk (fun h=>?_) (fun h=>?_)
   · simp (disch:=omega) [-List.reduceReplicate]
     have hi:=hi.out
     simpa [yc,h] using hi
   · simp (disch:=omega) [-List.reduceReplicate]
     refine hN.out _<|Nx.mk (k + 1) (by simp [*]) ⟨by omega,?_⟩ (by omega)
     have hi:=hi.out
     simp [yc,h] at hi
     rw [cC hx]; exact hi
def gI:Str:=[35,116,101,120,116]
def cu:Str:=[35,99,111,109,109,101,110,116]
def nf (p:Policy) (par x:Str):Bool:=!(yY par || (raw par && !decide (x=gI))) && ((decide (x=gI) || decide (x=cu)) || ((a8 p.elements x).isSome && !iN par x))
def kids (p:Policy) (par:Str) (l:List Str):Bool:=l.all (nf p par) && Gy l
theorem AL (p:Policy) (par:Str) (l:List Str):Fn Tryz.prog zo [p.v,.str par,.seq 1 (l.map .str)] (.bool (kids p par l)):=by
 refine Fn.of_image mixed Am zU rfl fun ho=>?_
 unfold jV
 simp only [oks,ok,and_true] at ho
 have hlen:l.length≤140737488355328:=by have:=ho.2.2.1; simpa using this
 simp (disch:=omega) [-List.reduceReplicate,jV]
 refine ac (pN _) rfl fun _=>?_
 simp (disch:=omega) [-List.reduceReplicate]
 refine ac (rE _) rfl fun _=>?_
 simp (disch:=omega) [-List.reduceReplicate]
 generalize hr:kids p par l=r
 refine am (fun k:Nat=>⟨[(1,.str par),(2,.seq 1 (l.map .str)),(3,.ptr 0 0),(7,.bool (yY par)),(8,.bool (raw par)),(9,.int .i64 k)],[some (.box [.seq 1 (p.top.map .str),.seq 3 (p.elements.map Allowed.v),.seq 1 (p.unwrap.map .str)])]⟩) (fun k=>k≤l.length∧((l.drop k).all (nf p par) && Gy l)=r) (fun k=>l.length - k) [] _ 0 rfl (by simp [*]) (by simp [*,←hr,kids]) ?_
 rintro k ⟨hk,hi⟩ N hN
 rcases place l k hk with ⟨he,hd⟩ | ⟨hlt,x,hx,hd⟩<;>rw [hd] at hi<;>replace hi:=hid hi
 · simp (disch:=omega) [-List.reduceReplicate,he]
   refine ac (AK _) rfl fun _=>?_
   have hi:=hi.out
   simp at hi
   simp (disch:=omega) [-List.reduceReplicate,hi]
 · simp only [List.all_cons] at hi
   have hfin:nf p par x=false→r=false:=fun h=>by have hi:=hi.out; rw [h] at hi; simpa using hi.symm
   have hgo:nf p par x=true→((l.drop (k + 1)).all (nf p par) && Gy l)=r:=fun h=>by have hi:=hi.out; rw [h] at hi; simpa using hi
   replace hfin:=hid hfin
   replace hgo:=hid hgo
   simp (disch:=omega) [-List.reduceReplicate,hx]
   repeat' (first
    | (refine BrKd.mk (fun h=>?_) (fun h=>?_)<;>simp (disch:=omega) [*])
    | (refine BrK.mk (fun h=>?_) (fun h=>?_)<;>simp (disch:=omega) [*])
    | (refine az (Fn.jk (pL p x)) (by simp) ?_<;>simp (disch:=omega) [*])
    | (refine ac (lR par x) rfl (fun _=>?_)<;>simp (disch:=omega) [*]))
   all_goals
    cases hf:a8 p.elements x
    all_goals
     first
     | (exfalso; simp_all; done)
     | (refine hN.out _<|Nx.mk (k + 1) (by simp [*]) ⟨by omega,hgo.out ?_⟩ (by omega); simp_all [nf,gI,cu]; done)
     | (rw [hfin.out ?_]; simp_all [nf,gI,cu]; done)
     | (refine (hfin.out ?_).symm; simp_all [nf,gI,cu]; done)
     | (refine (hfin.out ?_); simp_all [nf,gI,cu]; done)
def nl (p:Policy) (par:Str):List Str→List Str→List Str
 | out,[]=>out
 | out,x::l=>nl p par (if kids p par (out++[x]) then out++[x] else out) l
def eJ (p:Policy) (par:Str) (l:List Str):List Str:=nl p par [] (l.take 8)
theorem qK (p:Policy) (par:Str):∀ (l out:List Str),(nl p par out l).length≤out.length + l.length
 | [],out=>by simp [nl]
 | w::l,out=>by
   simp only [nl]
   split
   · have:=qK p par l (out++[w]); simp at this ⊢; omega
   · have:=qK p par l out; simp at this ⊢; omega
theorem rC (p:Policy) (par:Str) (l:List Str):(eJ p par l).length≤8:=by
 have:=qK p par (l.take 8) []
 simp at this; simp only [eJ]; omega
theorem kB (p:Policy) (par:Str) (l:List Str):FnN Tryz.prog r9 [p.v,.str par,.seq 1 (l.map .str)] (.seq 1 ((eJ p par l).map .str)):=by
 refine FnN.of_image mixed sq sf rfl fun ho=>?_
 have hlen:l.length≤140737488355328:=by have:=ho.2.2.1.1; simpa using this
 unfold kE
 simp (disch:=omega) [-List.reduceReplicate]
 generalize hw:eJ p par l=w
 have hl8:(List.take 8 l).length=min 8 l.length:=List.length_take
 refine am (fun (q:Nat × List Str)=>⟨[(1,.str par),(2,.seq 1 (l.map .str)),(3,.ptr 0 0),(7,.ref 1 q.2.length),(8,.int .i64 q.1)],
  [some (.box [.seq 1 (p.top.map .str),.seq 3 (p.elements.map Allowed.v),.seq 1 (p.unwrap.map .str)]),some (.arr aG 1 (q.2.map .str))]⟩)
  (fun q=>q.1≤(List.take 8 l).length∧q.2.length≤q.1∧nl p par q.2 ((List.take 8 l).drop q.1)=w) (fun q=>(List.take 8 l).length - q.1) [.r 7 aG 1] _ (0,[]) rfl (by simp) (by simp [←hw,eJ]) ?_
 rintro ⟨k,out⟩ ⟨hk,hol,hi⟩ N hN
 simp only at hk hol hi
 rcases place (List.take 8 l) k hk with ⟨he,hd⟩ | ⟨hlt,x,hx,hd⟩<;>rw [hd,nl] at hi
 · subst hi
   simp (disch:=omega) [-List.reduceReplicate]
   repeat' (first | (refine BrKd.mk (fun h=>?_) (fun h=>?_)<;>simp (disch:=omega) [*]) | (refine BrK.mk (fun h=>?_) (fun h=>?_)<;>simp (disch:=omega) [*]))
   all_goals first | omega | simp [*]
 · have hx2:l[k]?=some x:=by rw [List.getElem?_take] at hx; simpa [show k < 8 by omega] using hx
   replace hi:=hid hi
   simp (disch:=omega) [-List.reduceReplicate,hx2]
   refine ac (by simpa using AL p par (out++[x])) rfl fun _=>?_
   simp (disch:=omega) [-List.reduceReplicate]
   refine BrK.mk (fun hb=>?_) (fun hb=>?_)
   · simp (disch:=omega) [-List.reduceReplicate]
     refine hN.out _<|Nx.mk (k + 1,out++[x]) (by simp) ⟨by simp only; omega,by simp; omega,?_⟩ (by simp only; omega)
     have hi:=hi.out
     rw [if_pos hb] at hi
     simpa using hi
   · simp (disch:=omega) [-List.reduceReplicate]
     refine hN.out _<|Nx.mk (k + 1,out) (by simp) ⟨by simp only; omega,by simp only; omega,?_⟩ (by simp only; omega)
     have hi:=hi.out
     rw [if_neg (by simp [hb])] at hi
     simpa using hi
end Go.Abs.F
end
section
set_option maxHeartbeats 4000000
set_option maxRecDepth 100000
namespace Go.Abs.F
open Go.Proofs
attribute [-simp] getElem?_pos Option.not_isSome
def Fh:List Str:=[[105,100],[104,114,101,102],[100,97,116,97,45,42]]
def fk (i:Nat) (r:Rule):Rule:=
 if plain (dU r.name).1 then ⟨r.name,good12 r.value,!(dU r.name).2 && r.req⟩
 else ⟨(Fh[i]?).getD [],good12 r.value,!decide (i=2) && r.req⟩
def eH:Nat→List Rule→List Rule→List Rule
 | _,out,[]=>out
 | i,out,r::l=>eH (i + 1) (if hasS (out.map Rule.name) (fk i r).name then out else out++[fk i r]) l
def fZ (l:List Rule):List Rule:=eH 0 [] (l.take 3)
theorem lf:∀ (l out:List Rule) (i:Nat),(eH i out l).length≤out.length + l.length
 | [],out,i=>by simp [eH]
 | w::l,out,i=>by
   simp only [eH]
   split
   · have:=lf l out (i + 1); simp at this ⊢; omega
   · have:=lf l (out++[fk i w]) (i + 1); simp at this ⊢; omega
theorem Bx (l:List Rule):(fZ l).length≤3:=by
 have:=lf (l.take 3) [] 0
 simp at this; simp only [fZ]; omega
theorem xo (l:List Rule) (hR:∀ r∈l,r.value.regex.length≤1125899906842624):Fn Tryz.prog vT [.seq 5 (l.map Rule.v)] (.seq 5 ((fZ l).map Rule.v)):=by
 refine Fn.of_image mixed wU wt rfl fun ho=>?_
 unfold iP
 simp only [oks,ok,and_true] at ho
 have hlen:l.length≤140737488355328:=by have:=ho.1; simpa using this
 clear ho
 simp (disch:=omega) [-List.reduceReplicate,iP]
 generalize hw:fZ l=w
 have hl3:(List.take 3 l).length=min 3 l.length:=List.length_take
 refine am (fun (q:Nat × List Rule)=>⟨[(0,.seq 5 (l.map Rule.v)),(3,.ref 0 q.2.length),(4,.ref 1 q.2.length),(5,.int .i64 q.1)],
  [some (.arr cQ 5 (q.2.map Rule.v)),some (.arr aG 1 ((q.2.map Rule.name).map .str))]⟩)
  (fun q=>q.1≤(List.take 3 l).length∧q.2.length≤q.1∧eH q.1 q.2 ((List.take 3 l).drop q.1)=w) (fun q=>(List.take 3 l).length - q.1) [.r 3 cQ 5,.r 4 aG 1] _ (0,[]) rfl (by simp) (by simp [←hw,fZ]) ?_
 rintro ⟨k,out⟩ ⟨hk,hol,hi⟩ N hN
 simp only at hk hol hi
 rcases place (List.take 3 l) k hk with ⟨he,hd⟩ | ⟨hlt,x,hx,hd⟩<;>rw [hd,eH] at hi
 · subst hi
   clear hw
   simp (disch:=omega) [-List.reduceReplicate]
   repeat' (first | (refine BrKd.mk (fun h=>?_) (fun h=>?_)<;>simp (disch:=omega) [*]) | (refine BrK.mk (fun h=>?_) (fun h=>?_)<;>simp (disch:=omega) [*]))
   all_goals first | omega | simp [*]
 · have hx2:l[k]?=some x:=by rw [List.getElem?_take] at hx; simpa [show k < 3 by omega] using hx
   have hRx:=hR x (List.mem_of_getElem? hx2)
   replace hi:=hid hi
   simp (disch:=omega) [-List.reduceReplicate,hx2]
   refine eP (AN x.value hRx) (by simp) ?_
   simp (disch:=omega) [-List.reduceReplicate,hx2]
   refine ac (AJ _) rfl fun _=>?_
   simp (disch:=omega) [-List.reduceReplicate,hx2]
   refine ac (iJ _) rfl fun _=>?_
   have hk3:k < 3:=by omega
   obtain ⟨pn,hpn⟩:∃ pn,Fh[k]?=some pn:=aV (l:=Fh) (k:=k) (by simpa [Fh] using hk3)
   have hpn2:([.str [105,100],.str [104,114,101,102],.str [100,97,116,97,45,42]]:List V)[k]?=some (.str pn):=by
    have:(Fh.map V.str)[k]?=some (.str pn):=by rw [List.getElem?_map,hpn]; rfl
    exact this
   have fin:∀ g:Rule,fk k x=g→∀ τ:St,τ.nrm [0,3,4,5]=⟨[(0,.seq 5 (l.map Rule.v)),(3,.ref 0 (if hasS (out.map Rule.name) g.name then out else out++[g]).length),(4,.ref 1 (if hasS (out.map Rule.name) g.name then out else out++[g]).length),(5,.int .i64 ((k + 1:Nat):Int))],
    [some (.arr cQ 5 ((if hasS (out.map Rule.name) g.name then out else out++[g]).map Rule.v)),some (.arr aG 1 (((if hasS (out.map Rule.name) g.name then out else out++[g]).map Rule.name).map .str))]⟩→N τ:=by
    intro g hg τ hτ
    have hi:=hi.out
    rw [hg] at hi
    refine hN.out _<|Nx.mk (k + 1,if hasS (out.map Rule.name) g.name then out else out++[g]) hτ ⟨by simp only; omega,?_,hi⟩ (by simp only; omega)
    split<;>simp<;>omega
   simp (disch:=omega) [-List.reduceReplicate,hx2]
   refine BrK.mk (fun hb=>?_) (fun hb=>?_)
   · simp (disch:=omega) [-List.reduceReplicate,hx2]
     refine BrK.mk (fun hm=>?_) (fun hm=>?_)
     all_goals
      simp (disch:=omega) [-List.reduceReplicate,hm,hx2]
      refine ac (by simpa using il (out.map Rule.name) x.name) rfl fun _=>?_
      simp (disch:=omega) [-List.reduceReplicate,hx2]
      refine BrK.mk (fun hh=>?_) (fun hh=>?_)
      all_goals
       simp (disch:=omega) [-List.reduceReplicate,hh,hx2]
       refine fin _ (by simp only [fk,hb,if_true,hm,Bool.not_true,Bool.not_false,Bool.true_and,Bool.false_and]; rfl) _ ?_
       simp [hh]
   · simp (disch:=omega) [-List.reduceReplicate,hpn2,hx2]
     have hb':fk k x=⟨pn,good12 x.value,!decide (k=2) && x.req⟩:=by simp [fk,hb,hpn]
     refine BrKd.mk (fun hm=>?_) (fun hm=>?_)
     all_goals
      simp (disch:=omega) [-List.reduceReplicate,hm,hx2]
      refine ac (by simpa using il (out.map Rule.name) pn) rfl fun _=>?_
      simp (disch:=omega) [-List.reduceReplicate,hx2]
      refine BrK.mk (fun hh=>?_) (fun hh=>?_)
      all_goals
       simp (disch:=omega) [-List.reduceReplicate,hh,hx2]
       refine fin _ hb' _ ?_
       simp [hh,hm]
def Fi:List Str:=[[97],[98],[112],[98,114],[115,116,121,108,101]]
def oC (i:Nat) (s:Str):Str:=if plain s then s else (Fi[i]?).getD []
def ip:Nat→List Allowed→List Allowed→List Allowed
 | _,out,[]=>out
 | i,out,e::l=>ip (i + 1) (if (a8 out (oC i e.name)).isSome then out else out++[⟨oC i e.name,[],fZ e.rules⟩]) l
theorem mJ:∀ (l out:List Allowed) (i:Nat),(ip i out l).length≤out.length + l.length
 | [],out,i=>by simp [ip]
 | w::l,out,i=>by
   simp only [ip]
   split
   · have:=mJ l out (i + 1); simp at this ⊢; omega
   · have:=mJ l (out++[⟨oC i w.name,[],fZ w.rules⟩]) (i + 1); simp at this ⊢; omega
def dH (els:List Allowed) (k:Nat) (own:List Str):List Allowed:=
 match els[k]? with
 | some e=>els.set k ⟨e.name,eJ ⟨[],els,[]⟩ e.name own,e.rules⟩
 | none=>els
def dK:Nat→List Allowed→List Allowed→List Allowed
 | _,els,[]=>els
 | k,els,e::l=>dK (k + 1) (dH els k e.kids) l
theorem Bq (els:List Allowed) (k:Nat) (own:List Str):(dH els k own).length=els.length:=by
 unfold dH; split<;>simp
def td:List Str→List Str→List Str
 | out,[]=>out
 | out,x::l=>td (if plain x && !hasS out x then out++[x] else out) l
def bF (p:Policy):Policy:=
 let a:=ip 0 [] (p.elements.take 5)
 let b:=dK 0 a (p.elements.take a.length)
 ⟨eJ ⟨[],b,[]⟩ [] p.top,b,td [] (p.unwrap.take 4)⟩
theorem AM (p:Policy) (hR:∀ e∈p.elements,∀ r∈e.rules,r.value.regex.length≤1125899906842624):Fn Tryz.prog zp [p.v] (bF p).v:=by
 refine Fn.of_image mixed An zW rfl fun ho=>?_
 unfold pZ
 simp only [oks,ok,and_true] at ho
 have hlt:p.top.length≤140737488355328:=by have:=ho; simp at this; exact this.1.1
 have hle:p.elements.length≤140737488355328:=by have:=ho; simp at this; exact this.2.1.1
 have hlu:p.unwrap.length≤140737488355328:=by have:=ho; simp at this; exact this.2.2.1
 clear ho
 simp (disch:=omega) [-List.reduceReplicate]
 generalize hg:bF p=g
 have hgd:g=bF p:=hg.symm
 simp only [bF] at hgd
 have hl5:(List.take 5 p.elements).length=min 5 p.elements.length:=List.length_take
 have hal:=mJ (p.elements.take 5) [] 0
 generalize ha:ip 0 [] (p.elements.take 5)=els at hgd hal
 refine am (fun (q:Nat × List Allowed)=>⟨[(1,.ptr 0 0),(2,.ptr 1 0),(3,.ptr 2 0),(4,.int .i64 q.1)],
  [some (.box [.seq 1 (p.top.map .str),.seq 3 (p.elements.map Allowed.v),.seq 1 (p.unwrap.map .str)]),some (.box [.nil 1,.nil 3,.nil 1]),some (.box [.nil 1,.ref 3 q.2.length,.nil 1]),some (.arr bn 3 (q.2.map Allowed.v))]⟩)
  (fun q=>q.1≤(List.take 5 p.elements).length∧q.2.length≤q.1∧ip q.1 q.2 ((List.take 5 p.elements).drop q.1)=els) (fun q=>(List.take 5 p.elements).length - q.1) [.b 2 1 bn 3] _ (0,[]) rfl (by simp) (by simp [←ha]) ?_
 rintro ⟨k,out⟩ ⟨hk,hol,hi⟩ N hN
 simp only at hk hol hi
 rcases place (List.take 5 p.elements) k hk with ⟨he,hd⟩ | ⟨hlt,x,hx,hd⟩<;>rw [hd,ip] at hi
 · subst hi
   have hol5:out.length≤p.elements.length∧out.length≤5:=by simp only [List.length_nil] at hal; omega
   have hkk:(k < p.elements.length∧k=5)∨k=p.elements.length:=by omega
   clear hd hN hol hk he hal ha
   generalize hb:dK 0 out (p.elements.take out.length)=bs at hgd
   rcases hkk with hkk | hkk
   all_goals
    simp (disch:=omega) [-List.reduceReplicate,hkk]
    refine am (fun (q:Nat × List Allowed)=>⟨[(1,.ptr 0 0),(2,.ptr 1 0),(3,.ptr 2 0),(10,.int .i64 q.1)],
     [some (.box [.seq 1 (p.top.map .str),.seq 3 (p.elements.map Allowed.v),.seq 1 (p.unwrap.map .str)]),some (.box [.nil 1,.nil 3,.nil 1]),some (.box [.nil 1,.ref 3 q.2.length,.nil 1]),some (.arr bn 3 (q.2.map Allowed.v))]⟩)
     (fun q=>q.1≤(p.elements.take out.length).length∧q.2.length=out.length∧dK q.1 q.2 ((p.elements.take out.length).drop q.1)=bs) (fun q=>(p.elements.take out.length).length - q.1) [] _ (0,out) rfl (by simp) (by simp [←hb]) ?_
    have hlo:(p.elements.take out.length).length=out.length:=by rw [List.length_take]; omega
    rintro ⟨k,els⟩ ⟨hk,hol,hi⟩ N hN
    simp only at hk hol hi
    rcases place (p.elements.take out.length) k hk with ⟨he,hd⟩ | ⟨hlt,x,hx,hd⟩<;>rw [hd,dK] at hi
    · subst hi
      simp (disch:=omega) [-List.reduceReplicate,he]
      refine xH (by simpa using kB ⟨[],els,[]⟩ [] p.top) fun hok=>?_
      simp (disch:=omega) [-List.reduceReplicate]
      generalize hu:td [] (p.unwrap.take 4)=us at hgd
      have hl4:(List.take 4 p.unwrap).length=min 4 p.unwrap.length:=List.length_take
      clear hN
      refine am (fun (q:Nat × List Str)=>⟨[(1,.ptr 0 0),(2,.ptr 1 0),(3,.ptr 2 0),(12,.int .i64 q.1)],
       [some (.box [.seq 1 (p.top.map .str),.seq 3 (p.elements.map Allowed.v),.seq 1 (p.unwrap.map .str)]),some (.box [.nil 1,.nil 3,.nil 1]),some (.box [.seq 1 ((eJ ⟨[],els,[]⟩ [] p.top).map .str),.ref 3 els.length,.ref 4 q.2.length]),some (.arr bn 3 (els.map Allowed.v)),some (.arr aG 1 (q.2.map .str))]⟩)
       (fun q=>q.1≤(List.take 4 p.unwrap).length∧q.2.length≤q.1∧td q.2 ((List.take 4 p.unwrap).drop q.1)=us) (fun q=>(List.take 4 p.unwrap).length - q.1) [.b 2 2 aG 1] _ (0,[]) rfl (by simp) (by simp [←hu]) ?_
      rintro ⟨j,uw⟩ ⟨hj,hul,hi⟩ N hN
      simp only at hj hul hi
      rcases place (List.take 4 p.unwrap) j hj with ⟨he2,hd2⟩ | ⟨hlt2,y,hy,hd2⟩<;>rw [hd2,td] at hi
      · subst hi
        have hjj:(j < p.unwrap.length∧j=4)∨j=p.unwrap.length:=by omega
        rcases hjj with hjj | hjj
        all_goals
         simp (disch:=omega) [-List.reduceReplicate,hjj]
         simp [hgd]
      · have hy2:p.unwrap[j]?=some y:=by rw [List.getElem?_take] at hy; simpa [show j < 4 by omega] using hy
        replace hi:=hid hi
        simp (disch:=omega) [-List.reduceReplicate,hy2]
        refine ac (iJ _) rfl fun _=>?_
        simp (disch:=omega) [-List.reduceReplicate,hy2]
        refine az (by simpa using il uw y) rfl ?_
        simp (disch:=omega) [-List.reduceReplicate,hy2]
        have yes:plain y=true→hasS uw y=false→td (uw++[y]) ((List.take 4 p.unwrap).drop (j + 1))=us:=fun h h'=>by have hi:=hi.out; simpa [h,h'] using hi
        have no:(plain y && !hasS uw y)=false→td uw ((List.take 4 p.unwrap).drop (j + 1))=us:=fun h=>by have hi:=hi.out; rw [if_neg (by simp [h])] at hi; exact hi
        replace yes:=hid yes
        replace no:=hid no
        refine BrK.mk (fun h1=>?_) (fun h1=>?_)
        · simp (disch:=omega) [-List.reduceReplicate,h1]
          refine BrK.mk (fun h2=>?_) (fun h2=>?_)
          · simp (disch:=omega) [-List.reduceReplicate,h1,h2]
            refine hN.out _<|Nx.mk (j + 1,uw) (by simp) ⟨by simp only; omega,by simp only; omega,no.out (by simp [h2])⟩ (by simp only; omega)
          · simp (disch:=omega) [-List.reduceReplicate,h1,h2,hy2]
            refine hN.out _<|Nx.mk (j + 1,uw++[y]) (by simp) ⟨by simp only; omega,by simp; omega,yes.out h1 h2⟩ (by simp only; omega)
        · simp (disch:=omega) [-List.reduceReplicate,h1]
          refine hN.out _<|Nx.mk (j + 1,uw) (by simp) ⟨by simp only; omega,by simp only; omega,no.out (by simp [h1])⟩ (by simp only; omega)
    · have hx2:p.elements[k]?=some x:=by rw [List.getElem?_take] at hx; simpa [show k < out.length by omega] using hx
      obtain ⟨e,hex⟩:=aV (l:=els) (k:=k) (by omega)
      replace hi:=hid hi
      simp (disch:=omega) [-List.reduceReplicate,hx2,hex]
      refine Dp (by simpa using kB ⟨[],els,[]⟩ e.name x.kids) ?_
      simp (disch:=omega) [-List.reduceReplicate,hx2,hex]
      have hi:=hi.out
      have hsk:dH els k x.kids=els.set k ⟨e.name,eJ ⟨[],els,[]⟩ e.name x.kids,e.rules⟩:=by simp [dH,hex]
      rw [hsk] at hi
      refine hN.out _<|Nx.mk (k + 1,els.set k ⟨e.name,eJ ⟨[],els,[]⟩ e.name x.kids,e.rules⟩) (by simp [List.map_set]) ⟨by simp only; omega,by simp; omega,hi⟩ (by simp only; omega)
 · have hx2:p.elements[k]?=some x:=by rw [List.getElem?_take] at hx; simpa [show k < 5 by omega] using hx
   have hRx:=hR x (List.mem_of_getElem? hx2)
   obtain ⟨pn,hpn⟩:∃ pn,Fi[k]?=some pn:=aV (l:=Fi) (k:=k) (by simp only [Fi,List.length_cons,List.length_nil]; omega)
   have hpn2:([.str [97],.str [98],.str [112],.str [98,114],.str [115,116,121,108,101]]:List V)[k]?=some (.str pn):=by
    have:(Fi.map V.str)[k]?=some (.str pn):=by rw [List.getElem?_map,hpn]; rfl
    exact this
   replace hi:=hid hi
   simp (disch:=omega) [-List.reduceReplicate,hx2]
   refine ac (iJ _) rfl fun _=>?_
   simp (disch:=omega) [-List.reduceReplicate,hx2]
   refine BrK.mk (fun hb=>?_) (fun hb=>?_)
   all_goals
    first
     | (have hnm:oC k x.name=x.name:=by rw [oC,if_pos hb])
     | (have hnm:oC k x.name=pn:=by rw [oC,if_neg (by simp [hb]),hpn]; rfl)
    have hi:=hi.out
    rw [hnm] at hi
    replace hi:=hid hi
    simp (disch:=omega) [-List.reduceReplicate,hx2,hpn2]
    refine Iw (by simpa using pL ⟨[],out,[]⟩ _) (by simp) fun _=>?_
    simp (disch:=omega) [-List.reduceReplicate,hx2]
    refine BrK.mk (fun hf=>?_) (fun hf=>?_)
    · simp (disch:=omega) [-List.reduceReplicate,hx2]
      have hi:=hi.out
      rw [if_pos hf] at hi
      refine hN.out _<|Nx.mk (k + 1,out) (by simp) ⟨by simp only; omega,by simp only; omega,hi⟩ (by simp only; omega)
    · simp (disch:=omega) [-List.reduceReplicate,hx2]
      have hi:=hi.out
      rw [if_neg (by simp [hf])] at hi
      refine eP (xo x.rules hRx) (by simp) ?_
      simp (disch:=omega) [-List.reduceReplicate,hx2]
      refine hN.out _<|Nx.mk (k + 1,out++[⟨_,[],fZ x.rules⟩]) (by simp) ⟨by simp only; omega,by simp; omega,hi⟩ (by simp only; omega)
def fdx {α:Type} (f:α→Bool):Nat→List α→Int
 | _,[]=>-1
 | k,x::l=>if f x then k else fdx f (k + 1) l
theorem Fz {α:Type} (f:α→Bool):∀ (l:List α) (k:Nat),decide (0≤fdx f k l)=l.any f
 | [],k=>by simp [fdx]
 | x::l,k=>by
   simp only [fdx,List.any_cons]
   split
   · rename_i h; simp [h]
   · rename_i h; simp only [Bool.not_eq_true] at h; rw [Fz f l (k + 1),h]; rfl
theorem Db (s:Str):∀ l:List Str,l.any (fun x=>decide (s=x))=hasS l s
 | []=>rfl
 | x::l=>by
   simp only [List.any_cons,hasS,Db s l]
   by_cases h:x=s
   · simp [h]
   · have:¬s=x:=fun e=>h e.symm
     simp [h,this]
theorem kQ (l:List Str) (s:Str):Fn Tryz.prog eX [.seq 1 (l.map .str),.str s] (.int .i64 (fdx (fun x=>decide (s=x)) 0 l)):=by
 refine Fn.of_image mixed fh fe rfl fun ho=>?_
 unfold ce
 simp only [oks,ok,and_true] at ho
 have hlen:l.length≤140737488355328:=by have:=ho.1.1; simpa using this
 clear ho
 simp (disch:=omega) [-List.reduceReplicate]
 generalize hr:fdx (fun x=>decide (s=x)) 0 l=r
 refine am (fun k:Nat=>⟨[(0,.seq 1 (l.map .str)),(1,.str s),(7,.int .i64 l.length),(8,.int .i64 k)],[]⟩) (fun k=>k≤l.length∧fdx (fun x=>decide (s=x)) k (l.drop k)=r) (fun k=>l.length - k) [] _ 0 rfl (by simp [*]) (by simp [*]) ?_
 rintro k ⟨hk,hi⟩ N hN
 rcases place l k hk with ⟨he,hd⟩ | ⟨hlt,x,hx,hd⟩<;>rw [hd] at hi<;>replace hi:=hid hi
 · simp (disch:=omega) [-List.reduceReplicate,he]
   simpa [fdx] using hi.out
 · simp (disch:=omega) [-List.reduceReplicate,hx]
   refine BrKd.mk (fun h=>?_) (fun h=>?_)
   · simp (disch:=omega) [-List.reduceReplicate]
     have hi:=hi.out
     simpa [fdx,h] using hi
   · simp (disch:=omega) [-List.reduceReplicate]
     refine hN.out _<|Nx.mk (k + 1) (by simp [*]) ⟨by omega,?_⟩ (by omega)
     have hi:=hi.out
     simpa [fdx,h] using hi
theorem f_slices_Contains_string (l:List Str) (s:Str):Fn Tryz.prog d2 [.seq 1 (l.map .str),.str s] (.bool (hasS l s)):=by
 refine Fn.of_image mixed ef d8 rfl fun ho=>?_
 unfold bO
 simp only [oks,ok,and_true] at ho
 simp (disch:=omega) [-List.reduceReplicate]
 refine ac (kQ _ _) rfl fun _=>?_
 simp (disch:=omega) [-List.reduceReplicate]
 rw [Fz,Db]
def dN (s p:Str):Bool:=decide (p.length≤s.length) && decide (s.take p.length=p)
theorem dT (s p:Str):Fn Tryz.prog d5 [.str s,.str p] (.bool (dN s p)):=by
 refine Fn.of_image mixed ek eb rfl fun ho=>?_
 unfold bQ
 simp only [oks,ok,and_true] at ho
 simp (disch:=omega) [-List.reduceReplicate,dN]
 repeat' (first | (refine BrKd.mk (fun h=>?_) (fun h=>?_)<;>simp (disch:=omega) [*]) | (refine BrK.mk (fun h=>?_) (fun h=>?_)<;>simp (disch:=omega) [*]))
theorem fS (s p:Str):Fn Tryz.prog mT [.str s,.str p] (.bool (dN s p)):=by
 refine Fn.of_image mixed m1 mX rfl fun ho=>?_
 unfold fU
 simp only [oks,ok,and_true] at ho
 simp (disch:=omega) [-List.reduceReplicate]
 repeat' (first | (refine BrKd.mk (fun h=>?_) (fun h=>?_)<;>simp (disch:=omega) [*]) | (refine BrK.mk (fun h=>?_) (fun h=>?_)<;>simp (disch:=omega) [*]) | (refine ac (dT _ _) rfl (fun _=>?_)<;>simp (disch:=omega) [*]) | (refine az (dT _ _) rfl ?_<;>simp (disch:=omega) [*]))
theorem f_lang_isValue (s:Str):Fn Tryz.prog tX [.str s] (.bool (s.all sign)):=by
 refine Fn.of_image mixed uO uy rfl fun ho=>?_
 unfold me
 simp only [oks,ok,and_true] at ho
 simp (disch:=omega) [-List.reduceReplicate]
 generalize hr:s.all sign=r
 refine am (fun k:Nat=>⟨[(0,.str s),(3,.int .i64 k)],[]⟩) (fun k=>k≤s.length∧(s.drop k).all sign=r) (fun k=>s.length - k) [] _ 0 rfl (by simp [*]) (by simp [*]) ?_
 rintro k ⟨hk,hi⟩ N hN
 rcases place s k hk with ⟨he,hd⟩ | ⟨hlt,x,hx,hd⟩<;>rw [hd] at hi<;>replace hi:=hid hi
 · simp (disch:=omega) [-List.reduceReplicate,he]
   simpa using hi.out
 · simp (disch:=omega) [-List.reduceReplicate,hx]
   repeat' (first | (refine BrKd.mk (fun h=>?_) (fun h=>?_)<;>simp (disch:=omega) [*]) | (refine BrK.mk (fun h=>?_) (fun h=>?_)<;>simp (disch:=omega) [*]))
   all_goals first
    | (refine hN.out _<|Nx.mk (k + 1) (by simp [*]) ⟨by omega,?_⟩ (by omega); simpa (disch:=omega) [*,decide_eq_true,decide_eq_false,sign] using hi.out)
    | (first | simpa (disch:=omega) [*,decide_eq_true,decide_eq_false,sign] using hi.out.symm | simpa (disch:=omega) [*,decide_eq_true,decide_eq_false,sign] using hi.out)
theorem dm (c:UInt8):∀ s:Str,Lib.indexByte s c < (s.length:Int) + 1∧(0≤Lib.indexByte s c→Lib.indexByte s c < s.length)
 | []=>by simp [Lib.indexByte]
 | b::l=>by
   have:=dm c l
   unfold Lib.indexByte
   simp only [List.length_cons]
   split
   · omega
   · split
     · omega
     · omega
theorem bh (s:Str) (c:UInt8):Fn Tryz.prog aT [.str s,.int .u8 c.toNat] (.int .i64 (Lib.indexByte s c)):=by
 refine Fn.ext bE (by kernel_rfl) (by kernel_rfl) (by kernel_rfl) (e:=Extern.BytealgIndexByte.indexByte) (by kernel_rfl) ?_
 intro M w cs hM hus
 obtain ⟨cl⟩:=cs
 simp only [ae] at hus
 obtain ⟨_,_,rfl,⟨bs,rfl,rfl,_⟩,_,_,rfl,⟨rfl,_⟩,rfl⟩:=hus
 refine ⟨_,Lib.run_indexByteString bs (c.toNat:Int) w,?_⟩
 have hc:((c.toNat:Int)).toNat.toUInt8=c:=by simp
 rw [hc]
 simp only [rep]
 have h1:=Lib.indexByte_ge bs.data.toList c
 have h2:=dm c bs.data.toList
 refine ⟨trivial,?_,?_⟩
 · simp; omega
 · simp; omega
theorem dS (s:Str) (c:UInt8):Fn Tryz.prog bL [.str s,.int .u8 c.toNat] (.int .i64 (Lib.indexByte s c)):=by
 refine Fn.of_image mixed bN bM rfl fun ho=>?_
 unfold bg
 simp only [oks,ok,and_true] at ho
 simp (disch:=omega) [-List.reduceReplicate]
 repeat' (first | (refine BrKd.mk (fun h=>?_) (fun h=>?_)<;>simp (disch:=omega) [*]) | (refine BrK.mk (fun h=>?_) (fun h=>?_)<;>simp (disch:=omega) [*]) | (refine ac (bh _ _) rfl (fun _=>?_)<;>simp (disch:=omega) [*]) | (refine az (bh _ _) rfl ?_<;>simp (disch:=omega) [*]))
theorem lN (s:Str) (c:UInt8):Fn Tryz.prog aR [.str s,.str [c]] (.int .i64 (Lib.indexByte s c)):=by
 refine Fn.of_image mixed fH fG rfl fun ho=>?_
 unfold cz
 simp only [oks,ok,and_true] at ho
 simp (disch:=omega) [-List.reduceReplicate]
 repeat' (first | (refine BrKd.mk (fun h=>?_) (fun h=>?_)<;>simp (disch:=omega) [*]) | (refine BrK.mk (fun h=>?_) (fun h=>?_)<;>simp (disch:=omega) [*]) | (refine ac (dS _ _) rfl (fun _=>?_)<;>simp (disch:=omega) [*]) | (refine az (dS _ _) rfl ?_<;>simp (disch:=omega) [*]))
 all_goals (try (subst h; simp [Lib.indexByte]))
def cutB (s:Str) (c:UInt8):Str × Str × Bool:=if 0≤Lib.indexByte s c then (s.take (Lib.indexByte s c).toNat,s.drop ((Lib.indexByte s c).toNat + 1),true) else (s,[],false)
theorem gK (s:Str) (c:UInt8):Fn Tryz.prog gx [.str s,.str [c]] (.tup [.str (cutB s c).1,.str (cutB s c).2.1,.bool (cutB s c).2.2]):=by
 refine Fn.of_image mixed gH gE rfl fun ho=>?_
 unfold c9
 simp only [oks,ok,and_true] at ho
 have hb:=dm c s
 have hg:=Lib.indexByte_ge s c
 simp (disch:=omega) [-List.reduceReplicate]
 refine ac (lN _ _) rfl fun _=>?_
 unfold cutB
 generalize Lib.indexByte s c=n at *
 simp (disch:=omega) [-List.reduceReplicate]
 refine BrKd.mk (fun h=>?_) (fun h=>?_)
 · obtain ⟨m,rfl⟩:=Int.eq_ofNat_of_zero_le h
   have hm:=hb.2 h
   simp (disch:=omega) [-List.reduceReplicate]
   rw [List.take_of_length_le (by simp)]
 · simp (disch:=omega) [-List.reduceReplicate,h]
theorem f_strings_Cut1 (s:Str) (c:UInt8):Fn Tryz.prog vR [.str s,.str [c]] (.tup [.str (cutB s c).1,.str (cutB s c).2.1,.bool (cutB s c).2.2]):=by
 refine Fn.of_image mixed wQ wn rfl fun ho=>?_
 unfold nr
 simp only [oks,ok,and_true] at ho
 simp (disch:=omega) [-List.reduceReplicate]
 repeat' (first | (refine BrKd.mk (fun h=>?_) (fun h=>?_)<;>simp (disch:=omega) [*]) | (refine BrK.mk (fun h=>?_) (fun h=>?_)<;>simp (disch:=omega) [*]) | (refine ac (gK _ _) rfl (fun _=>?_)<;>simp (disch:=omega) [*]) | (refine az (gK _ _) rfl ?_<;>simp (disch:=omega) [*]))
def allowsL (c:Constraint) (v:Str):Bool:=
 v.all sign && (decide (c.kind=1) || ((decide (c.kind=2) && hasS c.words v) || (decide (c.kind=3) && (!(cutB v 58).2.2 || hasS c.words (cutB v 58).1))))
structure Node where
 kind:Int
 name:Str
 attrs:List Attr
 text:Str
 kids:List Node
mutual
def Node.v:Node→V
 | ⟨k,n,a,t,ks⟩=>.strct [.int .i64 k,.str n,.seq 2 (a.map Attr.v),.str t,.seq 5 (Node.vs ks)]
def Node.vs:List Node→List V
 | []=>[]
 | n::l=>n.v::Node.vs l
end
theorem Node.vs_map:∀ l:List Node,Node.vs l=l.map Node.v
 | []=>by simp [Node.vs]
 | n::l=>by simp [Node.vs,Node.vs_map l]
theorem Node.v_eq (n:Node):n.v=.strct [.int .i64 n.kind,.str n.name,.seq 2 (n.attrs.map Attr.v),.str n.text,.seq 5 (n.kids.map Node.v)]:=by
 cases n; simp [Node.v,Node.vs_map]
attribute [simp] Node.v_eq
section
variable {p:List Node→Prop} (h0:p []) (h1:∀ n l,p n.kids→p l→p (n::l))
include h0 h1
mutual
theorem aH:∀ l,p l
 | []=>h0
 | n::l=>h1 n l (DT n) (aH l)
theorem DT:∀ n:Node,p n.kids
 | ⟨_,_,_,_,ks⟩=>aH ks
end
end
def Fs (p:Policy) (par:Str):List Str:=if par=[] then p.top else ((a8 p.elements par).getD .zero).kids
def zM (p:Policy) (par:Str) (n:Node):Bool:=
 if n.kind=2 then hasS (Fs p par) gI else if n.kind=3 then hasS (Fs p par) cu else decide (n.kind=1) && hasS (Fs p par) n.name
def fits (pat nm:Str):Bool:=plain (dU pat).1 && (if (dU pat).2 then dN nm (dU pat).1 else decide (nm=(dU pat).1))
def jg:List Rule→Str→Option Rule
 | [],_=>none
 | r::l,s=>if fits r.name s then some r else jg l s
def Rule.zero:Rule:=⟨[],⟨0,[],[]⟩,false⟩
def Policy.few (p:Policy):Prop:=p.top.length≤1000000∧p.elements.length≤1000000∧∀ e∈p.elements,e.kids.length≤1000000∧e.rules.length≤1000000
def qY (A:Constraint→Str→Bool) (e:Allowed) (a:Attr):Bool:=match jg e.rules a.name with
 | some r=>A r.value a.value
 | none=>false
theorem yB:∀ {l:List Rule} {s:Str} {r:Rule},jg l s=some r→r∈l∧fits r.name s=true
 | [],s,r,h=>by simp [jg] at h
 | x::l,s,r,h=>by
   simp only [jg] at h
   split at h
   · cases h; exact ⟨by simp,by assumption⟩
   · obtain ⟨h1,h2⟩:=yB h; exact ⟨by simp [h1],h2⟩
def JI (A:Constraint→Str→Bool) (e:Allowed) (l:List Attr):List Attr:=l.filter (qY A e)
def fy:List Attr→Str→Option Str
 | [],_=>none
 | a::l,s=>if a.name=s then some a.value else fy l s
theorem xr (n:Node) (s:Str):Fn Tryz.prog vZ [n.v,.str s] (.tup [.str ((fy n.attrs s).getD []),.bool (fy n.attrs s).isSome]):=by
 refine Fn.of_image mixed w4 wz rfl fun ho=>?_
 unfold nz
 simp only [oks,ok,and_true] at ho
 have hlen:n.attrs.length≤140737488355328:=by have:=ho.1; simp at this; exact this.2.2.1.1
 clear ho
 simp (disch:=omega) [-List.reduceReplicate]
 generalize hr:fy n.attrs s=r
 refine am (fun k:Nat=>⟨[(1,.str s),(2,.ptr 0 0),(6,.int .i64 k)],[some (.box [.int .i64 n.kind,.str n.name,.seq 2 (n.attrs.map Attr.v),.str n.text,.seq 5 (n.kids.map Node.v)])]⟩) (fun k=>k≤n.attrs.length∧fy (n.attrs.drop k) s=r) (fun k=>n.attrs.length - k) [] _ 0 rfl (by simp [*]) (by simp [*]) ?_
 rintro k ⟨hk,hi⟩ N hN
 rcases place n.attrs k hk with ⟨he,hd⟩ | ⟨hlt,x,hx,hd⟩<;>rw [hd] at hi<;>replace hi:=hid hi
 · simp (disch:=omega) [-List.reduceReplicate,he]
   simp [←hi.out,fy]
 · simp (disch:=omega) [-List.reduceReplicate,hx]
   refine BrKd.mk (fun h=>?_) (fun h=>?_)
   · simp (disch:=omega) [-List.reduceReplicate,hx]
     have hi:=hi.out
     simp [fy,h] at hi
     subst hi
     simp
   · simp (disch:=omega) [-List.reduceReplicate]
     refine hN.out _<|Nx.mk (k + 1) (by simp [*]) ⟨by omega,?_⟩ (by omega)
     have hi:=hi.out
     simpa [fy,h] using hi
def whole (e:Allowed) (l:List Attr):Bool:=e.rules.all fun r=>!(r.req && !(fy l r.name).isSome)
def pD (A:Constraint→Str→Bool) (e:Allowed) (l:List Attr):Bool:=decide ((JI A e l).length=l.length) && whole e l
mutual
def Kz (f:Node→Prop):Node→Prop
 | ⟨k,n,a,t,ks⟩=>f ⟨k,n,a,t,ks⟩∧al f ks
def al (f:Node→Prop):List Node→Prop
 | []=>True
 | n::l=>Kz f n∧al f l
end
mutual
def EP:Node→Nat
 | ⟨k,n,a,t,ks⟩=>1 + ai ks
def ai:List Node→Nat
 | []=>0
 | n::l=>EP n + ai l
end
theorem dv (f:Node→Prop) (n:Node):Kz f n=(f n∧al f n.kids):=by cases n; simp [Kz]
theorem dr (n:Node):EP n=1 + ai n.kids:=by cases n; simp [EP]
theorem sZ:∀ {l:List Node} {n:Node},n∈l→ai n.kids + 1≤ai l
 | [],n,h=>by cases h
 | x::l,n,h=>by
   simp only [ai,dr]
   rcases List.mem_cons.1 h with rfl | h
   · omega
   · have:=sZ h; omega
theorem eG {f:Node→Prop}:∀ {l:List Node} {n:Node},al f l→n∈l→f n∧al f n.kids
 | [],n,_,h=>by cases h
 | x::l,n,ha,h=>by
   simp only [al,dv] at ha
   rcases List.mem_cons.1 h with rfl | h
   · exact ha.1
   · exact eG ha.2 h
def tK (A:Constraint→Str→Bool) (p:Policy) (par:Str) (n:Node):Bool:=
 zM p par n && (!decide (n.kind=1) || pD A ((a8 p.elements n.name).getD .zero) n.attrs)
mutual
def Jl (A:Constraint→Str→Bool) (p:Policy):Node→Int × Nat
 | ⟨_,nm,_,_,ks⟩=>cK A p nm ks 0
def cK (A:Constraint→Str→Bool) (p:Policy) (par:Str):List Node→Nat→Int × Nat
 | [],many=>(-1,many)
 | n::l,many=>if tK A p par n then (if 0≤(Jl A p n).1 then ((many + 1:Int) + (Jl A p n).1,many + 1) else cK A p par l (many + 1 + (Jl A p n).2)) else (many,many)
end
theorem sR (A:Constraint→Str→Bool) (p:Policy) (n:Node):Jl A p n=cK A p n.name n.kids 0:=by cases n; simp [Jl]
theorem pi (A:Constraint→Str→Bool) (p:Policy):∀ (l:List Node) (par:Str) (many:Nat),many≤(cK A p par l many).2∧(cK A p par l many).2≤many + ai l∧-1≤(cK A p par l many).1∧(cK A p par l many).1≤many + ai l:=by
 refine aH (fun par many=>by simp [cK,ai]) ?_
 intro n l h1 h2 par many
 have g1:=h1 n.name 0
 simp only [cK,ai,dr,sR]
 split
 · split
   · simp only; omega
   · have g2:=h2 par (many + 1 + (cK A p n.name n.kids 0).2)
     omega
 · simp only; omega
def Fy (n:Node):Prop:=n.attrs.length≤1000000∧∀ a∈n.attrs,a.value.length≤1000
theorem mI:∀ {l:List Allowed} {s:Str} {r:Allowed},a8 l s=some r→r∈l∧r.name=s
 | [],s,r,h=>by simp [a8] at h
 | x::l,s,r,h=>by
   simp only [a8] at h
   split at h
   · cases h; exact ⟨by simp,by assumption⟩
   · obtain ⟨h1,h2⟩:=mI h; exact ⟨by simp [h1],h2⟩
def bV (b:UInt8):V:=.int .u8 b.toNat
theorem ES (s:Str):eE s=s.map bV:=yN s
theorem FJ (b:UInt8):bV b=.int .u8 b.toNat:=rfl
attribute [simp] ES FJ
def follows (b:UInt8):Bool:=decide (128≤b.toNat) && decide (b.toNat < 192)
theorem sB (b:UInt8):Fn Tryz.prog sb [.int .u8 b.toNat] (.bool (follows b)):=by
 refine Fn.of_image mixed su sh rfl fun ho=>?_
 unfold kG
 simp only [oks,ok,and_true] at ho
 simp (disch:=omega) [-List.reduceReplicate,follows]
 repeat' (first | (refine BrKd.mk (fun h=>?_) (fun h=>?_)<;>simp (disch:=omega) [*]) | (refine BrK.mk (fun h=>?_) (fun h=>?_)<;>simp (disch:=omega) [*]))
def hdr (c:Nat):Nat × Nat × Nat:=
 if 192≤c∧c < 224 then (2,c - 192,128) else if 224≤c∧c < 240 then (3,c - 224,2048) else if 240≤c∧c < 248 then (4,c - 240,65536) else (0,0,0)
def goV:Str→Nat→Option Nat
 | [],v=>some v
 | b::l,v=>if follows b then goV l (64 * v + b.toNat - 128) else none
def tG (n least:Nat):Option Nat→Nat × Nat
 | none=>(65533,1)
 | some v=>if v < least∨1114111 < v∨(55296≤v∧v≤57343) then (65533,1) else (v,n)
def one:Str→Nat × Nat
 | []=>(65533,1)
 | b::t=>if b.toNat < 128 then (b.toNat,1)
   else if (hdr b.toNat).1=0∨t.length + 1 < (hdr b.toNat).1 then (65533,1)
   else tG (hdr b.toNat).1 (hdr b.toNat).2.2 (goV (t.take ((hdr b.toNat).1 - 1)) (hdr b.toNat).2.1)
theorem yu (c:Nat):(hdr c).1=0∨(2≤(hdr c).1∧(hdr c).1≤4∧(hdr c).2.1 < 64∧(hdr c).2.2≤65536):=by
 unfold hdr
 split
 · simp; omega
 · split
   · simp; omega
   · split
     · simp; omega
     · simp
theorem eC (s:Str):1≤(one s).2∧(one s).2≤4∧(s≠[]→(one s).2≤s.length)∧(one s).1≤1114111∧¬(55296≤(one s).1∧(one s).1≤57343):=by
 cases s with
 | nil=>simp [one]
 | cons b t=>
   have hb:=b.toNat_lt
   have hr:=yu b.toNat
   simp only [one]
   split
   · simp; omega
   · split
     · simp
     · rename_i h
       unfold tG
       split
       · simp
       · split
         · simp
         · rename_i h2
           simp only [List.length_cons]
           omega
theorem Eo {b:UInt8} (h:follows b=true):128≤b.toNat∧b.toNat < 192:=by simpa [follows] using h
theorem CV (b:UInt8) (t:Str):Fn Tryz.prog B0 [.seq 1 ((b::t).map bV)] (.tup [.int .i32 (one (b::t)).1,.int .i64 (one (b::t)).2]):=by
 refine Fn.of_image mixed CC Co rfl fun ho=>?_
 unfold rR
 simp only [oks,ok,and_true] at ho
 have hlen:t.length < 140737488355328:=by have:=ho.1; simp at this; omega
 clear ho
 have hb:=b.toNat_lt
 generalize hR:one (b::t)=R
 have hR2:=hR
 simp only [one] at hR2
 simp (disch:=omega) [-List.reduceReplicate]
 have hr:=yu b.toNat
 refine BrKd.mk (fun h=>?_) (fun h=>?_)
 · rw [if_pos h] at hR2
   simp (disch:=omega) [-List.reduceReplicate,←hR2]
 · rw [if_neg h] at hR2
   have hz:(hdr b.toNat).1=0→R=(65533,1):=fun h=>by rw [if_pos (.inl h)] at hR2; exact hR2.symm
   have hs:t.length + 1 < (hdr b.toNat).1→R=(65533,1):=fun h=>by rw [if_pos (.inr h)] at hR2; exact hR2.symm
   have hok:¬(hdr b.toNat).1=0→¬t.length + 1 < (hdr b.toNat).1→tG (hdr b.toNat).1 (hdr b.toNat).2.2 (goV (t.take ((hdr b.toNat).1 - 1)) (hdr b.toNat).2.1)=R:=fun h h'=>by rw [if_neg (by simp [h,h'])] at hR2; exact hR2
   clear hR2
   replace hz:=hid hz
   replace hs:=hid hs
   replace hok:=hid hok
   simp (disch:=omega) [-List.reduceReplicate]
   repeat' (first
    | (refine BrKd.mk (fun h=>?_) (fun h=>?_)<;>simp (disch:=omega) [*])
    | (refine BrK.mk (fun h=>?_) (fun h=>?_)<;>simp (disch:=omega) [*]))
   all_goals
    first
    | (have hq:hdr b.toNat=(2,b.toNat - 192,128):=by unfold hdr; rw [if_pos (by omega)])
    | (have hq:hdr b.toNat=(3,b.toNat - 224,2048):=by unfold hdr; rw [if_neg (by omega),if_pos (by omega)])
    | (have hq:hdr b.toNat=(4,b.toNat - 240,65536):=by unfold hdr; rw [if_neg (by omega),if_neg (by omega),if_pos (by omega)])
    | (have hq:hdr b.toNat=(0,0,0):=by unfold hdr; rw [if_neg (by omega),if_neg (by omega),if_neg (by omega)])
    by_cases h0:(hdr b.toNat).1=0
    · first
      | (have h0:=hz.out h0; simp [h0]; done)
      | (exfalso; rw [hq] at h0; simp at h0; done)
    by_cases h1:t.length + 1 < (hdr b.toNat).1
    · first
      | (have h0:=hs.out h1; simp [h0]; done)
      | (exfalso; rw [hq] at h1; simp at h1; omega)
    first
    | (exfalso; rw [hq] at h0; exact h0 rfl)
    | (exfalso; rw [hq] at h1; simp only at h1; omega)
    | skip
   all_goals
    obtain ⟨n,hn⟩:∃ n:Nat,n=(hdr b.toNat).1:=⟨_,rfl⟩
    obtain ⟨v0,hv⟩:∃ n:Nat,n=(hdr b.toNat).2.1:=⟨_,rfl⟩
    obtain ⟨le,hl⟩:∃ n:Nat,n=(hdr b.toNat).2.2:=⟨_,rfl⟩
    rw [←hn,←hv,←hl] at hok hr
    rw [hq] at hn hv hl
    simp only at hn hv hl
    have hok:=hok.out (by omega) (by omega)
    have htl:(t.take (n - 1)).length=n - 1:=by rw [List.length_take]; omega
    refine am (fun (q:Nat × Nat)=>⟨[(0,.seq 1 ((b::t).map bV)),(5,.int .i64 n),(6,.int .i64 q.2),(7,.int .i64 le),(8,.int .i64 ((q.1:Int) + 1))],[]⟩)
     (fun q=>q.1≤(t.take (n - 1)).length∧tG n le (goV ((t.take (n - 1)).drop q.1) q.2)=R∧((q.1=0∧q.2 < 64)∨(q.1=1∧q.2 < 4096)∨(q.1=2∧q.2 < 262144)∨(q.1=3∧q.2 < 16777216))) (fun q=>(t.take (n - 1)).length - q.1) [] _ (0,v0) rfl (by simp [hn,hv,hl]; omega) (by simp [hok]; omega) ?_
    have hn24:2≤n∧n≤4∧le≤65536:=by omega
    clear hq hn hv hl
    rintro ⟨j,v⟩ ⟨hj,hi,hvb⟩ N hN
    simp only at hj hi hvb
    rcases place (t.take (n - 1)) j hj with ⟨he,hd⟩ | ⟨hlt,x,hx,hd⟩<;>rw [hd,goV] at hi
    · simp only [tG] at hi
      have bad:(v < le∨1114111 < v∨(55296≤v∧v≤57343))→R=(65533,1):=fun h=>by rw [if_pos h] at hi; exact hi.symm
      have good:¬(v < le∨1114111 < v∨(55296≤v∧v≤57343))→R=(v,n):=fun h=>by rw [if_neg h] at hi; exact hi.symm
      clear hi
      replace bad:=hid bad
      replace good:=hid good
      have hjn:j + 1=n:=by omega
      have hjn2:¬((j:Int) + 1 < n):=by omega
      simp (disch:=omega) [-List.reduceReplicate,hjn2]
      repeat' (first
       | (refine BrKd.mk (fun h=>?_) (fun h=>?_)<;>simp (disch:=omega) [*])
       | (refine BrK.mk (fun h=>?_) (fun h=>?_)<;>simp (disch:=omega) [*]))
      all_goals first
       | (rw [bad.out (by omega)]; simp; done)
       | (rw [good.out (by omega)]; simp; done)
    · have hx2:t[j]?=some x:=by rw [List.getElem?_take] at hx; simpa [show j < n - 1 by omega] using hx
      have hxb:=x.toNat_lt
      have hjn2:(j:Int) + 1 < n:=by omega
      replace hi:=hid hi
      simp (disch:=omega) [-List.reduceReplicate,hx2,hjn2]
      refine ac (sB x) rfl fun _=>?_
      simp (disch:=omega) [-List.reduceReplicate]
      refine BrK.mk (fun h=>?_) (fun h=>?_)
      · have hf:=Eo h
        simp (disch:=omega) [-List.reduceReplicate,hx2]
        have hi:=hi.out
        rw [if_pos h] at hi
        refine hN.out _<|Nx.mk (j + 1,64 * v + x.toNat - 128) (by simp; omega) ⟨by simp only; omega,hi,by simp only; omega⟩ (by simp only; omega)
      · simp (disch:=omega) [-List.reduceReplicate]
        have hi:=hi.out
        rw [if_neg (by simp [h])] at hi
        simp [←hi,tG]
def eB:Nat→Str→List Nat
 | 0,_=>[]
 | _,[]=>[]
 | f + 1,b::t=>(one (b::t)).1::eB f ((b::t).drop (one (b::t)).2)
def cr (s:Str):List Nat:=eB s.length s
theorem DF:∀ (f:Nat) (s:Str),s.length≤f→eB f s=cr s:=by
 have key:∀ (n f g:Nat) (s:Str),s.length≤n→s.length≤f→s.length≤g→eB f s=eB g s:=by
  intro n
  induction n with
  | zero=>intro f g s h1 _ _; have:s=[]:=List.eq_nil_of_length_eq_zero (by omega); subst this; cases f<;>cases g<;>rfl
  | succ n ih=>
    intro f g s h1 h2 h3
    cases s with
    | nil=>cases f<;>cases g<;>rfl
    | cons b t=>
      cases f with
      | zero=>simp at h2
      | succ f=>cases g with
        | zero=>simp at h3
        | succ g=>
          simp only [eB]
          have:=eC (b::t)
          simp only [List.length_cons] at h1 h2 h3
          rw [ih f g _ (by simp; omega) (by simp; omega) (by simp; omega)]
 intro f s h
 exact key s.length f s.length s (Nat.le_refl _) h (Nat.le_refl _)
theorem eA (b:UInt8) (t:Str):cr (b::t)=(one (b::t)).1::cr ((b::t).drop (one (b::t)).2):=by
 have:=eC (b::t)
 rw [←DF t.length ((b::t).drop (one (b::t)).2) (by simp; omega)]
 rfl
theorem xQ:∀ (n:Nat) (s:Str),s.length≤n→(cr s).length≤s.length:=by
 intro n
 induction n with
 | zero=>intro s h; have:s=[]:=List.eq_nil_of_length_eq_zero (by omega); subst this; simp [cr,eB]
 | succ n ih=>
   intro s h
   cases s with
   | nil=>simp [cr,eB]
   | cons b t=>
     have h1:=eC (b::t)
     rw [eA]
     simp only [List.length_cons] at h ⊢
     have:=ih ((b::t).drop (one (b::t)).2) (by simp; omega)
     simp at this; omega
theorem Gj:∀ (n:Nat) (s:Str),s.length≤n→∀ r∈cr s,r≤1114111∧¬(55296≤r∧r≤57343):=by
 intro n
 induction n with
 | zero=>intro s h r hr; have:s=[]:=List.eq_nil_of_length_eq_zero (by omega); subst this; simp [cr,eB] at hr
 | succ n ih=>
   intro s h r hr
   cases s with
   | nil=>simp [cr,eB] at hr
   | cons b t=>
     have h1:=eC (b::t)
     rw [eA] at hr
     simp only [List.length_cons] at h
     rcases List.mem_cons.1 hr with rfl | hr
     · exact h1.2.2.2
     · exact ih _ (by simp; omega) r hr
def rV (r:Nat):V:=.int .i32 r
theorem rV_eq (r:Nat):rV r=.int .i32 r:=rfl
attribute [simp] rV_eq
theorem xv (s:Str) (hs:s.length≤1000000):FnN Tryz.prog wa [.seq 1 (s.map bV)] (.seq 1 ((cr s).map rV)):=by
 refine FnN.of_image mixed w8 wD rfl fun ho=>?_
 unfold nC
 clear ho
 simp (disch:=omega) [-List.reduceReplicate]
 generalize hw:cr s=w
 refine am (fun (q:Nat × List Nat)=>⟨[(0,.seq 1 (s.map bV)),(3,.ref 0 q.2.length),(4,.int .i64 q.1)],[some (.arr i3 1 (q.2.map rV))]⟩)
  (fun q=>q.1≤s.length∧q.2.length≤q.1∧q.2++cr (s.drop q.1)=w) (fun q=>s.length - q.1) [.r 3 i3 1] _ (0,[]) rfl (by simp) (by simp [←hw]) ?_
 rintro ⟨k,out⟩ ⟨hk,hol,hi⟩ N hN
 simp only at hk hol hi
 have hfl:∀ l:List Nat,cw (l.map rV)=true:=fun l=>by induction l<;>simp [cw,b7, *]
 rcases place s k hk with ⟨he,hd⟩ | ⟨hlt,x,hx,hd⟩<;>rw [hd] at hi
 · simp [cr,eB] at hi
   subst hi
   simp (disch:=omega) [-List.reduceReplicate,he,hfl]
 · have h1:=eC (x::s.drop (k + 1))
   rw [eA] at hi
   have hd2:(x::s.drop (k + 1)).drop (one (x::s.drop (k + 1))).2=s.drop (k + (one (x::s.drop (k + 1))).2):=by rw [←hd,List.drop_drop]
   rw [hd2] at hi
   have hle:=h1.2.2.1 (by simp)
   simp only [List.length_cons,List.length_drop] at hle
   replace hi:=hid hi
   have hsl:qq (s.map bV) k s.length=some ((x::s.drop (k + 1)).map bV):=by
    simp only [qq]
    rw [if_pos (by simp; omega),←hd]
    simp
    rw [List.take_of_length_le (by simp)]
   simp (disch:=omega) [hsl,-List.map_cons,-qq]
   refine ac (CV x (s.drop (k + 1))) rfl fun _=>?_
   generalize one (x::s.drop (k + 1))=o at *
   simp (disch:=omega) [-List.reduceReplicate]
   refine hN.out _<|Nx.mk (k + o.2,out++[o.1]) (by simp) ⟨by simp only; omega,by simp; omega,by simpa using hi.out⟩ (by simp only; omega)
def b8 (n:Nat):UInt8:=UInt8.ofNat n
theorem qg {n:Nat} (h:n < 256):(b8 n).toNat=n:=by simp [b8,UInt8.toNat_ofNat,Nat.mod_eq_of_lt h]
def er (r:Nat):Str:=
 let v:=if 1114111 < r∨(55296≤r∧r≤57343) then 65533 else r
 if v < 128 then [b8 v]
 else if v < 2048 then [b8 (192 + v / 64),b8 (128 + v % 64)]
 else if v < 65536 then [b8 (224 + v / 4096),b8 (128 + v / 64 % 64),b8 (128 + v % 64)]
 else [b8 (240 + v / 262144),b8 (128 + v / 4096 % 64),b8 (128 + v / 64 % 64),b8 (128 + v % 64)]
theorem vB (r:Nat):(er r).length≤4:=by
 unfold er
 simp only
 repeat' split
 all_goals simp
theorem xu (r:Nat) (h:r≤1114111):Fn Tryz.prog v8 [.int .i32 r] (.seq 1 ((er r).map bV)):=by
 refine Fn.of_image mixed w7 wC rfl fun ho=>?_
 unfold nB
 simp only [oks,ok,and_true] at ho
 clear ho
 generalize hR:er r=R
 unfold er at hR
 simp only at hR
 by_cases hb:1114111 < r∨(55296≤r∧r≤57343)
 · rw [if_pos hb] at hR
   simp (disch:=omega) [-List.reduceReplicate]
   repeat' (first
    | (refine BrKd.mk (fun h=>?_) (fun h=>?_)<;>simp (disch:=omega) [*])
    | (refine BrK.mk (fun h=>?_) (fun h=>?_)<;>simp (disch:=omega) [*]))
   all_goals first | omega | (subst hR; rfl)
 · rw [if_neg hb] at hR
   simp (disch:=omega) [-List.reduceReplicate]
   repeat' (first
    | (refine BrKd.mk (fun h=>?_) (fun h=>?_)<;>simp (disch:=omega) [*])
    | (refine BrK.mk (fun h=>?_) (fun h=>?_)<;>simp (disch:=omega) [*]))
   all_goals (subst hR; simp (disch:=omega) [qg])
def gX (l:List Nat):Str:=(l.map er).flatten
theorem xL:∀ l:List Nat,(gX l).length≤4 * l.length
 | []=>by simp [gX]
 | r::l=>by
   have h1:=vB r
   have h2:=xL l
   simp only [gX,List.map_cons,List.flatten_cons,List.length_append,List.length_cons] at *
   omega
theorem pg:∀ s:Str,dG (s.map bV)=some s
 | []=>rfl
 | b::s=>by
   have:=pg s
   simp only [List.map_cons,FJ,dG,this,Option.map_some,Option.some.injEq,List.cons.injEq,and_true]
   simp
attribute [simp] pg
theorem AV (l:List Nat) (hl:l.length≤1000000) (hr:∀ r∈l,r≤1114111):Fn Tryz.prog zA [.seq 1 (l.map rV)] (.str (gX l)):=by
 refine Fn.of_image mixed Ax Ad rfl fun ho=>?_
 unfold p7
 simp only [oks,ok,and_true] at ho
 clear ho
 simp (disch:=omega) [-List.reduceReplicate]
 generalize hw:gX l=w
 refine am (fun (q:Nat × Str)=>⟨[(0,.seq 1 (l.map rV)),(3,.ref 0 q.2.length),(4,.int .i64 q.1)],[some (.arr i1 1 (q.2.map bV))]⟩)
  (fun q=>q.1≤l.length∧q.2.length≤4 * q.1∧q.2++gX (l.drop q.1)=w) (fun q=>l.length - q.1) [.r 3 i1 1] _ (0,[]) rfl (by simp) (by simp [←hw]) ?_
 rintro ⟨k,out⟩ ⟨hk,hol,hi⟩ N hN
 simp only at hk hol hi
 rcases place l k hk with ⟨he,hd⟩ | ⟨hlt,x,hx,hd⟩<;>rw [hd] at hi
 · simp [gX] at hi
   subst hi
   simp (disch:=omega) [he,-FJ]
 · simp only [gX,List.map_cons,List.flatten_cons] at hi
   have hxl:=vB x
   replace hi:=hid hi
   simp (disch:=omega) [-List.reduceReplicate,hx]
   refine aK (xu x (hr x (List.mem_of_getElem? hx))) (by simp) fun _=>?_
   simp (disch:=omega) [-List.reduceReplicate]
   refine hN.out _<|Nx.mk (k + 1,out++er x) (by simp) ⟨by simp only; omega,by simp; omega,by simpa [gX] using hi.out⟩ (by simp only; omega)
def iE:Option Nat→List Nat→List Nat
 | _,[]=>[]
 | p,r::l=>(if r=10∧p=some 13 then [] else [if r=13 then 10 else if r=0 then 65533 else r])++iE (some r) l
theorem CO:∀ (l:List Nat) (p:Option Nat),(iE p l).length≤l.length
 | [],p=>by simp [iE]
 | r::l,p=>by
   have:=CO l (some r)
   simp only [iE,List.length_append,List.length_cons]
   split<;>simp<;>omega
theorem CN:∀ (l:List Nat) (p:Option Nat),(∀ r∈l,r≤1114111)→∀ r∈iE p l,r≤1114111
 | [],p,_,r,hr=>by simp [iE] at hr
 | x::l,p,h,r,hr=>by
   simp only [iE,List.mem_append] at hr
   rcases hr with hr | hr
   · have:=h x (by simp)
     split at hr
     · cases hr
     · simp at hr; subst hr; split<;>(try split)<;>omega
   · exact CN l _ (fun y hy=>h y (by simp [hy])) r hr
def cJ (s:Str):Str:=gX (iE none (cr s))
def j7 (l:List Nat) (k:Nat):Option Nat:=if k=0 then none else l[k - 1]?
theorem iM (s:Str) (hs:s.length≤1000000):Fn Tryz.prog wb [.seq 1 (s.map bV)] (.str (cJ s)):=by
 refine Fn.of_image mixed w9 wE rfl fun ho=>?_
 unfold nD
 simp only [oks,ok,and_true] at ho
 clear ho
 have hrl:=xQ s.length s (Nat.le_refl _)
 have hrm:=Gj s.length s (Nat.le_refl _)
 simp (disch:=omega) [-List.reduceReplicate]
 refine xH (xv s hs) fun _=>?_
 unfold cJ
 generalize cr s=l at *
 simp (disch:=omega) [-List.reduceReplicate]
 generalize hw:iE none l=w
 have hwm:=CN l none (fun r hr=>(hrm r hr).1)
 rw [hw] at hwm
 refine am (fun (q:Nat × List Nat)=>⟨[(3,.seq 1 (l.map rV)),(4,.ref 0 q.2.length),(5,.int .i64 q.1)],[some (.arr i3 1 (q.2.map rV))]⟩)
  (fun q=>q.1≤l.length∧q.2.length≤q.1∧q.2++iE (j7 l q.1) (l.drop q.1)=w) (fun q=>l.length - q.1) [.r 4 i3 1] _ (0,[]) rfl (by simp) (by simp [←hw,j7]) ?_
 rintro ⟨k,out⟩ ⟨hk,hol,hi⟩ N hN
 simp only at hk hol hi
 rcases place l k hk with ⟨he,hd⟩ | ⟨hlt,x,hx,hd⟩<;>rw [hd] at hi
 · simp [iE] at hi
   subst hi
   simp (disch:=omega) [-List.reduceReplicate,he]
   refine ac (AV out (by omega) hwm) rfl fun _=>?_
   simp (disch:=omega) [-List.reduceReplicate]
 · have hp1:j7 l (k + 1)=some x:=by simp [j7,hx]
   simp only [iE,←hp1] at hi
   have skip:(x=10∧j7 l k=some 13)→out++iE (j7 l (k + 1)) (l.drop (k + 1))=w:=fun h=>by rw [if_pos h] at hi; simpa using hi
   have put:¬(x=10∧j7 l k=some 13)→(out++[if x=13 then 10 else if x=0 then 65533 else x])++iE (j7 l (k + 1)) (l.drop (k + 1))=w:=fun h=>by rw [if_neg h] at hi; simpa using hi
   clear hi
   replace skip:=hid skip
   replace put:=hid put
   have hxr:=(hrm x (List.mem_of_getElem? hx)).1
   have fin:∀ τ:St,∀ o2:List Nat,τ.nrm [3,4,5]=⟨[(3,.seq 1 (l.map rV)),(4,.ref 0 o2.length),(5,.int .i64 ((k + 1:Nat):Int))],[some (.arr i3 1 (o2.map rV))]⟩→o2.length≤k + 1→o2++iE (j7 l (k + 1)) (l.drop (k + 1))=w→N τ:=by
    intro τ o2 h1 h2 h3
    exact hN.out _<|Nx.mk (k + 1,o2) h1 ⟨by simp only; omega,h2,h3⟩ (by simp only; omega)
   by_cases h10:x=10
   · subst h10
     rcases Nat.eq_zero_or_pos k with hk0 | hk0
     · subst hk0
       simp (disch:=omega) [-List.reduceReplicate,hx]
       exact fin _ (out++[10]) (by simp) (by simp only [List.length_append,List.length_cons,List.length_nil]; omega) (by simpa using put.out (by simp [j7]))
     · obtain ⟨y,hy⟩:=aV (l:=l) (k:=k - 1) (by omega)
       have hkt:((k:Int) - 1).toNat=k - 1:=by omega
       simp (disch:=omega) [-List.reduceReplicate,hx,hy,hkt]
       refine BrKd.mk (fun h=>?_) (fun h=>?_)
       · simp (disch:=omega) [-List.reduceReplicate,hx]
         exact fin _ out (by simp) (by omega) (skip.out ⟨rfl,by simp [j7,hy]; omega⟩)
       · simp (disch:=omega) [-List.reduceReplicate,hx]
         exact fin _ (out++[10]) (by simp) (by simp; omega) (by simpa using put.out (by simp [j7,hy]; omega))
   · by_cases h13:x=13
     · subst h13
       simp (disch:=omega) [-List.reduceReplicate,hx]
       exact fin _ (out++[10]) (by simp) (by simp; omega) (by simpa using put.out (by simp))
     · by_cases h0:x=0
       · subst h0
         simp (disch:=omega) [-List.reduceReplicate,hx]
         exact fin _ (out++[65533]) (by simp) (by simp; omega) (by simpa using put.out (by simp))
       · simp (disch:=omega) [-List.reduceReplicate,hx,h10,h13,h0]
         exact fin _ (out++[x]) (by simp) (by simp; omega) (by simpa [h13,h0] using put.out (by simp [h10]))
theorem Es (s:Str) (hs:s.length≤1000000):Fn Tryz.prog DW [.str s] (.bool (decide (cJ s=s))):=by
 refine Fn.of_image mixed Ef Ea rfl fun ho=>?_
 unfold vt
 simp only [oks,ok,and_true] at ho
 simp (disch:=omega) [-List.reduceReplicate]
 refine ac (by simpa using iM s hs) rfl fun _=>?_
 simp (disch:=omega) [-List.reduceReplicate]
def m3 (s:Str):Str:=s.take 30
theorem io (s:Str):Fn Tryz.prog BX [.str s] (.str (m3 s)):=by
 refine Fn.of_image mixed Cy Cj rfl fun ho=>?_
 unfold rO
 simp only [oks,ok,and_true] at ho
 simp (disch:=omega) [-List.reduceReplicate,m3]
 refine BrKd.mk (fun h=>?_) (fun h=>?_)
 · simp (disch:=omega) [-List.reduceReplicate,h]
 · simp (disch:=omega) [-List.reduceReplicate,h]
   rw [List.take_of_length_le (by omega)]
def Hk (a:Attr):Attr:=⟨m3 a.name,m3 a.value⟩
mutual
def Ke:Node→Nat→List Node × Nat
 | ⟨_,_,_,_,ks⟩,m=>cx ks m
def cx:List Node→Nat→List Node × Nat
 | [],m=>([],m)
 | n::l,m=>if m=0 then ([],0) else
   (⟨n.kind,m3 n.name,(n.attrs.take 5).map Hk,m3 n.text,(Ke n (m - 1)).1⟩::(cx l (Ke n (m - 1)).2).1,(cx l (Ke n (m - 1)).2).2)
end
theorem sY (n:Node) (m:Nat):Ke n m=cx n.kids m:=by cases n; simp [Ke]
theorem vj:∀ (l:List Node) (m:Nat),ai (cx l m).1 + (cx l m).2≤m:=by
 refine aH (fun m=>by simp [cx,ai]) ?_
 intro n l h1 h2 m
 simp only [cx,sY]
 split
 · simp [ai]
 · have g1:=h1 (m - 1)
   have g2:=h2 (cx n.kids (m - 1)).2
   simp only [ai,EP]
   omega
theorem iq:∀ l:List Node,l.length≤ai l
 | []=>by simp [ai]
 | n::l=>by have:=iq l; simp [ai,dr]; omega
theorem CU:∀ (l:List Node) (m:Nat),m≤1000→Fn Tryz.prog ig [.seq 5 (l.map Node.v),.int .i64 m] (.tup [.seq 5 ((cx l m).1.map Node.v),.int .i64 (cx l m).2]):=by
 have key:∀ l:List Node,(∀ n∈l,∀ m:Nat,m≤1000→Fn Tryz.prog ig [.seq 5 (n.kids.map Node.v),.int .i64 m] (.tup [.seq 5 ((cx n.kids m).1.map Node.v),.int .i64 (cx n.kids m).2]))→
  ∀ m:Nat,m≤1000→Fn Tryz.prog ig [.seq 5 (l.map Node.v),.int .i64 m] (.tup [.seq 5 ((cx l m).1.map Node.v),.int .i64 (cx l m).2]):=by
  intro l hrec m hm
  refine Fn.of_image mixed CB Cm rfl fun ho=>?_
  unfold rQ
  simp only [oks,ok,and_true] at ho
  have hlen:l.length≤140737488355328:=by have:=ho.1; simp at this; exact this.1
  clear ho
  simp (disch:=omega) [-List.reduceReplicate]
  generalize hR:cx l m=R
  refine am (fun (q:Nat × Nat × List Node)=>⟨[(0,.seq 5 (l.map Node.v)),(1,.int .i64 q.2.1),(6,.ref 0 q.2.2.length),(7,.int .i64 q.1)],[some (.arr aA 5 (q.2.2.map Node.v))]⟩)
   (fun q=>q.1≤l.length∧q.2.2.length + q.2.1≤1000∧(q.2.2++(cx (l.drop q.1) q.2.1).1,(cx (l.drop q.1) q.2.1).2)=R) (fun q=>l.length - q.1) [.r 6 aA 5] _ (0,m,[]) rfl (by simp) (by simp [hR]; omega) ?_
  rintro ⟨k,m,out⟩ ⟨hk,hol,hi⟩ N hN
  simp only at hk hol hi
  rcases place l k hk with ⟨he,hd⟩ | ⟨hlt,x,hx,hd⟩<;>rw [hd] at hi
  · simp [cx] at hi
    subst hi
    simp (disch:=omega) [-List.reduceReplicate,he]
  · simp only [cx,sY] at hi
    rcases Nat.eq_zero_or_pos m with hm0 | hm0
    · subst hm0
      simp at hi
      subst hi
      simp (disch:=omega) [-List.reduceReplicate]
    · rw [if_neg (by omega)] at hi
      have hxc:=vj x.kids (m - 1)
      replace hi:=hid hi
      simp (disch:=omega) [-List.reduceReplicate,hx]
      refine ac (io _) rfl fun _=>?_
      simp (disch:=omega) [-List.reduceReplicate]
      refine ac (io _) rfl fun _=>?_
      simp (disch:=omega) [-List.reduceReplicate]
      have hm1:((m:Int) - 1)=((m - 1:Nat):Int):=by omega
      rw [hm1]
      refine aK (hrec x (List.mem_of_getElem? hx) (m - 1) (by omega)) (by simp) fun _=>?_
      generalize cx x.kids (m - 1)=ck at *
      simp (disch:=omega) [-List.reduceReplicate]
      have hl5:(List.take 5 x.attrs).length=min 5 x.attrs.length:=List.length_take
      refine am (fun (q:Nat)=>⟨[(0,.seq 5 (l.map Node.v)),(1,.int .i64 ck.2),(6,.ref 0 out.length),(7,.int .i64 k),(8,.ptr 1 0),(9,.ref 2 ((x.attrs.take 5).take q).length),(10,.int .i64 q)],
       [some (.arr aA 5 (out.map Node.v)),some (.box [.int .i64 x.kind,.str (m3 x.name),.seq 2 (x.attrs.map Attr.v),.str (m3 x.text),.seq 5 (ck.1.map Node.v)]),some (.arr cd 2 ((((x.attrs.take 5).take q).map Hk).map Attr.v))]⟩)
       (fun q=>q≤(x.attrs.take 5).length) (fun q=>(x.attrs.take 5).length - q) [.r 9 cd 2] _ 0 rfl (by simp) (by simp) ?_
      rintro j hj N2 hN2
      have hjl:((x.attrs.take 5).take j).length=j:=by rw [List.length_take]; omega
      rcases place (x.attrs.take 5) j hj with ⟨he2,hd2⟩ | ⟨hlt2,y,hy,hd2⟩
      · have htk:(x.attrs.take 5).take j=x.attrs.take 5:=List.take_of_length_le (by omega)
        rw [htk] at hjl ⊢
        have hjj:(j < x.attrs.length∧j=5)∨j=x.attrs.length:=by omega
        rcases hjj with hjj | hjj
        all_goals
         simp (disch:=omega) [-List.reduceReplicate,hjj,hjl]
         refine hN.out _<|Nx.mk (k + 1,ck.2,out++[⟨x.kind,m3 x.name,(x.attrs.take 5).map Hk,m3 x.text,ck.1⟩]) (by simp) ⟨by simp only; omega,by simp; omega,by simpa using hi.out⟩ (by simp only; omega)
      · have hy2:x.attrs[j]?=some y:=by rw [List.getElem?_take] at hy; simpa [show j < 5 by omega] using hy
        rw [hjl]
        simp (disch:=omega) [-List.reduceReplicate,hy2,hjl]
        refine az (io _) rfl ?_
        simp (disch:=omega) [-List.reduceReplicate,hy2,hjl]
        refine az (io _) rfl ?_
        simp (disch:=omega) [-List.reduceReplicate,hy2,hjl]
        refine hN2.out _<|Nx.mk (j + 1) ?_ (by omega) (by omega)
        have hjl2:((x.attrs.take 5).take (j + 1)).length=j + 1:=by rw [List.length_take]; omega
        rw [hjl2,cC hy]
        simp [Hk]
 have all:∀ l:List Node,∀ n∈l,∀ m:Nat,m≤1000→Fn Tryz.prog ig [.seq 5 (n.kids.map Node.v),.int .i64 m] (.tup [.seq 5 ((cx n.kids m).1.map Node.v),.int .i64 (cx n.kids m).2]):=by
  refine aH (fun x hx=>by cases hx) ?_
  intro n l h1 h2 x hx
  rcases List.mem_cons.1 hx with rfl | hx
  · exact key _ h1
  · exact h2 x hx
 exact fun l=>key l (all l)
theorem CT (l:List Node):Fn Tryz.prog BZ [.seq 5 (l.map Node.v)] (.seq 5 ((cx l 40).1.map Node.v)):=by
 refine Fn.of_image mixed CA Cl rfl fun ho=>?_
 unfold rP
 simp only [oks,ok,and_true] at ho
 clear ho
 simp (disch:=omega) [-List.reduceReplicate]
 refine aK (CU l 40 (by omega)) (by simp) fun _=>?_
 simp (disch:=omega) [-List.reduceReplicate]
def Fj:List Str:=[[97],[98],[112],[117,108],[108,105],[98,114],[105,109,103],[100,105,118],[115,99,114,105,112,116],[120,45,121]]
def s9 (s:Str):Str:=if named s then s else (Fj[sumB s % 10]?).getD []
theorem AS (s:Str) (hs:s.length≤1000000):Fn Tryz.prog zx [.str s] (.str (s9 s)):=by
 refine Fn.of_image mixed At z8 rfl fun ho=>?_
 unfold p4
 simp only [oks,ok,and_true] at ho
 clear ho
 simp (disch:=omega) [-List.reduceReplicate]
 refine am (fun (p:Nat × Nat)=>⟨[(0,.str s),(3,.seq 1 (Fj.map .str)),(4,.int .i64 p.2),(5,.int .i64 p.1)],[]⟩)
  (fun p=>p.1≤s.length∧p.2≤255 * p.1∧p.2 + sumB (s.drop p.1)=sumB s) (fun p=>s.length - p.1) [] _ (0,0) rfl (by simp [Fj]) (by simp) ?_
 rintro ⟨k,n⟩ ⟨hk,hn,hi⟩ N hN
 simp only at hk hn hi
 rcases place s k hk with ⟨he,hd⟩ | ⟨hlt,x,hx,hd⟩<;>rw [hd,sumB] at hi
 · have hm:n % 10 < 10:=Nat.mod_lt _ (by decide)
   have ht:((n:Int) % 10).toNat=n % 10:=by omega
   obtain ⟨y,hy⟩:=aV (l:=Fj) (k:=n % 10) hm
   have hpl:Fj.length=10:=rfl
   simp only [Nat.add_zero] at hi
   simp (disch:=omega) [-List.reduceReplicate,he]
   refine ac (iL s) rfl fun _=>?_
   simp (disch:=omega) [-List.reduceReplicate]
   refine BrK.mk (fun h=>?_) (fun h=>?_)
   · simp (disch:=omega) [-List.reduceReplicate]
     simp [s9,h]
   · simp (disch:=omega) [-List.reduceReplicate,hpl,ht,hy]
     simp [s9,h,←hi,hy]
 · have hx8:=x.toNat_lt
   simp (disch:=omega) [-List.reduceReplicate,hx]
   refine hN.out _<|Nx.mk (k + 1,n + x.toNat) (by simp) ⟨by simp only; omega,by simp only; omega,by simp only; omega⟩ (by simp only; omega)
def di (b:UInt8):Bool:=(decide (65≤b.toNat) && decide (b.toNat≤90)) || (decide (b.toNat=9) || (decide (b.toNat=10) || (decide (b.toNat=12) || (decide (b.toNat=32) || (decide (b.toNat=47) || (decide (b.toNat=62) || decide (b.toNat=61)))))))
def de (s:Str):Bool:=s.all (fun b=>!di b) && (decide (cJ s=s) && decide (0 < s.length))
theorem oz (s:Str) (hs:s.length≤1000000):Fn Tryz.prog n7 [.str s] (.bool (de s)):=by
 refine Fn.of_image mixed oq oh rfl fun ho=>?_
 unfold gS
 simp only [oks,ok,and_true] at ho
 clear ho
 simp (disch:=omega) [-List.reduceReplicate]
 refine ac (Es s hs) rfl fun _=>?_
 simp (disch:=omega) [-List.reduceReplicate]
 generalize hr:de s=r
 refine am (fun k:Nat=>⟨[(0,.str s),(3,.bool (decide (cJ s=s))),(4,.int .i64 k)],[]⟩) (fun k=>k≤s.length∧((s.drop k).all (fun b=>!di b) && (decide (cJ s=s) && decide (0 < s.length)))=r) (fun k=>s.length - k) [] _ 0 rfl (by simp [*]) (by simp [*,←hr,de]) ?_
 rintro k ⟨hk,hi⟩ N hN
 rcases place s k hk with ⟨he,hd⟩ | ⟨hlt,x,hx,hd⟩<;>rw [hd] at hi<;>replace hi:=hid hi
 · have hi:=hi.out
   simp (disch:=omega) [-List.reduceReplicate,he]
   repeat' (first | (refine BrKd.mk (fun h=>?_) (fun h=>?_)<;>simp (disch:=omega) [*]) | (refine BrK.mk (fun h=>?_) (fun h=>?_)<;>simp (disch:=omega) [*]))
   all_goals (first | simpa [*] using hi | (simp [*] at hi; simp [←hi, *]))
 · simp only [List.all_cons] at hi
   have no:di x=true→r=false:=fun h=>by have hi:=hi.out; simpa [h] using hi.symm
   have go:di x=false→((s.drop (k + 1)).all (fun b=>!di b) && (decide (cJ s=s) && decide (0 < s.length)))=r:=fun h=>by have hi:=hi.out; rw [h] at hi; simpa using hi
   replace no:=hid no
   replace go:=hid go
   simp (disch:=omega) [-List.reduceReplicate,hx]
   repeat' (first | (refine BrKd.mk (fun h=>?_) (fun h=>?_)<;>simp (disch:=omega) [*]) | (refine BrK.mk (fun h=>?_) (fun h=>?_)<;>simp (disch:=omega) [*]))
   all_goals first
    | (refine hN.out _<|Nx.mk (k + 1) (by simp [*]) ⟨by omega,go.out ?_⟩ (by omega); simp [di, *]; done)
    | (refine hN.out _<|Nx.mk (k + 1) (by simp [*]) ⟨by omega,go.out ?_⟩ (by omega); unfold di; simp; omega)
    | (rw [no.out ?_]; simp [di, *]; done)
    | (refine (no.out ?_); simp [di, *]; done)
    | (refine (no.out ?_).symm; simp [di, *]; done)
def Jh:List Str:=[[105,100],[104,114,101,102],[116,105,116,108,101],[100,97,116,97,45,97],[111,110,99,108,105,99,107]]
def bW (s:Str):Str:=if de s then s else (Jh[s.length % 5]?).getD []
theorem pM (s:Str) (hs:s.length≤1000000):Fn Tryz.prog pl [.str s] (.str (bW s)):=by
 refine Fn.of_image mixed pF pA rfl fun ho=>?_
 unfold iu
 simp only [oks,ok,and_true] at ho
 clear ho
 simp (disch:=omega) [-List.reduceReplicate]
 refine ac (oz s hs) rfl fun _=>?_
 simp (disch:=omega) [-List.reduceReplicate]
 have hm:s.length % 5 < 5:=Nat.mod_lt _ (by decide)
 have ht:((s.length:Int) % 5).toNat=s.length % 5:=by omega
 obtain ⟨y,hy⟩:=aV (l:=Jh) (k:=s.length % 5) hm
 have hy2:([.str [105,100],.str [104,114,101,102],.str [116,105,116,108,101],.str [100,97,116,97,45,97],.str [111,110,99,108,105,99,107]]:List V)[s.length % 5]?=some (.str y):=by
  have:(Jh.map V.str)[s.length % 5]?=some (.str y):=by rw [List.getElem?_map,hy]; rfl
  exact this
 refine BrK.mk (fun h=>?_) (fun h=>?_)
 · simp (disch:=omega) [-List.reduceReplicate]
   simp [bW,h]
 · simp (disch:=omega) [-List.reduceReplicate,ht,hy2]
   simp [bW,h,hy]
def bw:List Node→List Node→List Node
 | out,[]=>out
 | out,n::l=>
   if n.kind=2∧n.text=[] then bw out l
   else match out[out.length - 1]? with
    | some o=>if n.kind=2∧o.kind=2 then bw (out.set (out.length - 1) ⟨o.kind,o.name,o.attrs,o.text++n.text,o.kids⟩) l else bw (out++[n]) l
    | none=>bw (out++[n]) l
def cN (l:List Node):List Node:=bw [] l
theorem np (l:List Node) (hl:l.length≤1000000) (ht:∀ n∈l,n.text.length≤1000000):Fn Tryz.prog v7 [.seq 5 (l.map Node.v)] (.seq 5 ((cN l).map Node.v)):=by
 refine Fn.of_image mixed w6 wB rfl fun ho=>?_
 unfold nA
 simp only [oks,ok,and_true] at ho
 clear ho
 simp (disch:=omega) [-List.reduceReplicate]
 generalize hw:cN l=w
 refine am (fun (q:Nat × List Node)=>⟨[(0,.seq 5 (l.map Node.v)),(3,.ref 0 q.2.length),(4,.int .i64 q.1)],[some (.arr aA 5 (q.2.map Node.v))]⟩)
  (fun q=>q.1≤l.length∧q.2.length≤q.1∧(∀ n∈q.2,n.text.length≤1000000 * q.1)∧bw q.2 (l.drop q.1)=w) (fun q=>l.length - q.1) [.r 3 aA 5] _ (0,[]) rfl (by simp) (by simp [←hw,cN]) ?_
 rintro ⟨k,out⟩ ⟨hk,hol,htx,hi⟩ N hN
 simp only at hk hol htx hi
 rcases place l k hk with ⟨he,hd⟩ | ⟨hlt,x,hx,hd⟩<;>rw [hd] at hi
 · simp [bw] at hi
   subst hi
   simp (disch:=omega) [-List.reduceReplicate,he]
 · have hxt:=ht x (List.mem_of_getElem? hx)
   simp only [bw] at hi
   by_cases h2:x.kind=2
   · by_cases ht0:x.text=[]
     · rw [if_pos ⟨h2,ht0⟩] at hi
       replace hi:=hid hi
       simp (disch:=omega) [-List.reduceReplicate,hx,h2,ht0]
       refine hN.out _<|Nx.mk (k + 1,out) (by simp) ⟨by simp only; omega,by simp only; omega,fun n hn=>by have:=htx n hn; simp only; omega,hi.out⟩ (by simp only; omega)
     · rw [if_neg (fun h=>ht0 h.2)] at hi
       rcases Nat.eq_zero_or_pos out.length with h0 | h0
       · have ho0:out=[]:=List.eq_nil_of_length_eq_zero h0
         subst ho0
         simp only [List.getElem?_nil,List.nil_append] at hi
         replace hi:=hid hi
         simp (disch:=omega) [-List.reduceReplicate,hx,h2,ht0]
         refine hN.out _<|Nx.mk (k + 1,[x]) (by simp [h2]) ⟨by simp only; omega,by simp,fun n hn=>by simp at hn; subst hn; simp only; omega,hi.out⟩ (by simp only; omega)
       · obtain ⟨o,ho⟩:=aV (l:=out) (k:=out.length - 1) (by omega)
         rw [ho] at hi
         simp only at hi
         have hot:=htx o (List.mem_of_getElem? ho)
         have hoz:((out.length:Int) - 1).toNat=out.length - 1:=by omega
         replace hi:=hid hi
         simp (disch:=omega) [-List.reduceReplicate,hx,h2,ht0,hoz,ho]
         refine BrKd.mk (fun hk2=>?_) (fun hk2=>?_)
         · simp (disch:=omega) [-List.reduceReplicate,hx,h2,ht0,hoz,ho,hk2]
           have hi:=hi.out
           rw [if_pos ⟨h2,hk2⟩] at hi
           refine hN.out _<|Nx.mk (k + 1,out.set (out.length - 1) ⟨o.kind,o.name,o.attrs,o.text++x.text,o.kids⟩) (by simp [List.map_set,hk2]) ⟨by simp only; omega,by simp; omega,?_,hi⟩ (by simp only; omega)
           intro n hn
           rcases List.mem_or_eq_of_mem_set hn with hn | rfl
           · have:=htx n hn; simp only; omega
           · simp only [List.length_append]; omega
         · simp (disch:=omega) [-List.reduceReplicate,hx,h2,ht0,hoz,ho,hk2]
           have hi:=hi.out
           rw [if_neg (fun h=>hk2 h.2)] at hi
           refine hN.out _<|Nx.mk (k + 1,out++[x]) (by simp [h2]) ⟨by simp only; omega,by simp; omega,?_,hi⟩ (by simp only; omega)
           intro n hn
           simp only [List.mem_append,List.mem_singleton] at hn
           rcases hn with hn | rfl
           · have:=htx n hn; simp only; omega
           · simp only; omega
   · rw [if_neg (fun h=>h2 h.1)] at hi
     have hi2:bw (out++[x]) (l.drop (k + 1))=w:=by
      split at hi
      · rw [if_neg (fun h=>h2 h.1)] at hi; exact hi
      · exact hi
     clear hi
     replace hi2:=hid hi2
     simp (disch:=omega) [-List.reduceReplicate,hx,h2]
     refine hN.out _<|Nx.mk (k + 1,out++[x]) (by simp) ⟨by simp only; omega,by simp; omega,?_,hi2.out⟩ (by simp only; omega)
     intro n hn
     simp only [List.mem_append,List.mem_singleton] at hn
     rcases hn with hn | rfl
     · have:=htx n hn; simp only; omega
     · simp only; omega
end Go.Abs.F
end
section
set_option maxHeartbeats 4000000
set_option maxRecDepth 100000
namespace Go.Abs.F
open Go.Proofs
attribute [-simp] getElem?_pos Option.not_isSome List.map_map
def yn (k:Int):Int:=if k < 1∨3 < k then 1 else k
def kx:List Attr→List Attr→List Attr
 | acc,[]=>acc
 | acc,a::l=>kx (if (fy acc (bW a.name)).isSome then acc else acc++[⟨bW a.name,cJ a.value⟩]) l
mutual
def bX:Node→Node
 | ⟨k,nm,a,t,ks⟩=>if yn k=1 then ⟨1,s9 nm,kx [] a,[],cN (uR ks)⟩ else ⟨yn k,[],[],cJ t,[]⟩
def uR:List Node→List Node
 | []=>[]
 | n::l=>bX n::uR l
end
theorem uQ:∀ l:List Node,uR l=l.map bX
 | []=>by simp [uR]
 | n::l=>by simp [uR,uQ l]
theorem jf (n:Node):bX n=if yn n.kind=1 then ⟨1,s9 n.name,kx [] n.attrs,[],cN (n.kids.map bX)⟩ else ⟨yn n.kind,[],[],cJ n.text,[]⟩:=by
 cases n; simp [bX,uQ]
def yA (n:Node):Prop:=n.name.length≤1000∧n.text.length≤1000∧n.attrs.length≤1000∧∀ a∈n.attrs,a.name.length≤1000∧a.value.length≤1000
theorem nU (s:Str):(cJ s).length≤4 * s.length:=by
 have h1:=xL (iE none (cr s))
 have h2:=CO (cr s) none
 have h3:=xQ s.length s (Nat.le_refl _)
 unfold cJ
 omega
theorem Ej (n:Node) (h:yA n):(bX n).text.length≤4000:=by
 rw [jf]
 split
 · simp
 · have:=nU n.text; have:=h.2.1; simp only; omega
theorem AT:∀ (l:List Node),al yA l→ai l≤1000→Fn Tryz.prog f6 [.seq 5 (l.map Node.v)] (.seq 5 ((cN (l.map bX)).map Node.v)):=by
 have key:∀ l:List Node,(∀ n∈l,al yA n.kids→ai n.kids≤1000→Fn Tryz.prog f6 [.seq 5 (n.kids.map Node.v)] (.seq 5 ((cN (n.kids.map bX)).map Node.v)))→
  al yA l→ai l≤1000→Fn Tryz.prog f6 [.seq 5 (l.map Node.v)] (.seq 5 ((cN (l.map bX)).map Node.v)):=by
  intro l hrec hfi hc
  refine Fn.of_image mixed Au Aa rfl fun ho=>?_
  unfold p5
  simp only [oks,ok,and_true] at ho
  clear ho
  have hlen:=iq l
  simp (disch:=omega) [-List.reduceReplicate]
  refine am (fun (k:Nat)=>⟨[(0,.seq 5 (l.map Node.v)),(3,.ref 0 k),(4,.int .i64 k)],[some (.arr aA 5 (((l.take k).map bX).map Node.v))]⟩)
   (fun k=>k≤l.length) (fun k=>l.length - k) [.r 3 aA 5] _ 0 rfl (by simp) (by simp) ?_
  rintro k hk N hN
  have hkl:(l.take k).length=k:=by rw [List.length_take]; omega
  rcases place l k hk with ⟨he,hd⟩ | ⟨hlt,x,hx,hd⟩
  · have htk:l.take k=l:=List.take_of_length_le (by omega)
    rw [htk]
    simp (disch:=omega) [-List.reduceReplicate,he]
    refine ta (np (l.map bX) (by simp; omega) (fun n hn=>?_)) fun _=>?_
    · obtain ⟨y,hy,rfl⟩:=List.mem_map.1 hn
      have:=Ej y (eG hfi hy).1
      omega
    · simp (disch:=omega) [-List.reduceReplicate]
  · have hxm:=List.mem_of_getElem? hx
    obtain ⟨hfx,hfk⟩:=eG hfi hxm
    obtain ⟨hx1,hx2,hx3,hx4⟩:=hfx
    have hcx:=sZ hxm
    have fin:∀ τ:St,τ.nrm [0,3,4]=⟨[(0,.seq 5 (l.map Node.v)),(3,.ref 0 (k + 1)),(4,.int .i64 ((k + 1:Nat):Int))],[some (.arr aA 5 (((l.take k).map bX).map Node.v++[(bX x).v]))]⟩→N τ:=by
     intro τ h
     refine hN.out _<|Nx.mk (k + 1) ?_ (by omega) (by omega)
     rw [h,cC hx]
     simp
    have hkind:x.kind < 1∨3 < x.kind∨x.kind=1∨x.kind=2∨x.kind=3:=by omega
    rcases hkind with h | h | h | h | h
    case inr.inr.inr.inr.inl | inr.inr.inr.inr.inr=>
     have hg:bX x=⟨x.kind,[],[],cJ x.text,[]⟩:=by
      rw [jf,h]; simp [yn]
     simp (disch:=omega) [-List.reduceReplicate,hx,h,hkl]
     refine ac (by simpa using iM x.text (by omega)) rfl fun _=>?_
     simp (disch:=omega) [-List.reduceReplicate,hkl]
     refine fin _ ?_
     rw [hg,h]
     simp
    all_goals
     have hg:bX x=⟨1,s9 x.name,kx [] x.attrs,[],cN (x.kids.map bX)⟩:=by
      rw [jf,if_pos]
      unfold yn
      split<;>omega
     simp (disch:=omega) [-List.reduceReplicate,hx,h,hkl]
     refine ac (AS x.name (by omega)) rfl fun _=>?_
     simp (disch:=omega) [-List.reduceReplicate,hkl]
     generalize hga:kx [] x.attrs=GA at hg
     refine am (fun (q:Nat × List Attr)=>⟨[(0,.seq 5 (l.map Node.v)),(3,.ref 0 k),(4,.int .i64 k),(5,.ptr 1 0),(6,.int .i64 q.1)],
      [some (.arr aA 5 (((l.take k).map bX).map Node.v)),some (.box [.int .i64 1,.str (s9 x.name),.ref 2 q.2.length,.str [],.nil 5]),some (.arr cd 2 (q.2.map Attr.v))]⟩)
      (fun q=>q.1≤x.attrs.length∧q.2.length≤q.1∧kx q.2 (x.attrs.drop q.1)=GA) (fun q=>x.attrs.length - q.1) [.b 1 2 cd 2] _ (0,[]) rfl (by simp) (by simp [hga]) ?_
     rintro ⟨j,acc⟩ ⟨hj,hal,hi⟩ N2 hN2
     simp only at hj hal hi
     rcases place x.attrs j hj with ⟨he2,hd2⟩ | ⟨hlt2,y,hy,hd2⟩<;>rw [hd2] at hi
     · simp only [kx] at hi
       subst hi
       simp (disch:=omega) [-List.reduceReplicate,hx,he2]
       refine aK (hrec x hxm hfk (by omega)) (by simp) fun _=>?_
       simp (disch:=omega) [-List.reduceReplicate,hkl]
       refine fin _ ?_
       rw [hg]
       simp
     · obtain ⟨hy1,hy2⟩:=hx4 y (List.mem_of_getElem? hy)
       simp only [kx] at hi
       replace hi:=hid hi
       simp (disch:=omega) [-List.reduceReplicate,hx,hy]
       refine az (pM y.name (by omega)) rfl ?_
       simp (disch:=omega) [-List.reduceReplicate,hx,hy]
       refine az (by simpa using iM y.value (by omega)) rfl ?_
       simp (disch:=omega) [-List.reduceReplicate,hx,hy]
       refine ac (by simpa using xr ⟨1,s9 x.name,acc,[],[]⟩ (bW y.name)) rfl fun _=>?_
       simp (disch:=omega) [-List.reduceReplicate,hx,hy]
       refine BrK.mk (fun hb=>?_) (fun hb=>?_)
       · simp (disch:=omega) [-List.reduceReplicate]
         have hi:=hi.out
         rw [if_pos hb] at hi
         refine hN2.out _<|Nx.mk (j + 1,acc) (by simp) ⟨by simp only; omega,by simp only; omega,hi⟩ (by simp only; omega)
       · simp (disch:=omega) [-List.reduceReplicate,hkl]
         have hi:=hi.out
         rw [if_neg (by simp [hb])] at hi
         refine hN2.out _<|Nx.mk (j + 1,acc++[⟨bW y.name,cJ y.value⟩]) (by simp) ⟨by simp only; omega,by simp; omega,hi⟩ (by simp only; omega)
 have all:∀ l:List Node,∀ n∈l,al yA n.kids→ai n.kids≤1000→Fn Tryz.prog f6 [.seq 5 (n.kids.map Node.v)] (.seq 5 ((cN (n.kids.map bX)).map Node.v)):=by
  refine aH (fun x hx=>by cases hx) ?_
  intro n l h1 h2 x hx
  rcases List.mem_cons.1 hx with rfl | hx
  · exact key _ h1
  · exact h2 x hx
 exact fun l=>key l (all l)
theorem HA:∀ (l:List Node) (m:Nat),al yA (cx l m).1:=by
 refine aH (fun m=>by simp [cx,al]) ?_
 intro n l h1 h2 m
 simp only [cx,sY]
 split
 · simp [al]
 · simp only [al,Kz]
   refine ⟨⟨⟨by simp [m3]; omega,by simp [m3]; omega,by simp; omega,fun a ha=>?_⟩,h1 _⟩,h2 _⟩
   simp only [List.mem_map] at ha
   obtain ⟨b,_,rfl⟩:=ha
   simp [Hk,m3]; omega
def dL (l:List Node):List Node:=cN ((cx l 40).1.map bX)
theorem AU (l:List Node):Fn Tryz.prog zz [.seq 5 (l.map Node.v)] (.seq 5 ((dL l).map Node.v)):=by
 refine Fn.of_image mixed Aw Ac rfl fun ho=>?_
 unfold p6
 simp only [oks,ok,and_true] at ho
 clear ho
 simp (disch:=omega) [-List.reduceReplicate]
 refine aK (CT l) (by simp) fun _=>?_
 simp (disch:=omega) [-List.reduceReplicate]
 refine aK (AT (cx l 40).1 (HA l 40) (by have:=vj l 40; omega)) (by simp) fun _=>?_
 simp (disch:=omega) [-List.reduceReplicate,dL]
def gV (w:Str):Str→Bool
 | []=>dN [] w
 | b::t=>dN (b::t) w || gV w t
theorem uB (w:Str):∀ s:Str,s.length < w.length→gV w s=false
 | [],h=>by simp [gV,dN]; intro h'; subst h'; simp at h
 | b::t,h=>by
   have:=uB w t (by simp at h; omega)
   simp only [gV,this,Bool.or_false,dN,Bool.and_eq_false_iff,decide_eq_false_iff_not]
   left; omega
theorem G8 (w:Str) (s:Str) (h:w.length≤s.length):gV w s=(decide (s.take w.length=w) || (if s=[] then false else gV w s.tail)):=by
 cases s with
 | nil=>have:w=[]:=List.eq_nil_of_length_eq_zero (by simpa using h); subst this; simp [gV,dN]
 | cons b t=>
   simp only [List.length_cons] at h
   simp [gV,dN,decide_eq_true h]
theorem CS (s w:Str) (hw0:0 < w.length) (hs:s.length≤1000000000) (hwl:w.length≤1000000000):Fn Tryz.prog BW [.str s,.str w] (.bool (gV w s)):=by
 refine Fn.of_image mixed Cx Ci rfl fun ho=>?_
 unfold rN
 simp only [oks,ok,and_true] at ho
 clear ho
 simp (disch:=omega) [-List.reduceReplicate]
 generalize hr:gV w s=r
 refine am (fun k:Nat=>⟨[(0,.str s),(1,.str w),(5,.int .i64 k)],[]⟩) (fun k=>k≤s.length∧gV w (s.drop k)=r) (fun k=>s.length - k) [] _ 0 rfl (by simp) (by simp [hr]) ?_
 rintro k ⟨hk,hi⟩ N hN
 by_cases hlt:k + w.length≤s.length
 · rw [G8 w _ (by simp; omega),if_neg (by simp; omega),List.tail_drop] at hi
   replace hi:=hid hi
   have e:((k:Int) + (w.length:Int)).toNat - k=w.length:=by omega
   simp (disch:=omega) [-List.reduceReplicate,e]
   refine BrKd.mk (fun h=>?_) (fun h=>?_)
   · simp (disch:=omega) [-List.reduceReplicate]
     have hi:=hi.out
     simpa [h] using hi
   · simp (disch:=omega) [-List.reduceReplicate]
     have hi:=hi.out
     refine hN.out _<|Nx.mk (k + 1) (by simp) ⟨by omega,by simpa [h] using hi⟩ (by omega)
 · rw [uB w _ (by simp; omega)] at hi
   subst hi
   simp (disch:=omega) [-List.reduceReplicate]
def cP (b:UInt8):UInt8:=if 65≤b.toNat∧b.toNat≤90 then b8 (b.toNat + 32) else b
theorem AW (s:Str) (hs:s.length≤1000000000):Fn Tryz.prog zB [.str s] (.str (s.map cP)):=by
 refine Fn.of_image mixed Ay Ae rfl fun ho=>?_
 unfold p8
 simp only [oks,ok,and_true] at ho
 clear ho
 simp (disch:=omega) [-List.reduceReplicate]
 refine am (fun (k:Nat)=>⟨[(0,.str s),(3,.ref 0 k),(4,.int .i64 k)],[some (.arr i1 1 (((s.take k).map cP).map bV))]⟩)
  (fun k=>k≤s.length) (fun k=>s.length - k) [.r 3 i1 1] _ 0 rfl (by simp) (by simp) ?_
 rintro k hk N hN
 have hkl:(s.take k).length=k:=by rw [List.length_take]; omega
 rcases place s k hk with ⟨he,hd⟩ | ⟨hlt,x,hx,hd⟩
 · have htk:s.take k=s:=List.take_of_length_le (by omega)
   rw [htk]
   simp (disch:=omega) [-List.reduceReplicate,he,-FJ]
 · simp (disch:=omega) [-List.reduceReplicate,hx]
   have fin:∀ τ:St,τ.nrm [0,3,4]=⟨[(0,.str s),(3,.ref 0 (k + 1)),(4,.int .i64 ((k + 1:Nat):Int))],[some (.arr i1 1 (((s.take k).map cP).map bV++[bV (cP x)]))]⟩→N τ:=by
    intro τ h
    refine hN.out _<|Nx.mk (k + 1) ?_ (by omega) (by omega)
    rw [h,cC hx]
    simp
   repeat' (first
    | (refine BrKd.mk (fun h=>?_) (fun h=>?_)<;>simp (disch:=omega) [hkl, *])
    | (refine BrK.mk (fun h=>?_) (fun h=>?_)<;>simp (disch:=omega) [hkl, *]))
   all_goals
    first
    | (have hf:cP x=b8 (x.toNat + 32):=by rw [cP,if_pos (by omega)])
    | (have hf:cP x=x:=by rw [cP,if_neg (by omega)])
    refine fin _ ?_
    rw [hf]
    simp (disch:=omega) [qg]
def C7 (b:UInt8):Bool:=decide (b.toNat=9) || (decide (b.toNat=10) || (decide (b.toNat=12) || decide (b.toNat=32)))
theorem xq (b:UInt8):Fn Tryz.prog vX [.int .u8 b.toNat] (.bool (C7 b)):=by
 refine Fn.of_image mixed wY wx rfl fun ho=>?_
 unfold ny
 simp only [oks,ok,and_true] at ho
 clear ho
 simp (disch:=omega) [-List.reduceReplicate,C7]
 repeat' (first | (refine BrKd.mk (fun h=>?_) (fun h=>?_)<;>simp (disch:=omega) [*]) | (refine BrK.mk (fun h=>?_) (fun h=>?_)<;>simp (disch:=omega) [*]))
def xE (b:UInt8):Bool:=C7 b || (decide (b.toNat=47) || decide (b.toNat=62))
def pS (nm:Str) (s:Str):Bool:=decide ((s.take (2 + nm.length)).map cP=[60,47]++nm) && (match s[2 + nm.length]? with
 | some c=>xE c
 | none=>false)
def cZ (nm:Str):Nat→Str→Int
 | _,[]=>-1
 | i,b::t=>if pS nm (b::t) then i else cZ nm (i + 1) t
def ends (s nm:Str):Int:=cZ nm 0 s
theorem pR (nm:Str):∀ (s:Str) (i:Nat),s.length≤2 + nm.length→cZ nm i s=-1
 | [],i,h=>rfl
 | b::t,i,h=>by
   have:=pR nm t (i + 1) (by simp at h; omega)
   simp only [cZ,this]
   rw [if_neg]
   simp only [pS,Bool.and_eq_true,not_and,Bool.not_eq_true]
   intro _
   rw [List.getElem?_eq_none (by omega)]
theorem AR (s nm:Str) (hs:s.length≤1000000000) (hn:nm.length≤1000000):Fn Tryz.prog zw [.str s,.str nm] (.int .i64 (ends s nm)):=by
 refine Fn.of_image mixed As z7 rfl fun ho=>?_
 unfold p3
 simp only [oks,ok,and_true] at ho
 clear ho
 simp (disch:=omega) [-List.reduceReplicate]
 generalize hr:ends s nm=r
 refine am (fun k:Nat=>⟨[(0,.str s),(1,.str nm),(5,.int .i64 (2 + nm.length)),(6,.int .i64 k)],[]⟩) (fun k=>k≤s.length∧cZ nm k (s.drop k)=r) (fun k=>s.length - k) [] _ 0 rfl (by simp) (by simp [←hr,ends]) ?_
 rintro k ⟨hk,hi⟩ N hN
 by_cases hlt:k + (2 + nm.length) < s.length
 · obtain ⟨x,hx⟩:=aV (l:=s) (k:=k) (by omega)
   obtain ⟨c,hc⟩:=aV (l:=s) (k:=k + (2 + nm.length)) hlt
   have hd:=qP hx
   have hat:pS nm (s.drop k)=(decide (((s.drop k).take (2 + nm.length)).map cP=[60,47]++nm) && xE c):=by
    simp only [pS,List.getElem?_drop,hc]
   rw [hd] at hi
   simp only [cZ] at hi
   rw [←hd,hat] at hi
   replace hi:=hid hi
   have hkt:((k:Int) + (2 + (nm.length:Int))).toNat=k + (2 + nm.length):=by omega
   simp (disch:=omega) [-List.reduceReplicate,hkt,hc]
   have hlb:((s.drop k).take (2 + nm.length)).length≤1000000000:=by simp; omega
   refine ac (AW _ hlb) rfl fun _=>?_
   generalize hT:((s.drop k).take (2 + nm.length)).map cP=T at hi
   have no:(decide (T=[60,47]++nm) && xE c)=false→cZ nm (k + 1) (s.drop (k + 1))=r:=fun h=>by have hi:=hi.out; rw [if_neg (by rw [h]; exact Bool.false_ne_true)] at hi; exact hi
   have yes:(decide (T=[60,47]++nm) && xE c)=true→r=k:=fun h=>by have hi:=hi.out; rw [if_pos h] at hi; exact hi.symm
   replace no:=hid no
   replace yes:=hid yes
   simp (disch:=omega) [-List.reduceReplicate]
   repeat' (first
    | (refine BrKd.mk (fun h=>?_) (fun h=>?_)<;>simp (disch:=omega) [*])
    | (refine BrK.mk (fun h=>?_) (fun h=>?_)<;>simp (disch:=omega) [*])
    | (refine ac (xq _) rfl (fun _=>?_)<;>simp (disch:=omega) [*]))
   all_goals first
    | (refine hN.out _<|Nx.mk (k + 1) (by simp) ⟨by omega,no.out ?_⟩ (by omega); simp_all [xE]; done)
    | (rw [yes.out ?_]; simp_all [xE]; done)
    | (refine (yes.out ?_).symm; simp_all [xE]; done)
 · rw [pR nm _ _ (by simp; omega)] at hi
   subst hi
   simp (disch:=omega) [-List.reduceReplicate]
def en (par:Str) (n:Node):Bool:=
 if yY par then false
 else if raw par then decide (n.kind=2) && decide (ends (n.text++[60,47]++par++[62]) par=n.text.length)
 else !decide (n.kind=1) || !iN par n.name
theorem AQ (par:Str) (n:Node) (hp:par.length≤1000000) (ht:n.text.length≤100000000):Fn Tryz.prog zu [.str par,n.v] (.bool (en par n)):=by
 refine Fn.of_image mixed Ar z6 rfl fun ho=>?_
 unfold p2
 simp only [oks,ok,and_true] at ho
 clear ho
 simp (disch:=omega) [-List.reduceReplicate,en]
 refine ac (pN _) rfl fun _=>?_
 simp (disch:=omega) [-List.reduceReplicate]
 refine ac (rE _) rfl fun _=>?_
 simp (disch:=omega) [-List.reduceReplicate]
 refine BrK.mk (fun hv=>?_) (fun hv=>?_)
 · simp (disch:=omega) [-List.reduceReplicate,hv]
 · simp (disch:=omega) [-List.reduceReplicate,hv]
   refine BrK.mk (fun hr=>?_) (fun hr=>?_)
   · simp (disch:=omega) [-List.reduceReplicate,hr]
     refine BrKd.mk (fun hk=>?_) (fun hk=>?_)
     · simp (disch:=omega) [-List.reduceReplicate,hk]
       have e:n.text++[60,47]++par++[62]=n.text++60::47::(par++[62]):=by simp
       have hE:=AR (n.text++[60,47]++par++[62]) par (by simp; omega) hp
       rw [e] at hE
       refine az hE rfl ?_
       simp (disch:=omega) [-List.reduceReplicate,hk]
     · simp (disch:=omega) [-List.reduceReplicate,hk]
   · simp (disch:=omega) [-List.reduceReplicate,hr]
     refine ac (lR _ _) rfl fun _=>?_
     simp (disch:=omega) [-List.reduceReplicate]
     repeat' (first | (refine BrKd.mk (fun h=>?_) (fun h=>?_)<;>simp (disch:=omega) [*]) | (refine BrK.mk (fun h=>?_) (fun h=>?_)<;>simp (disch:=omega) [*]))
def aD (par:Str) (l:List Node):List Node:=l.filter (en par)
theorem kC (par:Str) (l:List Node) (hp:par.length≤1000000) (hl:l.length≤1000000) (ht:∀ n∈l,n.text.length≤100000000):
 Fn Tryz.prog sa [.str par,.seq 5 (l.map Node.v)] (.seq 5 ((aD par l).map Node.v)):=by
 refine Fn.of_image mixed sr sg rfl fun ho=>?_
 unfold kF
 simp only [oks,ok,and_true] at ho
 clear ho
 simp (disch:=omega) [-List.reduceReplicate]
 generalize hw:aD par l=w
 refine am (fun (q:Nat × List Node)=>⟨[(0,.str par),(1,.seq 5 (l.map Node.v)),(5,.ref 0 q.2.length),(6,.int .i64 q.1)],[some (.arr aA 5 (q.2.map Node.v))]⟩)
  (fun q=>q.1≤l.length∧q.2.length≤q.1∧q.2++aD par (l.drop q.1)=w) (fun q=>l.length - q.1) [.r 5 aA 5] _ (0,[]) rfl (by simp) (by simp [←hw]) ?_
 rintro ⟨k,out⟩ ⟨hk,hol,hi⟩ N hN
 simp only at hk hol hi
 rcases place l k hk with ⟨he,hd⟩ | ⟨hlt,x,hx,hd⟩<;>rw [hd] at hi
 · simp [aD] at hi
   subst hi
   simp (disch:=omega) [-List.reduceReplicate,he]
 · simp only [aD,List.filter_cons] at hi
   replace hi:=hid hi
   simp (disch:=omega) [-List.reduceReplicate,hx]
   refine ac (by simpa using AQ par x hp (ht x (List.mem_of_getElem? hx))) rfl fun _=>?_
   simp (disch:=omega) [-List.reduceReplicate]
   refine BrK.mk (fun h=>?_) (fun h=>?_)
   · simp (disch:=omega) [-List.reduceReplicate,hx]
     have hi:=hi.out
     refine hN.out _<|Nx.mk (k + 1,out++[x]) (by simp) ⟨by simp only; omega,by simp; omega,?_⟩ (by simp only; omega)
     simpa [h,aD] using hi
   · simp (disch:=omega) [-List.reduceReplicate,hx]
     have hi:=hi.out
     refine hN.out _<|Nx.mk (k + 1,out) (by simp) ⟨by simp only; omega,by simp only; omega,?_⟩ (by simp only; omega)
     simpa [h,aD] using hi
def ju:Str:=[45,45,62]
mutual
def aJ:Node→List Node
 | ⟨k,nm,a,t,ks⟩=>if k=3∧gV ju t=true then [] else if k=1 then [⟨k,nm,a,t,aD nm (cN (oT (en nm) ks))⟩] else [⟨k,nm,a,t,ks⟩]
def oT (f:Node→Bool):List Node→List Node
 | []=>[]
 | n::l=>(if f n then aJ n else [])++oT f l
end
theorem tj (f:Node→Bool):∀ l:List Node,oT f l=(l.filter f).flatMap aJ
 | []=>by simp [oT]
 | n::l=>by
   simp only [oT,tj f l,List.filter_cons]
   cases f n<;>simp
theorem nQ (n:Node):aJ n=if n.kind=3∧gV ju n.text=true then [] else if n.kind=1 then [⟨n.kind,n.name,n.attrs,n.text,aD n.name (cN ((aD n.name n.kids).flatMap aJ))⟩] else [n]:=by
 cases n; simp [aJ,tj,aD]
def fB (l:List Node):List Node:=cN (l.flatMap aJ)
def bm (l:List Node):Nat:=(l.map fun n=>n.text.length).sum
theorem k7:∀ {l:List Node} {n:Node},n∈l→n.text.length≤bm l
 | [],n,h=>by cases h
 | x::l,n,h=>by
   simp only [bm,List.map_cons,List.sum_cons]
   rcases List.mem_cons.1 h with rfl | h
   · omega
   · have:=k7 h; simp only [bm] at this; omega
theorem re (a b:List Node):bm (a++b)=bm a + bm b:=by simp [bm]
theorem rc (f:Node→Bool):∀ l:List Node,bm (l.filter f)≤bm l
 | []=>by simp [bm]
 | n::l=>by
   have:=rc f l
   simp only [bm,List.filter_cons] at *
   split<;>simp<;>omega
theorem Bj:∀ (l:List Node) (i:Nat) (o n:Node),l[i]?=some o→bm (l.set i n) + o.text.length=bm l + n.text.length
 | [],i,o,n,h=>by simp at h
 | x::l,0,o,n,h=>by simp at h; subst h; simp [bm]; omega
 | x::l,i + 1,o,n,h=>by
   have:=Bj l i o n (by simpa using h)
   simp only [bm,List.set_cons_succ,List.map_cons,List.sum_cons] at *
   omega
theorem f7:∀ (l out:List Node),(bw out l).length≤out.length + l.length∧bm (bw out l)≤bm out + bm l
 | [],out=>by simp [bw,bm]
 | n::l,out=>by
   have hc:bm (n::l)=n.text.length + bm l:=by simp [bm]
   have h1:=f7 l out
   have h2:=f7 l (out++[n])
   rw [re] at h2
   have hn:bm [n]=n.text.length:=by simp [bm]
   simp only [List.length_append,List.length_cons,List.length_nil] at h2
   simp only [bw,List.length_cons]
   split
   · omega
   · split
     · rename_i o ho
       split
       · have h3:=f7 l (out.set (out.length - 1) ⟨o.kind,o.name,o.attrs,o.text++n.text,o.kids⟩)
         have h4:=Bj out (out.length - 1) o ⟨o.kind,o.name,o.attrs,o.text++n.text,o.kids⟩ ho
         simp only [List.length_set,List.length_append] at h3 h4
         omega
       · omega
     · omega
theorem gz (l:List Node):(cN l).length≤l.length∧bm (cN l)≤bm l:=by
 have:=f7 l []
 simpa [cN,bm] using this
theorem y9 (n:Node):(aJ n).length≤1∧bm (aJ n)≤n.text.length:=by
 rw [nQ]
 split
 · simp [bm]
 · split<;>simp [bm]
theorem dY:∀ l:List Node,(l.flatMap aJ).length≤l.length∧bm (l.flatMap aJ)≤bm l
 | []=>by simp [bm]
 | n::l=>by
   have h1:=y9 n
   have h2:=dY l
   have hc:bm (n::l)=n.text.length + bm l:=by simp [bm]
   simp only [List.flatMap_cons,List.length_append,re,List.length_cons]
   omega
theorem iF (par:Str) (l:List Node):(aD par l).length≤l.length∧bm (aD par l)≤bm l:=⟨List.length_filter_le _ _,rc _ _⟩
def yz (n:Node):Prop:=n.name.length≤1000∧n.kids.length≤1000∧bm n.kids≤1000000
theorem u5:∀ (l:List Node),al yz l→l.length≤1000→bm l≤1000000→Fn Tryz.prog d3 [.seq 5 (l.map Node.v)] (.seq 5 ((fB l).map Node.v)):=by
 have key:∀ l:List Node,(∀ n∈l,∀ l':List Node,(∀ y∈l',y∈n.kids)→al yz n.kids→l'.length≤1000→bm l'≤1000000→Fn Tryz.prog d3 [.seq 5 (l'.map Node.v)] (.seq 5 ((fB l').map Node.v)))→
  (∀ n∈l,yz n∧al yz n.kids)→l.length≤1000→bm l≤1000000→Fn Tryz.prog d3 [.seq 5 (l.map Node.v)] (.seq 5 ((fB l).map Node.v)):=by
  intro l hrec hfi hlen hts
  refine Fn.of_image mixed uJ ur rfl fun ho=>?_
  unfold l8
  simp only [oks,ok,and_true] at ho
  clear ho
  simp (disch:=omega) [-List.reduceReplicate]
  generalize hw:l.flatMap aJ=w
  have hws:=dY l
  rw [hw] at hws
  refine am (fun (q:Nat × List Node)=>⟨[(0,.seq 5 (l.map Node.v)),(3,.ref 0 q.2.length),(4,.int .i64 q.1)],[some (.arr aA 5 (q.2.map Node.v))]⟩)
   (fun q=>q.1≤l.length∧q.2.length≤q.1∧q.2++(l.drop q.1).flatMap aJ=w) (fun q=>l.length - q.1) [.r 3 aA 5] _ (0,[]) rfl (by simp) (by simp [←hw]) ?_
  rintro ⟨k,out⟩ ⟨hk,hol,hi⟩ N hN
  simp only at hk hol hi
  rcases place l k hk with ⟨he,hd⟩ | ⟨hlt,x,hx,hd⟩<;>rw [hd] at hi
  · simp at hi
    subst hi
    simp (disch:=omega) [-List.reduceReplicate,he]
    refine ta (np out (by omega) (fun n hn=>by have:=k7 hn; omega)) fun _=>?_
    simp (disch:=omega) [-List.reduceReplicate,fB,hw]
  · have hxm:=List.mem_of_getElem? hx
    obtain ⟨⟨hx1,hx2,hx3⟩,hxk⟩:=hfi x hxm
    have hxt:=k7 hxm
    rw [List.flatMap_cons,nQ] at hi
    replace hi:=hid hi
    have fin:∀ τ:St,∀ o2:List Node,τ.nrm [0,3,4]=⟨[(0,.seq 5 (l.map Node.v)),(3,.ref 0 o2.length),(4,.int .i64 ((k + 1:Nat):Int))],[some (.arr aA 5 (o2.map Node.v))]⟩→o2.length≤k + 1→o2++(l.drop (k + 1)).flatMap aJ=w→N τ:=by
     intro τ o2 h1 h2 h3
     exact hN.out _<|Nx.mk (k + 1,o2) h1 ⟨by simp only; omega,h2,h3⟩ (by simp only; omega)
    by_cases h3:x.kind=3
    · simp (disch:=omega) [-List.reduceReplicate,hx,h3]
      refine ac (CS x.text ju (by simp [ju]) (by omega) (by simp [ju])) rfl fun _=>?_
      simp (disch:=omega) [-List.reduceReplicate]
      refine BrK.mk (fun hb=>?_) (fun hb=>?_)
      · simp (disch:=omega) [-List.reduceReplicate]
        have hi:=hi.out
        rw [if_pos ⟨h3,hb⟩] at hi
        exact fin _ out (by simp) (by omega) (by simpa using hi)
      · simp (disch:=omega) [-List.reduceReplicate,hx,h3]
        have hi:=hi.out
        rw [if_neg (by simp [hb]),if_neg (by omega)] at hi
        exact fin _ (out++[x]) (by simp [h3]) (by simp; omega) (by simpa using hi)
    · by_cases h1:x.kind=1
      · have hi:=hi.out
        rw [if_neg (by simp [h3]),if_pos h1] at hi
        have hf1:=iF x.name x.kids
        have hf2:=dY (aD x.name x.kids)
        have hf3:=gz ((aD x.name x.kids).flatMap aJ)
        simp (disch:=omega) [-List.reduceReplicate,hx,h1]
        refine eP (kC x.name x.kids (by omega) (by omega) (fun n hn=>by have:=k7 hn; omega)) (by simp) ?_
        simp (disch:=omega) [-List.reduceReplicate,hx,h1]
        refine eP (hrec x hxm (aD x.name x.kids) (fun y hy=>(List.mem_filter.1 hy).1) hxk (by omega) (by omega)) (by simp) ?_
        simp (disch:=omega) [-List.reduceReplicate,hx,h1]
        refine eP (kC x.name (fB (aD x.name x.kids)) (by omega) (by simp only [fB]; omega) (fun n hn=>by have:=k7 hn; simp only [fB] at this; omega)) (by simp) ?_
        simp (disch:=omega) [-List.reduceReplicate,hx,h1]
        exact fin _ (out++[⟨x.kind,x.name,x.attrs,x.text,aD x.name (cN ((aD x.name x.kids).flatMap aJ))⟩]) (by simp [h1,fB]) (by simp; omega) (by simpa using hi)
      · have hi:=hi.out
        rw [if_neg (by simp [h3]),if_neg h1] at hi
        simp (disch:=omega) [-List.reduceReplicate,hx,h1,h3]
        exact fin _ (out++[x]) (by simp) (by simp; omega) (by simpa using hi)
 have all:∀ l:List Node,∀ n∈l,∀ l':List Node,(∀ y∈l',y∈n.kids)→al yz n.kids→l'.length≤1000→bm l'≤1000000→Fn Tryz.prog d3 [.seq 5 (l'.map Node.v)] (.seq 5 ((fB l').map Node.v)):=by
  refine aH (fun x hx=>by cases hx) ?_
  intro n l h1 h2 x hx
  rcases List.mem_cons.1 hx with rfl | hx
  · intro l' hs hf
    exact key l' (fun m hm=>h1 m (hs m hm)) (fun m hm=>eG hf (hs m hm))
  · exact h2 x hx
 exact fun l hf=>key l (all l) (fun n hn=>eG hf hn)
def o9 (s:Str):Bool:=decide (cJ s=s)
def iD:List Attr→Str→Bool
 | [],_=>false
 | a::l,s=>if a.name=s then true else iD l s
def sF:List Attr→List Attr→Int
 | _,[]=>0
 | pre,a::l=>if de a.name then (if iD pre a.name then 5 else sF (pre++[a]) l) else 4
def mz:List Attr→Bool
 | []=>true
 | a::l=>o9 a.value && mz l
def lV (n:Node):Int:=
 if n.text=[] then (if named n.name then (if sF [] n.attrs=0 then (if mz n.attrs then 0 else 2) else sF [] n.attrs) else 4) else 7
theorem ve:∀ (l pre:List Attr),sF pre l=0∨sF pre l=4∨sF pre l=5
 | [],pre=>by simp [sF]
 | a::l,pre=>by
   simp only [sF]
   split
   · split
     · simp
     · exact ve l _
   · simp
def ky (n:Node):Prop:=n.name.length≤1000000∧n.text.length≤1000000∧n.attrs.length≤1000000∧∀ a∈n.attrs,a.name.length≤1000000∧a.value.length≤1000000
def iA (n:Node) (txt:Bool):Int:=
 if n.kind=1 then lV n
 else if n.kind=2∨n.kind=3 then (if n.name=[]∧n.attrs=[]∧n.kids=[] then (if o9 n.text∧(n.kind=2→¬n.text=[]∧txt=false) then 0 else 2) else 7)
 else 7
mutual
def ME:Node→Int
 | ⟨_,_,_,_,ks⟩=>fE false ks
def fE:Bool→List Node→Int
 | _,[]=>0
 | txt,n::l=>if iA n txt=0 then (if ME n=0 then fE (decide (n.kind=2)) l else ME n) else iA n txt
end
theorem sT (n:Node):ME n=fE false n.kids:=by cases n; simp [ME]
def may (l:List Node):Int:=fE false l
def et (l:List Node) (k:Nat):Bool:=decide (0 < k) && (match l[k - 1]? with
 | some n=>decide (n.kind=2)
 | none=>false)
mutual
def PB:Node→Bool
 | ⟨_,_,_,_,ks⟩=>qh ks
def qh:List Node→Bool
 | []=>true
 | n::l=>(!(decide (n.kind=3) && gV ju n.text) && (n.kids.all (en n.name) && PB n)) && qh l
end
theorem M9 (n:Node):PB n=qh n.kids:=by cases n; simp [PB]
def qp (l:List Node):Bool:=decide (may l=0) && qh l
def Fl (A:Constraint→Str→Bool) (p:Policy) (l:List Node):Int:=(cK A p [] l 0).1
def f5 (A:Constraint→Str→Bool) (p:Policy) (l:List Node):Bool:=qp l && decide (Fl A p l < 0)
theorem bp {f:Node→Prop}:∀ {l:List Node},al f l↔∀ n∈l,f n∧al f n.kids
 | []=>by simp [al]
 | n::l=>by simp [al,dv,bp (l:=l)]
theorem yQ {f g:Node→Prop} (h:∀ n,f n→al f n.kids→g n):∀ l:List Node,al f l→al g l:=by
 refine aH (fun _=>by simp [al]) ?_
 intro n l h1 h2 ha
 simp only [al,dv] at ha ⊢
 exact ⟨⟨h n ha.1.1 ha.1.2,h1 ha.1.2⟩,h2 ha.2⟩
theorem eo (a b:List Node):ai (a++b)=ai a + ai b:=by
 induction a with
 | nil=>simp [ai]
 | cons x a ih=>simp only [List.cons_append,ai,ih]; omega
theorem pW (f:Node→Bool):∀ l:List Node,ai (l.filter f)≤ai l
 | []=>by simp [ai]
 | n::l=>by
   have:=pW f l
   simp only [List.filter_cons]
   split<;>simp only [ai]<;>omega
theorem yI:∀ (l:List Node) (i:Nat) (o n:Node),l[i]?=some o→ai n.kids=ai o.kids→ai (l.set i n)=ai l
 | [],i,o,n,h,_=>by simp at h
 | x::l,0,o,n,h,hk=>by simp at h; subst h; simp [ai,dr,hk]
 | x::l,i + 1,o,n,h,hk=>by
   have:=yI l i o n (by simpa using h) hk
   simp only [List.set_cons_succ,ai,this]
theorem ij:∀ (l out:List Node),ai (bw out l)≤ai out + ai l
 | [],out=>by simp [bw,ai]
 | n::l,out=>by
   have h1:=ij l out
   have h2:=ij l (out++[n])
   rw [eo] at h2
   have hn:ai [n]=EP n:=by simp [ai]
   have hc:ai (n::l)=EP n + ai l:=by simp [ai]
   simp only [bw]
   split
   · omega
   · split
     · rename_i o ho
       split
       · have h3:=ij l (out.set (out.length - 1) ⟨o.kind,o.name,o.attrs,o.text++n.text,o.kids⟩)
         have e:=yI out (out.length - 1) o ⟨o.kind,o.name,o.attrs,o.text++n.text,o.kids⟩ ho rfl
         rw [e] at h3
         omega
       · omega
     · omega
theorem mF (l:List Node):ai (cN l)≤ai l:=by
 have:=ij l []
 simpa [cN,ai] using this
theorem eZ {P:Node→Prop} (hP:∀ k n a t ks t',P ⟨k,n,a,t,ks⟩→P ⟨k,n,a,t',ks⟩):∀ (l out:List Node),(∀ n∈out,P n)→(∀ n∈l,P n)→∀ n∈bw out l,P n
 | [],out,ho,_=>by simpa [bw] using ho
 | n::l,out,ho,hl=>by
   have hn:=hl n (by simp)
   have hl':∀ n∈l,P n:=fun x hx=>hl x (by simp [hx])
   have hon:∀ x∈out++[n],P x:=fun x hx=>by
    rcases List.mem_append.1 hx with h | h
    · exact ho x h
    · simp at h; subst h; exact hn
   simp only [bw]
   split
   · exact eZ hP l out ho hl'
   · split
     · rename_i o hoo
       split
       · refine eZ hP l _ (fun x hx=>?_) hl'
         rcases List.mem_or_eq_of_mem_set hx with h | h
         · exact ho x h
         · subst h
           have:=ho o (List.mem_of_getElem? hoo)
           obtain ⟨k0,n0,a0,t0,ks0⟩:=o
           exact hP _ _ _ _ _ _ this
       · exact eZ hP l _ hon hl'
     · exact eZ hP l _ hon hl'
theorem GK {P:Node→Prop} (hP:∀ k n a t ks t',P ⟨k,n,a,t,ks⟩→P ⟨k,n,a,t',ks⟩) {l:List Node} (h:∀ n∈l,P n):∀ n∈cN l,P n:=eZ hP l [] (fun _ h=>by cases h) h
def fp (n:Node):Prop:=n.name.length≤1000∧n.attrs.length≤1000∧(∀ a∈n.attrs,a.name.length≤1000∧a.value.length≤1000)∧n.kids.length≤1000∧bm n.kids≤1000000
theorem ii {l:List Node} (h:al fp l):al fp (cN l):=
 bp.2 (GK (P:=fun n=>fp n∧al fp n.kids) (fun k n a t ks t' h=>h) (bp.1 h))
def J1 (n:Node):Prop:=n.name.length≤30∧n.text.length≤30∧n.attrs.length≤5∧∀ a∈n.attrs,a.name.length≤30∧a.value.length≤30
theorem C4:∀ (l:List Node) (m:Nat),al J1 (cx l m).1:=by
 refine aH (fun m=>by simp [cx,al]) ?_
 intro n l h1 h2 m
 simp only [cx,sY]
 split
 · simp [al]
 · simp only [al,Kz]
   refine ⟨⟨⟨by simp [m3]; omega,by simp [m3]; omega,by simp; omega,fun a ha=>?_⟩,h1 _⟩,h2 _⟩
   simp only [List.mem_map] at ha
   obtain ⟨b,_,rfl⟩:=ha
   simp [Hk,m3]; omega
theorem BM {l:List Str} {m:Nat} (h:l.all (fun s=>decide (s.length≤m))=true) (i:Nat):((l[i]?).getD []).length≤m:=by
 cases hi:l[i]? with
 | none=>simp
 | some x=>simpa using List.all_eq_true.1 h x (List.mem_of_getElem? hi)
theorem ou:∀ (l acc:List Attr),(∀ a∈l,a.name.length≤30∧a.value.length≤30)→(∀ a∈acc,a.name.length≤1000∧a.value.length≤1000)→
 (kx acc l).length≤acc.length + l.length∧∀ a∈kx acc l,a.name.length≤1000∧a.value.length≤1000
 | [],acc,_,ha=>by simpa [kx] using ha
 | x::l,acc,hl,ha=>by
   have hx:=hl x (by simp)
   have hl':∀ a∈l,a.name.length≤30∧a.value.length≤30:=fun a h=>hl a (by simp [h])
   simp only [kx]
   split
   · have:=ou l acc hl' ha
     exact ⟨by simp; omega,this.2⟩
   · have:=ou l (acc++[⟨bW x.name,cJ x.value⟩]) hl' (fun a h=>by
      rcases List.mem_append.1 h with h | h
      · exact ha a h
      · simp at h; subst h
        have h1:=nU x.value
        have h2:(bW x.name).length≤1000:=by
         unfold bW
         split
         · omega
         · have:=BM (l:=Jh) (m:=1000) (by decide) (x.name.length % 5)
           omega
        exact ⟨h2,by simp only; omega⟩)
     exact ⟨by have:=this.1; simp at this ⊢; omega,this.2⟩
theorem tf (f:Node→Node) (c:Nat):∀ l:List Node,(∀ n∈l,(f n).text.length≤c)→bm (l.map f)≤c * l.length
 | [],_=>by simp [bm]
 | n::l,h=>by
   have h1:=h n (by simp)
   have h2:=tf f c l (fun x hx=>h x (by simp [hx]))
   simp only [bm,List.map_cons,List.sum_cons,List.length_cons,Nat.mul_succ] at *
   omega
theorem Ek:∀ l:List Node,al J1 l→ai l≤1000→al fp (l.map bX)∧ai (l.map bX)≤ai l∧(∀ n∈l.map bX,n.text.length≤120):=by
 refine aH (fun _ _=>by simp [al,ai]) ?_
 intro n l h1 h2 ha hc
 simp only [al,dv] at ha
 simp only [ai,dr] at hc
 obtain ⟨g1,g2,g3⟩:=h2 ha.2 (by omega)
 obtain ⟨k1,k2,k3⟩:=h1 ha.1.2 (by omega)
 have hw:(s9 n.name).length≤1000:=by
  unfold s9
  split
  · have:=ha.1.1.1; omega
  · have:=BM (l:=Fj) (m:=1000) (by decide) (sumB n.name % 10); omega
 have hA:=ou n.attrs [] ha.1.1.2.2.2 (fun _ h=>by cases h)
 have hr:=nU n.text
 have ht:=ha.1.1.2.1
 have hat:=ha.1.1.2.2.1
 have hm:=gz (n.kids.map bX)
 have hmc:=mF (n.kids.map bX)
 have hkl:=iq n.kids
 have hts:=tf bX 120 n.kids (fun x hx=>k3 _ (List.mem_map_of_mem hx))
 have hts2:120 * n.kids.length≤120 * 1000:=Nat.mul_le_mul_left _ (by omega)
 simp only [List.length_map] at hm
 simp only [List.length_nil,Nat.zero_add] at hA
 refine ⟨?_,?_,?_⟩
 · simp only [List.map_cons,al,dv]
   refine ⟨?_,g1⟩
   rw [jf]
   split
   · refine ⟨⟨hw,?_,hA.2,?_,?_⟩,ii k1⟩
     · simp only; omega
     · simp only; omega
     · simp only; omega
   · exact ⟨⟨by simp,by simp,by simp,by simp,by simp [bm]⟩,by simp [al]⟩
 · simp only [List.map_cons,ai,dr]
   rw [jf]
   split
   · simp only; omega
   · simp only [ai]; omega
 · intro x hx
   simp only [List.map_cons,List.mem_cons] at hx
   rcases hx with rfl | hx
   · rw [jf]
     split
     · simp
     · simp only; omega
   · exact g3 x hx
theorem rA (l:List Node):al fp (dL l)∧ai (dL l)≤40∧bm (dL l)≤4800:=by
 have hc:=vj l 40
 obtain ⟨h1,h2,h3⟩:=Ek (cx l 40).1 (C4 l 40) (by omega)
 have hm:=gz ((cx l 40).1.map bX)
 have hmc:=mF ((cx l 40).1.map bX)
 have ht:=tf bX 120 (cx l 40).1 (fun x hx=>h3 _ (List.mem_map_of_mem hx))
 have hl:=iq (cx l 40).1
 have:120 * (cx l 40).1.length≤120 * 40:=Nat.mul_le_mul_left _ (by omega)
 exact ⟨ii h1,by unfold dL; omega,by unfold dL; omega⟩
theorem za:∀ l:List Node,al fp l→al fp (l.flatMap aJ)∧ai (l.flatMap aJ)≤ai l:=by
 refine aH (fun _=>by simp [al,ai]) ?_
 intro n l h1 h2 ha
 simp only [al,dv] at ha
 obtain ⟨g1,g2⟩:=h2 ha.2
 have happ:∀ a b:List Node,al fp a→al fp b→al fp (a++b):=fun a b ha hb=>bp.2 fun x hx=>by
  rcases List.mem_append.1 hx with h | h
  · exact bp.1 ha x h
  · exact bp.1 hb x h
 have key:al fp (aJ n)∧ai (aJ n)≤EP n:=by
  rw [nQ]
  split
  · simp [al,ai]
  · split
    · have hk1:al fp (n.kids.flatMap aJ)∧ai (n.kids.flatMap aJ)≤ai n.kids:=h1 ha.1.2
      have hf:=iF n.name n.kids
      have hs:=dY (aD n.name n.kids)
      have hm:=gz ((aD n.name n.kids).flatMap aJ)
      have hf2:=iF n.name (cN ((aD n.name n.kids).flatMap aJ))
      have hsub:al fp ((aD n.name n.kids).flatMap aJ):=bp.2 fun x hx=>by
       obtain ⟨y,hy,hxy⟩:=List.mem_flatMap.1 hx
       exact bp.1 hk1.1 x (List.mem_flatMap.2 ⟨y,(List.mem_filter.1 hy).1,hxy⟩)
      have hcs:∀ ks:List Node,ai ((aD n.name ks).flatMap aJ)≤ai (ks.flatMap aJ):=by
       intro ks
       induction ks with
       | nil=>simp [aD,ai]
       | cons y ks ih=>
         simp only [aD,List.filter_cons,List.flatMap_cons,eo] at ih ⊢
         split
         · simp only [List.flatMap_cons,eo]; omega
         · omega
      have hmy:=ii hsub
      have hc1:=hcs n.kids
      have hc2:=mF ((aD n.name n.kids).flatMap aJ)
      have hc3:=pW (en n.name) (cN ((aD n.name n.kids).flatMap aJ))
      have hl:=ha.1.1.2.2.2
      simp only [al,dv,ai,dr]
      refine ⟨⟨⟨⟨ha.1.1.1,ha.1.1.2.1,ha.1.1.2.2.1,?_,?_⟩,?_⟩,trivial⟩,?_⟩
      · simp only; omega
      · simp only; omega
      · exact bp.2 fun x hx=>bp.1 hmy x (List.mem_filter.1 hx).1
      · simp only [aD] at *; omega
    · simp only [al,dv,ai]
      exact ⟨⟨ha.1,trivial⟩,by omega⟩
 simp only [List.flatMap_cons,eo]
 exact ⟨happ _ _ key.1 g1,by simp only [ai]; omega⟩
def bq (l:List Node):List Node:=fB (dL l)
theorem CI (l:List Node):al fp (bq l)∧ai (bq l)≤40∧bm (bq l)≤4800:=by
 obtain ⟨h1,h2,h3⟩:=rA l
 obtain ⟨g1,g2⟩:=za (dL l) h1
 have hs:=dY (dL l)
 have hm:=gz ((dL l).flatMap aJ)
 have hc:=mF ((dL l).flatMap aJ)
 exact ⟨ii g1,by unfold bq fB; omega,by unfold bq fB; omega⟩
theorem MQ:∀ l:List Node,al fp l→bm l≤1000000→al ky l:=by
 refine aH (fun _ _=>by simp [al]) ?_
 intro n l h1 h2 ha ht
 simp only [al,dv] at ha ⊢
 have hc:bm (n::l)=n.text.length + bm l:=by simp [bm]
 obtain ⟨⟨⟨a1,a2,a3,a4,a5⟩,a6⟩,a7⟩:=ha
 exact ⟨⟨⟨by omega,by omega,by omega,fun a h=>by have:=a3 a h; omega⟩,h1 a6 a5⟩,h2 a7 (by omega)⟩
theorem MP (l:List Node) (h:al fp l):al Fy l:=yQ (fun n h _=>⟨by have:=h.2.1; omega,fun a ha=>(h.2.2.1 a ha).2⟩) l h
theorem AP (l:List Node):Fn Tryz.prog zt [.seq 5 (l.map Node.v)] (.seq 5 ((bq l).map Node.v)):=by
 refine Fn.of_image mixed Aq zZ rfl fun ho=>?_
 unfold p1
 simp only [oks,ok,and_true] at ho
 clear ho
 obtain ⟨h1,h2,h3⟩:=rA l
 have hl:=iq (dL l)
 have hf:al yz (dL l):=yQ (fun n h _=>⟨h.1,h.2.2.2⟩) _ h1
 simp (disch:=omega) [-List.reduceReplicate]
 refine aK (AU l) (by simp) fun _=>?_
 simp (disch:=omega) [-List.reduceReplicate]
 refine aK (u5 (dL l) hf (by omega) (by omega)) (by simp) fun _=>?_
 simp (disch:=omega) [-List.reduceReplicate,bq]
theorem lS (s:Str):Fn Tryz.prog B3 [.str s] (.bool (named s)):=by
 refine Fn.of_image mixed CE Cq rfl fun ho=>?_
 unfold rT
 simp only [oks,ok,and_true] at ho
 simp (disch:=omega) [-List.reduceReplicate]
 generalize hr:named s=r
 refine am (fun k:Nat=>⟨[(0,.str s),(7,.int .i64 s.length),(8,.int .i64 k)],[]⟩) (fun k=>k≤s.length∧(if k=0 then named s else (s.drop k).all cG)=r) (fun k=>s.length - k) [] _ 0 rfl (by simp) (by simp [hr]) ?_
 rintro k ⟨hk,hi⟩ N hN
 by_cases hk0:k=0
 · subst hk0
   simp only [if_true] at hi
   cases s with
   | nil=>simp [named] at hi; subst hi; simp (disch:=omega) [-List.reduceReplicate]
   | cons b t=>
     have hb:=b.toNat_lt
     simp only [named,List.all_cons] at hi
     replace hi:=hid hi
     simp (disch:=omega) [-List.reduceReplicate]
     repeat' (first | (refine BrKd.mk (fun h=>?_) (fun h=>?_)<;>simp (disch:=omega) [*]) | (refine BrK.mk (fun h=>?_) (fun h=>?_)<;>simp (disch:=omega) [*]))
     all_goals first
      | (refine hN.out _<|Nx.mk 1 (by simp [*]) ⟨by simp,?_⟩ (by simp); have hi:=hi.out; simpa (disch:=omega) [cG,small,decide_eq_true,decide_eq_false, *] using hi)
      | (have hi:=hi.out; simpa (disch:=omega) [cG,small,decide_eq_true,decide_eq_false, *] using hi)
      | omega
 · simp only [if_neg hk0] at hi
   rcases place s k hk with ⟨he,hd⟩ | ⟨hlt,x,hx,hd⟩<;>rw [hd] at hi<;>replace hi:=hid hi
   · simp (disch:=omega) [-List.reduceReplicate,he]
     have hi:=hi.out
     have:s≠[]:=by intro h; subst h; simp at he; omega
     simpa [this] using hi
   · have hb:=x.toNat_lt
     simp only [List.all_cons] at hi
     simp (disch:=omega) [-List.reduceReplicate,hx]
     repeat' (first | (refine BrKd.mk (fun h=>?_) (fun h=>?_)<;>simp (disch:=omega) [*]) | (refine BrK.mk (fun h=>?_) (fun h=>?_)<;>simp (disch:=omega) [*]))
     all_goals first
      | omega
      | (refine hN.out _<|Nx.mk (k + 1) (by simp [*]) ⟨by omega,?_⟩ (by omega); have hi:=hi.out; rw [if_neg (by omega)]; simpa (disch:=omega) [cG,small,decide_eq_true,decide_eq_false, *] using hi)
      | (have hi:=hi.out; simpa (disch:=omega) [cG,small,decide_eq_true,decide_eq_false, *] using hi)
theorem EF (s:Str):Fn Tryz.prog DY [.str s] (.bool (yY s)):=by
 refine Fn.of_image mixed Ei Ed rfl fun ho=>?_
 unfold vw
 simp only [oks,ok,and_true] at ho
 simp (disch:=omega) [-List.reduceReplicate,yY]
 repeat' (first | (refine BrKd.mk (fun h=>?_) (fun h=>?_)<;>simp (disch:=omega) [*]) | (refine BrK.mk (fun h=>?_) (fun h=>?_)<;>simp (disch:=omega) [*]))
theorem yC (s:Str):Fn Tryz.prog GE [.str s] (.bool (raw s)):=by
 refine Fn.of_image mixed He G4 rfl fun ho=>?_
 unfold yK
 simp only [oks,ok,and_true] at ho
 simp (disch:=omega) [-List.reduceReplicate,raw]
 repeat' (first | (refine BrKd.mk (fun h=>?_) (fun h=>?_)<;>simp (disch:=omega) [*]) | (refine BrK.mk (fun h=>?_) (fun h=>?_)<;>simp (disch:=omega) [*]))
theorem u6 (s:Str):Fn Tryz.prog tU [.str s] (.bool (plain s)):=by
 refine Fn.of_image mixed uL uu rfl fun ho=>?_
 unfold ma
 simp only [oks,ok,and_true] at ho
 simp (disch:=omega) [-List.reduceReplicate,plain]
 repeat' (first | (refine BrKd.mk (fun h=>?_) (fun h=>?_)<;>simp (disch:=omega) [*]) | (refine BrK.mk (fun h=>?_) (fun h=>?_)<;>simp (disch:=omega) [*]) | (refine ac (lS _) rfl (fun _=>?_)<;>simp (disch:=omega) [*]) | (refine az (lS _) rfl ?_<;>simp (disch:=omega) [*]))
 all_goals simp [*]
theorem eK (p:Policy) (s:Str):Fn Tryz.prog we [p.v,.str s] (.tup [((a8 p.elements s).getD .zero).v,.bool (a8 p.elements s).isSome]):=by
 refine Fn.of_image mixed xe wH rfl fun ho=>?_
 unfold nG
 simp only [oks,ok,and_true] at ho
 have hlen:p.elements.length≤140737488355328:=by have:=ho.1; simp at this; exact this.2.1.1
 clear ho
 simp (disch:=omega) [-List.reduceReplicate]
 generalize hr:a8 p.elements s=r
 refine am (fun k:Nat=>⟨[(1,.str s),(4,.ptr 0 0),(9,.seq 3 (p.elements.map Allowed.v)),(10,.int .i64 p.elements.length),(11,.int .i64 k)],[some (.box [.str [],.nil 1,.nil 5])]⟩) (fun k=>k≤p.elements.length∧a8 (p.elements.drop k) s=r) (fun k=>p.elements.length - k) [] _ 0 rfl (by simp [*]) (by simp [*]) ?_
 rintro k ⟨hk,hi⟩ N hN
 rcases place p.elements k hk with ⟨he,hd⟩ | ⟨hlt,x,hx,hd⟩<;>rw [hd] at hi<;>replace hi:=hid hi
 · simp (disch:=omega) [-List.reduceReplicate,he]
   simp [←hi.out,a8,Allowed.zero]
 · simp (disch:=omega) [-List.reduceReplicate,hx]
   repeat' (first | (refine BrKd.mk (fun h=>?_) (fun h=>?_)<;>simp (disch:=omega) [*]) | (refine BrK.mk (fun h=>?_) (fun h=>?_)<;>simp (disch:=omega) [*]))
   all_goals first
    | (refine hN.out _<|Nx.mk (k + 1) (by simp [*]) ⟨by omega,?_⟩ (by omega); simpa (disch:=omega) [*,decide_eq_true,decide_eq_false,a8] using hi.out)
    | (have hi:=hi.out; simp [a8, *] at hi; subst hi; simp [*])
end Go.Abs.F
end
