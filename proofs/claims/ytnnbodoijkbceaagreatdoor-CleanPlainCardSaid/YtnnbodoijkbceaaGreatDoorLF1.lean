/-
  What the first functions of the document's packages answer. No condition.
  What the next functions of the document's packages answer: constraints. No condition.
  What strainerref12.Good answers: a constraint that may be. No condition.
  What strainerref13's functions answer: the lists of a policy that may be. No condition.
  What strainerref13's rules and Good answer: a policy that may be. No condition.
  What the library's functions that guard calls answer: indexes, prefixes, cuts. No condition.
  Nodes; what guard.Any answers. No condition.
  What strainerref13's and strainerref21's functions answer: lists, patterns, rules, guards. No condition.
  What strainerref15's functions answer: which nodes a policy allows. No condition.
  What strainerref01's functions answer: characters. No condition.
  What strainerref03's functions answer that make nodes: cut, named, merged. No condition.
  What strainerref03's functions answer that make nodes that may be. No condition.
  What strainerref03's Good answers: nodes that may be. No condition.
  What strainerref06's functions answer that make stable nodes. No condition.
  What strainerref06's Good answers: stable nodes. No condition.
  What strainerref03's May, strainerref06's Stable and strainerref15's Nodes answer. No condition.
  How large strainerref06's Good makes nodes; what strainerlaw21's GuardMeek comes to: what a guard allows is not dangerous. No condition.
  What the program's functions for names, policies and lists answer. No condition.
-/
import Derived.Test.YtnnbodoijkbceaaGreatDoorLCodeA
import Derived.Lib.Bytealg
import Derived.Test.YtnnbodoijkbceaaGreatDoorLCodeW
set_option linter.all false
set_option maxHeartbeats 0
set_option maxRecDepth 100000
section
namespace Go.Abs.F
open Go.Proofs
attribute [-simp] getElem?_pos
theorem mixed:Tryz.prog.follows .mixedOrders=true:=by kernel_rfl
abbrev Str:=List UInt8
def lc (b:UInt8):Bool:=97≤b.toNat && b.toNat≤122
theorem i8 (b:UInt8):Fn Tryz.prog vY [.int .u8 b.toNat] (.bool (lc b)):=by
 refine Fn.of_image mixed w9 wE rfl fun ho=>?_
 unfold jc
 simp only [oks,ok,and_true] at ho
 simp (disch:=omega) [-List.reduceReplicate,jc,lc]
 repeat' (first | (refine BrKd.mk (fun h=>?_) (fun h=>?_)<;>simp (disch:=omega) [*]) | (refine BrK.mk (fun h=>?_) (fun h=>?_)<;>simp (disch:=omega) [*]))
def dc (b:UInt8):Bool:=lc b || (48≤b.toNat && b.toNat≤57) || decide (b.toNat=45)
def named:Str→Bool
 | []=>false
 | b::s=>lc b && (b::s).all dc
theorem xz (s:Str):Fn Tryz.prog v6 [.str s] (.bool (named s)):=by
 refine Fn.of_image mixed xd wG rfl fun ho=>?_
 unfold fE
 simp only [oks,ok,and_true] at ho
 cases s with
 | nil=>simp (disch:=omega) [-List.reduceReplicate,fE,named]
 | cons b t=>
   simp (disch:=omega) [-List.reduceReplicate,fE]
   refine ah (i8 b) rfl fun _=>?_
   simp (disch:=omega) [-List.reduceReplicate]
   generalize hr:named (b::t)=r
   generalize hs:b::t=s at *
   refine aI (fun k:Nat=>⟨[(0,.str s),(3,.bool (lc b)),(4,.int .i64 k)],[]⟩) (fun k=>k≤s.length∧(lc b && (s.drop k).all dc)=r) (fun k=>s.length - k) [] _ 0 rfl (by simp) (by simp [←hr,←hs,named]) ?_
   rintro k ⟨hk,hi⟩ N hN
   rcases place s k hk with ⟨he,hd⟩ | ⟨hlt,x,hx,hd⟩<;>rw [hd] at hi<;>replace hi:=hid hi
   · simp (disch:=omega) [-List.reduceReplicate,he]
     simpa using hi.out
   · simp (disch:=omega) [-List.reduceReplicate,hx]
     repeat' (first | (refine BrKd.mk (fun h=>?_) (fun h=>?_)<;>simp (disch:=omega) [*]) | (refine BrK.mk (fun h=>?_) (fun h=>?_)<;>simp (disch:=omega) [*]) | (refine ah (i8 _) rfl (fun _=>?_)<;>simp (disch:=omega) [*]) | (refine bw (i8 _) rfl ?_<;>simp (disch:=omega) [*]))
     all_goals first
      | (refine hN.out _<|Nx.mk (k + 1) (by simp [*]) ⟨by omega,?_⟩ (by omega); simpa (disch:=omega) [*,decide_eq_true,decide_eq_false,dc] using hi.out)
      | (first | simpa (disch:=omega) [*,decide_eq_true,decide_eq_false,dc] using hi.out.symm | simpa (disch:=omega) [*,decide_eq_true,decide_eq_false,dc] using hi.out)
def plain (s:Str):Bool:=named s && s.length≤16
structure Attr where
 name:Str
 value:Str
structure Constraint where
 kind:Int
 words:List Str
 regex:Str
structure Rule where
 name:Str
 value:Constraint
 req:Bool
structure Allowed where
 name:Str
 kids:List Str
 rules:List Rule
structure Policy where
 top:List Str
 elements:List Allowed
 unwrap:List Str
@[simp] def Attr.v (a:Attr):V:=.strct [.str a.name,.str a.value]
def Constraint.c (c:Constraint):List V:=[.int .i64 c.kind,.seq 1 (c.words.map .str),.str c.regex]
@[simp] def Constraint.v (c:Constraint):V:=.strct c.c
@[simp] def Rule.v (r:Rule):V:=.strct [.str r.name,.int .i64 r.value.kind,.seq 1 (r.value.words.map .str),.str r.value.regex,.bool r.req]
@[simp] def Allowed.v (a:Allowed):V:=.strct [.str a.name,.seq 1 (a.kids.map .str),.seq 5 (a.rules.map Rule.v)]
@[simp] def Policy.v (p:Policy):V:=.strct [.seq 1 (p.top.map .str),.seq 3 (p.elements.map Allowed.v),.seq 1 (p.unwrap.map .str)]
attribute [simp] Constraint.c
def bj:List Allowed→Str→Option Allowed
 | [],_=>none
 | e::l,s=>if e.name=s then some e else bj l s
def Allowed.zero:Allowed:=⟨[],[],[]⟩
def gG (s:Str):Str × Bool:=match s[s.length - 1]? with
 | some x=>if x.toNat=42 then (s.take (s.length - 1),true) else (s,false)
 | none=>(s,false)
def bT:List Str→Str→Bool
 | [],_=>false
 | x::l,s=>if x=s then true else bT l s
theorem CY (l:List Str) (s:Str):Fn Tryz.prog BQ [.seq 1 (l.map .str),.str s] (.bool (bT l s)):=by
 refine Fn.of_image mixed Cy Cg rfl fun ho=>?_
 unfold mf
 simp only [oks,ok,and_true] at ho
 simp (disch:=omega) [-List.reduceReplicate,mf]
 generalize hr:bT l s=r
 refine aI (fun k:Nat=>⟨[(0,.seq 1 (l.map .str)),(1,.str s),(5,.int .i64 k)],[]⟩) (fun k=>k≤l.length∧bT (l.drop k) s=r) (fun k=>l.length - k) [] _ 0 rfl (by simp [*]) (by simp [*]) ?_
 rintro k ⟨hk,hi⟩ N hN
 rcases place l k hk with ⟨he,hd⟩ | ⟨hlt,x,hx,hd⟩<;>rw [hd] at hi<;>replace hi:=hid hi
 · simp (disch:=omega) [-List.reduceReplicate,he]
   simpa [bT] using hi.out
 · have hlen:l.length≤140737488355328:=by have:=ho.1.1; simpa using this
   simp (disch:=omega) [-List.reduceReplicate,hx]
   repeat' (first | (refine BrKd.mk (fun h=>?_) (fun h=>?_)<;>simp (disch:=omega) [*]) | (refine BrK.mk (fun h=>?_) (fun h=>?_)<;>simp (disch:=omega) [*]))
   all_goals first
    | (refine hN.out _<|Nx.mk (k + 1) (by simp [*]) ⟨by omega,?_⟩ (by omega); simpa (disch:=omega) [*,decide_eq_true,decide_eq_false,bT] using hi.out)
    | (first | simpa (disch:=omega) [*,decide_eq_true,decide_eq_false,bT] using hi.out.symm | simpa (disch:=omega) [*,decide_eq_true,decide_eq_false,bT] using hi.out)
def sign (b:UInt8):Bool:=32≤b.toNat && b.toNat≤126
def PB (s:Str):Bool:=s.all lc && (1≤s.length && s.length≤16)
theorem fk {α:Type} {l:List α} {k:Nat} {x:α} (h:l[k]?=some x):l.take (k + 1)=l.take k++[x]:=by rw [List.take_add_one,h]; rfl
def Ot (sch:Bool) (x:Str):Bool:=if sch then PB x else (x.all sign && decide (x.length≤40))
def Fa (sch:Bool):List Str→List Str→Bool
 | _,[]=>true
 | pre,x::l=>Ot sch x && (!(bT pre x) && Fa sch (pre++[x]) l)
def words (l:List Str) (sch:Bool):Bool:=Fa sch [] l && decide (l.length≤8)
def Bi:Str→Nat
 | []=>0
 | b::s=>b.toNat + Bi s
theorem JT {l:List V} {sz:Nat}:dO (if l=[] then V.seq sz l else V.junk)=true:=by split<;>simp [dO, *]
theorem JS {α:Type} {f:α→V} {l:List α} {sz:Nat}:dO (if l=[] then V.seq sz (l.map f) else V.junk)=true:=by split<;>simp [dO, *]
theorem yK:∀ {l:List Str},c6 (l.map V.str)=true
 | []=>rfl
 | _::l=>by simp [c6,dO,yK (l:=l)]
attribute [simp] JT JS yK
def Ir (s:Str):Bool:=decide (s=[98,114]) || (decide (s=[104,114]) || (decide (s=[105,109,103]) || (decide (s=[105,110,112,117,116]) || decide (s=[119,98,114]))))
def raw (s:Str):Bool:=decide (s=[115,99,114,105,112,116]) || decide (s=[115,116,121,108,101])
def dm (o:Str):List Str:=
 if o=[112] then [[98,108,111,99,107,113,117,111,116,101],[100,105,118],[104,49],[104,50],[104,114],[108,105],[111,108],[112],[112,114,101],[116,97,98,108,101],[117,108]]
 else if o=[108,105] then [[108,105]]
 else if o=[100,116]∨o=[100,100] then [[100,100],[100,116]]
 else if o=[111,112,116,105,111,110] then [[111,112,116,105,111,110]]
 else if o=[116,100] then [[116,100],[116,114]]
 else if o=[116,114] then [[116,114]]
 else []
def rp (o b:Str):Bool:=bT (dm o) b
def NY:List Str→List Str→Bool
 | _,[]=>true
 | pre,x::l=>!bT pre x && NY (pre++[x]) l
def once (l:List Str):Bool:=NY [] l
def fQ:Str:=[35,116,101,120,116]
def eT:Str:=[35,99,111,109,109,101,110,116]
def kidOK (p:Policy) (par x:Str):Bool:=!(Ir par || (raw par && !decide (x=fQ))) && ((decide (x=fQ) || decide (x=eT)) || ((bj p.elements x).isSome && !rp par x))
def kids (p:Policy) (par:Str) (l:List Str):Bool:=l.all (kidOK p par) && once l
end Go.Abs.F
end
section
namespace Go.Abs.F
open Go.Proofs
attribute [-simp] getElem?_pos Option.not_isSome
end Go.Abs.F

end
section
namespace Go.Abs.F
open Go.Proofs
attribute [-simp] getElem?_pos Option.not_isSome
def fdx {α:Type} (f:α→Bool):Nat→List α→Int
 | _,[]=>-1
 | k,x::l=>if f x then k else fdx f (k + 1) l
theorem FF {α:Type} (f:α→Bool):∀ (l:List α) (k:Nat),decide (0≤fdx f k l)=l.any f
 | [],k=>by simp [fdx]
 | x::l,k=>by
   simp only [fdx,List.any_cons]
   split
   · rename_i h; simp [h]
   · rename_i h; simp only [Bool.not_eq_true] at h; rw [FF f l (k + 1),h]; rfl
theorem Dq (s:Str):∀ l:List Str,l.any (fun x=>decide (s=x))=bT l s
 | []=>rfl
 | x::l=>by
   simp only [List.any_cons,bT,Dq s l]
   by_cases h:x=s
   · simp [h]
   · have:¬s=x:=fun e=>h e.symm
     simp [h,this]
theorem kP (l:List Str) (s:Str):Fn Tryz.prog cN [.seq 1 (l.map .str),.str s] (.int .i64 (fdx (fun x=>decide (s=x)) 0 l)):=by
 refine Fn.of_image mixed cR cQ rfl fun ho=>?_
 unfold bz
 simp only [oks,ok,and_true] at ho
 have hlen:l.length≤140737488355328:=by have:=ho.1.1; simpa using this
 clear ho
 simp (disch:=omega) [-List.reduceReplicate]
 generalize hr:fdx (fun x=>decide (s=x)) 0 l=r
 refine aI (fun k:Nat=>⟨[(0,.seq 1 (l.map .str)),(1,.str s),(7,.int .i64 l.length),(8,.int .i64 k)],[]⟩) (fun k=>k≤l.length∧fdx (fun x=>decide (s=x)) k (l.drop k)=r) (fun k=>l.length - k) [] _ 0 rfl (by simp [*]) (by simp [*]) ?_
 rintro k ⟨hk,hi⟩ N hN
 rcases place l k hk with ⟨he,hd⟩ | ⟨hlt,x,hx,hd⟩<;>rw [hd] at hi<;>replace hi:=hid hi
 · simp (disch:=omega) [-List.reduceReplicate,he]
   simpa [fdx] using hi.out
 · simp (disch:=omega) [-List.reduceReplicate,hx]
   refine BrKd.mk (fun h=>?_) (fun h=>?_)
   · simp (disch:=omega) [-List.reduceReplicate]
     have hi:=hi.out
     simpa [fdx,h] using hi
   · simp (disch:=omega) [-List.reduceReplicate]
     refine hN.out _<|Nx.mk (k + 1) (by simp [*]) ⟨by omega,?_⟩ (by omega)
     have hi:=hi.out
     simpa [fdx,h] using hi
theorem aW (l:List Str) (s:Str):Fn Tryz.prog b9 [.seq 1 (l.map .str),.str s] (.bool (bT l s)):=by
 refine Fn.of_image mixed cg ce rfl fun ho=>?_
 unfold be
 simp only [oks,ok,and_true] at ho
 simp (disch:=omega) [-List.reduceReplicate]
 refine ah (kP _ _) rfl fun _=>?_
 simp (disch:=omega) [-List.reduceReplicate]
 rw [FF,Dq]
def iy (s p:Str):Bool:=decide (p.length≤s.length) && decide (s.take p.length=p)
theorem d8 (s p:Str):Fn Tryz.prog cc [.str s,.str p] (.bool (iy s p)):=by
 refine Fn.of_image mixed ci cf rfl fun ho=>?_
 unfold bf
 simp only [oks,ok,and_true] at ho
 simp (disch:=omega) [-List.reduceReplicate,iy]
 repeat' (first | (refine BrKd.mk (fun h=>?_) (fun h=>?_)<;>simp (disch:=omega) [*]) | (refine BrK.mk (fun h=>?_) (fun h=>?_)<;>simp (disch:=omega) [*]))
theorem gy (s p:Str):Fn Tryz.prog gp [.str s,.str p] (.bool (iy s p)):=by
 refine Fn.of_image mixed gw gu rfl fun ho=>?_
 unfold dP
 simp only [oks,ok,and_true] at ho
 simp (disch:=omega) [-List.reduceReplicate]
 repeat' (first | (refine BrKd.mk (fun h=>?_) (fun h=>?_)<;>simp (disch:=omega) [*]) | (refine BrK.mk (fun h=>?_) (fun h=>?_)<;>simp (disch:=omega) [*]) | (refine ah (d8 _ _) rfl (fun _=>?_)<;>simp (disch:=omega) [*]) | (refine bw (d8 _ _) rfl ?_<;>simp (disch:=omega) [*]))
theorem eM (c:UInt8):∀ s:Str,Lib.indexByte s c < (s.length:Int) + 1∧(0≤Lib.indexByte s c→Lib.indexByte s c < s.length)
 | []=>by simp [Lib.indexByte]
 | b::l=>by
   have:=eM c l
   unfold Lib.indexByte
   simp only [List.length_cons]
   split
   · omega
   · split
     · omega
     · omega
theorem f_bytealg_IndexByteString (s:Str) (c:UInt8):Fn Tryz.prog a6 [.str s,.int .u8 c.toNat] (.int .i64 (Lib.indexByte s c)):=by
 refine Fn.ext bQ (by kernel_rfl) (by kernel_rfl) (by kernel_rfl) (e:=Extern.BytealgIndexByte.indexByte) (by kernel_rfl) ?_
 intro M w cs hM hus
 obtain ⟨cl⟩:=cs
 simp only [ac] at hus
 obtain ⟨_,_,rfl,⟨bs,rfl,rfl,_⟩,_,_,rfl,⟨rfl,_⟩,rfl⟩:=hus
 refine ⟨_,Lib.run_indexByteString bs (c.toNat:Int) w,?_⟩
 have hc:((c.toNat:Int)).toNat.toUInt8=c:=by simp
 rw [hc]
 simp only [rep]
 have h1:=Lib.indexByte_ge bs.data.toList c
 have h2:=eM c bs.data.toList
 refine ⟨trivial,?_,?_⟩
 · simp; omega
 · simp; omega
def cutB (s:Str) (c:UInt8):Str × Str × Bool:=if 0≤Lib.indexByte s c then (s.take (Lib.indexByte s c).toNat,s.drop ((Lib.indexByte s c).toNat + 1),true) else (s,[],false)
structure Node where
 kind:Int
 name:Str
 attrs:List Attr
 text:Str
 kids:List Node
mutual
def Node.v:Node→V
 | ⟨k,n,a,t,ks⟩=>.strct [.int .i64 k,.str n,.seq 2 (a.map Attr.v),.str t,.seq 5 (Node.vs ks)]
def Node.vs:List Node→List V
 | []=>[]
 | n::l=>n.v::Node.vs l
end
theorem Node.vs_map:∀ l:List Node,Node.vs l=l.map Node.v
 | []=>by simp [Node.vs]
 | n::l=>by simp [Node.vs,Node.vs_map l]
theorem Node.v_eq (n:Node):n.v=.strct [.int .i64 n.kind,.str n.name,.seq 2 (n.attrs.map Attr.v),.str n.text,.seq 5 (n.kids.map Node.v)]:=by
 cases n; simp [Node.v,Node.vs_map]
attribute [simp] Node.v_eq
section
variable {p:List Node→Prop} (h0:p []) (h1:∀ n l,p n.kids→p l→p (n::l))
include h0 h1
mutual
theorem ay:∀ l,p l
 | []=>h0
 | n::l=>h1 n l (D0 n) (ay l)
theorem D0:∀ n:Node,p n.kids
 | ⟨_,_,_,_,ks⟩=>ay ks
end
end
def B7 (p:Policy) (par:Str):List Str:=if par=[] then p.top else ((bj p.elements par).getD .zero).kids
def dH (p:Policy) (par:Str) (n:Node):Bool:=
 if n.kind=2 then bT (B7 p par) fQ else if n.kind=3 then bT (B7 p par) eT else decide (n.kind=1) && bT (B7 p par) n.name
def fits (pat nm:Str):Bool:=plain (gG pat).1 && (if (gG pat).2 then iy nm (gG pat).1 else decide (nm=(gG pat).1))
def jt:List Rule→Str→Option Rule
 | [],_=>none
 | r::l,s=>if fits r.name s then some r else jt l s
def Rule.zero:Rule:=⟨[],⟨0,[],[]⟩,false⟩
def rA (A:Constraint→Str→Bool) (e:Allowed) (a:Attr):Bool:=match jt e.rules a.name with
 | some r=>A r.value a.value
 | none=>false
theorem yP:∀ {l:List Rule} {s:Str} {r:Rule},jt l s=some r→r∈l∧fits r.name s=true
 | [],s,r,h=>by simp [jt] at h
 | x::l,s,r,h=>by
   simp only [jt] at h
   split at h
   · cases h; exact ⟨by simp,by assumption⟩
   · obtain ⟨h1,h2⟩:=yP h; exact ⟨by simp [h1],h2⟩
def eL (A:Constraint→Str→Bool) (e:Allowed) (l:List Attr):List Attr:=l.filter (rA A e)
def ez:List Attr→Str→Option Str
 | [],_=>none
 | a::l,s=>if a.name=s then some a.value else ez l s
theorem xy (n:Node) (s:Str):Fn Tryz.prog vZ [n.v,.str s] (.tup [.str ((ez n.attrs s).getD []),.bool (ez n.attrs s).isSome]):=by
 refine Fn.of_image mixed xc wF rfl fun ho=>?_
 unfold nC
 simp only [oks,ok,and_true] at ho
 have hlen:n.attrs.length≤140737488355328:=by have:=ho.1; simp at this; exact this.2.2.1.1
 clear ho
 simp (disch:=omega) [-List.reduceReplicate]
 generalize hr:ez n.attrs s=r
 refine aI (fun k:Nat=>⟨[(1,.str s),(2,.ptr 0 0),(6,.int .i64 k)],[some (.box [.int .i64 n.kind,.str n.name,.seq 2 (n.attrs.map Attr.v),.str n.text,.seq 5 (n.kids.map Node.v)])]⟩) (fun k=>k≤n.attrs.length∧ez (n.attrs.drop k) s=r) (fun k=>n.attrs.length - k) [] _ 0 rfl (by simp [*]) (by simp [*]) ?_
 rintro k ⟨hk,hi⟩ N hN
 rcases place n.attrs k hk with ⟨he,hd⟩ | ⟨hlt,x,hx,hd⟩<;>rw [hd] at hi<;>replace hi:=hid hi
 · simp (disch:=omega) [-List.reduceReplicate,he]
   simp [←hi.out,ez]
 · simp (disch:=omega) [-List.reduceReplicate,hx]
   refine BrKd.mk (fun h=>?_) (fun h=>?_)
   · simp (disch:=omega) [-List.reduceReplicate,hx]
     have hi:=hi.out
     simp [ez,h] at hi
     subst hi
     simp
   · simp (disch:=omega) [-List.reduceReplicate]
     refine hN.out _<|Nx.mk (k + 1) (by simp [*]) ⟨by omega,?_⟩ (by omega)
     have hi:=hi.out
     simpa [ez,h] using hi
def whole (e:Allowed) (l:List Attr):Bool:=e.rules.all fun r=>!(r.req && !(ez l r.name).isSome)
def sa (A:Constraint→Str→Bool) (e:Allowed) (l:List Attr):Bool:=decide ((eL A e l).length=l.length) && whole e l
mutual
def Dr (f:Node→Prop):Node→Prop
 | ⟨k,n,a,t,ks⟩=>f ⟨k,n,a,t,ks⟩∧an f ks
def an (f:Node→Prop):List Node→Prop
 | []=>True
 | n::l=>Dr f n∧an f l
end
mutual
def jA:Node→Nat
 | ⟨k,n,a,t,ks⟩=>1 + ai ks
def ai:List Node→Nat
 | []=>0
 | n::l=>jA n + ai l
end
theorem qI (f:Node→Prop) (n:Node):Dr f n=(f n∧an f n.kids):=by cases n; simp [Dr]
theorem ql (n:Node):jA n=1 + ai n.kids:=by cases n; simp [jA]
theorem mI:∀ {l:List Node} {n:Node},n∈l→ai n.kids + 1≤ai l
 | [],n,h=>by cases h
 | x::l,n,h=>by
   simp only [ai,ql]
   rcases List.mem_cons.1 h with rfl | h
   · omega
   · have:=mI h; omega
theorem mN {f:Node→Prop}:∀ {l:List Node} {n:Node},an f l→n∈l→f n∧an f n.kids
 | [],n,_,h=>by cases h
 | x::l,n,ha,h=>by
   simp only [an,qI] at ha
   rcases List.mem_cons.1 h with rfl | h
   · exact ha.1
   · exact mN ha.2 h
def fineN (n:Node):Prop:=n.attrs.length≤1000000∧∀ a∈n.attrs,a.value.length≤1000
theorem mG:∀ {l:List Allowed} {s:Str} {r:Allowed},bj l s=some r→r∈l∧r.name=s
 | [],s,r,h=>by simp [bj] at h
 | x::l,s,r,h=>by
   simp only [bj] at h
   split at h
   · cases h; exact ⟨by simp,by assumption⟩
   · obtain ⟨h1,h2⟩:=mG h; exact ⟨by simp [h1],h2⟩
def bV (b:UInt8):V:=.int .u8 b.toNat
theorem EW (s:Str):dR s=s.map bV:=rz s
theorem Kr (b:UInt8):bV b=.int .u8 b.toNat:=rfl
attribute [simp] EW Kr
def follows (b:UInt8):Bool:=decide (128≤b.toNat) && decide (b.toNat < 192)
theorem s9 (b:UInt8):Fn Tryz.prog sN [.int .u8 b.toNat] (.bool (follows b)):=by
 refine Fn.of_image mixed s4 sT rfl fun ho=>?_
 unfold kG
 simp only [oks,ok,and_true] at ho
 simp (disch:=omega) [-List.reduceReplicate,follows]
 repeat' (first | (refine BrKd.mk (fun h=>?_) (fun h=>?_)<;>simp (disch:=omega) [*]) | (refine BrK.mk (fun h=>?_) (fun h=>?_)<;>simp (disch:=omega) [*]))
def hdr (c:Nat):Nat × Nat × Nat:=
 if 192≤c∧c < 224 then (2,c - 192,128) else if 224≤c∧c < 240 then (3,c - 224,2048) else if 240≤c∧c < 248 then (4,c - 240,65536) else (0,0,0)
def goV:Str→Nat→Option Nat
 | [],v=>some v
 | b::l,v=>if follows b then goV l (64 * v + b.toNat - 128) else none
def pD (n least:Nat):Option Nat→Nat × Nat
 | none=>(65533,1)
 | some v=>if v < least∨1114111 < v∨(55296≤v∧v≤57343) then (65533,1) else (v,n)
def one:Str→Nat × Nat
 | []=>(65533,1)
 | b::t=>if b.toNat < 128 then (b.toNat,1)
   else if (hdr b.toNat).1=0∨t.length + 1 < (hdr b.toNat).1 then (65533,1)
   else pD (hdr b.toNat).1 (hdr b.toNat).2.2 (goV (t.take ((hdr b.toNat).1 - 1)) (hdr b.toNat).2.1)
theorem yF (c:Nat):(hdr c).1=0∨(2≤(hdr c).1∧(hdr c).1≤4∧(hdr c).2.1 < 64∧(hdr c).2.2≤65536):=by
 unfold hdr
 split
 · simp; omega
 · split
   · simp; omega
   · split
     · simp; omega
     · simp
theorem fq (s:Str):1≤(one s).2∧(one s).2≤4∧(s≠[]→(one s).2≤s.length)∧(one s).1≤1114111∧¬(55296≤(one s).1∧(one s).1≤57343):=by
 cases s with
 | nil=>simp [one]
 | cons b t=>
   have hb:=b.toNat_lt
   have hr:=yF b.toNat
   simp only [one]
   split
   · simp; omega
   · split
     · simp
     · rename_i h
       unfold pD
       split
       · simp
       · split
         · simp
         · rename_i h2
           simp only [List.length_cons]
           omega
theorem EB {b:UInt8} (h:follows b=true):128≤b.toNat∧b.toNat < 192:=by simpa [follows] using h
theorem C2 (b:UInt8) (t:Str):Fn Tryz.prog BU [.seq 1 ((b::t).map bV)] (.tup [.int .i32 (one (b::t)).1,.int .i64 (one (b::t)).2]):=by
 refine Fn.of_image mixed CD Cl rfl fun ho=>?_
 unfold sw
 simp only [oks,ok,and_true] at ho
 have hlen:t.length < 140737488355328:=by have:=ho.1; simp at this; omega
 clear ho
 have hb:=b.toNat_lt
 generalize hR:one (b::t)=R
 have hR2:=hR
 simp only [one] at hR2
 simp (disch:=omega) [-List.reduceReplicate]
 have hr:=yF b.toNat
 refine BrKd.mk (fun h=>?_) (fun h=>?_)
 · rw [if_pos h] at hR2
   simp (disch:=omega) [-List.reduceReplicate,←hR2]
 · rw [if_neg h] at hR2
   have hz:(hdr b.toNat).1=0→R=(65533,1):=fun h=>by rw [if_pos (.inl h)] at hR2; exact hR2.symm
   have hs:t.length + 1 < (hdr b.toNat).1→R=(65533,1):=fun h=>by rw [if_pos (.inr h)] at hR2; exact hR2.symm
   have hok:¬(hdr b.toNat).1=0→¬t.length + 1 < (hdr b.toNat).1→pD (hdr b.toNat).1 (hdr b.toNat).2.2 (goV (t.take ((hdr b.toNat).1 - 1)) (hdr b.toNat).2.1)=R:=fun h h'=>by rw [if_neg (by simp [h,h'])] at hR2; exact hR2
   clear hR2
   replace hz:=hid hz
   replace hs:=hid hs
   replace hok:=hid hok
   simp (disch:=omega) [-List.reduceReplicate]
   repeat' (first
    | (refine BrKd.mk (fun h=>?_) (fun h=>?_)<;>simp (disch:=omega) [*])
    | (refine BrK.mk (fun h=>?_) (fun h=>?_)<;>simp (disch:=omega) [*]))
   all_goals
    first
    | (have hq:hdr b.toNat=(2,b.toNat - 192,128):=by unfold hdr; rw [if_pos (by omega)])
    | (have hq:hdr b.toNat=(3,b.toNat - 224,2048):=by unfold hdr; rw [if_neg (by omega),if_pos (by omega)])
    | (have hq:hdr b.toNat=(4,b.toNat - 240,65536):=by unfold hdr; rw [if_neg (by omega),if_neg (by omega),if_pos (by omega)])
    | (have hq:hdr b.toNat=(0,0,0):=by unfold hdr; rw [if_neg (by omega),if_neg (by omega),if_neg (by omega)])
    by_cases h0:(hdr b.toNat).1=0
    · first
      | (have h0:=hz.out h0; simp [h0]; done)
      | (exfalso; rw [hq] at h0; simp at h0; done)
    by_cases h1:t.length + 1 < (hdr b.toNat).1
    · first
      | (have h0:=hs.out h1; simp [h0]; done)
      | (exfalso; rw [hq] at h1; simp at h1; omega)
    first
    | (exfalso; rw [hq] at h0; exact h0 rfl)
    | (exfalso; rw [hq] at h1; simp only at h1; omega)
    | skip
   all_goals
    obtain ⟨n,hn⟩:∃ n:Nat,n=(hdr b.toNat).1:=⟨_,rfl⟩
    obtain ⟨v0,hv⟩:∃ n:Nat,n=(hdr b.toNat).2.1:=⟨_,rfl⟩
    obtain ⟨le,hl⟩:∃ n:Nat,n=(hdr b.toNat).2.2:=⟨_,rfl⟩
    rw [←hn,←hv,←hl] at hok hr
    rw [hq] at hn hv hl
    simp only at hn hv hl
    have hok:=hok.out (by omega) (by omega)
    have htl:(t.take (n - 1)).length=n - 1:=by rw [List.length_take]; omega
    refine aI (fun (q:Nat × Nat)=>⟨[(0,.seq 1 ((b::t).map bV)),(5,.int .i64 n),(6,.int .i64 q.2),(7,.int .i64 le),(8,.int .i64 ((q.1:Int) + 1))],[]⟩)
     (fun q=>q.1≤(t.take (n - 1)).length∧pD n le (goV ((t.take (n - 1)).drop q.1) q.2)=R∧((q.1=0∧q.2 < 64)∨(q.1=1∧q.2 < 4096)∨(q.1=2∧q.2 < 262144)∨(q.1=3∧q.2 < 16777216))) (fun q=>(t.take (n - 1)).length - q.1) [] _ (0,v0) rfl (by simp [hn,hv,hl]; omega) (by simp [hok]; omega) ?_
    have hn24:2≤n∧n≤4∧le≤65536:=by omega
    clear hq hn hv hl
    rintro ⟨j,v⟩ ⟨hj,hi,hvb⟩ N hN
    simp only at hj hi hvb
    rcases place (t.take (n - 1)) j hj with ⟨he,hd⟩ | ⟨hlt,x,hx,hd⟩<;>rw [hd,goV] at hi
    · simp only [pD] at hi
      have bad:(v < le∨1114111 < v∨(55296≤v∧v≤57343))→R=(65533,1):=fun h=>by rw [if_pos h] at hi; exact hi.symm
      have good:¬(v < le∨1114111 < v∨(55296≤v∧v≤57343))→R=(v,n):=fun h=>by rw [if_neg h] at hi; exact hi.symm
      clear hi
      replace bad:=hid bad
      replace good:=hid good
      have hjn:j + 1=n:=by omega
      have hjn2:¬((j:Int) + 1 < n):=by omega
      simp (disch:=omega) [-List.reduceReplicate,hjn2]
      repeat' (first
       | (refine BrKd.mk (fun h=>?_) (fun h=>?_)<;>simp (disch:=omega) [*])
       | (refine BrK.mk (fun h=>?_) (fun h=>?_)<;>simp (disch:=omega) [*]))
      all_goals first
       | (rw [bad.out (by omega)]; simp; done)
       | (rw [good.out (by omega)]; simp; done)
    · have hx2:t[j]?=some x:=by rw [List.getElem?_take] at hx; simpa [show j < n - 1 by omega] using hx
      have hxb:=x.toNat_lt
      have hjn2:(j:Int) + 1 < n:=by omega
      replace hi:=hid hi
      simp (disch:=omega) [-List.reduceReplicate,hx2,hjn2]
      refine ah (s9 x) rfl fun _=>?_
      simp (disch:=omega) [-List.reduceReplicate]
      refine BrK.mk (fun h=>?_) (fun h=>?_)
      · have hf:=EB h
        simp (disch:=omega) [-List.reduceReplicate,hx2]
        have hi:=hi.out
        rw [if_pos h] at hi
        refine hN.out _<|Nx.mk (j + 1,64 * v + x.toNat - 128) (by simp; omega) ⟨by simp only; omega,hi,by simp only; omega⟩ (by simp only; omega)
      · simp (disch:=omega) [-List.reduceReplicate]
        have hi:=hi.out
        rw [if_neg (by simp [h])] at hi
        simp [←hi,pD]
def fo:Nat→Str→List Nat
 | 0,_=>[]
 | _,[]=>[]
 | f + 1,b::t=>(one (b::t)).1::fo f ((b::t).drop (one (b::t)).2)
def cK (s:Str):List Nat:=fo s.length s
theorem DP:∀ (f:Nat) (s:Str),s.length≤f→fo f s=cK s:=by
 have key:∀ (n f g:Nat) (s:Str),s.length≤n→s.length≤f→s.length≤g→fo f s=fo g s:=by
  intro n
  induction n with
  | zero=>intro f g s h1 _ _; have:s=[]:=List.eq_nil_of_length_eq_zero (by omega); subst this; cases f<;>cases g<;>rfl
  | succ n ih=>
    intro f g s h1 h2 h3
    cases s with
    | nil=>cases f<;>cases g<;>rfl
    | cons b t=>
      cases f with
      | zero=>simp at h2
      | succ f=>cases g with
        | zero=>simp at h3
        | succ g=>
          simp only [fo]
          have:=fq (b::t)
          simp only [List.length_cons] at h1 h2 h3
          rw [ih f g _ (by simp; omega) (by simp; omega) (by simp; omega)]
 intro f s h
 exact key s.length f s.length s (Nat.le_refl _) h (Nat.le_refl _)
theorem dW (b:UInt8) (t:Str):cK (b::t)=(one (b::t)).1::cK ((b::t).drop (one (b::t)).2):=by
 have:=fq (b::t)
 rw [←DP t.length ((b::t).drop (one (b::t)).2) (by simp; omega)]
 rfl
theorem xZ:∀ (n:Nat) (s:Str),s.length≤n→(cK s).length≤s.length:=by
 intro n
 induction n with
 | zero=>intro s h; have:s=[]:=List.eq_nil_of_length_eq_zero (by omega); subst this; simp [cK,fo]
 | succ n ih=>
   intro s h
   cases s with
   | nil=>simp [cK,fo]
   | cons b t=>
     have h1:=fq (b::t)
     rw [dW]
     simp only [List.length_cons] at h ⊢
     have:=ih ((b::t).drop (one (b::t)).2) (by simp; omega)
     simp at this; omega
theorem xY:∀ (n:Nat) (s:Str),s.length≤n→∀ r∈cK s,r≤1114111∧¬(55296≤r∧r≤57343):=by
 intro n
 induction n with
 | zero=>intro s h r hr; have:s=[]:=List.eq_nil_of_length_eq_zero (by omega); subst this; simp [cK,fo] at hr
 | succ n ih=>
   intro s h r hr
   cases s with
   | nil=>simp [cK,fo] at hr
   | cons b t=>
     have h1:=fq (b::t)
     rw [dW] at hr
     simp only [List.length_cons] at h
     rcases List.mem_cons.1 hr with rfl | hr
     · exact h1.2.2.2
     · exact ih _ (by simp; omega) r hr
def rV (r:Nat):V:=.int .i32 r
theorem rV_eq (r:Nat):rV r=.int .i32 r:=rfl
attribute [simp] rV_eq
theorem xC (s:Str) (hs:s.length≤1000000):FnN Tryz.prog wa [.seq 1 (s.map bV)] (.seq 1 ((cK s).map rV)):=by
 refine FnN.of_image mixed xg wJ rfl fun ho=>?_
 unfold nF
 clear ho
 simp (disch:=omega) [-List.reduceReplicate]
 generalize hw:cK s=w
 refine aI (fun (q:Nat × List Nat)=>⟨[(0,.seq 1 (s.map bV)),(3,.ref 0 q.2.length),(4,.int .i64 q.1)],[some (.arr jg 1 (q.2.map rV))]⟩)
  (fun q=>q.1≤s.length∧q.2.length≤q.1∧q.2++cK (s.drop q.1)=w) (fun q=>s.length - q.1) [.r 3 jg 1] _ (0,[]) rfl (by simp) (by simp [←hw]) ?_
 rintro ⟨k,out⟩ ⟨hk,hol,hi⟩ N hN
 simp only at hk hol hi
 have hfl:∀ l:List Nat,c6 (l.map rV)=true:=fun l=>by induction l<;>simp [c6,dO, *]
 rcases place s k hk with ⟨he,hd⟩ | ⟨hlt,x,hx,hd⟩<;>rw [hd] at hi
 · simp [cK,fo] at hi
   subst hi
   simp (disch:=omega) [-List.reduceReplicate,he,hfl]
 · have h1:=fq (x::s.drop (k + 1))
   rw [dW] at hi
   have hd2:(x::s.drop (k + 1)).drop (one (x::s.drop (k + 1))).2=s.drop (k + (one (x::s.drop (k + 1))).2):=by rw [←hd,List.drop_drop]
   rw [hd2] at hi
   have hle:=h1.2.2.1 (by simp)
   simp only [List.length_cons,List.length_drop] at hle
   replace hi:=hid hi
   have hsl:qP (s.map bV) k s.length=some ((x::s.drop (k + 1)).map bV):=by
    simp only [qP]
    rw [if_pos (by simp; omega),←hd]
    simp
    rw [List.take_of_length_le (by simp)]
   simp (disch:=omega) [hsl,-List.map_cons,-qP]
   refine ah (C2 x (s.drop (k + 1))) rfl fun _=>?_
   generalize one (x::s.drop (k + 1))=o at *
   simp (disch:=omega) [-List.reduceReplicate]
   refine hN.out _<|Nx.mk (k + o.2,out++[o.1]) (by simp) ⟨by simp only; omega,by simp; omega,by simpa using hi.out⟩ (by simp only; omega)
def b8 (n:Nat):UInt8:=UInt8.ofNat n
theorem aV {n:Nat} (h:n < 256):(b8 n).toNat=n:=by simp [b8,UInt8.toNat_ofNat,Nat.mod_eq_of_lt h]
def bD (r:Nat):Str:=
 let v:=if 1114111 < r∨(55296≤r∧r≤57343) then 65533 else r
 if v < 128 then [b8 v]
 else if v < 2048 then [b8 (192 + v / 64),b8 (128 + v % 64)]
 else if v < 65536 then [b8 (224 + v / 4096),b8 (128 + v / 64 % 64),b8 (128 + v % 64)]
 else [b8 (240 + v / 262144),b8 (128 + v / 4096 % 64),b8 (128 + v / 64 % 64),b8 (128 + v % 64)]
theorem vA (r:Nat):(bD r).length≤4:=by
 unfold bD
 simp only
 repeat' split
 all_goals simp
theorem xB (r:Nat) (h:r≤1114111):Fn Tryz.prog v8 [.int .i32 r] (.seq 1 ((bD r).map bV)):=by
 refine Fn.of_image mixed xf wI rfl fun ho=>?_
 unfold nE
 simp only [oks,ok,and_true] at ho
 clear ho
 generalize hR:bD r=R
 unfold bD at hR
 simp only at hR
 by_cases hb:1114111 < r∨(55296≤r∧r≤57343)
 · rw [if_pos hb] at hR
   simp (disch:=omega) [-List.reduceReplicate]
   repeat' (first
    | (refine BrKd.mk (fun h=>?_) (fun h=>?_)<;>simp (disch:=omega) [*])
    | (refine BrK.mk (fun h=>?_) (fun h=>?_)<;>simp (disch:=omega) [*]))
   all_goals first | omega | (subst hR; rfl)
 · rw [if_neg hb] at hR
   simp (disch:=omega) [-List.reduceReplicate]
   repeat' (first
    | (refine BrKd.mk (fun h=>?_) (fun h=>?_)<;>simp (disch:=omega) [*])
    | (refine BrK.mk (fun h=>?_) (fun h=>?_)<;>simp (disch:=omega) [*]))
   all_goals (subst hR; simp (disch:=omega) [aV])
def dj (l:List Nat):Str:=(l.map bD).flatten
theorem xU:∀ l:List Nat,(dj l).length≤4 * l.length
 | []=>by simp [dj]
 | r::l=>by
   have h1:=vA r
   have h2:=xU l
   simp only [dj,List.map_cons,List.flatten_cons,List.length_append,List.length_cons] at *
   omega
theorem pE:∀ s:Str,bO (s.map bV)=some s
 | []=>rfl
 | b::s=>by
   have:=pE s
   simp only [List.map_cons,Kr,bO,this,Option.map_some,Option.some.injEq,List.cons.injEq,and_true]
   simp
attribute [simp] pE
theorem AI (l:List Nat) (hl:l.length≤1000000) (hr:∀ r∈l,r≤1114111):Fn Tryz.prog zF [.seq 1 (l.map rV)] (.str (dj l)):=by
 refine Fn.of_image mixed As Ac rfl fun ho=>?_
 unfold qw
 simp only [oks,ok,and_true] at ho
 clear ho
 simp (disch:=omega) [-List.reduceReplicate]
 generalize hw:dj l=w
 refine aI (fun (q:Nat × Str)=>⟨[(0,.seq 1 (l.map rV)),(3,.ref 0 q.2.length),(4,.int .i64 q.1)],[some (.arr o9 1 (q.2.map bV))]⟩)
  (fun q=>q.1≤l.length∧q.2.length≤4 * q.1∧q.2++dj (l.drop q.1)=w) (fun q=>l.length - q.1) [.r 3 o9 1] _ (0,[]) rfl (by simp) (by simp [←hw]) ?_
 rintro ⟨k,out⟩ ⟨hk,hol,hi⟩ N hN
 simp only at hk hol hi
 rcases place l k hk with ⟨he,hd⟩ | ⟨hlt,x,hx,hd⟩<;>rw [hd] at hi
 · simp [dj] at hi
   subst hi
   simp (disch:=omega) [he,-Kr]
 · simp only [dj,List.map_cons,List.flatten_cons] at hi
   have hxl:=vA x
   replace hi:=hid hi
   simp (disch:=omega) [-List.reduceReplicate,hx]
   refine aA (xB x (hr x (List.mem_of_getElem? hx))) (by simp) fun _=>?_
   simp (disch:=omega) [-List.reduceReplicate]
   refine hN.out _<|Nx.mk (k + 1,out++bD x) (by simp) ⟨by simp only; omega,by simp; omega,by simpa [dj] using hi.out⟩ (by simp only; omega)
def fS:Option Nat→List Nat→List Nat
 | _,[]=>[]
 | p,r::l=>(if r=10∧p=some 13 then [] else [if r=13 then 10 else if r=0 then 65533 else r])++fS (some r) l
theorem CU:∀ (l:List Nat) (p:Option Nat),(fS p l).length≤l.length
 | [],p=>by simp [fS]
 | r::l,p=>by
   have:=CU l (some r)
   simp only [fS,List.length_append,List.length_cons]
   split<;>simp<;>omega
theorem CT:∀ (l:List Nat) (p:Option Nat),(∀ r∈l,r≤1114111)→∀ r∈fS p l,r≤1114111
 | [],p,_,r,hr=>by simp [fS] at hr
 | x::l,p,h,r,hr=>by
   simp only [fS,List.mem_append] at hr
   rcases hr with hr | hr
   · have:=h x (by simp)
     split at hr
     · cases hr
     · simp at hr; subst hr; split<;>(try split)<;>omega
   · exact CT l _ (fun y hy=>h y (by simp [hy])) r hr
def cq (s:Str):Str:=dj (fS none (cK s))
def kq (l:List Nat) (k:Nat):Option Nat:=if k=0 then none else l[k - 1]?
theorem i9 (s:Str) (hs:s.length≤1000000):Fn Tryz.prog wb [.seq 1 (s.map bV)] (.str (cq s)):=by
 refine Fn.of_image mixed xh wK rfl fun ho=>?_
 unfold nG
 simp only [oks,ok,and_true] at ho
 clear ho
 have hrl:=xZ s.length s (Nat.le_refl _)
 have hrm:=xY s.length s (Nat.le_refl _)
 simp (disch:=omega) [-List.reduceReplicate]
 refine FW (xC s hs) fun _=>?_
 unfold cq
 generalize cK s=l at *
 simp (disch:=omega) [-List.reduceReplicate]
 generalize hw:fS none l=w
 have hwm:=CT l none (fun r hr=>(hrm r hr).1)
 rw [hw] at hwm
 refine aI (fun (q:Nat × List Nat)=>⟨[(3,.seq 1 (l.map rV)),(4,.ref 0 q.2.length),(5,.int .i64 q.1)],[some (.arr jg 1 (q.2.map rV))]⟩)
  (fun q=>q.1≤l.length∧q.2.length≤q.1∧q.2++fS (kq l q.1) (l.drop q.1)=w) (fun q=>l.length - q.1) [.r 4 jg 1] _ (0,[]) rfl (by simp) (by simp [←hw,kq]) ?_
 rintro ⟨k,out⟩ ⟨hk,hol,hi⟩ N hN
 simp only at hk hol hi
 rcases place l k hk with ⟨he,hd⟩ | ⟨hlt,x,hx,hd⟩<;>rw [hd] at hi
 · simp [fS] at hi
   subst hi
   simp (disch:=omega) [-List.reduceReplicate,he]
   refine ah (AI out (by omega) hwm) rfl fun _=>?_
   simp (disch:=omega) [-List.reduceReplicate]
 · have hp1:kq l (k + 1)=some x:=by simp [kq,hx]
   simp only [fS,←hp1] at hi
   have skip:(x=10∧kq l k=some 13)→out++fS (kq l (k + 1)) (l.drop (k + 1))=w:=fun h=>by rw [if_pos h] at hi; simpa using hi
   have put:¬(x=10∧kq l k=some 13)→(out++[if x=13 then 10 else if x=0 then 65533 else x])++fS (kq l (k + 1)) (l.drop (k + 1))=w:=fun h=>by rw [if_neg h] at hi; simpa using hi
   clear hi
   replace skip:=hid skip
   replace put:=hid put
   have hxr:=(hrm x (List.mem_of_getElem? hx)).1
   have fin:∀ τ:St,∀ o2:List Nat,τ.nrm [3,4,5]=⟨[(3,.seq 1 (l.map rV)),(4,.ref 0 o2.length),(5,.int .i64 ((k + 1:Nat):Int))],[some (.arr jg 1 (o2.map rV))]⟩→o2.length≤k + 1→o2++fS (kq l (k + 1)) (l.drop (k + 1))=w→N τ:=by
    intro τ o2 h1 h2 h3
    exact hN.out _<|Nx.mk (k + 1,o2) h1 ⟨by simp only; omega,h2,h3⟩ (by simp only; omega)
   by_cases h10:x=10
   · subst h10
     rcases Nat.eq_zero_or_pos k with hk0 | hk0
     · subst hk0
       simp (disch:=omega) [-List.reduceReplicate,hx]
       exact fin _ (out++[10]) (by simp) (by simp only [List.length_append,List.length_cons,List.length_nil]; omega) (by simpa using put.out (by simp [kq]))
     · obtain ⟨y,hy⟩:=fw (l:=l) (k:=k - 1) (by omega)
       have hkt:((k:Int) - 1).toNat=k - 1:=by omega
       simp (disch:=omega) [-List.reduceReplicate,hx,hy,hkt]
       refine BrKd.mk (fun h=>?_) (fun h=>?_)
       · simp (disch:=omega) [-List.reduceReplicate,hx]
         exact fin _ out (by simp) (by omega) (skip.out ⟨rfl,by simp [kq,hy]; omega⟩)
       · simp (disch:=omega) [-List.reduceReplicate,hx]
         exact fin _ (out++[10]) (by simp) (by simp; omega) (by simpa using put.out (by simp [kq,hy]; omega))
   · by_cases h13:x=13
     · subst h13
       simp (disch:=omega) [-List.reduceReplicate,hx]
       exact fin _ (out++[10]) (by simp) (by simp; omega) (by simpa using put.out (by simp))
     · by_cases h0:x=0
       · subst h0
         simp (disch:=omega) [-List.reduceReplicate,hx]
         exact fin _ (out++[65533]) (by simp) (by simp; omega) (by simpa using put.out (by simp))
       · simp (disch:=omega) [-List.reduceReplicate,hx,h10,h13,h0]
         exact fin _ (out++[x]) (by simp) (by simp; omega) (by simpa [h13,h0] using put.out (by simp [h10]))
theorem EH (s:Str) (hs:s.length≤1000000):Fn Tryz.prog D5 [.str s] (.bool (decide (cq s=s))):=by
 refine Fn.of_image mixed Es El rfl fun ho=>?_
 unfold vu
 simp only [oks,ok,and_true] at ho
 simp (disch:=omega) [-List.reduceReplicate]
 refine ah (by simpa using i9 s hs) rfl fun _=>?_
 simp (disch:=omega) [-List.reduceReplicate]
def m9 (s:Str):Str:=s.take 30
theorem iT (s:Str):Fn Tryz.prog BR [.str s] (.str (m9 s)):=by
 refine Fn.of_image mixed Cz Ch rfl fun ho=>?_
 unfold sq
 simp only [oks,ok,and_true] at ho
 simp (disch:=omega) [-List.reduceReplicate,m9]
 refine BrKd.mk (fun h=>?_) (fun h=>?_)
 · simp (disch:=omega) [-List.reduceReplicate,h]
 · simp (disch:=omega) [-List.reduceReplicate,h]
   rw [List.take_of_length_le (by omega)]
def G0 (a:Attr):Attr:=⟨m9 a.name,m9 a.value⟩
mutual
def J8:Node→Nat→List Node × Nat
 | ⟨_,_,_,_,ks⟩,m=>cW ks m
def cW:List Node→Nat→List Node × Nat
 | [],m=>([],m)
 | n::l,m=>if m=0 then ([],0) else
   (⟨n.kind,m9 n.name,(n.attrs.take 5).map G0,m9 n.text,(J8 n (m - 1)).1⟩::(cW l (J8 n (m - 1)).2).1,(cW l (J8 n (m - 1)).2).2)
end
theorem tE (n:Node) (m:Nat):J8 n m=cW n.kids m:=by cases n; simp [J8]
theorem qk:∀ (l:List Node) (m:Nat),ai (cW l m).1 + (cW l m).2≤m:=by
 refine ay (fun m=>by simp [cW,ai]) ?_
 intro n l h1 h2 m
 simp only [cW,tE]
 split
 · simp [ai]
 · have g1:=h1 (m - 1)
   have g2:=h2 (cW n.kids (m - 1)).2
   simp only [ai,jA]
   omega
theorem cX:∀ l:List Node,l.length≤ai l
 | []=>by simp [ai]
 | n::l=>by have:=cX l; simp [ai,ql]; omega
theorem C0:∀ (l:List Node) (m:Nat),m≤1000→Fn Tryz.prog iN [.seq 5 (l.map Node.v),.int .i64 m] (.tup [.seq 5 ((cW l m).1.map Node.v),.int .i64 (cW l m).2]):=by
 have key:∀ l:List Node,(∀ n∈l,∀ m:Nat,m≤1000→Fn Tryz.prog iN [.seq 5 (n.kids.map Node.v),.int .i64 m] (.tup [.seq 5 ((cW n.kids m).1.map Node.v),.int .i64 (cW n.kids m).2]))→
  ∀ m:Nat,m≤1000→Fn Tryz.prog iN [.seq 5 (l.map Node.v),.int .i64 m] (.tup [.seq 5 ((cW l m).1.map Node.v),.int .i64 (cW l m).2]):=by
  intro l hrec m hm
  refine Fn.of_image mixed CB Cj rfl fun ho=>?_
  unfold su
  simp only [oks,ok,and_true] at ho
  have hlen:l.length≤140737488355328:=by have:=ho.1; simp at this; exact this.1
  clear ho
  simp (disch:=omega) [-List.reduceReplicate]
  generalize hR:cW l m=R
  refine aI (fun (q:Nat × Nat × List Node)=>⟨[(0,.seq 5 (l.map Node.v)),(1,.int .i64 q.2.1),(6,.ref 0 q.2.2.length),(7,.int .i64 q.1)],[some (.arr aC 5 (q.2.2.map Node.v))]⟩)
   (fun q=>q.1≤l.length∧q.2.2.length + q.2.1≤1000∧(q.2.2++(cW (l.drop q.1) q.2.1).1,(cW (l.drop q.1) q.2.1).2)=R) (fun q=>l.length - q.1) [.r 6 aC 5] _ (0,m,[]) rfl (by simp) (by simp [hR]; omega) ?_
  rintro ⟨k,m,out⟩ ⟨hk,hol,hi⟩ N hN
  simp only at hk hol hi
  rcases place l k hk with ⟨he,hd⟩ | ⟨hlt,x,hx,hd⟩<;>rw [hd] at hi
  · simp [cW] at hi
    subst hi
    simp (disch:=omega) [-List.reduceReplicate,he]
  · simp only [cW,tE] at hi
    rcases Nat.eq_zero_or_pos m with hm0 | hm0
    · subst hm0
      simp at hi
      subst hi
      simp (disch:=omega) [-List.reduceReplicate]
    · rw [if_neg (by omega)] at hi
      have hxc:=qk x.kids (m - 1)
      replace hi:=hid hi
      simp (disch:=omega) [-List.reduceReplicate,hx]
      refine ah (iT _) rfl fun _=>?_
      simp (disch:=omega) [-List.reduceReplicate]
      refine ah (iT _) rfl fun _=>?_
      simp (disch:=omega) [-List.reduceReplicate]
      have hm1:((m:Int) - 1)=((m - 1:Nat):Int):=by omega
      rw [hm1]
      refine aA (hrec x (List.mem_of_getElem? hx) (m - 1) (by omega)) (by simp) fun _=>?_
      generalize cW x.kids (m - 1)=ck at *
      simp (disch:=omega) [-List.reduceReplicate]
      have hl5:(List.take 5 x.attrs).length=min 5 x.attrs.length:=List.length_take
      refine aI (fun (q:Nat)=>⟨[(0,.seq 5 (l.map Node.v)),(1,.int .i64 ck.2),(6,.ref 0 out.length),(7,.int .i64 k),(8,.ptr 1 0),(9,.ref 2 ((x.attrs.take 5).take q).length),(10,.int .i64 q)],
       [some (.arr aC 5 (out.map Node.v)),some (.box [.int .i64 x.kind,.str (m9 x.name),.seq 2 (x.attrs.map Attr.v),.str (m9 x.text),.seq 5 (ck.1.map Node.v)]),some (.arr bK 2 ((((x.attrs.take 5).take q).map G0).map Attr.v))]⟩)
       (fun q=>q≤(x.attrs.take 5).length) (fun q=>(x.attrs.take 5).length - q) [.r 9 bK 2] _ 0 rfl (by simp) (by simp) ?_
      rintro j hj N2 hN2
      have hjl:((x.attrs.take 5).take j).length=j:=by rw [List.length_take]; omega
      rcases place (x.attrs.take 5) j hj with ⟨he2,hd2⟩ | ⟨hlt2,y,hy,hd2⟩
      · have htk:(x.attrs.take 5).take j=x.attrs.take 5:=List.take_of_length_le (by omega)
        rw [htk] at hjl ⊢
        have hjj:(j < x.attrs.length∧j=5)∨j=x.attrs.length:=by omega
        rcases hjj with hjj | hjj
        all_goals
         simp (disch:=omega) [-List.reduceReplicate,hjj,hjl]
         refine hN.out _<|Nx.mk (k + 1,ck.2,out++[⟨x.kind,m9 x.name,(x.attrs.take 5).map G0,m9 x.text,ck.1⟩]) (by simp) ⟨by simp only; omega,by simp; omega,by simpa using hi.out⟩ (by simp only; omega)
      · have hy2:x.attrs[j]?=some y:=by rw [List.getElem?_take] at hy; simpa [show j < 5 by omega] using hy
        rw [hjl]
        simp (disch:=omega) [-List.reduceReplicate,hy2,hjl]
        refine bw (iT _) rfl ?_
        simp (disch:=omega) [-List.reduceReplicate,hy2,hjl]
        refine bw (iT _) rfl ?_
        simp (disch:=omega) [-List.reduceReplicate,hy2,hjl]
        refine hN2.out _<|Nx.mk (j + 1) ?_ (by omega) (by omega)
        have hjl2:((x.attrs.take 5).take (j + 1)).length=j + 1:=by rw [List.length_take]; omega
        rw [hjl2,fk hy]
        simp [G0]
 have all:∀ l:List Node,∀ n∈l,∀ m:Nat,m≤1000→Fn Tryz.prog iN [.seq 5 (n.kids.map Node.v),.int .i64 m] (.tup [.seq 5 ((cW n.kids m).1.map Node.v),.int .i64 (cW n.kids m).2]):=by
  refine ay (fun x hx=>by cases hx) ?_
  intro n l h1 h2 x hx
  rcases List.mem_cons.1 hx with rfl | hx
  · exact key _ h1
  · exact h2 x hx
 exact fun l=>key l (all l)
theorem CZ (l:List Node):Fn Tryz.prog BS [.seq 5 (l.map Node.v)] (.seq 5 ((cW l 40).1.map Node.v)):=by
 refine Fn.of_image mixed CA Ci rfl fun ho=>?_
 unfold sr
 simp only [oks,ok,and_true] at ho
 clear ho
 simp (disch:=omega) [-List.reduceReplicate]
 refine aA (C0 l 40 (by omega)) (by simp) fun _=>?_
 simp (disch:=omega) [-List.reduceReplicate]
def Fo:List Str:=[[97],[98],[112],[117,108],[108,105],[98,114],[105,109,103],[100,105,118],[115,99,114,105,112,116],[120,45,121]]
def oW (s:Str):Str:=if named s then s else (Fo[Bi s % 10]?).getD []
theorem AF (s:Str) (hs:s.length≤1000000):Fn Tryz.prog zD [.str s] (.str (oW s)):=by
 refine Fn.of_image mixed Ap z8 rfl fun ho=>?_
 unfold qt
 simp only [oks,ok,and_true] at ho
 clear ho
 simp (disch:=omega) [-List.reduceReplicate]
 refine aI (fun (p:Nat × Nat)=>⟨[(0,.str s),(3,.seq 1 (Fo.map .str)),(4,.int .i64 p.2),(5,.int .i64 p.1)],[]⟩)
  (fun p=>p.1≤s.length∧p.2≤255 * p.1∧p.2 + Bi (s.drop p.1)=Bi s) (fun p=>s.length - p.1) [] _ (0,0) rfl (by simp [Fo]) (by simp) ?_
 rintro ⟨k,n⟩ ⟨hk,hn,hi⟩ N hN
 simp only at hk hn hi
 rcases place s k hk with ⟨he,hd⟩ | ⟨hlt,x,hx,hd⟩<;>rw [hd,Bi] at hi
 · have hm:n % 10 < 10:=Nat.mod_lt _ (by decide)
   have ht:((n:Int) % 10).toNat=n % 10:=by omega
   obtain ⟨y,hy⟩:=fw (l:=Fo) (k:=n % 10) hm
   have hpl:Fo.length=10:=rfl
   simp only [Nat.add_zero] at hi
   simp (disch:=omega) [-List.reduceReplicate,he]
   refine ah (xz s) rfl fun _=>?_
   simp (disch:=omega) [-List.reduceReplicate]
   refine BrK.mk (fun h=>?_) (fun h=>?_)
   · simp (disch:=omega) [-List.reduceReplicate]
     simp [oW,h]
   · simp (disch:=omega) [-List.reduceReplicate,hpl,ht,hy]
     simp [oW,h,←hi,hy]
 · have hx8:=x.toNat_lt
   simp (disch:=omega) [-List.reduceReplicate,hx]
   refine hN.out _<|Nx.mk (k + 1,n + x.toNat) (by simp) ⟨by simp only; omega,by simp only; omega,by simp only; omega⟩ (by simp only; omega)
def dE (b:UInt8):Bool:=(decide (65≤b.toNat) && decide (b.toNat≤90)) || (decide (b.toNat=9) || (decide (b.toNat=10) || (decide (b.toNat=12) || (decide (b.toNat=32) || (decide (b.toNat=47) || (decide (b.toNat=62) || decide (b.toNat=61)))))))
def bR (s:Str):Bool:=s.all (fun b=>!dE b) && (decide (cq s=s) && decide (0 < s.length))
theorem oJ (s:Str) (hs:s.length≤1000000):Fn Tryz.prog oh [.str s] (.bool (bR s)):=by
 refine Fn.of_image mixed oB ov rfl fun ho=>?_
 unfold ip
 simp only [oks,ok,and_true] at ho
 clear ho
 simp (disch:=omega) [-List.reduceReplicate]
 refine ah (EH s hs) rfl fun _=>?_
 simp (disch:=omega) [-List.reduceReplicate]
 generalize hr:bR s=r
 refine aI (fun k:Nat=>⟨[(0,.str s),(3,.bool (decide (cq s=s))),(4,.int .i64 k)],[]⟩) (fun k=>k≤s.length∧((s.drop k).all (fun b=>!dE b) && (decide (cq s=s) && decide (0 < s.length)))=r) (fun k=>s.length - k) [] _ 0 rfl (by simp [*]) (by simp [*,←hr,bR]) ?_
 rintro k ⟨hk,hi⟩ N hN
 rcases place s k hk with ⟨he,hd⟩ | ⟨hlt,x,hx,hd⟩<;>rw [hd] at hi<;>replace hi:=hid hi
 · have hi:=hi.out
   simp (disch:=omega) [-List.reduceReplicate,he]
   repeat' (first | (refine BrKd.mk (fun h=>?_) (fun h=>?_)<;>simp (disch:=omega) [*]) | (refine BrK.mk (fun h=>?_) (fun h=>?_)<;>simp (disch:=omega) [*]))
   all_goals (first | simpa [*] using hi | (simp [*] at hi; simp [←hi, *]))
 · simp only [List.all_cons] at hi
   have no:dE x=true→r=false:=fun h=>by have hi:=hi.out; simpa [h] using hi.symm
   have go:dE x=false→((s.drop (k + 1)).all (fun b=>!dE b) && (decide (cq s=s) && decide (0 < s.length)))=r:=fun h=>by have hi:=hi.out; rw [h] at hi; simpa using hi
   replace no:=hid no
   replace go:=hid go
   simp (disch:=omega) [-List.reduceReplicate,hx]
   repeat' (first | (refine BrKd.mk (fun h=>?_) (fun h=>?_)<;>simp (disch:=omega) [*]) | (refine BrK.mk (fun h=>?_) (fun h=>?_)<;>simp (disch:=omega) [*]))
   all_goals first
    | (refine hN.out _<|Nx.mk (k + 1) (by simp [*]) ⟨by omega,go.out ?_⟩ (by omega); simp [dE, *]; done)
    | (refine hN.out _<|Nx.mk (k + 1) (by simp [*]) ⟨by omega,go.out ?_⟩ (by omega); unfold dE; simp; omega)
    | (rw [no.out ?_]; simp [dE, *]; done)
    | (refine (no.out ?_); simp [dE, *]; done)
    | (refine (no.out ?_).symm; simp [dE, *]; done)
def I8:List Str:=[[105,100],[104,114,101,102],[116,105,116,108,101],[100,97,116,97,45,97],[111,110,99,108,105,99,107]]
def bE (s:Str):Str:=if bR s then s else (I8[s.length % 5]?).getD []
theorem qd (s:Str) (hs:s.length≤1000000):Fn Tryz.prog pJ [.str s] (.str (bE s)):=by
 refine Fn.of_image mixed p4 pU rfl fun ho=>?_
 unfold iW
 simp only [oks,ok,and_true] at ho
 clear ho
 simp (disch:=omega) [-List.reduceReplicate]
 refine ah (oJ s hs) rfl fun _=>?_
 simp (disch:=omega) [-List.reduceReplicate]
 have hm:s.length % 5 < 5:=Nat.mod_lt _ (by decide)
 have ht:((s.length:Int) % 5).toNat=s.length % 5:=by omega
 obtain ⟨y,hy⟩:=fw (l:=I8) (k:=s.length % 5) hm
 have hy2:([.str [105,100],.str [104,114,101,102],.str [116,105,116,108,101],.str [100,97,116,97,45,97],.str [111,110,99,108,105,99,107]]:List V)[s.length % 5]?=some (.str y):=by
  have:(I8.map V.str)[s.length % 5]?=some (.str y):=by rw [List.getElem?_map,hy]; rfl
  exact this
 refine BrK.mk (fun h=>?_) (fun h=>?_)
 · simp (disch:=omega) [-List.reduceReplicate]
   simp [bE,h]
 · simp (disch:=omega) [-List.reduceReplicate,ht,hy2]
   simp [bE,h,hy]
def am:List Node→List Node→List Node
 | out,[]=>out
 | out,n::l=>
   if n.kind=2∧n.text=[] then am out l
   else match out[out.length - 1]? with
    | some o=>if n.kind=2∧o.kind=2 then am (out.set (out.length - 1) ⟨o.kind,o.name,o.attrs,o.text++n.text,o.kids⟩) l else am (out++[n]) l
    | none=>am (out++[n]) l
def aZ (l:List Node):List Node:=am [] l
theorem xA (l:List Node) (hl:l.length≤1000000) (ht:∀ n∈l,n.text.length≤1000000):Fn Tryz.prog v7 [.seq 5 (l.map Node.v)] (.seq 5 ((aZ l).map Node.v)):=by
 refine Fn.of_image mixed xe wH rfl fun ho=>?_
 unfold nD
 simp only [oks,ok,and_true] at ho
 clear ho
 simp (disch:=omega) [-List.reduceReplicate]
 generalize hw:aZ l=w
 refine aI (fun (q:Nat × List Node)=>⟨[(0,.seq 5 (l.map Node.v)),(3,.ref 0 q.2.length),(4,.int .i64 q.1)],[some (.arr aC 5 (q.2.map Node.v))]⟩)
  (fun q=>q.1≤l.length∧q.2.length≤q.1∧(∀ n∈q.2,n.text.length≤1000000 * q.1)∧am q.2 (l.drop q.1)=w) (fun q=>l.length - q.1) [.r 3 aC 5] _ (0,[]) rfl (by simp) (by simp [←hw,aZ]) ?_
 rintro ⟨k,out⟩ ⟨hk,hol,htx,hi⟩ N hN
 simp only at hk hol htx hi
 rcases place l k hk with ⟨he,hd⟩ | ⟨hlt,x,hx,hd⟩<;>rw [hd] at hi
 · simp [am] at hi
   subst hi
   simp (disch:=omega) [-List.reduceReplicate,he]
 · have hxt:=ht x (List.mem_of_getElem? hx)
   simp only [am] at hi
   by_cases h2:x.kind=2
   · by_cases ht0:x.text=[]
     · rw [if_pos ⟨h2,ht0⟩] at hi
       replace hi:=hid hi
       simp (disch:=omega) [-List.reduceReplicate,hx,h2,ht0]
       refine hN.out _<|Nx.mk (k + 1,out) (by simp) ⟨by simp only; omega,by simp only; omega,fun n hn=>by have:=htx n hn; simp only; omega,hi.out⟩ (by simp only; omega)
     · rw [if_neg (fun h=>ht0 h.2)] at hi
       rcases Nat.eq_zero_or_pos out.length with h0 | h0
       · have ho0:out=[]:=List.eq_nil_of_length_eq_zero h0
         subst ho0
         simp only [List.getElem?_nil,List.nil_append] at hi
         replace hi:=hid hi
         simp (disch:=omega) [-List.reduceReplicate,hx,h2,ht0]
         refine hN.out _<|Nx.mk (k + 1,[x]) (by simp [h2]) ⟨by simp only; omega,by simp,fun n hn=>by simp at hn; subst hn; simp only; omega,hi.out⟩ (by simp only; omega)
       · obtain ⟨o,ho⟩:=fw (l:=out) (k:=out.length - 1) (by omega)
         rw [ho] at hi
         simp only at hi
         have hot:=htx o (List.mem_of_getElem? ho)
         have hoz:((out.length:Int) - 1).toNat=out.length - 1:=by omega
         replace hi:=hid hi
         simp (disch:=omega) [-List.reduceReplicate,hx,h2,ht0,hoz,ho]
         refine BrKd.mk (fun hk2=>?_) (fun hk2=>?_)
         · simp (disch:=omega) [-List.reduceReplicate,hx,h2,ht0,hoz,ho,hk2]
           have hi:=hi.out
           rw [if_pos ⟨h2,hk2⟩] at hi
           refine hN.out _<|Nx.mk (k + 1,out.set (out.length - 1) ⟨o.kind,o.name,o.attrs,o.text++x.text,o.kids⟩) (by simp [List.map_set,hk2]) ⟨by simp only; omega,by simp; omega,?_,hi⟩ (by simp only; omega)
           intro n hn
           rcases List.mem_or_eq_of_mem_set hn with hn | rfl
           · have:=htx n hn; simp only; omega
           · simp only [List.length_append]; omega
         · simp (disch:=omega) [-List.reduceReplicate,hx,h2,ht0,hoz,ho,hk2]
           have hi:=hi.out
           rw [if_neg (fun h=>hk2 h.2)] at hi
           refine hN.out _<|Nx.mk (k + 1,out++[x]) (by simp [h2]) ⟨by simp only; omega,by simp; omega,?_,hi⟩ (by simp only; omega)
           intro n hn
           simp only [List.mem_append,List.mem_singleton] at hn
           rcases hn with hn | rfl
           · have:=htx n hn; simp only; omega
           · simp only; omega
   · rw [if_neg (fun h=>h2 h.1)] at hi
     have hi2:am (out++[x]) (l.drop (k + 1))=w:=by
      split at hi
      · rw [if_neg (fun h=>h2 h.1)] at hi; exact hi
      · exact hi
     clear hi
     replace hi2:=hid hi2
     simp (disch:=omega) [-List.reduceReplicate,hx,h2]
     refine hN.out _<|Nx.mk (k + 1,out++[x]) (by simp) ⟨by simp only; omega,by simp; omega,?_,hi2.out⟩ (by simp only; omega)
     intro n hn
     simp only [List.mem_append,List.mem_singleton] at hn
     rcases hn with hn | rfl
     · have:=htx n hn; simp only; omega
     · simp only; omega
end Go.Abs.F
end
section
namespace Go.Abs.F
open Go.Proofs
attribute [-simp] getElem?_pos Option.not_isSome List.map_map
def kw (k:Int):Int:=if k < 1∨3 < k then 1 else k
def ic:List Attr→List Attr→List Attr
 | acc,[]=>acc
 | acc,a::l=>ic (if (ez acc (bE a.name)).isSome then acc else acc++[⟨bE a.name,cq a.value⟩]) l
mutual
def bG:Node→Node
 | ⟨k,nm,a,t,ks⟩=>if kw k=1 then ⟨1,oW nm,ic [] a,[],aZ (uW ks)⟩ else ⟨kw k,[],[],cq t,[]⟩
def uW:List Node→List Node
 | []=>[]
 | n::l=>bG n::uW l
end
theorem uV:∀ l:List Node,uW l=l.map bG
 | []=>by simp [uW]
 | n::l=>by simp [uW,uV l]
theorem fR (n:Node):bG n=if kw n.kind=1 then ⟨1,oW n.name,ic [] n.attrs,[],aZ (n.kids.map bG)⟩ else ⟨kw n.kind,[],[],cq n.text,[]⟩:=by
 cases n; simp [bG,uV]
def yO (n:Node):Prop:=n.name.length≤1000∧n.text.length≤1000∧n.attrs.length≤1000∧∀ a∈n.attrs,a.name.length≤1000∧a.value.length≤1000
theorem jM (s:Str):(cq s).length≤4 * s.length:=by
 have h1:=xU (fS none (cK s))
 have h2:=CU (cK s) none
 have h3:=xZ s.length s (Nat.le_refl _)
 unfold cq
 omega
theorem Ev (n:Node) (h:yO n):(bG n).text.length≤4000:=by
 rw [fR]
 split
 · simp
 · have:=jM n.text; have:=h.2.1; simp only; omega
theorem AG:∀ (l:List Node),an yO l→ai l≤1000→Fn Tryz.prog gJ [.seq 5 (l.map Node.v)] (.seq 5 ((aZ (l.map bG)).map Node.v)):=by
 have key:∀ l:List Node,(∀ n∈l,an yO n.kids→ai n.kids≤1000→Fn Tryz.prog gJ [.seq 5 (n.kids.map Node.v)] (.seq 5 ((aZ (n.kids.map bG)).map Node.v)))→
  an yO l→ai l≤1000→Fn Tryz.prog gJ [.seq 5 (l.map Node.v)] (.seq 5 ((aZ (l.map bG)).map Node.v)):=by
  intro l hrec hfi hc
  refine Fn.of_image mixed Aq Aa rfl fun ho=>?_
  unfold qu
  simp only [oks,ok,and_true] at ho
  clear ho
  have hlen:=cX l
  simp (disch:=omega) [-List.reduceReplicate]
  refine aI (fun (k:Nat)=>⟨[(0,.seq 5 (l.map Node.v)),(3,.ref 0 k),(4,.int .i64 k)],[some (.arr aC 5 (((l.take k).map bG).map Node.v))]⟩)
   (fun k=>k≤l.length) (fun k=>l.length - k) [.r 3 aC 5] _ 0 rfl (by simp) (by simp) ?_
  rintro k hk N hN
  have hkl:(l.take k).length=k:=by rw [List.length_take]; omega
  rcases place l k hk with ⟨he,hd⟩ | ⟨hlt,x,hx,hd⟩
  · have htk:l.take k=l:=List.take_of_length_le (by omega)
    rw [htk]
    simp (disch:=omega) [-List.reduceReplicate,he]
    refine tO (xA (l.map bG) (by simp; omega) (fun n hn=>?_)) fun _=>?_
    · obtain ⟨y,hy,rfl⟩:=List.mem_map.1 hn
      have:=Ev y (mN hfi hy).1
      omega
    · simp (disch:=omega) [-List.reduceReplicate]
  · have hxm:=List.mem_of_getElem? hx
    obtain ⟨hfx,hfk⟩:=mN hfi hxm
    obtain ⟨hx1,hx2,hx3,hx4⟩:=hfx
    have hcx:=mI hxm
    have fin:∀ τ:St,τ.nrm [0,3,4]=⟨[(0,.seq 5 (l.map Node.v)),(3,.ref 0 (k + 1)),(4,.int .i64 ((k + 1:Nat):Int))],[some (.arr aC 5 (((l.take k).map bG).map Node.v++[(bG x).v]))]⟩→N τ:=by
     intro τ h
     refine hN.out _<|Nx.mk (k + 1) ?_ (by omega) (by omega)
     rw [h,fk hx]
     simp
    have hkind:x.kind < 1∨3 < x.kind∨x.kind=1∨x.kind=2∨x.kind=3:=by omega
    rcases hkind with h | h | h | h | h
    case inr.inr.inr.inr.inl | inr.inr.inr.inr.inr=>
     have hg:bG x=⟨x.kind,[],[],cq x.text,[]⟩:=by
      rw [fR,h]; simp [kw]
     simp (disch:=omega) [-List.reduceReplicate,hx,h,hkl]
     refine ah (by simpa using i9 x.text (by omega)) rfl fun _=>?_
     simp (disch:=omega) [-List.reduceReplicate,hkl]
     refine fin _ ?_
     rw [hg,h]
     simp
    all_goals
     have hg:bG x=⟨1,oW x.name,ic [] x.attrs,[],aZ (x.kids.map bG)⟩:=by
      rw [fR,if_pos]
      unfold kw
      split<;>omega
     simp (disch:=omega) [-List.reduceReplicate,hx,h,hkl]
     refine ah (AF x.name (by omega)) rfl fun _=>?_
     simp (disch:=omega) [-List.reduceReplicate,hkl]
     generalize hga:ic [] x.attrs=GA at hg
     refine aI (fun (q:Nat × List Attr)=>⟨[(0,.seq 5 (l.map Node.v)),(3,.ref 0 k),(4,.int .i64 k),(5,.ptr 1 0),(6,.int .i64 q.1)],
      [some (.arr aC 5 (((l.take k).map bG).map Node.v)),some (.box [.int .i64 1,.str (oW x.name),.ref 2 q.2.length,.str [],.nil 5]),some (.arr bK 2 (q.2.map Attr.v))]⟩)
      (fun q=>q.1≤x.attrs.length∧q.2.length≤q.1∧ic q.2 (x.attrs.drop q.1)=GA) (fun q=>x.attrs.length - q.1) [.b 1 2 bK 2] _ (0,[]) rfl (by simp) (by simp [hga]) ?_
     rintro ⟨j,acc⟩ ⟨hj,hal,hi⟩ N2 hN2
     simp only at hj hal hi
     rcases place x.attrs j hj with ⟨he2,hd2⟩ | ⟨hlt2,y,hy,hd2⟩<;>rw [hd2] at hi
     · simp only [ic] at hi
       subst hi
       simp (disch:=omega) [-List.reduceReplicate,hx,he2]
       refine aA (hrec x hxm hfk (by omega)) (by simp) fun _=>?_
       simp (disch:=omega) [-List.reduceReplicate,hkl]
       refine fin _ ?_
       rw [hg]
       simp
     · obtain ⟨hy1,hy2⟩:=hx4 y (List.mem_of_getElem? hy)
       simp only [ic] at hi
       replace hi:=hid hi
       simp (disch:=omega) [-List.reduceReplicate,hx,hy]
       refine bw (qd y.name (by omega)) rfl ?_
       simp (disch:=omega) [-List.reduceReplicate,hx,hy]
       refine bw (by simpa using i9 y.value (by omega)) rfl ?_
       simp (disch:=omega) [-List.reduceReplicate,hx,hy]
       refine ah (by simpa using xy ⟨1,oW x.name,acc,[],[]⟩ (bE y.name)) rfl fun _=>?_
       simp (disch:=omega) [-List.reduceReplicate,hx,hy]
       refine BrK.mk (fun hb=>?_) (fun hb=>?_)
       · simp (disch:=omega) [-List.reduceReplicate]
         have hi:=hi.out
         rw [if_pos hb] at hi
         refine hN2.out _<|Nx.mk (j + 1,acc) (by simp) ⟨by simp only; omega,by simp only; omega,hi⟩ (by simp only; omega)
       · simp (disch:=omega) [-List.reduceReplicate,hkl]
         have hi:=hi.out
         rw [if_neg (by simp [hb])] at hi
         refine hN2.out _<|Nx.mk (j + 1,acc++[⟨bE y.name,cq y.value⟩]) (by simp) ⟨by simp only; omega,by simp; omega,hi⟩ (by simp only; omega)
 have all:∀ l:List Node,∀ n∈l,an yO n.kids→ai n.kids≤1000→Fn Tryz.prog gJ [.seq 5 (n.kids.map Node.v)] (.seq 5 ((aZ (n.kids.map bG)).map Node.v)):=by
  refine ay (fun x hx=>by cases hx) ?_
  intro n l h1 h2 x hx
  rcases List.mem_cons.1 hx with rfl | hx
  · exact key _ h1
  · exact h2 x hx
 exact fun l=>key l (all l)
theorem Hj:∀ (l:List Node) (m:Nat),an yO (cW l m).1:=by
 refine ay (fun m=>by simp [cW,an]) ?_
 intro n l h1 h2 m
 simp only [cW,tE]
 split
 · simp [an]
 · simp only [an,Dr]
   refine ⟨⟨⟨by simp [m9]; omega,by simp [m9]; omega,by simp; omega,fun a ha=>?_⟩,h1 _⟩,h2 _⟩
   simp only [List.mem_map] at ha
   obtain ⟨b,_,rfl⟩:=ha
   simp [G0,m9]; omega
def eU (l:List Node):List Node:=aZ ((cW l 40).1.map bG)
theorem AH (l:List Node):Fn Tryz.prog zE [.seq 5 (l.map Node.v)] (.seq 5 ((eU l).map Node.v)):=by
 refine Fn.of_image mixed Ar Ab rfl fun ho=>?_
 unfold qv
 simp only [oks,ok,and_true] at ho
 clear ho
 simp (disch:=omega) [-List.reduceReplicate]
 refine aA (CZ l) (by simp) fun _=>?_
 simp (disch:=omega) [-List.reduceReplicate]
 refine aA (AG (cW l 40).1 (Hj l 40) (by have:=qk l 40; omega)) (by simp) fun _=>?_
 simp (disch:=omega) [-List.reduceReplicate,eU]
def uK (w:Str):Str→Bool
 | []=>iy [] w
 | b::t=>iy (b::t) w || uK w t
def iS (b:UInt8):UInt8:=if 65≤b.toNat∧b.toNat≤90 then b8 (b.toNat + 32) else b
def Kp (b:UInt8):Bool:=decide (b.toNat=9) || (decide (b.toNat=10) || (decide (b.toNat=12) || decide (b.toNat=32)))
def Ne (b:UInt8):Bool:=Kp b || (decide (b.toNat=47) || decide (b.toNat=62))
def yT (nm:Str) (s:Str):Bool:=decide ((s.take (2 + nm.length)).map iS=[60,47]++nm) && (match s[2 + nm.length]? with
 | some c=>Ne c
 | none=>false)
def ge (nm:Str):Nat→Str→Int
 | _,[]=>-1
 | i,b::t=>if yT nm (b::t) then i else ge nm (i + 1) t
def Nd (s nm:Str):Int:=ge nm 0 s
def c7 (par:Str) (n:Node):Bool:=
 if Ir par then false
 else if raw par then decide (n.kind=2) && decide (Nd (n.text++[60,47]++par++[62]) par=n.text.length)
 else !decide (n.kind=1) || !rp par n.name
def a7 (par:Str) (l:List Node):List Node:=l.filter (c7 par)
def qG:Str:=[45,45,62]
mutual
def b5:Node→List Node
 | ⟨k,nm,a,t,ks⟩=>if k=3∧uK qG t=true then [] else if k=1 then [⟨k,nm,a,t,a7 nm (aZ (pm (c7 nm) ks))⟩] else [⟨k,nm,a,t,ks⟩]
def pm (f:Node→Bool):List Node→List Node
 | []=>[]
 | n::l=>(if f n then b5 n else [])++pm f l
end
theorem tW (f:Node→Bool):∀ l:List Node,pm f l=(l.filter f).flatMap b5
 | []=>by simp [pm]
 | n::l=>by
   simp only [pm,tW f l,List.filter_cons]
   cases f n<;>simp
theorem n3 (n:Node):b5 n=if n.kind=3∧uK qG n.text=true then [] else if n.kind=1 then [⟨n.kind,n.name,n.attrs,n.text,a7 n.name (aZ ((a7 n.name n.kids).flatMap b5))⟩] else [n]:=by
 cases n; simp [b5,tW,a7]
def tX (l:List Node):List Node:=aZ (l.flatMap b5)
def bI (l:List Node):Nat:=(l.map fun n=>n.text.length).sum
theorem Bf:∀ {l:List Node} {n:Node},n∈l→n.text.length≤bI l
 | [],n,h=>by cases h
 | x::l,n,h=>by
   simp only [bI,List.map_cons,List.sum_cons]
   rcases List.mem_cons.1 h with rfl | h
   · omega
   · have:=Bf h; simp only [bI] at this; omega
theorem rK (a b:List Node):bI (a++b)=bI a + bI b:=by simp [bI]
theorem k9 (f:Node→Bool):∀ l:List Node,bI (l.filter f)≤bI l
 | []=>by simp [bI]
 | n::l=>by
   have:=k9 f l
   simp only [bI,List.filter_cons] at *
   split<;>simp<;>omega
theorem Be:∀ (l:List Node) (i:Nat) (o n:Node),l[i]?=some o→bI (l.set i n) + o.text.length=bI l + n.text.length
 | [],i,o,n,h=>by simp at h
 | x::l,0,o,n,h=>by simp at h; subst h; simp [bI]; omega
 | x::l,i + 1,o,n,h=>by
   have:=Be l i o n (by simpa using h)
   simp only [bI,List.set_cons_succ,List.map_cons,List.sum_cons] at *
   omega
theorem gK:∀ (l out:List Node),(am out l).length≤out.length + l.length∧bI (am out l)≤bI out + bI l
 | [],out=>by simp [am,bI]
 | n::l,out=>by
   have hc:bI (n::l)=n.text.length + bI l:=by simp [bI]
   have h1:=gK l out
   have h2:=gK l (out++[n])
   rw [rK] at h2
   have hn:bI [n]=n.text.length:=by simp [bI]
   simp only [List.length_append,List.length_cons,List.length_nil] at h2
   simp only [am,List.length_cons]
   split
   · omega
   · split
     · rename_i o ho
       split
       · have h3:=gK l (out.set (out.length - 1) ⟨o.kind,o.name,o.attrs,o.text++n.text,o.kids⟩)
         have h4:=Be out (out.length - 1) o ⟨o.kind,o.name,o.attrs,o.text++n.text,o.kids⟩ ho
         simp only [List.length_set,List.length_append] at h3 h4
         omega
       · omega
     · omega
theorem jW (l:List Node):(aZ l).length≤l.length∧bI (aZ l)≤bI l:=by
 have:=gK l []
 simpa [aZ,bI] using this
def right (s:Str):Bool:=decide (cq s=s)
def dY:List Attr→Str→Bool
 | [],_=>false
 | a::l,s=>if a.name=s then true else dY l s
def ii:List Attr→List Attr→Int
 | _,[]=>0
 | pre,a::l=>if bR a.name then (if dY pre a.name then 5 else ii (pre++[a]) l) else 4
def bS:List Attr→Bool
 | []=>true
 | a::l=>right a.value && bS l
def jy (n:Node):Int:=
 if n.text=[] then (if named n.name then (if ii [] n.attrs=0 then (if bS n.attrs then 0 else 2) else ii [] n.attrs) else 4) else 7
theorem vh:∀ (l pre:List Attr),ii pre l=0∨ii pre l=4∨ii pre l=5
 | [],pre=>by simp [ii]
 | a::l,pre=>by
   simp only [ii]
   split
   · split
     · simp
     · exact vh l _
   · simp
def fine1 (n:Node):Prop:=n.name.length≤1000000∧n.text.length≤1000000∧n.attrs.length≤1000000∧∀ a∈n.attrs,a.name.length≤1000000∧a.value.length≤1000000
def eE (n:Node) (txt:Bool):Int:=
 if n.kind=1 then jy n
 else if n.kind=2∨n.kind=3 then (if n.name=[]∧n.attrs=[]∧n.kids=[] then (if right n.text∧(n.kind=2→¬n.text=[]∧txt=false) then 0 else 2) else 7)
 else 7
mutual
def MO:Node→Int
 | ⟨_,_,_,_,ks⟩=>i4 false ks
def i4:Bool→List Node→Int
 | _,[]=>0
 | txt,n::l=>if eE n txt=0 then (if MO n=0 then i4 (decide (n.kind=2)) l else MO n) else eE n txt
end
theorem zO (n:Node):MO n=i4 false n.kids:=by cases n; simp [MO]
def may (l:List Node):Int:=i4 false l
def fg (l:List Node) (k:Nat):Bool:=decide (0 < k) && (match l[k - 1]? with
 | some n=>decide (n.kind=2)
 | none=>false)
theorem bg {f:Node→Prop}:∀ {l:List Node},an f l↔∀ n∈l,f n∧an f n.kids
 | []=>by simp [an]
 | n::l=>by simp [an,qI,bg (l:=l)]
theorem ef {f g:Node→Prop} (h:∀ n,f n→an f n.kids→g n):∀ l:List Node,an f l→an g l:=by
 refine ay (fun _=>by simp [an]) ?_
 intro n l h1 h2 ha
 simp only [an,qI] at ha ⊢
 exact ⟨⟨h n ha.1.1 ha.1.2,h1 ha.1.2⟩,h2 ha.2⟩
theorem j9 (a b:List Node):ai (a++b)=ai a + ai b:=by
 induction a with
 | nil=>simp [ai]
 | cons x a ih=>simp only [List.cons_append,ai,ih]; omega
theorem yV:∀ (l:List Node) (i:Nat) (o n:Node),l[i]?=some o→ai n.kids=ai o.kids→ai (l.set i n)=ai l
 | [],i,o,n,h,_=>by simp at h
 | x::l,0,o,n,h,hk=>by simp at h; subst h; simp [ai,ql,hk]
 | x::l,i + 1,o,n,h,hk=>by
   have:=yV l i o n (by simpa using h) hk
   simp only [List.set_cons_succ,ai,this]
theorem iQ:∀ (l out:List Node),ai (am out l)≤ai out + ai l
 | [],out=>by simp [am,ai]
 | n::l,out=>by
   have h1:=iQ l out
   have h2:=iQ l (out++[n])
   rw [j9] at h2
   have hn:ai [n]=jA n:=by simp [ai]
   have hc:ai (n::l)=jA n + ai l:=by simp [ai]
   simp only [am]
   split
   · omega
   · split
     · rename_i o ho
       split
       · have h3:=iQ l (out.set (out.length - 1) ⟨o.kind,o.name,o.attrs,o.text++n.text,o.kids⟩)
         have e:=yV out (out.length - 1) o ⟨o.kind,o.name,o.attrs,o.text++n.text,o.kids⟩ ho rfl
         rw [e] at h3
         omega
       · omega
     · omega
theorem yv (l:List Node):ai (aZ l)≤ai l:=by
 have:=iQ l []
 simpa [aZ,ai] using this
theorem fN {P:Node→Prop} (hP:∀ k n a t ks t',P ⟨k,n,a,t,ks⟩→P ⟨k,n,a,t',ks⟩):∀ (l out:List Node),(∀ n∈out,P n)→(∀ n∈l,P n)→∀ n∈am out l,P n
 | [],out,ho,_=>by simpa [am] using ho
 | n::l,out,ho,hl=>by
   have hn:=hl n (by simp)
   have hl':∀ n∈l,P n:=fun x hx=>hl x (by simp [hx])
   have hon:∀ x∈out++[n],P x:=fun x hx=>by
    rcases List.mem_append.1 hx with h | h
    · exact ho x h
    · simp at h; subst h; exact hn
   simp only [am]
   split
   · exact fN hP l out ho hl'
   · split
     · rename_i o hoo
       split
       · refine fN hP l _ (fun x hx=>?_) hl'
         rcases List.mem_or_eq_of_mem_set hx with h | h
         · exact ho x h
         · subst h
           have:=ho o (List.mem_of_getElem? hoo)
           obtain ⟨k0,n0,a0,t0,ks0⟩:=o
           exact hP _ _ _ _ _ _ this
       · exact fN hP l _ hon hl'
     · exact fN hP l _ hon hl'
theorem Gy {P:Node→Prop} (hP:∀ k n a t ks t',P ⟨k,n,a,t,ks⟩→P ⟨k,n,a,t',ks⟩) {l:List Node} (h:∀ n∈l,P n):∀ n∈aZ l,P n:=fN hP l [] (fun _ h=>by cases h) h
def yN (n:Node):Prop:=n.name.length≤1000∧n.attrs.length≤1000∧(∀ a∈n.attrs,a.name.length≤1000∧a.value.length≤1000)∧n.kids.length≤1000∧bI n.kids≤1000000
theorem r4 {l:List Node} (h:an yN l):an yN (aZ l):=
 bg.2 (Gy (P:=fun n=>yN n∧an yN n.kids) (fun k n a t ks t' h=>h) (bg.1 h))
def EF (n:Node):Prop:=n.name.length≤30∧n.text.length≤30∧n.attrs.length≤5∧∀ a∈n.attrs,a.name.length≤30∧a.value.length≤30
theorem sh:∀ (l:List Node) (m:Nat),an EF (cW l m).1:=by
 refine ay (fun m=>by simp [cW,an]) ?_
 intro n l h1 h2 m
 simp only [cW,tE]
 split
 · simp [an]
 · simp only [an,Dr]
   refine ⟨⟨⟨by simp [m9]; omega,by simp [m9]; omega,by simp; omega,fun a ha=>?_⟩,h1 _⟩,h2 _⟩
   simp only [List.mem_map] at ha
   obtain ⟨b,_,rfl⟩:=ha
   simp [G0,m9]; omega
theorem BG {l:List Str} {m:Nat} (h:l.all (fun s=>decide (s.length≤m))=true) (i:Nat):((l[i]?).getD []).length≤m:=by
 cases hi:l[i]? with
 | none=>simp
 | some x=>simpa using List.all_eq_true.1 h x (List.mem_of_getElem? hi)
theorem oE:∀ (l acc:List Attr),(∀ a∈l,a.name.length≤30∧a.value.length≤30)→(∀ a∈acc,a.name.length≤1000∧a.value.length≤1000)→
 (ic acc l).length≤acc.length + l.length∧∀ a∈ic acc l,a.name.length≤1000∧a.value.length≤1000
 | [],acc,_,ha=>by simpa [ic] using ha
 | x::l,acc,hl,ha=>by
   have hx:=hl x (by simp)
   have hl':∀ a∈l,a.name.length≤30∧a.value.length≤30:=fun a h=>hl a (by simp [h])
   simp only [ic]
   split
   · have:=oE l acc hl' ha
     exact ⟨by simp; omega,this.2⟩
   · have:=oE l (acc++[⟨bE x.name,cq x.value⟩]) hl' (fun a h=>by
      rcases List.mem_append.1 h with h | h
      · exact ha a h
      · simp at h; subst h
        have h1:=jM x.value
        have h2:(bE x.name).length≤1000:=by
         unfold bE
         split
         · omega
         · have:=BG (l:=I8) (m:=1000) (by decide) (x.name.length % 5)
           omega
        exact ⟨h2,by simp only; omega⟩)
     exact ⟨by have:=this.1; simp at this ⊢; omega,this.2⟩
theorem tV (f:Node→Node) (c:Nat):∀ l:List Node,(∀ n∈l,(f n).text.length≤c)→bI (l.map f)≤c * l.length
 | [],_=>by simp [bI]
 | n::l,h=>by
   have h1:=h n (by simp)
   have h2:=tV f c l (fun x hx=>h x (by simp [hx]))
   simp only [bI,List.map_cons,List.sum_cons,List.length_cons,Nat.mul_succ] at *
   omega
theorem Ew:∀ l:List Node,an EF l→ai l≤1000→an yN (l.map bG)∧ai (l.map bG)≤ai l∧(∀ n∈l.map bG,n.text.length≤120):=by
 refine ay (fun _ _=>by simp [an,ai]) ?_
 intro n l h1 h2 ha hc
 simp only [an,qI] at ha
 simp only [ai,ql] at hc
 obtain ⟨g1,g2,g3⟩:=h2 ha.2 (by omega)
 obtain ⟨k1,k2,k3⟩:=h1 ha.1.2 (by omega)
 have hw:(oW n.name).length≤1000:=by
  unfold oW
  split
  · have:=ha.1.1.1; omega
  · have:=BG (l:=Fo) (m:=1000) (by decide) (Bi n.name % 10); omega
 have hA:=oE n.attrs [] ha.1.1.2.2.2 (fun _ h=>by cases h)
 have hr:=jM n.text
 have ht:=ha.1.1.2.1
 have hat:=ha.1.1.2.2.1
 have hm:=jW (n.kids.map bG)
 have hmc:=yv (n.kids.map bG)
 have hkl:=cX n.kids
 have hts:=tV bG 120 n.kids (fun x hx=>k3 _ (List.mem_map_of_mem hx))
 have hts2:120 * n.kids.length≤120 * 1000:=Nat.mul_le_mul_left _ (by omega)
 simp only [List.length_map] at hm
 simp only [List.length_nil,Nat.zero_add] at hA
 refine ⟨?_,?_,?_⟩
 · simp only [List.map_cons,an,qI]
   refine ⟨?_,g1⟩
   rw [fR]
   split
   · refine ⟨⟨hw,?_,hA.2,?_,?_⟩,r4 k1⟩
     · simp only; omega
     · simp only; omega
     · simp only; omega
   · exact ⟨⟨by simp,by simp,by simp,by simp,by simp [bI]⟩,by simp [an]⟩
 · simp only [List.map_cons,ai,ql]
   rw [fR]
   split
   · simp only; omega
   · simp only [ai]; omega
 · intro x hx
   simp only [List.map_cons,List.mem_cons] at hx
   rcases hx with rfl | hx
   · rw [fR]
     split
     · simp
     · simp only; omega
   · exact g3 x hx
theorem CK (l:List Node):an yN (eU l)∧ai (eU l)≤40∧bI (eU l)≤4800:=by
 have hc:=qk l 40
 obtain ⟨h1,h2,h3⟩:=Ew (cW l 40).1 (sh l 40) (by omega)
 have hm:=jW ((cW l 40).1.map bG)
 have hmc:=yv ((cW l 40).1.map bG)
 have ht:=tV bG 120 (cW l 40).1 (fun x hx=>h3 _ (List.mem_map_of_mem hx))
 have hl:=cX (cW l 40).1
 have:120 * (cW l 40).1.length≤120 * 40:=Nat.mul_le_mul_left _ (by omega)
 exact ⟨r4 h1,by unfold eU; omega,by unfold eU; omega⟩
theorem lV (s:Str):Fn Tryz.prog BX [.str s] (.bool (named s)):=by
 refine Fn.of_image mixed CG Cp rfl fun ho=>?_
 unfold sA
 simp only [oks,ok,and_true] at ho
 simp (disch:=omega) [-List.reduceReplicate]
 generalize hr:named s=r
 refine aI (fun k:Nat=>⟨[(0,.str s),(7,.int .i64 s.length),(8,.int .i64 k)],[]⟩) (fun k=>k≤s.length∧(if k=0 then named s else (s.drop k).all dc)=r) (fun k=>s.length - k) [] _ 0 rfl (by simp) (by simp [hr]) ?_
 rintro k ⟨hk,hi⟩ N hN
 by_cases hk0:k=0
 · subst hk0
   simp only [if_true] at hi
   cases s with
   | nil=>simp [named] at hi; subst hi; simp (disch:=omega) [-List.reduceReplicate]
   | cons b t=>
     have hb:=b.toNat_lt
     simp only [named,List.all_cons] at hi
     replace hi:=hid hi
     simp (disch:=omega) [-List.reduceReplicate]
     repeat' (first | (refine BrKd.mk (fun h=>?_) (fun h=>?_)<;>simp (disch:=omega) [*]) | (refine BrK.mk (fun h=>?_) (fun h=>?_)<;>simp (disch:=omega) [*]))
     all_goals first
      | (refine hN.out _<|Nx.mk 1 (by simp [*]) ⟨by simp,?_⟩ (by simp); have hi:=hi.out; simpa (disch:=omega) [dc,lc,decide_eq_true,decide_eq_false, *] using hi)
      | (have hi:=hi.out; simpa (disch:=omega) [dc,lc,decide_eq_true,decide_eq_false, *] using hi)
      | omega
 · simp only [if_neg hk0] at hi
   rcases place s k hk with ⟨he,hd⟩ | ⟨hlt,x,hx,hd⟩<;>rw [hd] at hi<;>replace hi:=hid hi
   · simp (disch:=omega) [-List.reduceReplicate,he]
     have hi:=hi.out
     have:s≠[]:=by intro h; subst h; simp at he; omega
     simpa [this] using hi
   · have hb:=x.toNat_lt
     simp only [List.all_cons] at hi
     simp (disch:=omega) [-List.reduceReplicate,hx]
     repeat' (first | (refine BrKd.mk (fun h=>?_) (fun h=>?_)<;>simp (disch:=omega) [*]) | (refine BrK.mk (fun h=>?_) (fun h=>?_)<;>simp (disch:=omega) [*]))
     all_goals first
      | omega
      | (refine hN.out _<|Nx.mk (k + 1) (by simp [*]) ⟨by omega,?_⟩ (by omega); have hi:=hi.out; rw [if_neg (by omega)]; simpa (disch:=omega) [dc,lc,decide_eq_true,decide_eq_false, *] using hi)
      | (have hi:=hi.out; simpa (disch:=omega) [dc,lc,decide_eq_true,decide_eq_false, *] using hi)
theorem EL (s:Str):Fn Tryz.prog ut [.str s] (.bool (Ir s)):=by
 refine Fn.of_image mixed uU uH rfl fun ho=>?_
 unfold oP
 simp only [oks,ok,and_true] at ho
 simp (disch:=omega) [-List.reduceReplicate,Ir]
 repeat' (first | (refine BrKd.mk (fun h=>?_) (fun h=>?_)<;>simp (disch:=omega) [*]) | (refine BrK.mk (fun h=>?_) (fun h=>?_)<;>simp (disch:=omega) [*]))
theorem yQ (s:Str):Fn Tryz.prog yp [.str s] (.bool (raw s)):=by
 refine Fn.of_image mixed yI yE rfl fun ho=>?_
 unfold ru
 simp only [oks,ok,and_true] at ho
 simp (disch:=omega) [-List.reduceReplicate,raw]
 repeat' (first | (refine BrKd.mk (fun h=>?_) (fun h=>?_)<;>simp (disch:=omega) [*]) | (refine BrK.mk (fun h=>?_) (fun h=>?_)<;>simp (disch:=omega) [*]))
theorem vb (s:Str):Fn Tryz.prog uq [.str s] (.bool (plain s)):=by
 refine Fn.of_image mixed uQ uD rfl fun ho=>?_
 unfold mg
 simp only [oks,ok,and_true] at ho
 simp (disch:=omega) [-List.reduceReplicate,plain]
 repeat' (first | (refine BrKd.mk (fun h=>?_) (fun h=>?_)<;>simp (disch:=omega) [*]) | (refine BrK.mk (fun h=>?_) (fun h=>?_)<;>simp (disch:=omega) [*]) | (refine ah (lV _) rfl (fun _=>?_)<;>simp (disch:=omega) [*]) | (refine bw (lV _) rfl ?_<;>simp (disch:=omega) [*]))
 all_goals simp [*]
theorem fC (p:Policy) (s:Str):Fn Tryz.prog we [p.v,.str s] (.tup [((bj p.elements s).getD .zero).v,.bool (bj p.elements s).isSome]):=by
 refine Fn.of_image mixed xk wN rfl fun ho=>?_
 unfold nJ
 simp only [oks,ok,and_true] at ho
 have hlen:p.elements.length≤140737488355328:=by have:=ho.1; simp at this; exact this.2.1.1
 clear ho
 simp (disch:=omega) [-List.reduceReplicate]
 generalize hr:bj p.elements s=r
 refine aI (fun k:Nat=>⟨[(1,.str s),(4,.ptr 0 0),(9,.seq 3 (p.elements.map Allowed.v)),(10,.int .i64 p.elements.length),(11,.int .i64 k)],[some (.box [.str [],.nil 1,.nil 5])]⟩) (fun k=>k≤p.elements.length∧bj (p.elements.drop k) s=r) (fun k=>p.elements.length - k) [] _ 0 rfl (by simp [*]) (by simp [*]) ?_
 rintro k ⟨hk,hi⟩ N hN
 rcases place p.elements k hk with ⟨he,hd⟩ | ⟨hlt,x,hx,hd⟩<;>rw [hd] at hi<;>replace hi:=hid hi
 · simp (disch:=omega) [-List.reduceReplicate,he]
   simp [←hi.out,bj,Allowed.zero]
 · simp (disch:=omega) [-List.reduceReplicate,hx]
   repeat' (first | (refine BrKd.mk (fun h=>?_) (fun h=>?_)<;>simp (disch:=omega) [*]) | (refine BrK.mk (fun h=>?_) (fun h=>?_)<;>simp (disch:=omega) [*]))
   all_goals first
    | (refine hN.out _<|Nx.mk (k + 1) (by simp [*]) ⟨by omega,?_⟩ (by omega); simpa (disch:=omega) [*,decide_eq_true,decide_eq_false,bj] using hi.out)
    | (have hi:=hi.out; simp [bj, *] at hi; subst hi; simp [*])
end Go.Abs.F
end
