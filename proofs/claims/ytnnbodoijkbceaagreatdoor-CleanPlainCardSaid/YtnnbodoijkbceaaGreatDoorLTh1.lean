/-
  Automata, plainly: walks that number what they meet, and what they tell. No condition.
  Automata, plainly: languages, the form that a language alone determines, classes of states. No condition.
  What the first functions of layer 11 answer. No condition.
  What meets states answers: their numbers, as they were first met. No condition.
  What a walk through an automaton's states answers. No condition.
  What a walk through an automaton's states answers. No condition.
  What meets keys answers: their numbers, as they were first met. No condition.
  What an automaton's classes are. No condition.
  What an automaton's form is. No condition.
-/
import Derived.Test.YtnnbodoijkbceaaGreatDoorLCodeD
set_option linter.all false
set_option maxHeartbeats 0
set_option maxRecDepth 100000
section
namespace Go.Aut
section
variable {K:Type}
def pos (e:K→K→Bool) (k:K):List K→Option Nat
 | []=>none
 | x::l=>if e x k=true then some 0 else (pos e k l).map (· + 1)
def addN (e:K→K→Bool) (l:List K) (k:K):Nat:=(pos e k l).getD l.length
def addL (e:K→K→Bool) (l:List K) (k:K):List K:=if (pos e k l).isSome=true then l else l++[k]
def x7 (e:K→K→Bool) (f:Nat→K):Nat→Nat→List K→List Nat × List K
 | 0,_,l=>([],l)
 | m + 1,c,l=>(addN e l (f c)::(x7 e f m (c + 1) (addL e l (f c))).1,(x7 e f m (c + 1) (addL e l (f c))).2)
variable {e:K→K→Bool}
section
variable {K':Type} [DecidableEq K'] {φ:K→K'} {D:K→Prop}
def eqB [DecidableEq K'] (a b:K'):Bool:=decide (a=b)
end
end
end Go.Aut
end
section
namespace Go.Aut
section
variable {K:Type} [DecidableEq K]
end
def Rv:Type:=List Nat→Bool
noncomputable instance:DecidableEq Rv:=fun a b=>Classical.propDecidable (a=b)
def lang (δ:Nat→Nat→Nat) (F:Nat→Bool):Nat→List Nat→Bool
 | q,[]=>F q
 | q,c::w=>if c < 95 then lang δ F (δ q c) w else false
def langL (δ:Nat→Nat→Nat) (F:Nat→Bool) (q:Nat):Rv:=fun w=>lang δ F q w
structure Aut where
 next:List (List Nat)
 final:List Bool
def dl (next:List (List Nat)) (q c:Nat):Nat:=((next[q]?.getD [])[c]?).getD 0
def fin (final:List Bool) (q:Nat):Bool:=(final[q]?).getD false
def PI (n:Nat) (next:List (List Nat)):Prop:=∀ r∈next,r.length=95∧∀ x∈r,x < n
namespace Aut
def n (a:Aut):Nat:=a.next.length
def δ (a:Aut):Nat→Nat→Nat:=dl a.next
def F (a:Aut):Nat→Bool:=fin a.final
structure ok (a:Aut):Prop where
 pos:0 < a.n
 fin:a.final.length=a.n
 rows:PI a.n a.next
def L (a:Aut) (q:Nat):Rv:=langL a.δ a.F q
end Aut
def FA (next:List (List Nat)) (cls:List Nat) (q:Nat):List Nat:=(cls[q]?).getD 0::(next[q]?.getD []).map fun t=>(cls[t]?).getD 0
def FG (next:List (List Nat)):Nat→List Nat→Nat→Option (List Nat)
 | 0,_,_=>none
 | f + 1,cls,cnt=>if (x7 eqB (FA next cls) next.length 0 []).2.length=cnt then some (x7 eqB (FA next cls) next.length 0 []).1
   else FG next f (x7 eqB (FA next cls) next.length 0 []).1 (x7 eqB (FA next cls) next.length 0 []).2.length
section
variable {a:Aut} (ha:a.ok)
end
def getN (l:List Nat) (i:Nat):Nat:=(l[i]?).getD 0
end Go.Aut
end
section
namespace Go.Abs
open Go.Proofs
attribute [-simp] getElem?_pos Option.not_isSome List.map_map
theorem mixed:Tryz.prog.follows .mixedOrders=true:=by kernel_rfl
abbrev Str:=List UInt8
theorem fk {α:Type} {l:List α} {k:Nat} {x:α} (h:l[k]?=some x):l.take (k + 1)=l.take k++[x]:=by rw [List.take_add_one,h]; rfl
def zV (n:Int):V:=.int .i64 n
@[simp] def rowZ (r:List Int):V:=.seq 1 (r.map zV)
open Go.Aut
def nV (n:Nat):V:=.int .i64 n
def zp (r:List Nat):V:=.seq 1 (r.map nV)
def nextN (nx:List (List Nat)):V:=.seq 1 (nx.map zp)
def finN (fi:List Bool):V:=.seq 1 (fi.map .bool)
end Go.Abs
end
section
namespace Go.Abs
open Go.Proofs Go.Aut
attribute [-simp] getElem?_pos Option.not_isSome List.map_map
theorem PP (n:Nat):List.range' n 2=[n,n + 1]:=rfl
theorem PO (n:Nat):List.range' n 3=[n,n + 1,n + 2]:=rfl
theorem PN (n:Nat):List.range' n 4=[n,n + 1,n + 2,n + 3]:=rfl
theorem PM (n:Nat):List.range' n 5=[n,n + 1,n + 2,n + 3,n + 4]:=rfl
attribute [simp] PP PO PN PM nV
section
variable {K:Type} [DecidableEq K] (kv:K→V)
def EO:Nat→List K→List (V × V)
 | _,[]=>[]
 | i,k::l=>(kv k,nV i)::EO (i + 1) l
variable {kv}
theorem mC (he:∀ a b,eqK (kv a) (kv b)=decide (a=b)) (k:K):∀ (l:List K) (i:Nat),oo (kv k) (EO kv i l)=(pos eqB k l).map fun j=>nV (i + j)
 | [],i=>rfl
 | x::l,i=>by
   have ih:=mC he k l (i + 1)
   have hx:(eqB x k=true)=(x=k):=by simp [eqB]
   simp only [EO,oo,pos,he,ih,hx,decide_eq_true_eq]
   by_cases h:x=k
   · simp [h]
   · rw [if_neg (fun e=>h e.symm),if_neg h]
     cases pos eqB k l<;>simp [Nat.add_assoc,Nat.add_comm 1]
theorem mA (he:∀ a b,eqK (kv a) (kv b)=decide (a=b)) (k:K):∀ (l:List K) (i:Nat),pos eqB k l=none→kM (kv k) (nV (i + l.length)) (EO kv i l)=EO kv i (l++[k])
 | [],i,_=>rfl
 | x::l,i,h=>by
   simp only [pos] at h
   split at h
   · cases h
   · rename_i hx
     have h':pos eqB k l=none:=by simpa using h
     have ih:=mA he k l (i + 1) h'
     simp only [List.cons_append,EO,kM,he]
     rw [if_neg (by simp only [eqB] at hx; simpa using fun e=>hx (by simp [e])),←ih]
     congr 3
     simp; omega
end
@[simp] def metH (kt:KT) (e sz:Nat) {K:Type} (kv:K→V) (l:List K):List (Option Ob):=[some (.box [.ref 1 0,.ref 2 l.length]),some (.mp kt (EO kv 0 l)),some (.arr e sz (l.map kv))]
@[simp] def metE (kt:KT) (sz:Nat):List (Option Ob):=[some (.box [.ref 1 0,.nil sz]),some (.mp kt [])]
attribute [simp] zp nextN finN
def f2H (cls:List Nat) (nx:List (List Nat)) (of:List Nat):List (Option Ob):=[some (.box [zp cls]),some (.box [.ref 3 nx.length]),some (.box [.ref 4 of.length]),some (.arr tl 1 (nx.map zp)),some (.arr nZ 1 (of.map nV))]
def f2R (cls:List Nat) (nx:List (List Nat)) (of list:List Nat) (rows:List (List Nat)):List (Option Ob):=[some (.box [zp cls]),some (.box [.ref 5 nx.length]),some (.box [.ref 6 of.length]),some (.arr nZ 1 (list.map nV)),some (.arr tl 1 (rows.map zp)),some (.arr tl 1 (nx.map zp)),some (.arr nZ 1 (of.map nV))]
attribute [simp] f2H f2R
section
variable {α:Type} {f:α→V}
theorem mr (h:∀ a,aw (f a)=[]):∀ l:List α,aj (l.map f)=[]
 | []=>rfl
 | a::l=>by simp [aj,h a,mr h l]
theorem pA {hp:List (Option Ob)} (h:∀ a,pur hp (f a)=some (f a)):∀ l:List α,purs hp (l.map f)=some (l.map f)
 | []=>rfl
 | a::l=>by simp [purs,h a,pA h l]
theorem px {m:List Nat} (h:∀ a,ren m (f a)=f a):∀ l:List α,di m (l.map f)=l.map f
 | []=>rfl
 | a::l=>by simp [di,h a,px h l]
theorem qF {m:List Nat} (h:∀ a,bck m (f a)=f a):∀ l:List α,jd m (l.map f)=l.map f
 | []=>rfl
 | a::l=>by simp [jd,h a,qF h l]
theorem mF (h:∀ a,dO (f a)=true):∀ l:List α,c6 (l.map f)=true
 | []=>rfl
 | a::l=>by simp [c6,h a,mF h l]
theorem vl {σ:St} (h:∀ a,σ.cur (f a)=true):∀ l:List α,σ.curA (l.map f)=true
 | []=>rfl
 | a::l=>by simp [St.curA,h a,vl h l]
end
theorem rep1:List.replicate 1 (none:Option Ob)=[none]:=rfl
theorem rep2:List.replicate 2 (none:Option Ob)=[none,none]:=rfl
theorem rep3:List.replicate 3 (none:Option Ob)=[none,none,none]:=rfl
theorem rep4:List.replicate 4 (none:Option Ob)=[none,none,none,none]:=rfl
theorem rep5:List.replicate 5 (none:Option Ob)=[none,none,none,none,none]:=rfl
theorem rep6:List.replicate 6 (none:Option Ob)=[none,none,none,none,none,none]:=rfl
attribute [simp] rep1 rep2 rep3 rep4 rep5 rep6
theorem KX (n:Int) (h1:0≤n) (h2:n≤65535):IntKind.u16.wrap n=n:=by
 rw [Go.IntKind.wrap_u16]; omega
theorem Pc {n:Int} (h1:0≤n) (h2:n≤65535):zi .u16 n=some (.int .u16 n):=by simp only [zi,KX _ h1 h2]
attribute [simp high] Pc
def k7 (n:Nat):V:=.int .u16 n
def sI (n:Nat):V:=.int .u64 n
section
variable (l:List Nat) (hp:List (Option Ob)) (m:List Nat) (σ:St)
@[simp] theorem F3:aj (l.map k7)=[]:=mr (fun _=>rfl) l
@[simp] theorem I5:purs hp (l.map k7)=some (l.map k7):=pA (fun _=>rfl) l
@[simp] theorem I0:di m (l.map k7)=l.map k7:=px (fun _=>rfl) l
@[simp] theorem Kq:jd m (l.map k7)=l.map k7:=qF (fun _=>rfl) l
@[simp] theorem flats_u16:c6 (l.map k7)=true:=mF (fun _=>rfl) l
@[simp] theorem curA_u16:σ.curA (l.map k7)=true:=vl (fun _=>by simp [St.cur,St.cur0,k7,aw]) l
@[simp] theorem vidss_u64:aj (l.map sI)=[]:=mr (fun _=>rfl) l
@[simp] theorem purs_u64:purs hp (l.map sI)=some (l.map sI):=pA (fun _=>rfl) l
@[simp] theorem rens_u64:di m (l.map sI)=l.map sI:=px (fun _=>rfl) l
@[simp] theorem bcks_u64:jd m (l.map sI)=l.map sI:=qF (fun _=>rfl) l
@[simp] theorem flats_u64:c6 (l.map sI)=true:=mF (fun _=>rfl) l
@[simp] theorem curA_u64:σ.curA (l.map sI)=true:=vl (fun _=>by simp [St.cur,St.cur0,sI,aw]) l
end
def u7 (f:Nat→V) (n:Nat) (acc:List Nat):List V:=(acc++List.replicate (n - acc.length) 0).map f
section
variable {f:Nat→V} {n:Nat} {acc:List Nat}
end
section
variable (acc:List Nat) (n:Nat) (hp:List (Option Ob)) (m:List Nat)
@[simp] theorem O9:aj (u7 k7 n acc)=[]:=F3 _
@[simp] theorem purs_fill:purs hp (u7 k7 n acc)=some (u7 k7 n acc):=I5 _ _
@[simp] theorem rens_fill:di m (u7 k7 n acc)=u7 k7 n acc:=I0 _ _
@[simp] theorem bcks_fill:jd m (u7 k7 n acc)=u7 k7 n acc:=Kq _ _
end
end Go.Abs
end
section
namespace Go.Abs
open Go.Proofs Go.Aut
attribute [-simp] getElem?_pos Option.not_isSome List.map_map
def chDK (Φ:Ctr) (d:Option Nat) (f:FuncId) (σ:St) (K:St→Prop) (vs:List V):Prop:=tf Φ d f vs K σ
theorem Kf {Φ:Ctr} {d:Option Nat} {f:FuncId} {σ:St} {K:St→Prop} {vs:List V}:chDK Φ d f σ K vs=tf Φ d f vs K σ:=propext Iff.rfl
theorem KE {Φ:Ctr} {d:Option Nat} {f:FuncId} {σ:St} {K:St→Prop} {xs:List AO}:af Φ d (.callH f xs) K σ=oM (σ.evs xs) (chDK Φ d f σ K):=by
 simp only [af,oM]
 cases σ.evs xs<;>rfl
attribute [simp] Kf KE
section
variable {α:Type} {f:α→V} {d:α} {n:Nat} {acc:List α}
end
end Go.Abs
end
