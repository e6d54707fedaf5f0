/- Automata, plainly: walks that number what they meet, and what they tell. No condition. -/
import Derived.Test.YtnnbodoijkbceaaGreatDoorJCodeD
set_option linter.all false
set_option maxHeartbeats 0
set_option maxRecDepth 100000
open List renaming replicate→zAa,range'→zAc,map_map→zAd
open Option renaming not_isSome→zAb
section
namespace Go.Aut
section
variable{K:Type}
def pos(e:K->K->Bool)(k:K):List K->Option Nat
 |[]=>none
 |x::l=>if e x k=true then some 0 else(pos e k l).map (· +1)
def addN(e:K->K->Bool)(l:List K)(k:K):Nat:=(pos e k l).getD l.length
def addL(e:K->K->Bool)(l:List K)(k:K):List K:=if(pos e k l).isSome=true then l else l++[k]
def DH(e:K->K->Bool)(f:Nat->K):Nat->Nat->List K->List Nat×List K
 |0,_,l=>([],l)
 |m+1,c,l=>(addN e l (f c)::(DH e f m (c+1) (addL e l (f c))).1,(DH e f m (c+1) (addL e l (f c))).2)
variable{e:K->K->Bool}
section
variable{K':Type}[DecidableEq K']{φ:K->K'}{D:K->Prop}
def eqB[DecidableEq K'](a b:K'):Bool:=decide (a=b)
end
end
end Go.Aut
end
section
namespace Go.Aut
theorem oG:∀(N:Nat)(l:List Nat),l.Nodup->(∀x∈l,x<N)->l.length<=N
 |0,l,_,h=>by
   cases l with
   |nil=>simp
   |cons x l=>have:=h x (by simp);omega
 |N+1,l,hn,h=>by
   have h1:=oG N (l.erase N) (hn.erase N) fun x hx=>by
    have:=(hn.mem_erase_iff).1 hx;have:=h x this.2;omega
   by_cases hm:N∈l
   ·have:=List.length_erase_of_mem hm;omega
   ·rw[List.erase_of_not_mem hm]at h1;omega
section
variable{K:Type}[DecidableEq K]
end
def Z6:Type:=List Nat->Bool
noncomputable instance:DecidableEq Z6:=fun a b=>Classical.propDecidable (a=b)
def lang(δ:Nat->Nat->Nat)(F:Nat->Bool):Nat->List Nat->Bool
 |q,[]=>F q
 |q,c::w=>if c<95 then lang δ F (δ q c) w else false
def langL(δ:Nat->Nat->Nat)(F:Nat->Bool)(q:Nat):Z6:=fun w=>lang δ F q w
structure Aut where
 next:List (List Nat)
 final:List Bool
def dl(next:List (List Nat))(q c:Nat):Nat:=((next[q]?.getD [])[c]?).getD 0
def fin(final:List Bool)(q:Nat):Bool:=(final[q]?).getD false
def Yc(n:Nat)(next:List (List Nat)):Prop:=∀r∈next,r.length=95/\∀x∈r,x<n
namespace Aut
def n(a:Aut):Nat:=a.next.length
def δ(a:Aut):Nat->Nat->Nat:=dl a.next
def F(a:Aut):Nat->Bool:=fin a.final
structure ok (a:Aut):Prop where
 pos:0<a.n
 fin:a.final.length=a.n
 rows:Yc a.n a.next
def L(a:Aut)(q:Nat):Z6:=langL a.δ a.F q
end Aut
def Nk(next:List (List Nat))(cls:List Nat)(q:Nat):List Nat:=(cls[q]?).getD 0::(next[q]?.getD []).map fun t=>(cls[t]?).getD 0
def Nt(next:List (List Nat)):Nat->List Nat->Nat->Option (List Nat)
 |0,_,_=>none
 |f+1,cls,cnt=>if(DH eqB (Nk next cls) next.length 0 []).2.length=cnt then some (DH eqB (Nk next cls) next.length 0 []).1
   else Nt next f (DH eqB (Nk next cls) next.length 0 []).1 (DH eqB (Nk next cls) next.length 0 []).2.length
section
variable{a:Aut}(ha:a.ok)
end
def getN(l:List Nat)(i:Nat):Nat:=(l[i]?).getD 0
end Go.Aut
end
section
namespace Go.Abs
open Go.Proofs
attribute [-simp] getElem?_pos zAb zAd
theorem mixed:Tryz.prog.follows .mixedOrders=true:=by kernel_rfl
abbrev Str:=List UInt8
theorem c5{α:Type}{l:List α}{k:Nat}{x:α}(h:l[k]?=some x):l.take (k+1)=l.take k++[x]:=by rw[List.take_add_one,h];rfl
def zV(n:Int):V:=.int .i64 n
@[simp] def rowZ (r:List Int):V:=.seq 1 (r.map zV)
def Y1(n:Nat)(q:Int):Bool:=decide (0<=q)&&decide (q<n)
def Re(n:Nat)(r:List Int):Bool:=decide (r.length=95)&&r.all (Y1 n)
open Go.Aut
def nV(n:Nat):V:=.int .i64 n
def E0(r:List Nat):V:=.seq 1 (r.map nV)
def nextN(nx:List (List Nat)):V:=.seq 1 (nx.map E0)
def finN(fi:List Bool):V:=.seq 1 (fi.map .bool)
end Go.Abs
end
section
namespace Go.Abs
open Go.Proofs Go.Aut
attribute [-simp] getElem?_pos zAb zAd
theorem Yj(n:Nat):zAc n 2=[n,n+1]:=rfl
theorem Yi(n:Nat):zAc n 3=[n,n+1,n+2]:=rfl
theorem Yh(n:Nat):zAc n 4=[n,n+1,n+2,n+3]:=rfl
theorem Yg(n:Nat):zAc n 5=[n,n+1,n+2,n+3,n+4]:=rfl
attribute [simp] Yj Yi Yh Yg nV
section
variable{K:Type}[DecidableEq K](kv:K->V)
def Mc:Nat->List K->List (V×V)
 |_,[]=>[]
 |i,k::l=>(kv k,nV i)::Mc (i+1) l
variable{kv}
theorem qv(he:∀a b,eqK (kv a) (kv b)=decide (a=b))(k:K):∀(l:List K)(i:Nat),sy (kv k) (Mc kv i l)=(pos eqB k l).map fun j=>nV (i+j)
 |[],i=>rfl
 |x::l,i=>by
   have ih:=qv he k l (i+1);have hx:(eqB x k=true)=(x=k):=by simp[eqB]
   simp only[Mc,sy,pos,he,ih,hx,decide_eq_true_eq];by_cases h:x=k
   ·simp[h]
   ·rw[if_neg (fun e=>h e.symm),if_neg h]
    cases pos eqB k l<;>simp[Nat.add_assoc,Nat.add_comm 1]
theorem qt(he:∀a b,eqK (kv a) (kv b)=decide (a=b))(k:K):∀(l:List K)(i:Nat),pos eqB k l=none->nU (kv k) (nV (i+l.length)) (Mc kv i l)=Mc kv i (l++[k])
 |[],i,_=>rfl
 |x::l,i,h=>by
   simp only[pos]at h;split at h
   ·cases h
   ·rename_i hx
    have h':pos eqB k l=none:=by simpa using h
    have ih:=qt he k l (i+1) h';simp only[List.cons_append,Mc,nU,he];rw[if_neg (by simp only[eqB]at hx;simpa using fun e=>hx (by simp[e])),<-ih]
    congr 3;simp;omega
end
@[simp] def metH (kt:KT) (e sz:Nat) {K:Type} (kv:K->V) (l:List K):List (Option Ob):=[some (.box [.ref 1 0,.ref 2 l.length]),some (.mp kt (Mc kv 0 l)),some (.arr e sz (l.map kv))]
@[simp] def metE (kt:KT) (sz:Nat):List (Option Ob):=[some (.box [.ref 1 0,.nil sz]),some (.mp kt [])]
attribute [simp] E0 nextN finN
def f2H(cls:List Nat)(nx:List (List Nat))(of:List Nat):List (Option Ob):=[some (.box [E0 cls]),some (.box [.ref 3 nx.length]),some (.box [.ref 4 of.length]),some (.arr yb 1 (nx.map E0)),some (.arr bQ 1 (of.map nV))]
def f2R(cls:List Nat)(nx:List (List Nat))(of list:List Nat)(rows:List (List Nat)):List (Option Ob):=[some (.box [E0 cls]),some (.box [.ref 5 nx.length]),some (.box [.ref 6 of.length]),some (.arr bQ 1 (list.map nV)),some (.arr yb 1 (rows.map E0)),some (.arr yb 1 (nx.map E0)),some (.arr bQ 1 (of.map nV))]
attribute [simp] f2H f2R
section
variable{α:Type}{f:α->V}
theorem qi(h:∀a,aA (f a)=[]):∀l:List α,ak (l.map f)=[]
 |[]=>rfl
 |a::l=>by simp[ak,h a,qi h l]
theorem tJ{hp:List (Option Ob)}(h:∀a,pur hp (f a)=some (f a)):∀l:List α,purs hp (l.map f)=some (l.map f)
 |[]=>rfl
 |a::l=>by simp[purs,h a,tJ h l]
theorem tG{m:List Nat}(h:∀a,ren m (f a)=f a):∀l:List α,dO m (l.map f)=l.map f
 |[]=>rfl
 |a::l=>by simp[dO,h a,tG h l]
theorem vb{m:List Nat}(h:∀a,bck m (f a)=f a):∀l:List α,lI m (l.map f)=l.map f
 |[]=>rfl
 |a::l=>by simp[lI,h a,vb h l]
theorem qz(h:∀a,cI (f a)=true):∀l:List α,dB (l.map f)=true
 |[]=>rfl
 |a::l=>by simp[dB,h a,qz h l]
theorem AS{σ:St}(h:∀a,σ.cur (f a)=true):∀l:List α,σ.curA (l.map f)=true
 |[]=>rfl
 |a::l=>by simp[St.curA,h a,AS h l]
end
theorem rep1:zAa 1 (none:Option Ob)=[none]:=rfl
theorem rep2:zAa 2 (none:Option Ob)=[none,none]:=rfl
theorem rep3:zAa 3 (none:Option Ob)=[none,none,none]:=rfl
theorem rep4:zAa 4 (none:Option Ob)=[none,none,none,none]:=rfl
theorem rep5:zAa 5 (none:Option Ob)=[none,none,none,none,none]:=rfl
theorem rep6:zAa 6 (none:Option Ob)=[none,none,none,none,none,none]:=rfl
attribute [simp] rep1 rep2 rep3 rep4 rep5 rep6
theorem Tn(n:Int)(h1:0<=n)(h2:n<=65535):IntKind.u16.wrap n=n:=by
 rw[Go.IntKind.wrap_u16];omega
theorem Xy{n:Int}(h1:0<=n)(h2:n<=65535):ET .u16 n=some (.int .u16 n):=by simp only[ET,Tn _ h1 h2]
attribute [simp high] Xy
def om(n:Nat):V:=.int .u16 n
def xy(n:Nat):V:=.int .u64 n
section
variable(l:List Nat)(hp:List (Option Ob))(m:List Nat)(σ:St)
@[simp] theorem NR:ak (l.map om)=[]:=qi (fun _=>rfl) l
@[simp] theorem Ro:purs hp (l.map om)=some (l.map om):=tJ (fun _=>rfl) l
@[simp] theorem Rj:dO m (l.map om)=l.map om:=tG (fun _=>rfl) l
@[simp] theorem SR:lI m (l.map om)=l.map om:=vb (fun _=>rfl) l
@[simp] theorem flats_u16:dB (l.map om)=true:=qz (fun _=>rfl) l
@[simp] theorem curA_u16:σ.curA (l.map om)=true:=AS (fun _=>by simp[St.cur,St.cur0,om,aA]) l
@[simp] theorem vidss_u64:ak (l.map xy)=[]:=qi (fun _=>rfl) l
@[simp] theorem purs_u64:purs hp (l.map xy)=some (l.map xy):=tJ (fun _=>rfl) l
@[simp] theorem rens_u64:dO m (l.map xy)=l.map xy:=tG (fun _=>rfl) l
@[simp] theorem bcks_u64:lI m (l.map xy)=l.map xy:=vb (fun _=>rfl) l
@[simp] theorem flats_u64:dB (l.map xy)=true:=qz (fun _=>rfl) l
@[simp] theorem curA_u64:σ.curA (l.map xy)=true:=AS (fun _=>by simp[St.cur,St.cur0,xy,aA]) l
end
def Ax(f:Nat->V)(n:Nat)(acc:List Nat):List V:=(acc++zAa (n-acc.length) 0).map f
section
variable{f:Nat->V}{n:Nat}{acc:List Nat}
end
section
variable(acc:List Nat)(n:Nat)(hp:List (Option Ob))(m:List Nat)
@[simp] theorem Xv:ak (Ax om n acc)=[]:=NR _
@[simp] theorem purs_fill:purs hp (Ax om n acc)=some (Ax om n acc):=Ro _ _
@[simp] theorem rens_fill:dO m (Ax om n acc)=Ax om n acc:=Rj _ _
@[simp] theorem bcks_fill:lI m (Ax om n acc)=Ax om n acc:=SR _ _
end
end Go.Abs
end
section
namespace Go.Abs
open Go.Proofs Go.Aut
attribute [-simp] getElem?_pos zAb zAd
def chDK(Φ:Ctr)(d:Option Nat)(f:FuncId)(σ:St)(K:St->Prop)(vs:List V):Prop:=x8 Φ d f vs K σ
theorem SE{Φ:Ctr}{d:Option Nat}{f:FuncId}{σ:St}{K:St->Prop}{vs:List V}:chDK Φ d f σ K vs=x8 Φ d f vs K σ:=propext Iff.rfl
theorem S6{Φ:Ctr}{d:Option Nat}{f:FuncId}{σ:St}{K:St->Prop}{xs:List AO}:ai Φ d (.callH f xs) K σ=oM (σ.evs xs) (chDK Φ d f σ K):=by
 simp only[ai,oM];cases σ.evs xs<;>rfl
attribute [simp] SE S6
section
variable{α:Type}{f:α->V}{d:α}{n:Nat}{acc:List α}
end
end Go.Abs
end
