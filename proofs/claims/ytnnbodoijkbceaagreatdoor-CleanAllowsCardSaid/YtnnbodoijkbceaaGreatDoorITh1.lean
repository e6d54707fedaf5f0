/- Automata, plainly: walks that number what they meet, and what they tell. No condition. -/
import Derived.Test.YtnnbodoijkbceaaGreatDoorICodeD
set_option linter.all false
set_option maxHeartbeats 0
set_option maxRecDepth 100000
open List renaming replicate→zAa,range'→zAc,map_map→zAd
open Option renaming not_isSome→zAb
section
namespace Go.Aut
section
variable{K:Type}
def pos(e:K->K->Bool)(k:K):List K->Option Nat
 |[]=>none
 |x::l=>if e x k=true then some 0 else(pos e k l).map (· +1)
def addN(e:K->K->Bool)(l:List K)(k:K):Nat:=(pos e k l).getD l.length
def addL(e:K->K->Bool)(l:List K)(k:K):List K:=if(pos e k l).isSome=true then l else l++[k]
def G8(e:K->K->Bool)(f:Nat->K):Nat->Nat->List K->List Nat×List K
 |0,_,l=>([],l)
 |m+1,c,l=>(addN e l (f c)::(G8 e f m (c+1) (addL e l (f c))).1,(G8 e f m (c+1) (addL e l (f c))).2)
variable{e:K->K->Bool}
section
variable{K':Type}[DecidableEq K']{φ:K->K'}{D:K->Prop}
def eqB[DecidableEq K'](a b:K'):Bool:=decide (a=b)
end
end
end Go.Aut
end
section
namespace Go.Aut
theorem qh:∀(N:Nat)(l:List Nat),l.Nodup->(∀x∈l,x<N)->l.length<=N
 |0,l,_,h=>by
   cases l with
   |nil=>simp
   |cons x l=>have:=h x (by simp);omega
 |N+1,l,hn,h=>by
   have h1:=qh N (l.erase N) (hn.erase N) fun x hx=>by
    have:=(hn.mem_erase_iff).1 hx;have:=h x this.2;omega
   by_cases hm:N∈l
   ·have:=List.length_erase_of_mem hm;omega
   ·rw[List.erase_of_not_mem hm]at h1;omega
section
variable{K:Type}[DecidableEq K]
end
def aeP:Type:=List Nat->Bool
noncomputable instance:DecidableEq aeP:=fun a b=>Classical.propDecidable (a=b)
def lang(δ:Nat->Nat->Nat)(F:Nat->Bool):Nat->List Nat->Bool
 |q,[]=>F q
 |q,c::w=>if c<95 then lang δ F (δ q c) w else false
def langL(δ:Nat->Nat->Nat)(F:Nat->Bool)(q:Nat):aeP:=fun w=>lang δ F q w
structure Aut where
 next:List (List Nat)
 final:List Bool
def dl(next:List (List Nat))(q c:Nat):Nat:=((next[q]?.getD [])[c]?).getD 0
def fin(final:List Bool)(q:Nat):Bool:=(final[q]?).getD false
def acX(n:Nat)(next:List (List Nat)):Prop:=∀r∈next,r.length=95/\∀x∈r,x<n
namespace Aut
def n(a:Aut):Nat:=a.next.length
def δ(a:Aut):Nat->Nat->Nat:=dl a.next
def F(a:Aut):Nat->Bool:=fin a.final
structure ok (a:Aut):Prop where
 pos:0<a.n
 fin:a.final.length=a.n
 rows:acX a.n a.next
def L(a:Aut)(q:Nat):aeP:=langL a.δ a.F q
end Aut
def Se(next:List (List Nat))(cls:List Nat)(q:Nat):List Nat:=(cls[q]?).getD 0::(next[q]?.getD []).map fun t=>(cls[t]?).getD 0
def th(next:List (List Nat)):Nat->List Nat->Nat->Option (List Nat)
 |0,_,_=>none
 |f+1,cls,cnt=>if(G8 eqB (Se next cls) next.length 0 []).2.length=cnt then some (G8 eqB (Se next cls) next.length 0 []).1
   else th next f (G8 eqB (Se next cls) next.length 0 []).1 (G8 eqB (Se next cls) next.length 0 []).2.length
section
variable{a:Aut}(ha:a.ok)
end
def getN(l:List Nat)(i:Nat):Nat:=(l[i]?).getD 0
end Go.Aut
end
section
namespace Go.Abs
open Go.Proofs
attribute [-simp] getElem?_pos zAb zAd
theorem mixed:Tryz.prog.follows .mixedOrders=true:=by kernel_rfl
abbrev Str:=List UInt8
theorem dv{α:Type}{l:List α}{k:Nat}{x:α}(h:l[k]?=some x):l.take (k+1)=l.take k++[x]:=by rw[List.take_add_one,h];rfl
def zV(n:Int):V:=.int .i64 n
@[simp] def rowZ (r:List Int):V:=.seq 1 (r.map zV)
def adJ(n:Nat)(q:Int):Bool:=decide (0<=q)&&decide (q<n)
def V9(n:Nat)(r:List Int):Bool:=decide (r.length=95)&&r.all (adJ n)
open Go.Aut
def nV(n:Nat):V:=.int .i64 n
def II(r:List Nat):V:=.seq 1 (r.map nV)
def nextN(nx:List (List Nat)):V:=.seq 1 (nx.map II)
def finN(fi:List Bool):V:=.seq 1 (fi.map .bool)
end Go.Abs
end
section
namespace Go.Abs
open Go.Proofs Go.Aut
attribute [-simp] getElem?_pos zAb zAd
theorem ac4(n:Nat):zAc n 2=[n,n+1]:=rfl
theorem ac3(n:Nat):zAc n 3=[n,n+1,n+2]:=rfl
theorem ac2(n:Nat):zAc n 4=[n,n+1,n+2,n+3]:=rfl
theorem ac1(n:Nat):zAc n 5=[n,n+1,n+2,n+3,n+4]:=rfl
attribute [simp] ac4 ac3 ac2 ac1 nV
section
variable{K:Type}[DecidableEq K](kv:K->V)
def Q5:Nat->List K->List (V×V)
 |_,[]=>[]
 |i,k::l=>(kv k,nV i)::Q5 (i+1) l
variable{kv}
theorem rX(he:∀a b,eqK (kv a) (kv b)=decide (a=b))(k:K):∀(l:List K)(i:Nat),uz (kv k) (Q5 kv i l)=(pos eqB k l).map fun j=>nV (i+j)
 |[],i=>rfl
 |x::l,i=>by
   have ih:=rX he k l (i+1);have hx:(eqB x k=true)=(x=k):=by simp[eqB]
   simp only[Q5,uz,pos,he,ih,hx,decide_eq_true_eq];by_cases h:x=k
   ·simp[h]
   ·rw[if_neg (fun e=>h e.symm),if_neg h]
    cases pos eqB k l<;>simp[Nat.add_assoc,Nat.add_comm 1]
theorem rU(he:∀a b,eqK (kv a) (kv b)=decide (a=b))(k:K):∀(l:List K)(i:Nat),pos eqB k l=none->pG (kv k) (nV (i+l.length)) (Q5 kv i l)=Q5 kv i (l++[k])
 |[],i,_=>rfl
 |x::l,i,h=>by
   simp only[pos]at h;split at h
   ·cases h
   ·rename_i hx
    have h':pos eqB k l=none:=by simpa using h
    have ih:=rU he k l (i+1) h';simp only[List.cons_append,Q5,pG,he];rw[if_neg (by simp only[eqB]at hx;simpa using fun e=>hx (by simp[e])),<-ih]
    congr 3;simp;omega
end
@[simp] def metH (kt:KT) (e sz:Nat) {K:Type} (kv:K->V) (l:List K):List (Option Ob):=[some (.box [.ref 1 0,.ref 2 l.length]),some (.mp kt (Q5 kv 0 l)),some (.arr e sz (l.map kv))]
@[simp] def metE (kt:KT) (sz:Nat):List (Option Ob):=[some (.box [.ref 1 0,.nil sz]),some (.mp kt [])]
attribute [simp] II nextN finN
def f2H(cls:List Nat)(nx:List (List Nat))(of:List Nat):List (Option Ob):=[some (.box [II cls]),some (.box [.ref 3 nx.length]),some (.box [.ref 4 of.length]),some (.arr AM 1 (nx.map II)),some (.arr bz 1 (of.map nV))]
def f2R(cls:List Nat)(nx:List (List Nat))(of list:List Nat)(rows:List (List Nat)):List (Option Ob):=[some (.box [II cls]),some (.box [.ref 5 nx.length]),some (.box [.ref 6 of.length]),some (.arr bz 1 (list.map nV)),some (.arr AM 1 (rows.map II)),some (.arr AM 1 (nx.map II)),some (.arr bz 1 (of.map nV))]
attribute [simp] f2H f2R
section
variable{α:Type}{f:α->V}
theorem rI(h:∀a,aD (f a)=[]):∀l:List α,am (l.map f)=[]
 |[]=>rfl
 |a::l=>by simp[am,h a,rI h l]
theorem vB{hp:List (Option Ob)}(h:∀a,pur hp (f a)=some (f a)):∀l:List α,purs hp (l.map f)=some (l.map f)
 |[]=>rfl
 |a::l=>by simp[purs,h a,vB h l]
theorem vw{m:List Nat}(h:∀a,ren m (f a)=f a):∀l:List α,ew m (l.map f)=l.map f
 |[]=>rfl
 |a::l=>by simp[ew,h a,vw h l]
theorem xn{m:List Nat}(h:∀a,bck m (f a)=f a):∀l:List α,mN m (l.map f)=l.map f
 |[]=>rfl
 |a::l=>by simp[mN,h a,xn h l]
theorem r5(h:∀a,cJ (f a)=true):∀l:List α,dk (l.map f)=true
 |[]=>rfl
 |a::l=>by simp[dk,h a,r5 h l]
theorem Dq{σ:St}(h:∀a,σ.cur (f a)=true):∀l:List α,σ.curA (l.map f)=true
 |[]=>rfl
 |a::l=>by simp[St.curA,h a,Dq h l]
end
theorem rep1:zAa 1 (none:Option Ob)=[none]:=rfl
theorem rep2:zAa 2 (none:Option Ob)=[none,none]:=rfl
theorem rep3:zAa 3 (none:Option Ob)=[none,none,none]:=rfl
theorem rep4:zAa 4 (none:Option Ob)=[none,none,none,none]:=rfl
theorem rep5:zAa 5 (none:Option Ob)=[none,none,none,none,none]:=rfl
theorem rep6:zAa 6 (none:Option Ob)=[none,none,none,none,none,none]:=rfl
attribute [simp] rep1 rep2 rep3 rep4 rep5 rep6
theorem Yj(n:Int)(h1:0<=n)(h2:n<=65535):IntKind.u16.wrap n=n:=by
 rw[Go.IntKind.wrap_u16];omega
theorem aci{n:Int}(h1:0<=n)(h2:n<=65535):Ix .u16 n=some (.int .u16 n):=by simp only[Ix,Yj _ h1 h2]
attribute [simp high] aci
def pY(n:Nat):V:=.int .u16 n
def z8(n:Nat):V:=.int .u64 n
section
variable(l:List Nat)(hp:List (Option Ob))(m:List Nat)(σ:St)
@[simp] theorem SK:am (l.map pY)=[]:=rI (fun _=>rfl) l
@[simp] theorem Wk:purs hp (l.map pY)=some (l.map pY):=vB (fun _=>rfl) l
@[simp] theorem We:ew m (l.map pY)=l.map pY:=vw (fun _=>rfl) l
@[simp] theorem XP:mN m (l.map pY)=l.map pY:=xn (fun _=>rfl) l
@[simp] theorem flats_u16:dk (l.map pY)=true:=r5 (fun _=>rfl) l
@[simp] theorem curA_u16:σ.curA (l.map pY)=true:=Dq (fun _=>by simp[St.cur,St.cur0,pY,aD]) l
@[simp] theorem vidss_u64:am (l.map z8)=[]:=rI (fun _=>rfl) l
@[simp] theorem purs_u64:purs hp (l.map z8)=some (l.map z8):=vB (fun _=>rfl) l
@[simp] theorem rens_u64:ew m (l.map z8)=l.map z8:=vw (fun _=>rfl) l
@[simp] theorem bcks_u64:mN m (l.map z8)=l.map z8:=xn (fun _=>rfl) l
@[simp] theorem flats_u64:dk (l.map z8)=true:=r5 (fun _=>rfl) l
@[simp] theorem curA_u64:σ.curA (l.map z8)=true:=Dq (fun _=>by simp[St.cur,St.cur0,z8,aD]) l
end
def C6(f:Nat->V)(n:Nat)(acc:List Nat):List V:=(acc++zAa (n-acc.length) 0).map f
section
variable{f:Nat->V}{n:Nat}{acc:List Nat}
end
section
variable(acc:List Nat)(n:Nat)(hp:List (Option Ob))(m:List Nat)
@[simp] theorem acf:am (C6 pY n acc)=[]:=SK _
@[simp] theorem purs_fill:purs hp (C6 pY n acc)=some (C6 pY n acc):=Wk _ _
@[simp] theorem rens_fill:ew m (C6 pY n acc)=C6 pY n acc:=We _ _
@[simp] theorem bcks_fill:mN m (C6 pY n acc)=C6 pY n acc:=XP _ _
end
end Go.Abs
end
section
namespace Go.Abs
open Go.Proofs Go.Aut
attribute [-simp] getElem?_pos zAb zAd
def chDK(Φ:Ctr)(d:Option Nat)(f:FuncId)(σ:St)(K:St->Prop)(vs:List V):Prop:=AK Φ d f vs K σ
theorem XD{Φ:Ctr}{d:Option Nat}{f:FuncId}{σ:St}{K:St->Prop}{vs:List V}:chDK Φ d f σ K vs=AK Φ d f vs K σ:=propext Iff.rfl
theorem X1{Φ:Ctr}{d:Option Nat}{f:FuncId}{σ:St}{K:St->Prop}{xs:List AO}:ah Φ d (.callH f xs) K σ=oM (σ.evs xs) (chDK Φ d f σ K):=by
 simp only[ah,oM];cases σ.evs xs<;>rfl
attribute [simp] XD X1
section
variable{α:Type}{f:α->V}{d:α}{n:Nat}{acc:List α}
end
end Go.Abs
end
