/- A program that goes through images: what it tells is so. No condition. -/
import Derived.Test.YtnnbodoijkbceaaGreatDoorJAbs9
import Derived.RangeFuncRecord
set_option linter.all false
set_option maxHeartbeats 0
open Bool renaming and_eq_true→zAa,false_eq_true→zAe
open Option.some renaming injEq→zAb
open Array renaming getElem?_eq_some_iff→zAc
open Prod.mk renaming injEq→zAd
open List renaming mem_cons_of_mem→zAf,getElem?_eq_some_iff→zAg,replicate→zBa,drop_eq_nil_iff→zBb,mem_of_getElem?→zBc
open Option renaming map_some→zAh
open Nat renaming zero_le→zAi,le_refl→zAj,le_trans→zBd,lt_succ_self→zBe,not_lt_zero→zBf
open Iff renaming rfl→zBg
section
namespace Go.Abs
def YU:Go.Fn->Go.Fn->Bool
 | .func f,.func g=>decide (f=g)
 |_,_=>false
theorem Pp{f g:Go.Fn}(h:YU f g=true):f=g:=by
 cases f<;>cases g<;>simp[YU]at h;rw[h]
mutual
def eqV:V->V->Bool
 | .int k n,.int k' n'=>decide (k=k')&&decide (n=n')
 | .bool a,.bool b=>decide (a=b)
 | .str a,.str b=>decide (a=b)
 | .nil a,.nil b=>decide (a=b)
 | .seq a l,.seq b m=>decide (a=b)&&sU l m
 | .ref a n,.ref b m=>decide (a=b)&&decide (n=m)
 | .strct a,.strct b=>sU a b
 | .q a b c e f,.q a' b' c' e' f'=>decide (a=a')&&(decide (b=b')&&(decide (c=c')&&(decide (e=e')&&decide (f=f'))))
 | .ptr a n,.ptr b m=>decide (a=b)&&decide (n=m)
 | .eptr a n i o,.eptr b m j p=>decide (a=b)&&(decide (n=m)&&(decide (i=j)&&decide (o=p)))
 | .mref a i n,.mref b j m=>decide (a=b)&&(decide (i=j)&&decide (n=m))
 | .fseq a l,.fseq b m=>decide (a=b)&&sU l m
 | .mptr a i n k o,.mptr b j m l p=>decide (a=b)&&(decide (i=j)&&(decide (n=m)&&(decide (k=l)&&decide (o=p))))
 | .sptr x o,.sptr y p=>eqV x y&&decide (o=p)
 | .nilptr,.nilptr=>true
 | .fn f a b,.fn g c d=>YU f g&&(sU a c&&sU b d)
 | .nilfn,.nilfn=>true
 | .nilmp,.nilmp=>true
 | .iface t x,.iface u y=>decide (t=u)&&eqV x y
 | .niliface,.niliface=>true
 | .tup a,.tup b=>sU a b
 | .junk,.junk=>true
 |_,_=>false
def sU:List V->List V->Bool
 |[],[]=>true
 |u::us,v::vs=>eqV u v&&sU us vs
 |_,_=>false
end
mutual
theorem ir:∀{u v:V},eqV u v=true->u=v
 | .int _ _,v,h=>by cases v<;>simp_all[eqV]
 | .bool _,v,h=>by cases v<;>simp_all[eqV]
 | .str _,v,h=>by cases v<;>simp_all[eqV]
 | .nil _,v,h=>by cases v<;>simp_all[eqV]
 | .ref _ _,v,h=>by cases v<;>simp_all[eqV]
 | .ptr _ _,v,h=>by cases v<;>simp_all[eqV]
 | .eptr _ _ _ _,v,h=>by cases v<;>simp_all[eqV]
 | .mref _ _ _,v,h=>by cases v<;>simp_all[eqV]
 | .q _ _ _ _ _,v,h=>by cases v<;>simp_all[eqV]
 | .mptr _ _ _ _ _,v,h=>by cases v<;>simp_all[eqV]
 | .nilptr,v,h=>by cases v<;>simp_all[eqV]
 | .nilfn,v,h=>by cases v<;>simp_all[eqV]
 | .nilmp,v,h=>by cases v<;>simp_all[eqV]
 | .niliface,v,h=>by cases v<;>simp_all[eqV]
 | .junk,v,h=>by cases v<;>simp_all[eqV]
 | .seq a l,v,h=>by
   cases v<;>simp only[eqV,zAa,decide_eq_true_eq,reduceCtorEq]at h;rw[h.1,cr h.2]
 | .fseq a l,v,h=>by
   cases v<;>simp only[eqV,zAa,decide_eq_true_eq,reduceCtorEq]at h;rw[h.1,cr h.2]
 | .strct l,v,h=>by
   cases v<;>simp only[eqV,zAa,decide_eq_true_eq,reduceCtorEq]at h;rw[cr h]
 | .tup l,v,h=>by
   cases v<;>simp only[eqV,zAa,decide_eq_true_eq,reduceCtorEq]at h;rw[cr h]
 | .sptr x o,v,h=>by
   cases v<;>simp only[eqV,zAa,decide_eq_true_eq,reduceCtorEq]at h;rw[ir h.1,h.2]
 | .iface t x,v,h=>by
   cases v<;>simp only[eqV,zAa,decide_eq_true_eq,reduceCtorEq]at h;rw[h.1,ir h.2]
 | .fn f a b,v,h=>by
   cases v<;>simp only[eqV,zAa,decide_eq_true_eq,reduceCtorEq]at h;rw[Pp h.1,cr h.2.1,cr h.2.2]
theorem cr:∀{u v:List V},sU u v=true->u=v
 |[],v,h=>by cases v<;>simp_all[sU]
 |u::us,v,h=>by
   cases v<;>simp only[sU,zAa,reduceCtorEq]at h;rw[ir h.1,cr h.2]
end
def j3:List Rw->List Rw->Bool
 |[],[]=>true
 | .g i::a,.g j::b=>decide (i=j)&&j3 a b
 | .a u::a,.a v::b=>sU u v&&j3 a b
 |_,_=>false
theorem pJ:∀{a b:List Rw},j3 a b=true->a=b
 |[],b,h=>by cases b<;>simp_all[j3]
 | .g i::a,b,h=>by
   match b,h with
   | .g j::b,h=>simp only[j3,zAa,decide_eq_true_eq]at h;rw[h.1,pJ h.2]
   | .a _::b,h=>simp[j3]at h
   |[],h=>simp[j3]at h
 | .a u::a,b,h=>by
   match b,h with
   | .a v::b,h=>simp only[j3,zAa]at h;rw[cr h.1,pJ h.2]
   | .g _::b,h=>simp[j3]at h
   |[],h=>simp[j3]at h
def Pn:List (V×V)->List (V×V)->Bool
 |[],[]=>true
 |(u,v)::a,(x,y)::b=>eqV u x&&(eqV v y&&Pn a b)
 |_,_=>false
theorem Eu:∀{a b:List (V×V)},Pn a b=true->a=b
 |[],b,h=>by cases b<;>simp_all[Pn]
 |(u,v)::a,b,h=>by
   match b,h with
   |(x,y)::b,h=>simp only[Pn,zAa]at h;rw[ir h.1,ir h.2.1,Eu h.2.2]
   |[],h=>simp[Pn]at h
def GU:List Po->List Po->Bool
 |[],[]=>true
 | .bx t a::l,.bx u b::m=>decide (t=u)&&(sU a b&&GU l m)
 | .rw t n a::l,.rw u k b::m=>decide (t=u)&&(decide (n=k)&&(sU a b&&GU l m))
 | .byt t a::l,.byt u b::m=>decide (t=u)&&(decide (a=b)&&GU l m)
 | .no::l,.no::m=>GU l m
 |_,_=>false
theorem l4:∀{a b:List Po},GU a b=true->a=b
 |[],b,h=>by cases b<;>simp_all[GU]
 |x::a,b,h=>by
   cases b with
   |nil=>cases x<;>simp[GU]at h
   |cons y b=>
     cases x<;>cases y<;>simp only[GU,zAa,decide_eq_true_eq,reduceCtorEq]at h
     ·rw[h.1,cr h.2.1,l4 h.2.2]
     ·rw[h.1,h.2.1,cr h.2.2.1,l4 h.2.2.2]
     ·rw[h.1,h.2.1,l4 h.2.2]
     ·rw[l4 h]
def eqO:Option Ob->Option Ob->Bool
 |none,none=>true
 |some (.pool a),some (.pool b)=>GU a b
 |some (.box a),some (.box b)=>sU a b
 |some (.arr e sz l),some (.arr e' sz' l')=>decide (e=e')&&(decide (sz=sz')&&sU l l')
 |some (.mat e e2 sz l),some (.mat e' e2' sz' l')=>decide (e=e')&&(decide (e2=e2')&&(decide (sz=sz')&&j3 l l'))
 |some (.mp kt l),some (.mp kt' l')=>decide (kt=kt')&&Pn l l'
 |_,_=>false
theorem Sk{a b:Option Ob}(h:eqO a b=true):a=b:=by
 rcases a with _|a<;>rcases b with _|b
 ·rfl
 ·cases b<;>simp[eqO]at h
 ·cases a<;>simp[eqO]at h
 ·cases a<;>cases b<;>simp only[eqO,zAa,decide_eq_true_eq,reduceCtorEq]at h
  ·rw[cr h]
  ·rw[h.1,h.2.1,cr h.2.2]
  ·rw[h.1,h.2.1,h.2.2.1,pJ h.2.2.2]
  ·rw[h.1,Eu h.2]
  ·rw[l4 h]
def eqH:List (Option Ob)->List (Option Ob)->Bool
 |[],[]=>true
 |a::l,b::m=>eqO a b&&eqH l m
 |_,_=>false
theorem JS:∀{a b:List (Option Ob)},eqH a b=true->a=b
 |[],b,h=>by cases b<;>simp_all[eqH]
 |x::a,b,h=>by
   match b,h with
   |y::b,h=>simp only[eqH,zAa]at h;rw[Sk h.1,JS h.2]
   |[],h=>simp[eqH]at h
def eqR:List (Nat×V)->List (Nat×V)->Bool
 |[],[]=>true
 |(n,v)::l,(k,u)::m=>decide (n=k)&&(eqV v u&&eqR l m)
 |_,_=>false
theorem JR:∀{a b:List (Nat×V)},eqR a b=true->a=b
 |[],b,h=>by cases b<;>simp_all[eqR]
 |(n,v)::a,b,h=>by
   match b,h with
   |(k,u)::b,h=>simp only[eqR,zAa,decide_eq_true_eq]at h;rw[h.1,ir h.2.1,JR h.2.2]
   |[],h=>simp[eqR]at h
def eqS(σ τ:St):Bool:=eqR σ.r τ.r&&eqH σ.h τ.h
theorem Sj{σ τ:St}(h:eqS σ τ=true):σ=τ:=by
 obtain⟨r,h1⟩:=σ;obtain⟨r',h2⟩:=τ;simp only[eqS,zAa]at h;rw[JR h.1,JS h.2]
structure Env where
 p:FuncId->List V->Option (V×Bool)
 ps:FuncId->Option (List Nat)
 h:FuncId->List V->List (Option Ob)->Option (V×List (Option Ob))
def Hg(env:Env)(d:Option Nat)(f:FuncId)(vs us:List V)(σ:St):Option St:=
 match env.p f us with
 |some (r,nw)=>if cI r=true\/ak vs=[]\/nw=true then some (σ.put d r)else some ((σ.kill (ak vs)).put d r)
 |none=>none
def MF(env:Env)(d:Option Nat)(f:FuncId)(vs:List V)(σ:St)(q:Nat)(m:List Nat):Option St:=
 match env.h f (dO m vs) (fL σ.h m m)with
 |some (r,H')=>if kin q (fL σ.h m m) H'=true then some (St.put ⟨σ.r,σ.back q m H'⟩ d (bck (vV q m σ.h.length H'.length) r))else none
 |none=>none
def n8(env:Env)(d:Option Nat)(f:FuncId)(vs:List V)(σ:St):Option St:=
 match env.ps f with
 |some ps=>if σ.curs (bk vs ps)=true then MF env d f vs σ (cU σ.h (bk vs ps) vs).1 (cU σ.h (bk vs ps) vs).2 else none
 |none=>none
def br(env:Env)(d:Option Nat)(a:Act')(σ:St):Option St:=
 match a with
 | .alc z=>some ({ σ with h:=σ.h++[some (Ob.box z)] }.put d (.ptr σ.h.length 0))
 | .box x=>match σ.ev x with
   |some v=>if nt v=true then some ({ σ with h:=σ.h++[some (Ob.box (cl v))] }.put d (.ptr σ.h.length 0))else none
   |none=>none
 | .st n p x=>match σ.ev p,σ.ev x with
   |some a,some v=>if nt v=true then(match σ.stor n a (cl v)with
     |some σ'=>some (σ'.put d (.tup []))
     |none=>none)else none
   |_,_=>none
 | .s2b x=>match σ.ev x with
   |some (.str s)=>if s.length<=140737488355328 then some (σ.put d (.seq 1 (eU s)))else none
   |_=>none
 | .lit _ sz xs=>match σ.evs xs with
   |some vs=>match purs σ.h vs with
     |some us=>if aV sz us=true/\us.length<=16777216 then some ((σ.kill (ak vs)).put d (.seq sz us))else none
     |none=>none
   |none=>none
 | .app x y e sz by'=>match σ.ev x,σ.ev y with
   |some u,some v=>match src σ.h v with
     |some (.seq sz' l)=>if sz'=sz then
       (match u with
       | .nil _=>if l.length*by'<=140737488355328 then some ({ σ with h:=σ.h++[some (Ob.arr e sz l)] }.put d (.ref σ.h.length l.length))else none
       | .ref id n=>match σ.arr? id with
         |some (e',sz',l0)=>if e'=e/\sz'=sz/\n=l0.length/\(n+l.length)*by'<=140737488355328 then
           some ({ σ with h:=σ.h.set id (some (Ob.arr e sz (l0++l))) }.put d (.ref id (n+l.length)))else none
         |none=>none
       |_=>none)else none
     |_=>none
   |_,_=>none
 | .mks e sz by' z n=>match σ.ev n with
   |some (.int _ m)=>if 0<=m/\m*by'<=140737488355328 then
     some ({ σ with h:=σ.h++[some (Ob.arr e sz (zBa m.toNat z))] }.put d (.ref σ.h.length m.toNat))else none
   |_=>none
 | .mk0 e sz by' n=>match σ.ev n with
   |some (.int _ m)=>if 0<=m/\m*by'<=140737488355328 then
     some ({ σ with h:=σ.h++[some (Ob.arr e sz [])] }.put d (.ref σ.h.length 0))else none
   |_=>none
 | .mkm e by' e2 sz n=>match σ.ev n with
   |some (.int _ m)=>if 0<=m/\m*by'<=140737488355328 then
     some ({ σ with h:=σ.h++[some (Ob.mat e e2 sz (zBa m.toNat (.a [])))] }.put d (.ref σ.h.length m.toNat))else none
   |_=>none
 | .call f xs=>match σ.evs xs with
   |some vs=>match purs σ.h vs with
     |some us=>Hg env d f vs us σ
     |none=>n8 env d f vs σ
   |none=>none
 | .callv g xs=>match σ.ev g,σ.evs xs with
   |some (.fn (.func f) a b),some vs=>match purs σ.h (a++vs++b)with
     |some us=>Hg env d f (a++vs++b) us σ
     |none=>n8 env d f (a++vs++b) σ
   |_,_=>none
 | .callH f xs=>match σ.evs xs with
   |some vs=>n8 env d f vs σ
   |none=>none
 | .mkp kt=>some ({ σ with h:=σ.h++[some (Ob.mp kt [])] }.put d (.ref σ.h.length 0))
 | .mup kt x k v=>match σ.ev x,σ.ev k,σ.ev v with
   |some (.ref id _),some kv,some u=>match σ.mp? id,pur σ.h u with
     |some (kt',l),some u'=>if kt'=kt/\a8 kt kv=true/\aA u=[]/\nt u'=true then some ({ σ with h:=σ.h.set id (some (Ob.mp kt (nU kv u' l))) }.put d (.tup []))else none
     |_,_=>none
   |_,_,_=>none
 | .inv tbl x xs=>match σ.ev x,σ.evs xs with
   |some (.iface t v),some vs=>match lkF tbl t with
     |some f=>(match purs σ.h (v::vs)with
       |some us=>Hg env d f (v::vs) us σ
       |none=>n8 env d f (v::vs) σ)
     |none=>none
   |_,_=>none
 | .ltr e sz xs=>match σ.evs xs with
   |some vs=>match purs σ.h vs with
     |some us=>if aV sz us=true/\us.length<=16777216 then some (St.put ⟨(σ.kill (ak vs)).r,(σ.kill (ak vs)).h++[some (Ob.arr e sz us)]⟩ d (.ref (σ.kill (ak vs)).h.length us.length))else none
     |none=>none
   |none=>none
 | .yld _ _=>none
 | .ivp _ _ _=>none
 | .alq _=>none
 | .bxq _=>none
 | .cvb _=>none
 | .apz _ _ _ _=>none
 | .sbq _=>none
 | .aps _ _ _=>none
 | .apb _ _ _=>none
 | .alb _ _ _=>none
 | .usd _=>none
 | .ust _ _ _=>none
 | .del _ _ _=>none
 | .mkq _ _ _ _ _=>none
 | .rgs _=>none
 | .nxs _=>none
 | .trc x hi sz=>match σ.ev x,σ.ev hi with
   |some (.ref id n),some (.int _ b)=>match σ.arr? id with
     |some (e,sz',l)=>if sz'=sz/\n=l.length/\0<=b/\b<=n then some ({ σ with h:=σ.h.set id none++[some (Ob.arr e sz (l.take b.toNat))] }.put d (.ref σ.h.length b.toNat))else none
     |none=>none
   |_,_=>none
 |a=>match σ.val a with
   |some v=>some (σ.put d v)
   |none=>none
def EM(env:Env)(d:Option Nat)(f:FuncId)(vs us:List V)(σ:St):Option St:=
 match env.p f us with
 |some (r,nw)=>if cI r=true\/ak vs=[]\/nw=true then some (σ.put d r)else none
 |none=>none
def jG(env:Env)(d:Option Nat)(a:Act')(σ:St):Option St:=
 match a with
 | .lit _ sz xs=>match σ.evs xs with
   |some vs=>match purs [] vs with
     |some us=>if aV sz us=true/\us.length<=16777216 then some (σ.put d (.seq sz us))else none
     |none=>none
   |none=>none
 | .call f xs=>match σ.evs xs with
   |some vs=>match purs σ.h vs with
     |some us=>EM env d f vs us σ
     |none=>none
   |none=>none
 | .callv g xs=>match σ.ev g,σ.evs xs with
   |some (.fn (.func f) a b),some vs=>match purs σ.h (a++vs++b)with
     |some us=>EM env d f (a++vs++b) us σ
     |none=>none
   |_,_=>none
 | .callH f xs=>match σ.evs xs with
   |some vs=>n8 env d f vs σ
   |none=>none
 | .inv _ _ _=>none
 | .ivp _ _ _=>none
 | .trc _ _ _=>none
 | .ltr _ _ _=>none
 |a=>br env d a σ
def fD(d:Option Nat)(a:Act')(σ:St):Option St:=
 match a with
 | .alq z=>(VY σ z).map fun p=>p.1.put d p.2
 | .bxq x=>(Di σ x).map fun p=>p.1.put d p.2
 | .rgs x=>(US σ x).map fun p=>p.1.put d p.2
 | .nxs x=>(Va σ x).map fun p=>p.1.put d p.2
 | .usd x=>(Qz σ x).map fun v=>σ.put d v
 | .cvb x=>match VJ σ x with
   |some (id,n,sz,l)=>if sz=1/\n=l.length/\l.isEmpty=false then some ({ σ with h:=σ.h.set id none }.put d (.seq 1 l))else none
   |none=>none
 | .mkq e sz by' z n=>match Vd σ z n with
   |some (m,ms,z')=>if 0<=m/\m*by'<=140737488355328 then some ((σ.setP (ms++[.rw e sz (zBa m.toNat z')])).put d (.q 1 ms.length m.toNat 0 0))else none
   |none=>none
 | .apz y _ sz by'=>match VS σ y sz with
   |some l=>if l.length*by'<=140737488355328 then some (σ.put d (.seq sz l))else none
   |none=>none
 | .sbq y=>match UM σ y with
   |some (s,ms)=>if s≠[]/\s.length<=140737488355328 then some ((σ.setP (ms++[.byt 0 s])).put d (.q 1 ms.length s.length 0 0))else none
   |none=>none
 | .aps x y e=>match VU σ x y with
   |some (k,j,n,s)=>match SV σ e k j n s with
     |some (e0,m,τ,v)=>if(e0=0\/e0=e)/\m<=140737488355328 then some (τ.put d v)else none
     |none=>none
   |none=>none
 | .apb x y e=>match VT σ x y with
   |some (k,j,n,s)=>match SV σ e k j n s with
     |some (e0,m,τ,v)=>if(e0=0\/e0=e)/\m<=140737488355328 then some (τ.put d v)else none
     |none=>none
   |none=>none
 | .alb t e z=>match z,σ.pl? with
   |[.nilptr,.nil 1],some ms=>some ((σ.setP (ms++[.byt e [],.bx t [.nilptr,.q 1 ms.length 0 0 0]])).put d (.q 0 (ms.length+1) 0 0 0))
   |_,_=>none
 | .ust p n e=>match σ.ev p,σ.ev n with
   |some .nilptr,some (.int .i64 m)=>if m=0 then some (σ.put d (.str []))else none
   |some (.q k j m i o),some (.int .i64 q)=>match σ.pl? with
     |some ms=>match ms[j]? with
       |some (.byt e0 s)=>if k=2/\i=0/\o=0/\m=s.length/\q=s.length/\s≠[]/\e≠0/\e0=e then some ((σ.setP (ms.set j .no)).put d (.str s))else none
       |_=>none
     |none=>none
   |_,_=>none
 | .del kt x k=>match Ss σ kt x k with
   |some (kv,τ)=>if a8 kt kv=true then some (τ.put d (.tup []))else none
   |none=>none
 | .trc x hi sz=>match KB σ x hi sz with
   |some (b,n,τ,v)=>if 0<=b/\b<=n then some (τ.put d v)else none
   |none=>none
 | .ltr e sz xs=>match σ.evs xs with
   |some vs=>match purs σ.h vs with
     |none=>match Na σ e sz vs with
       |some (τ,v,us)=>if aV sz us=true/\us.length<=16777216/\0<sz then some (τ.put d v)else none
       |none=>none
     |some _=>none
   |none=>none
 | .app x y e sz by'=>match VV σ x y e sz by' with
   |some (τ,v,n)=>if n<=140737488355328 then some (τ.put d v)else none
   |none=>none
 |_=>none
def PU(env:Env)(d:Option Nat)(a:Act')(σ:St):Option St:=match br env d a σ with
 |some τ=>some τ
 |none=>fD d a σ
def Kn(env:Env)(d:Option Nat)(a:Act')(σ:St):Option St:=
 match a with
 | .trc _ _ _=>none
 | .app x y e sz by'=>match yq σ x y with
   |some false=>fD d (.app x y e sz by') σ
   |_=>none
 | .ltr e sz xs=>match fD d (.ltr e sz xs) σ with
   |some τ=>some τ
   |none=>br env d (.ltr e sz xs) σ
 | .lit _ _ _=>none
 |a=>fD d a σ
def Dl(env:Env)(d:Option Nat)(a:Act')(σ:St):Option St:=match jG env d a σ with
 |some τ=>some τ
 |none=>Kn env d a σ
def xop(x:Option Nat->Act'->St->Option St)(o:AOp)(σ:St):Option St:=
 match o.g with
 |none=>x o.d o.a σ
 |some (t,b)=>match lk σ.r t with
   |some (.bool y)=>if y=b then x o.d o.a σ else some (σ.put o.d (.tup []))
   |some (.tup [])=>some (σ.put o.d (.tup []))
   |_=>none
def EL(x:Option Nat->Act'->St->Option St):List AOp->St->Option St
 |[],σ=>some σ
 |o::os,σ=>match xop x o σ with
   |some τ=>EL x os τ
   |none=>none
def wm(env:Env)(ks:List Nat):OT->St->Option St
 | .nil,σ=>some (σ.nrm ks)
 | .op o t,σ=>match xop (Dl env) o σ with
   |some τ=>wm env ks t τ
   |none=>none
 | .both a b,σ=>match wm env ks a σ,wm env ks b σ with
   |some τ,some τ'=>if eqS τ τ'=true then some τ else none
   |_,_=>none
def G9(f:St->Option (Ex×St))(ks:List Nat):Nat->St->Option (Ex×St)
 |0,_=>none
 |n+1,τ=>match f τ with
   |some (.norm,τ')=>G9 f ks n (τ'.nrm ks)
   |some (e,τ')=>some (e,τ')
   |none=>none
def Hf(l:Nat)(f:St->Option (Ex×St))(ks:List Nat):Nat->St->Option (Ex×St)
 |0,_=>none
 |n+1,τ=>match f τ with
   |some (.goto l',τ')=>if l'=l then Hf l f ks n (τ'.nrm ks)else none
   |some (e,τ')=>some (e,τ')
   |none=>none
def cZ(env:Env)(fuel:Nat):AC->St->Option (Ex×St)
 | .skip,σ=>some (.norm,σ)
 | .reg ops ks,σ=>match EL (PU env) ops σ with
   |some σ'=>some (.norm,σ.cls σ' ks)
   |none=>none
 | .regD ops ks,σ=>match EL (Dl env) ops σ with
   |some σ'=>some (.norm,σ.cls σ' ks)
   |none=>none
 | .regE _ _,_=>none
 | .regF t ks,σ=>match wm env ks t σ with
   |some σ'=>some (.norm,σ')
   |none=>none
 | .scope l ks a b,σ=>match cZ env fuel a σ with
   |some (.goto l',τ)=>if l'=l then Hf l (cZ env fuel b) ks fuel (τ.nrm ks)else none
   |r=>r
 | .label _,σ=>some (.norm,σ)
 | .goto l,σ=>some (.goto l,σ)
 | .bad,_=>none
 | .seq a b,σ=>match cZ env fuel a σ with
   |some (.norm,τ)=>cZ env fuel b τ
   |r=>r
 | .cond c a b,σ=>match σ.ev c with
   |some (.bool t)=>if t=true then cZ env fuel a σ else cZ env fuel b σ
   |_=>none
 | .block id c,σ=>match cZ env fuel c σ with
   |some (.exit id',τ)=>if id'=id then some (.norm,τ)else some (.exit id',τ)
   |r=>r
 | .loop ks c,σ=>G9 (cZ env fuel c) ks fuel (σ.nrm ks)
 | .exit id,σ=>some (.exit id,σ)
 | .ret,σ=>some (.ret,σ)
structure EnvOK (env:Env) (Φ:Ctr):Prop where
 p:∀f us r nw,env.p f us=some (r,nw)->Φ.p f us r/\(nw=true->Φ.n f us r)
 h:∀f us H r H' ps,env.ps f=some ps->env.h f us H=some (r,H')->Φ.e f ps us H r H'
section
variable{env:Env}{Φ:Ctr}(hE:EnvOK env Φ){d:Option Nat}{σ τ:St}{K:St->Prop}
include hE
theorem n7{f:FuncId}{vs us:List V}(h:Hg env d f vs us σ=some τ)(hK:K τ):kB Φ d f vs us K σ:=by
 unfold Hg at h;split at h
 ·rename_i r nw hr
  obtain⟨h1,h2⟩:=hE.p _ _ _ _ hr;split at h
  ·rename_i hc
   cases h;refine⟨r,.inl ⟨?_,fun _=>hK⟩⟩;rcases hc with h|h|h
   ·exact .inl ⟨h1,.inl h⟩
   ·exact .inl ⟨h1,.inr h⟩
   ·exact .inr (h2 h)
  ·cases h
   exact⟨r,.inr (.inl ⟨h1,fun _=>hK⟩)⟩
 ·cases h
theorem s7{f:FuncId}{vs us:List V}(h:EM env d f vs us σ=some τ)(hK:K τ):mj Φ d f vs us K σ:=by
 unfold EM at h;split at h
 ·rename_i r nw hr
  obtain⟨h1,h2⟩:=hE.p _ _ _ _ hr;split at h
  ·rename_i hc
   cases h;refine⟨r,?_,hK⟩;rcases hc with h|h|h
   ·exact .inl ⟨h1,.inl h⟩
   ·exact .inl ⟨h1,.inr h⟩
   ·exact .inr (h2 h)
  ·cases h
 ·cases h
theorem q9{f:FuncId}{vs:List V}(h:n8 env d f vs σ=some τ)(hK:K τ):x8 Φ d f vs K σ:=by
 unfold n8 at h;split at h
 ·rename_i ps hps
  split at h
  ·rename_i hc
   unfold MF at h;split at h
   ·rename_i r H' hr
    split at h
    ·rename_i hk
     cases h;exact .inl ⟨ps,hc,r,H',hk,hE.h _ _ _ _ _ _ hps hr,hK⟩
    ·cases h
   ·cases h
  ·cases h
 ·cases h
theorem jl{f:FuncId}{vs:List V}(h:n8 env d f vs σ=some τ)(hK:K τ):dL Φ d f vs K σ:=by
 obtain⟨ps,h1,r,H',h2,h3,h4⟩|⟨r,hz,h4⟩:=q9 hE h hK
 ·exact .inl ⟨ps,h1,r,H',h2,h3,fun _ _=>h4⟩
 ·exact .inr (.inr (.inl ⟨r,hz,fun _=>h4⟩))
omit hE in
theorem NP{Φ:Ctr}{x y:AO}{e sz by':Nat}{u v:V}(hu:σ.ev x=some u)(hv:σ.ev y=some v)(huq:∀k j n i o,u≠V.q k j n i o)(hvq:∀k j n i o,v≠V.q k j n i o){d:Option Nat}{K:St->Prop}:af Φ d (.app x y e sz by') K σ=J7 σ d e sz by' u v K:=by
 simp only[af,hu,hv];cases u<;>first|rfl|exact(huq _ _ _ _ _ rfl).elim|(cases v<;>first|rfl|exact(hvq _ _ _ _ _ rfl).elim)
theorem oc{a:Act'}(h:br env d a σ=some τ)(hK:K τ):af Φ d a K σ:=by
 cases a with
 |alc z=>simp only[br,zAb]at h;subst h;exact hK
 |box x=>
   simp only[br]at h;simp only[af];split at h
   ·rename_i v hv
    simp only[hv];split at h
    ·rename_i hc;cases h;simp only[if_pos hc];exact hK
    ·cases h
   ·cases h
 |st n p x=>
   simp only[br]at h;simp only[af];split at h
   ·rename_i v u hv hu
    simp only[hv,hu];split at h
    ·rename_i hc
     simp only[if_pos hc];split at h
     ·rename_i σ' hs;simp only[hs];cases h;exact hK
     ·cases h
    ·cases h
   ·cases h
 |s2b x=>
   simp only[br]at h;simp only[af];split at h
   ·rename_i s hv
    simp only[hv];split at h
    ·rename_i hc;cases h;exact⟨hc,hK⟩
    ·cases h
   ·cases h
 |lit e0 sz xs=>
   simp only[br]at h;simp only[af];split at h
   ·rename_i vs hv
    simp only[hv];split at h
    ·rename_i us hu
     simp only[hu];split at h
     ·rename_i hc;cases h;exact⟨hc.1,hc.2,hK⟩
     ·cases h
    ·cases h
   ·cases h
 |ltr e0 sz xs=>
   simp only[br]at h;simp only[af];split at h
   ·rename_i vs hv
    simp only[hv];split at h
    ·rename_i us hu
     simp only[hu];split at h
     ·rename_i hc;cases h;exact⟨hc.1,hc.2,hK⟩
     ·cases h
    ·cases h
   ·cases h
 |alq z=>simp only[br]at h;cases h
 |bxq x=>simp only[br]at h;cases h
 |cvb x=>simp only[br]at h;cases h
 |apz y e sz by'=>simp only[br]at h;cases h
 |sbq y=>simp only[br]at h;cases h
 |aps x y e=>simp only[br]at h;cases h
 |apb x y e=>simp only[br]at h;cases h
 |alb t e z=>simp only[br]at h;cases h
 |usd x=>simp only[br]at h;cases h
 |ust p n e=>simp only[br]at h;cases h
 |del kt x k=>simp only[br]at h;cases h
 |mkq e sz by' z n=>simp only[br]at h;cases h
 |app x y e sz by'=>
   simp only[br]at h;split at h
   ·rename_i u v hu hv
    split at h
    ·rename_i sz' l hs
     have hvq:∀k j n i o,v≠V.q k j n i o:=by rintro k j n i o rfl;simp[src,pur]at hs
     have huq:∀k j n i o,u≠V.q k j n i o:=by
      rintro k j n i o rfl;simp only at h;split at h<;>cases h
     rw[NP hu hv huq hvq];simp only[J7,hs];split at h
     ·rename_i hc
      refine⟨hc,?_⟩;split at h
      ·split at h
       ·rename_i hb;cases h;exact⟨hb,hK⟩
       ·cases h
      ·split at h
       ·rename_i e' sz2 l0 ha
        simp only[ha];split at h
        ·rename_i hb;cases h;exact⟨hb.1,hb.2.1,hb.2.2.1,hb.2.2.2,hK⟩
        ·cases h
       ·cases h
      ·cases h
     ·cases h
    ·cases h
   ·cases h
 |mk0 e sz by' n=>
   simp only[br]at h;simp only[af];split at h
   ·rename_i k m hv
    simp only[hv];split at h
    ·rename_i hc;cases h;exact⟨hc.1,hc.2,hK⟩
    ·cases h
   ·cases h
 |mks e sz by' z n=>
   simp only[br]at h;simp only[af];split at h
   ·rename_i k m hv
    simp only[hv];split at h
    ·rename_i hc;cases h;exact⟨hc.1,hc.2,hK⟩
    ·cases h
   ·cases h
 |mkm e by' e2 sz n=>
   simp only[br]at h;simp only[af];split at h
   ·rename_i k m hv
    simp only[hv];split at h
    ·rename_i hc;cases h;exact⟨hc.1,hc.2,hK⟩
    ·cases h
   ·cases h
 |call f xs=>
   simp only[br]at h;simp only[af];split at h
   ·rename_i vs hv
    simp only[hv];split at h
    ·rename_i us hu;simp only[hu];exact n7 hE h hK
    ·rename_i hu;simp only[hu];exact jl hE h hK
   ·cases h
 |callv g xs=>
   simp only[br]at h;simp only[af];split at h
   ·rename_i f a b vs hg hv
    simp only[hg,hv];split at h
    ·rename_i us hu;simp only[hu];exact n7 hE h hK
    ·rename_i hu;simp only[hu];exact jl hE h hK
   ·cases h
 |callH f xs=>
   simp only[br]at h;simp only[af];split at h
   ·rename_i vs hv;simp only[hv];exact jl hE h hK
   ·cases h
 |mkp kt=>simp only[br,zAb]at h;subst h;exact hK
 |mup kt x k v=>
   simp only[br]at h;simp only[af];split at h
   ·rename_i id n kv u h1 h2 h3
    simp only[h1,h2,h3];split at h
    ·rename_i kt' l u' h4 h5
     simp only[h4,h5];split at h
     ·rename_i hc;cases h;exact⟨hc.1,hc.2.1,hc.2.2.1,hc.2.2.2,hK⟩
     ·cases h
    ·cases h
   ·cases h
 |inv tbl x xs=>
   simp only[br]at h;simp only[af];split at h
   ·rename_i t v vs h1 h2
    simp only[h1,h2];split at h
    ·rename_i f hf
     simp only[hf];split at h
     ·rename_i us hu;simp only[hu];exact n7 hE h hK
     ·rename_i hu;simp only[hu];exact jl hE h hK
    ·cases h
   ·cases h
 |yld g xs=>simp only[br]at h;cases h
 |ivp tbl x xs=>simp only[br]at h;cases h
 |rgs x=>simp only[br]at h;cases h
 |nxs x=>simp only[br]at h;cases h
 |trc x hi sz=>
   simp only[br]at h;simp only[af];split at h
   ·rename_i id n k b h1 h2
    simp only[h1,h2];split at h
    ·rename_i e sz' l h3
     simp only[h3];split at h
     ·rename_i hc;cases h;exact⟨hc.1,hc.2.1,hc.2.2.1,hc.2.2.2,hK⟩
     ·cases h
    ·cases h
   ·cases h
 |_=>
   simp only[br]at h;simp only[af];split at h
   ·rename_i v hv;simp only[hv];cases h;exact hK
   ·cases h
theorem EN{a:Act'}(h:jG env d a σ=some τ)(hK:K τ):ai Φ d a K σ:=by
 have key:br env d a σ=some τ->af Φ d a K σ:=fun h'=>oc hE h' hK;cases a with
 |lit e0 sz xs=>
   simp only[jG]at h;simp only[ai];split at h
   ·rename_i vs hv
    simp only[hv];split at h
    ·rename_i us hu
     simp only[hu];split at h
     ·rename_i hc;cases h;exact⟨hc.1,hc.2,hK⟩
     ·cases h
    ·cases h
   ·cases h
 |call f xs=>
   simp only[jG]at h;simp only[ai];split at h
   ·rename_i vs hv
    simp only[hv];split at h
    ·rename_i us hu;simp only[hu];exact s7 hE h hK
    ·cases h
   ·cases h
 |callv g xs=>
   simp only[jG]at h;simp only[ai];split at h
   ·rename_i f a b vs hg hv
    simp only[hg,hv];split at h
    ·rename_i us hu;simp only[hu];exact s7 hE h hK
    ·cases h
   ·cases h
 |callH f xs=>
   simp only[jG]at h;simp only[ai];split at h
   ·rename_i vs hv;simp only[hv];exact q9 hE h hK
   ·cases h
 |inv=>simp only[jG]at h;cases h
 |ivp=>simp only[jG]at h;cases h
 |trc=>simp only[jG]at h;cases h
 |ltr=>simp only[jG]at h;cases h
 |app x y e sz by'=>
   have h0:=key h;simp only[jG,br]at h;split at h
   ·rename_i u v hu hv
    split at h
    ·rename_i sz' l hs
     have hb:qf x v=false:=by
      cases v<;>first|(simp[src,pur]at hs;done)|(unfold qf;split<;>first|rfl|(rename_i e;cases e))
     simp only[ai,hv,hb,zAe,if_false];exact h0
    ·cases h
   ·cases h
 |_=>exact key h
omit hE in
theorem wn{a:Act'}(h:fD d a σ=some τ)(hK:K τ):af Φ d a K σ:=by
 have q1:∀{o:Option (St×V)},(o.map fun p=>p.1.put d p.2)=some τ->oM o (pK d K):=fun{o} h=>by
  cases o with
  |none=>cases h
  |some p=>simp only[zAh,zAb]at h;subst h;exact hK
 cases a with
 |alq z=>rw[WJ];exact q1 h
 |bxq x=>rw[WE];exact q1 h
 |rgs x=>rw[Wz];exact q1 h
 |nxs x=>rw[WA];exact q1 h
 |usd x=>
   rw[Ww];simp only[fD]at h;cases hv:Qz σ x with
   |none=>rw[hv]at h;cases h
   |some v=>rw[hv]at h;simp only[zAh,zAb]at h;subst h;exact hK
 |cvb x=>
   rw[WD];simp only[fD]at h;split at h
   ·rename_i id n sz l hv
    split at h
    ·rename_i hc
     cases h;rw[hv];exact⟨⟨hc.1,hc.2.1,fun e=>by simp only at e;subst e;simp at hc⟩,hK⟩
    ·cases h
   ·cases h
 |mkq e sz by' z n=>
   rw[WB];simp only[fD]at h;split at h
   ·rename_i hv
    split at h
    ·rename_i hc;cases h;rw[hv];exact⟨hc,hK⟩
    ·cases h
   ·cases h
 |apz y e sz by'=>
   rw[WF];simp only[fD]at h;split at h
   ·rename_i hv
    split at h
    ·rename_i hc;cases h;rw[hv];exact⟨hc,hK⟩
    ·cases h
   ·cases h
 |sbq y=>
   rw[Wy];simp only[fD]at h;split at h
   ·rename_i hv
    split at h
    ·rename_i hc;cases h;rw[hv];exact⟨hc,hK⟩
    ·cases h
   ·cases h
 |aps x y e=>
   rw[WG];simp only[fD]at h;split at h
   ·rename_i hv
    split at h
    ·rename_i hw
     split at h
     ·rename_i hc;cases h;rw[hv];simp only[oM,Ba,A9,hw];exact⟨hc,hK⟩
     ·cases h
    ·cases h
   ·cases h
 |apb x y e=>
   rw[WI];simp only[fD]at h;split at h
   ·rename_i hv
    split at h
    ·rename_i hw
     split at h
     ·rename_i hc;cases h;rw[hv];simp only[oM,Ba,A9,hw];exact⟨hc,hK⟩
     ·cases h
    ·cases h
   ·cases h
 |alb t e z=>
   rw[WK];simp only[fD]at h;split at h
   ·rename_i ms hp;cases h;rw[hp];exact⟨rfl,hK⟩
   ·cases h
 |ust p n e=>
   rw[Wv];simp only[fD]at h;split at h
   ·rename_i m h1 h2
    split at h
    ·rename_i hc;cases h;simp only[KA,h1,h2,oM];exact⟨⟨hc,.inl rfl⟩,hK⟩
    ·cases h
   ·rename_i h1 h2
    split at h
    ·rename_i h3
     split at h
     ·rename_i h4
      split at h
      ·rename_i hc
       cases h;simp only[KA,h1,h2,h3,h4,oM];exact⟨⟨⟨hc.1,hc.2.1,hc.2.2.1,hc.2.2.2.1,hc.2.2.2.2.1,hc.2.2.2.2.2.1⟩,.inr hc.2.2.2.2.2.2⟩,hK⟩
      ·cases h
     ·cases h
    ·cases h
   ·cases h
 |del kt x k=>
   rw[WC];simp only[fD]at h;split at h
   ·rename_i hv
    split at h
    ·rename_i hc;cases h;rw[hv];exact⟨hc,hK⟩
    ·cases h
   ·cases h
 |trc x hi sz=>
   rw[Wx];simp only[fD]at h;split at h
   ·rename_i hv
    split at h
    ·rename_i hc;cases h;rw[hv];exact⟨hc,hK⟩
    ·cases h
   ·cases h
 |ltr e sz xs=>
   rw[S3];simp only[fD]at h;split at h
   ·rename_i hv
    split at h
    ·rename_i hp
     split at h
     ·rename_i hw
      split at h
      ·rename_i hc;cases h;rw[hv];simp only[oM,vE,oN,hp,IG,hw];exact⟨hc,hK⟩
      ·cases h
     ·cases h
    ·cases h
   ·cases h
 |app x y e sz by'=>
   rw[WH];simp only[fD]at h;split at h
   ·rename_i hv
    split at h
    ·rename_i hc;cases h;rw[hv];exact⟨hc,hK⟩
    ·cases h
   ·cases h
 |_=>cases h
theorem r8{a:Act'}(h:PU env d a σ=some τ)(hK:K τ):af Φ d a K σ:=by
 unfold PU at h;split at h
 ·rename_i h';cases h;exact oc hE h' hK
 ·exact wn h hK
theorem n9{a:Act'}(h:Dl env d a σ=some τ)(hK:K τ):ai Φ d a K σ:=by
 unfold Dl at h;split at h
 ·rename_i h';cases h;exact EN hE h' hK
 ·have key:fD d a σ=some τ->af Φ d a K σ:=fun h'=>wn h' hK
  cases a with
  |trc=>cases h
  |lit=>cases h
  |app x y e sz by'=>
    simp only[Kn]at h;split at h
    ·rename_i hb;rw[S7,hb];exact key h
    ·cases h
  |ltr e sz xs=>
    rw[S4];simp only[Kn]at h;split at h
    ·rename_i h';cases h;exact key h'
    ·exact oc hE h hK
  |call=>cases h
  |callv=>cases h
  |callH=>cases h
  |inv=>cases h
  |ivp=>cases h
  |_=>exact key h
theorem NG{o:AOp}(h:xop (PU env) o σ=some τ)(hK:K τ):wop Φ o K σ:=by
 obtain⟨od,oa,og⟩:=o;cases og with
 |none=>exact r8 hE h hK
 |some p=>
   obtain⟨t,b⟩:=p;simp only[xop]at h;simp only[wop];split at h
   ·rename_i y hy
    simp only[hy];split at h
    ·rename_i hyb
     subst hyb;cases y
     ·simp only[zAe,if_false];exact⟨fun h'=>(by cases h'),fun _=>r8 hE h hK⟩
     ·simp only[if_true];exact⟨fun _=>r8 hE h hK,fun h'=>(by cases h')⟩
    ·rename_i hyb
     cases h;cases y<;>cases b
     ·exact absurd rfl hyb
     ·simp only[if_true];exact⟨fun h'=>(by cases h'),fun _=>hK⟩
     ·simp only[zAe,if_false];exact⟨fun _=>hK,fun h'=>(by cases h')⟩
     ·exact absurd rfl hyb
   ·rename_i hy;simp only[hy];cases h;exact hK
   ·cases h
theorem yv{o:AOp}(h:xop (Dl env) o σ=some τ)(hK:K τ):aK Φ o K σ:=by
 obtain⟨od,oa,og⟩:=o;cases og with
 |none=>exact n9 hE h hK
 |some p=>
   obtain⟨t,b⟩:=p;simp only[xop]at h;simp only[aK];split at h
   ·rename_i y hy
    simp only[hy];split at h
    ·rename_i hyb
     subst hyb;cases y
     ·simp only[zAe,if_false];exact⟨fun h'=>(by cases h'),fun _=>n9 hE h hK⟩
     ·simp only[if_true];exact⟨fun _=>n9 hE h hK,fun h'=>(by cases h')⟩
    ·rename_i hyb
     cases h;cases y<;>cases b
     ·exact absurd rfl hyb
     ·simp only[if_true];exact⟨fun h'=>(by cases h'),fun _=>hK⟩
     ·simp only[zAe,if_false];exact⟨fun _=>hK,fun h'=>(by cases h')⟩
     ·exact absurd rfl hyb
   ·rename_i hy;simp only[hy];cases h;exact hK
   ·cases h
theorem yu:∀{os:List AOp}{σ:St},EL (PU env) os σ=some τ->K τ->vj Φ os K σ
 |[],σ,h,hK=>by simp only[EL,zAb]at h;subst h;exact hK
 |o::os,σ,h,hK=>by
   simp only[EL]at h;split at h
   ·rename_i τ' h1;exact NG hE h1 (yu h hK)
   ·cases h
theorem wo:∀{os:List AOp}{σ:St},EL (Dl env) os σ=some τ->K τ->te Φ os K σ
 |[],σ,h,hK=>by simp only[EL,zAb]at h;subst h;exact hK
 |o::os,σ,h,hK=>by
   simp only[EL]at h;split at h
   ·rename_i τ' h1;exact yv hE h1 (wo h hK)
   ·cases h
theorem kz{ks:List Nat}:∀{t:OT}{σ τ:St},wm env ks t σ=some τ->K τ->gW Φ t (fun σ'=>K (σ'.nrm ks)) σ
 | .nil,σ,τ,h,hK=>by simp only[wm,zAb]at h;subst h;exact hK
 | .op o t,σ,τ,h,hK=>by
   simp only[wm]at h;split at h
   ·rename_i τ' h1;exact yv hE h1 (kz h hK)
   ·cases h
 | .both a b,σ,τ,h,hK=>by
   simp only[wm]at h;split at h
   ·rename_i τ1 τ2 h1 h2
    split at h
    ·rename_i he
     cases h;have:=Sj he;subst this;exact⟨kz h1 hK,kz h2 hK⟩
    ·cases h
   ·cases h
omit hE in
theorem G8{f:St->Option (Ex×St)}{ks:List Nat}{c:AC}(hf:∀{σ:St}{e:Ex}{τ:St}{Q:Ex->St->Prop},f σ=some (e,τ)->Q e τ->W Φ c Q σ){Q:Ex->St->Prop}{n:Nat}{σ:St}{e:Ex}{τ:St}
 (h:G9 f ks n (σ.nrm ks)=some (e,τ)) (hQ:Q e τ):W Φ (.loop ks c) Q σ:=by
 refine⟨fun k υ=>∃e τ,G9 f ks k υ=some (e,τ)/\Q e τ,⟨n,[],σ,rfl,e,τ,h,hQ⟩,?_⟩;rintro k υ ⟨e',τ',h',hQ'⟩;cases k with
 |zero=>cases h'
 |succ k=>
   simp only[G9]at h';split at h'
   ·rename_i τ1 h1
    exact hf h1 ⟨k,[],τ1,rfl,⟨e',τ',h',hQ'⟩,zBe _⟩
   ·rename_i e1 τ1 hne h1
    cases h';refine hf h1 ?_;cases e' with
    |norm=>exact(hne rfl).elim
    |_=>exact hQ'
   ·cases h'
omit hE in
theorem He{l:Nat}{f:St->Option (Ex×St)}{ks:List Nat}{a c:AC}(hf:∀{σ:St}{e:Ex}{τ:St}{Q:Ex->St->Prop},f σ=some (e,τ)->Q e τ->W Φ c Q σ){Q:Ex->St->Prop}{σ:St}{J:St}
 (ha:∀{Q':Ex->St->Prop},Q' (.goto l) J->W Φ a Q' σ) {n:Nat} {e:Ex} {τ:St} (h:Hf l f ks n (J.nrm ks)=some (e,τ)) (hQ:Q e τ):W Φ (.scope l ks a c) Q σ:=by
 refine⟨fun k υ=>∃e τ,Hf l f ks k υ=some (e,τ)/\Q e τ,ha ⟨rfl,n,[],J,rfl,e,τ,h,hQ⟩,?_⟩;rintro k υ ⟨e',τ',h',hQ'⟩;cases k with
 |zero=>cases h'
 |succ k=>
   simp only[Hf]at h';split at h'
   ·rename_i l' τ1 h1
    split at h'
    ·rename_i hl
     exact hf h1 ⟨hl,k,[],τ1,rfl,⟨e',τ',h',hQ'⟩,zBe _⟩
    ·cases h'
   ·rename_i e1 τ1 hne h1
    cases h';refine hf h1 ?_;cases e' with
    |goto l'=>exact(hne l' rfl).elim
    |_=>exact hQ'
   ·cases h'
theorem kA{fuel:Nat}:∀{c:AC}{σ:St}{e:Ex}{τ:St}{Q:Ex->St->Prop},cZ env fuel c σ=some (e,τ)->Q e τ->W Φ c Q σ:=by
 intro c
 induction c with
 |skip=>intro σ e τ Q h hQ;simp only[cZ,zAb,zAd]at h;obtain⟨rfl,rfl⟩:=h;exact hQ
 |reg ops ks=>
   intro σ e τ Q h hQ;simp only[cZ]at h;split at h
   ·rename_i σ' h1;cases h;exact yu hE h1 hQ
   ·cases h
 |regD ops ks=>
   intro σ e τ Q h hQ;simp only[cZ]at h;split at h
   ·rename_i σ' h1;cases h;exact wo hE h1 hQ
   ·cases h
 |regE=>intro σ e τ Q h hQ;simp only[cZ]at h;cases h
 |regF t ks=>
   intro σ e τ Q h hQ;simp only[cZ]at h;split at h
   ·rename_i σ' h1;cases h;exact kz hE h1 hQ
   ·cases h
 |scope l ks a b iha ihb=>
   intro σ e τ Q h hQ;simp only[cZ]at h;split at h
   ·rename_i l' J h1
    split at h
    ·rename_i hl
     subst hl;exact He ihb (fun hq=>iha h1 hq) h hQ
    ·cases h
   ·rename_i hne
    refine⟨fun _ _=>False,iha h ?_,fun _ _ h=>h.elim⟩;cases e with
    |goto l'=>exact(hne l' τ h).elim
    |_=>exact hQ
 |label l=>intro σ e τ Q h hQ;simp only[cZ,zAb,zAd]at h;obtain⟨rfl,rfl⟩:=h;exact hQ
 |goto l=>intro σ e τ Q h hQ;simp only[cZ,zAb,zAd]at h;obtain⟨rfl,rfl⟩:=h;exact hQ
 |bad=>intro σ e τ Q h hQ;simp only[cZ]at h;cases h
 |seq a b iha ihb=>
   intro σ e τ Q h hQ;simp only[cZ]at h;split at h
   ·rename_i τ1 h1;exact iha h1 (ihb h hQ)
   ·rename_i hne
    refine iha h ?_;cases e with
    |norm=>exact(hne τ h).elim
    |_=>exact hQ
 |cond c a b iha ihb=>
   intro σ e τ Q h hQ;simp only[cZ]at h;rw[Z2];split at h
   ·rename_i t ht
    simp only[ht];cases t
    ·exact⟨fun h'=>(by cases h'),fun _=>ihb (by simpa using h) hQ⟩
    ·exact⟨fun _=>iha (by simpa using h) hQ,fun h'=>(by cases h')⟩
   ·cases h
 |block id c ih=>
   intro σ e τ Q h hQ;simp only[cZ]at h;rw[NA];split at h
   ·rename_i id' τ1 h1
    refine ih h1 ?_;rw[tY];split at h
    ·rename_i hi;cases h;rw[if_pos hi];exact hQ
    ·rename_i hi;cases h;rw[if_neg hi];exact hQ
   ·rename_i hne
    refine ih h ?_;cases e with
    |exit id'=>exact(hne id' τ h).elim
    |_=>exact hQ
 |loop ks c ih=>intro σ e τ Q h hQ;simp only[cZ]at h;exact G8 ih h hQ
 |exit id=>intro σ e τ Q h hQ;simp only[cZ,zAb,zAd]at h;obtain⟨rfl,rfl⟩:=h;exact hQ
 |ret=>intro σ e τ Q h hQ;simp only[cZ,zAb,zAd]at h;obtain⟨rfl,rfl⟩:=h;exact hQ
end
structure FD where
 c:AC
 rs:List RV
 n:Nat
 ps:List Nat
structure FTab where
 p:FuncId->Option FD
 h:FuncId->Option FD
 g:FuncId->List V->Option V
 q:FuncId->Option FD
 k:FuncId->Option (List V->List (Option Ob)->Option (V×List (Option Ob)))
def Pl:Ex->Bool
 | .exit _=>false
 | .goto _=>false
 |_=>true
def xres(rs:List RV):Ex×St->Option (V×Bool)
 |(e,σ)=>if Pl e=true then(match σ.rvs rs with
   |some vs=>match purs σ.h vs with
     |some us=>some (fw us,Ar σ.h vs)
     |none=>none
   |none=>none)else none
def Wk(F:Nat)(rs:List RV):Ex×St->Option (V×Bool)
 |(e,σ)=>if Pl e=true then(match σ.rvs rs with
   |some vs=>match σ.pl? with
     |some ms=>match fY (frz ms F) vs with
       |some ws=>some (fw ws,false)
       |none=>none
     |none=>none
   |none=>none)else none
def E5(m:List Nat)(r:List (Nat×V))(us:List V):List Nat->Bool
 |[]=>true
 |i::is=>(match lk r i,us[i]? with
   |some v,some u=>eqV (ren m v) u
   |_,_=>false)&&E5 m r us is
def PT(σ:St)(ps:List Nat)(us:List V)(vs:List V)(m:List Nat):Option (V×List (Option Ob)):=
 if E5 m σ.r us ps=true then some (fw (dO m vs),fL σ.h m m)else none
def Wl(rs:List RV)(ps:List Nat)(us:List V):Ex×St->Option (V×List (Option Ob))
 |(e,σ)=>if Pl e=true then(match σ.rvs rs with
   |some vs=>PT σ ps us vs (cU σ.h (tI (pk σ.r ps)) vs).2
   |none=>none)else none
def n6(T:FTab)(fuel:Nat):Nat->Env
 |0=>⟨fun f us=>(T.g f us).map fun r=>(r,false),fun _=>none,fun _ _ _=>none⟩
 |n+1=>
   { p:=fun f us=>match T.g f us with
       |some r=>some (r,false)
       |none=>match T.p f with
         |some D=>if us.length=D.n then(match cZ (n6 T fuel n) fuel D.c ⟨ent 0 us,[]⟩with
           |some x=>xres D.rs x
           |none=>none)else none
         |none=>match T.q f with
           |some D=>if us.length=D.n then(match cZ (n6 T fuel n) fuel D.c ⟨ent 0 us,[some (.pool [])]⟩with
             |some x=>Wk fuel D.rs x
             |none=>none)else none
           |none=>none
     ps:=fun f=>match T.k f with
      |some _=>some []
      |none=>(T.h f).map (·.ps)
     h:=fun f us H=>match T.k f with
       |some g=>g us H
       |none=>match T.h f with
       |some D=>if us.length=D.n then(match cZ (n6 T fuel n) fuel D.c ⟨ent 0 us,H⟩with
         |some x=>Wl D.rs D.ps us x
         |none=>none)else none
       |none=>none }
def Img(P:Program)(f:FuncId)(D:FD):Prop:=∃fn K E,P.funcs[f]?=some fn/\aq P fn D.ps E K D.n=some (D.c,D.rs)
structure TabOK (P:Program) (T:FTab):Prop where
 p:∀f D,T.p f=some D->Img P f D/\D.ps=[]
 h:∀f D,T.h f=some D->Img P f D
 g:∀f us r,T.g f us=some r->Fn P f us r
 q:∀f D,T.q f=some D->Img P f D/\D.ps=[]
 k:∀f g us H r H',T.k f=some g->g us H=some (r,H')->FnH P f [] us H r H'
theorem wF{m:List Nat}{r:List (Nat×V)}{us:List V}:∀{is:List Nat},E5 m r us is=true->DS m r us is
 |[],_=>trivial
 |i::is,h=>by
   simp only[E5,zAa]at h;refine⟨?_,wF h.2⟩;have h1:=h.1;split at h1
   ·rename_i v u hv hu;first|(simp only[hv,hu];exact ir h1)|exact ir h1
   ·cases h1
theorem Z3{rs:List RV}{post:V->Prop}{e:Ex}{σ:St}(he:Pl e=true)(h:match σ.rvs rs with
 |some vs=>match purs σ.h vs with
   |some us=>post (fw us)
   |none=>False
 |none=>False):Res rs post e σ:=⟨(by cases e<;>first|trivial|cases he),h⟩
theorem We{rs:List RV}{r:V}{e:Ex}{σ:St}(he:Pl e=true)(h:match σ.rvs rs with
 |some vs=>Ar σ.h vs=true/\(match purs σ.h vs with
   |some us=>fw us=r
   |none=>False)
 |none=>False):G6 rs r e σ:=⟨(by cases e<;>first|trivial|cases he),h⟩
theorem Wg{rs:List RV}{ps:List Nat}{us:List V}{r:V}{H':List (Option Ob)}{e:Ex}{σ:St}(he:Pl e=true)(h:match σ.rvs rs with
 |some vs=>HZ σ ps us r H' vs (cU σ.h (tI (pk σ.r ps)) vs).2
 |none=>False):G7 rs ps us r H' e σ:=⟨(by cases e<;>first|trivial|cases he),h⟩
theorem FnN.of_imageE{P:Program}{f:FuncId}{fn:Func}{E:List Nat}{us:List V}{r:V}{x:AC}{K:List (List Nat)}{rs:List RV}{n:Nat}(hm:P.follows .mixedOrders=true)(hf:P.funcs[f]?=some fn)
 (hi:aq P fn [] E K n=some (x,rs)) (hn:us.length=n) (hW:oks us->W (Cn P) x (G6 rs r) ⟨ent 0 us,[]⟩):FnN P f us r:=by
 unfold aq at hi;split at hi
 ·split at hi
  ·split at hi
   ·rename_i hc
    cases hi;exact FnN.of_W hm hf ‹_› hc.1 (dw ‹_›) ‹_› (by rw[hn];exact hc.2.1) hW
   ·cases hi
  ·cases hi
 ·cases hi
theorem Img.of_image{P:Program}{f:FuncId}{fn:Func}{K:List (List Nat)}{n:Nat}{c:AC}{rs:List RV}(hf:P.funcs[f]?=some fn)(h:al P fn K n=some (c,rs)):Img P f ⟨c,rs,n,[]⟩:=by
 refine⟨fn,K,[],hf,?_⟩
 show aq P fn [] [] K n=some (c,rs)
 unfold al at h;unfold aq;cases hb:fn.body with
 |none=>rw[hb]at h;cases h
 |some x=>
   rw[hb]at h;dsimp only at h⊢;split at h
   ·rename_i y rs' hx hr
    split at h
    ·rename_i hc
     cases h;exact if_pos ⟨hc.1,hc.2,rfl⟩
    ·cases h
   ·cases h
theorem Img.of_imageE{P:Program}{f:FuncId}{fn:Func}{ps E:List Nat}{K:List (List Nat)}{n:Nat}{c:AC}{rs:List RV}(hf:P.funcs[f]?=some fn)(h:aq P fn ps E K n=some (c,rs)):Img P f ⟨c,rs,n,ps⟩:=⟨fn,K,E,hf,h⟩
theorem bM{P:Program}{T:FTab}(hm:P.follows .mixedOrders=true)(hT:TabOK P T)(fuel:Nat)(n:Nat):EnvOK (n6 T fuel n) (Cn P):=by
 induction n with
 |zero=>
   refine⟨fun f us r nw h=>?_,fun f us H r H' ps h=>by simp[n6]at h⟩
   simp only[n6,Option.map_eq_some_iff,zAd]at h;obtain⟨r',h1,rfl,rfl⟩:=h;exact⟨hT.g _ _ _ h1,fun h=>by cases h⟩
 |succ n ih=>
   refine⟨fun f us r nw h=>?_,fun f us H r H' ps h h'=>?_⟩
   ·simp only[n6]at h
    split at h
    ·rename_i r' h1
     cases h;exact⟨hT.g _ _ _ h1,fun h=>by cases h⟩
    ·split at h
     ·rename_i D hD
      obtain⟨⟨fn,K,E,hf,hi⟩,hps⟩:=hT.p _ _ hD;rw[hps]at hi;split at h
      ·rename_i hl
       split at h
       ·rename_i x hx
        obtain⟨e,σ⟩:=x;simp only[xres]at h;split at h
        ·rename_i he
         split at h
         ·rename_i vs hvs
          split at h
          ·rename_i ws hws
           cases h;exact⟨Fn.of_imageE hm hf hi hl fun _=>kA ih hx (Z3 he (by simp only[hvs,hws])),fun hfr=>FnN.of_imageE hm hf hi hl fun _=>kA ih hx (We he (by simp only[hvs,hws];exact⟨hfr,trivial⟩))⟩
          ·cases h
         ·cases h
        ·cases h
       ·cases h
      ·cases h
     ·split at h
      ·rename_i D hD
       obtain⟨⟨fn,K,E,hf,hi⟩,hps⟩:=hT.q _ _ hD;rw[hps]at hi;split at h
       ·rename_i hl
        split at h
        ·rename_i x hx
         obtain⟨e,σ⟩:=x;simp only[Wk]at h;split at h
         ·rename_i he
          split at h
          ·rename_i vs hvs
           split at h
           ·rename_i ms hms
            split at h
            ·rename_i ws hws
             cases h;exact⟨(FnE.of_imageQ hm hf hi hl fun _=>kA ih hx ⟨(by cases e<;>first|trivial|cases he),by simp only[hvs];exact⟨ms,fuel,ws,hms,hws,rfl⟩⟩).fn,fun h=>by cases h⟩
            ·cases h
           ·cases h
          ·cases h
         ·cases h
        ·cases h
       ·cases h
      ·cases h
   ·simp only[n6]at h h'
    cases hk:T.k f with
    |some g=>
      rw[hk]at h h';cases h;exact hT.k _ _ _ _ _ _ hk h'
    |none=>
    rw[hk]at h h';simp only at h h';split at h'
    ·rename_i D hD
     simp only[hD,zAh,zAb]at h;subst h;obtain⟨fn,K,E,hf,hi⟩:=hT.h _ _ hD;split at h'
     ·rename_i hl
      split at h'
      ·rename_i x hx
       obtain⟨e,σ⟩:=x;simp only[Wl]at h';split at h'
       ·rename_i he
        split at h'
        ·rename_i vs hvs
         unfold PT at h';split at h'
         ·rename_i hp
          cases h';exact FnH.of_image hm hf hi hl fun _ _=>kA ih hx (Wg he (by simp only[hvs];exact⟨wF hp,rfl,rfl⟩))
         ·cases h'
        ·cases h'
       ·cases h'
      ·cases h'
     ·cases h'
    ·cases h'
end Go.Abs
end
section
namespace Go.Abs
open Go.RowKit
theorem Heap.boxed{P:Program}{J:Nat->List (V×Bool)->(Nat->Prop)->Mem->World->Prop}{κ:Kap}{κ0:Kap}{M:Mem}{w w':World}{ca:Array Value}{H':List (Option Ob)}(h:Heap κ M (cg κ0 [] w [] ca J) w' H')(hu:Und (cg κ0 [] w [] ca J) w w'){cs cs':List V}{id:Nat}{c:Value}
 (hb:H'[id]?=some (some (.box cs))) (hp:purs H' cs=some cs') (hr:rep M (XX κ H') (.ptr id 0) c):
 ∃M',(∀p v,M p=some v->M' p=some v)/\(∀p v,M' p=some v->w'.cell? p=some v)/\(∀p v,M' p=some v->M p=some v\/w.heap.size<=p.block)/\rep M' NX (.sptr (.strct cs') 0) c:=by
 have H:Rel 0 M (cg κ0 [] w [] ca J) w κ M ⟨[],H'⟩ { tmps:=#[],defers:=[] } w':=
  { dfr:=rfl,jst:=h.jst,pin:=fun i hi=>(by cases hi),size:=rfl,regs:=fun t v ht=>(by simp[lk]at ht),heap:=h.heap,inj:=h.inj,snd:=h.snd,sep:=h.sep
    sub:=⟨fun _ _ h=>h,h.fmS,fun _ _ _=>zAi _,zAi _,h.gl⟩,new:=fun _ _ h=>.inl h,base:=rfl,blw:=hu }
 obtain⟨ids,nY⟩:∃ids,ids=id::ak cs:=⟨_,rfl⟩
 obtain⟨H2,hM⟩:=H.kill ids (fun i hi=>by
  rw[nY]at hi;rcases List.mem_cons.1 hi with rfl|hi
  ·exact⟨_,hb⟩
  ·exact dr hp i hi)
 have hob:=h.heap id _ hb;simp only[aE]at hob;obtain⟨b,arr,T,h1,h2,h3,h4,h5,h6⟩:=hob;simp only[rep,XX]at hr;obtain⟨b',e1,e2⟩:=hr.2.2 _ hb;rw[h1]at e1;cases e1;refine⟨ext M w' (gp κ ids),hM,H2.snd,fun p v hv=>?_,?_⟩
 ·rcases H2.new p v hv with h|h|⟨i,ob,g1,_⟩
  ·exact .inl h
  ·exact .inr h
  ·simp at g1
 ·have k3:ae (ext M w' (gp κ ids)) NX cs' arr.toList:=by
   refine bo H hM (fun i hi g hg p hpb=>?_) h4 hp;unfold ext;rw[if_pos (cf.2 ⟨i,by rw[nY];exact zAf _ hi,by rw[hpb];exact hg⟩)]
  simp only[rep];refine⟨b,0,.agg arr,by simpa using e2,⟨arr,rfl,k3,h5⟩,h5,fun j hj=>?_⟩
  have hk:gp κ ids b:=cf.2 ⟨id,by rw[nY];simp,(h6 b).2 rfl⟩
  unfold ext;rw[if_pos hk];simp[World.cell?,h3,Value.cells]
theorem FnH.start{M:Mem}{w:World}(h:Snd M w)(ca:Array Value):Heap ⟨fun _=>undef,fun _ _=>undef,fun _ _=>False,fun _=>none⟩ M (cg ⟨fun _=>undef,fun _ _=>undef,fun _ _=>False,fun _=>none⟩ [] w [] ca noJ) w []:=
 { heap:=fun id ob h=>by simp at h,inj:=fun i j oi oj g h=>by simp at h,snd:=h.snd,sep:=fun p v _ id ob h=>by simp at h,fmS:=fun _ _ h=>(by cases h),gl:=h.gl,jst:=jO rfl }
theorem FnH.boxed2{P:Program}{f:FuncId}{us:List V}{H':List (Option Ob)}{cs cs':List V}{x:V}(h:FnH P f [] us [] (.tup [.ptr 0 0,x]) H')(hx:cI x=true)(hb:H'[0]?=some (some (.box cs)))(hp:purs H' cs=some cs'):Fn P f us (.tup [.sptr (.strct cs') 0,x]):=by
 intro M w ca hM hus o a Nx Q hN;refine h M w _ ca noJ (jP rfl) (FnH.start hM ca) (aD (fun _ _ h=>h) (fun _ _ h=>h.elim) _ _ hus) o a Nx Q ?_;intro c M' w' κ' hr hu hh hM1 hM2 _;simp only[rep,ae]at hr;obtain⟨arr,rfl,c1,cs1,e1,hr1,c2,cs2,e2,hr2,e3⟩:=hr;obtain⟨M2,k1,k2,k3,k4⟩:=hh.boxed (P:=P) hu hb hp (c:=c1) (by simpa only[rep]using hr1)
 refine hN _ M2 w' ?_ ⟨hu.os,hu.tape,hu.output,hu.size,fun k hk=>hu.block k hk (fun⟨i,ob,g1,_⟩=>by simp at g1)⟩ k2 (fun p v h=>k1 p v (hM1 p v h)) (fun p v h=>?_)
 ·simp only[rep,ae]at k4⊢
  exact⟨arr,rfl,c1,_,e1,k4,c2,_,e2,lN hx hr2,e3⟩
 ·rcases k3 p v h with h|h
  ·rcases hM2 p v h with h|h|⟨i,ob,g1,_⟩
   ·exact .inl h
   ·exact .inr h
   ·simp at g1
  ·exact .inr h
section
variable{P:Program}{N:Nat}{M0:Mem}{B:Bas}{w0:World}{κ:Kap}{M:Mem}{σ:St}{a:Act}{w w':World}
theorem Rel.stay(H:Rel N M0 B w0 κ M σ a w)(hu:Und B w w')(hb:∀g,fg κ σ.h g->w'.heap[g]?=w.heap[g]?)(hs:∀p v,M p=some v->w'.cell? p=some v):Rel N M0 B w0 κ M σ a w':=
 { dfr:=H.dfr,jst:=H.jst,pin:=H.pin,size:=H.size,regs:=H.regs
   heap:=fun id ob h=>c9 (fun _ _ h=>h) (fun _ _ h=>h) ⟨rfl,rfl,rfl⟩ (fun g hg=>hb g ⟨id,ob,h,hg⟩) H.jst hu hs (H.heap id ob h)
   inj:=H.inj,snd:=hs,sep:=H.sep,sub:=H.sub,new:=H.new,base:=H.base,blw:=H.blw.trans hu }
def K4(o:Obj):Prop:=∀c e z,o≠.cells c e z
theorem qE{l:Nat}{o:Obj}(hl:w.heap[l]?=some o)(ho:K4 o){p:Addr}{v:Value}(h:w.cell? p=some v):p.block≠l:=by
 intro e;unfold World.cell? at h;rw[e,hl]at h;cases o<;>first|exact ho _ _ _ rfl|cases h
theorem pS{l:Nat}{o o':Obj}(hl:w.heap[l]?=some o)(ho:K4 o){p:Addr}{v:Value}(h:w.cell? p=some v):(w.putObj l o').cell? p=some v:=by
 rw[World.cell?_of_block (World.putObj_heap_other (qE hl ho h))];exact h
theorem MQ{l:Nat}{o o':Obj}(hl:w.heap[l]?=some o)(ho:K4 o):Siz w (w.putObj l o'):=by
 intro k cur T z hc;have:k≠l:=by rintro rfl;rw[hl]at hc;exact ho _ _ _ (Option.some.inj hc)
 exact⟨cur,T,z,by rw[World.putObj_heap_other this];exact hc,rfl⟩
theorem x9{l:Nat}{o o':Obj}(hl:w.heap[l]?=some o)(ho:K4 o)(hB:B.n<=l):Und B w (w.putObj l o'):=
 ⟨rfl,rfl,rfl,by simp,fun k hk hs=>World.putObj_heap_other (by omega),MQ hl ho⟩
theorem dG{r:Loop}:K4 (.loop r):=fun _ _ _ h=>by cases h
theorem oF{d:Option (List Deferred)}:K4 (.deferred d):=fun _ _ _ h=>by cases h
def St.ids(σ:St)(ks:List Nat):List Nat:=bY (bY (bY (di σ.h) (KS (pk σ.r ks))) (nY σ.h (bY (di σ.h) (KS (pk σ.r ks))))) (nY σ.h (bY (bY (di σ.h) (KS (pk σ.r ks))) (nY σ.h (bY (di σ.h) (KS (pk σ.r ks))))))
theorem K0{ks:List Nat}:σ.nrm ks={ r:=Bm (σ.ids ks) (pk σ.r ks),h:=fL σ.h (σ.ids ks) (σ.ids ks) }:=rfl
theorem O0{ks:List Nat}:(σ.ids ks).Nodup:=bN _ _ (bN _ _ (bN _ _ kK))
theorem Rel.nrm'(H:Rel N M0 B w0 κ M σ a w)(ks:List Nat):Rel N M0 B w0 (κ.ren (σ.ids ks)) M (σ.nrm ks) a w:=by
 rw[K0];exact H.ren O0 DP _ (fun t v h=>II h)
theorem vF{r:List (Nat×V)}:∀{ks:List Nat}{t:Nat}{v:V},lk (pk r ks) t=some v->t∈ks
 |[],_,_,h=>by simp[pk,lk]at h
 |k::ks,t,v,h=>by
   simp only[pk]at h;split at h
   ·simp only[lk]at h
    split at h
    ·rename_i he;simp[he]
    ·exact zAf _ (vF h)
   ·exact zAf _ (vF h)
theorem Lh{ks:List Nat}{t:Nat}{v:V}(h:lk (σ.nrm ks).r t=some v):t∈ks:=by
 rw[K0]at h;obtain⟨u,h1,_⟩:=Fx h;exact vF h1
def Kk(N:Nat)(M0:Mem)(B:Bas)(w0:World)(a:Act)(ks:List Nat)(l D:Nat)(τ:St)(r:Loop)(S:Nat->Prop)(Mm:Mem)(W:World):Prop:=
 ∃κi Mi,Rel N M0 B w0 κi Mi τ a W/\(∀t v,lk τ.r t=some v->t∈ks)/\(∀p v,Mi p=some v->Mm p=some v)/\W.heap[l]?=some (.loop r)/\W.heap[D]?=some (.deferred (some []))/\
   (∀g,S g↔fg κi τ.h g\/g=l\/g=D)/\∀g,fg κi τ.h g->g≠l/\g≠D
theorem Kk.stay{ks:List Nat}{l D:Nat}{τ:St}{r:Loop}{S:Nat->Prop}{Mm Mm':Mem}{W W':World}(h:Kk N M0 B w0 a ks l D τ r S Mm W)(hu:Und B W W')(hS:∀g,S g->W'.heap[g]?=W.heap[g]?)
 (hm:∀p v,Mm p=some v->Mm' p=some v) (hs:∀p v,Mm' p=some v->W'.cell? p=some v):Kk N M0 B w0 a ks l D τ r S Mm' W':=by
 obtain⟨κi,Mi,h1,h2,h3,h4,h5,h6,h7⟩:=h;exact⟨κi,Mi,h1.stay hu (fun g hg=>hS g ((h6 g).2 (.inl hg))) (fun p v hp=>hs p v (hm p v (h3 p v hp))),h2,fun p v hp=>hm p v (h3 p v hp),by rw[hS l ((h6 l).2 (.inr (.inl rfl)))];exact h4,by rw[hS D ((h6 D).2 (.inr (.inr rfl)))];exact h5,h6,h7⟩
def xw:List Nat->List V->List (Nat×V)->List (Nat×V)
 |t::ts,v::vs,r=>xw ts vs ((t,v)::r)
 |_,_,r=>r
theorem Rel.zip:∀{ts:List Nat}{us:List V}{cs:List Value}{r:List (Nat×V)}{h:List (Option Ob)}{T:Array Value},Rel N M0 B w0 κ M ⟨r,h⟩ ⟨T,[]⟩ w->ae M NX us cs->(∀t∈ts,t<N/\t ∉ B.ps)->
 Rel N M0 B w0 κ M ⟨xw ts us r,h⟩ ⟨(ts.zip cs).foldl (fun tmps (x:Nat×Value)=>tmps.setIfInBounds x.1 x.2) T,[]⟩ w
 |[],us,cs,r,h,T,H,_,_=>by cases us<;>simpa[xw]using H
 |t::ts,[],cs,r,h,T,H,hu,_=>by
   simp only[ae]at hu;subst hu;simpa[xw]using H
 |t::ts,u::us,cs,r,h,T,H,hu,ht=>by
   simp only[ae]at hu;obtain⟨c,cs',rfl,h1,h2⟩:=hu;have:=H.put (d:=t) (ht t (by simp)) (aB (X:=XX κ h) h1)
   simp only[xw,List.zip_cons_cons,List.foldl_cons];exact Rel.zip (this:Rel N M0 B w0 κ M ⟨(t,u)::r,h⟩ ⟨T.setIfInBounds t c,[]⟩ w) h2 fun t' h'=>ht t' (by simp[h'])
def E2(κi:Kap)(h:List (Option Ob))(W:World)(ks:List Nat)(cs:Array Value)(fb:Nat)(gq:Nat->Nat->Nat->Nat->Nat->Value->Prop):Bas:=⟨W.heap.size,fg κi h,ks,cs,fb,noJ,[],gq⟩
structure Calm (w w':World):Prop where
 os:w'.os=w.os
 tape:w'.tape=w.tape
 output:w'.output=w.output
 size:w.heap.size<=w'.heap.size
 siz:Siz w w'
theorem Calm.refl(w:World):Calm w w:=⟨rfl,rfl,rfl,zAj _,fun _ cur T z h=>⟨cur,T,z,h,rfl⟩⟩
theorem Calm.trans{w1 w2 w3:World}(h:Calm w1 w2)(k:Calm w2 w3):Calm w1 w3:=
 ⟨k.os.trans h.os,k.tape.trans h.tape,k.output.trans h.output,zBd h.size k.size,fun i cur T z hc=>by
   obtain⟨c1,T1,z1,h1,e1⟩:=h.siz i cur T z hc;obtain⟨c2,T2,z2,h2,e2⟩:=k.siz i c1 T1 z1 h1;exact⟨c2,T2,z2,h2,e2.trans e1⟩⟩
theorem Calm.of_und(h:Und B w w'):Calm w w':=⟨h.os,h.tape,h.output,h.size,h.siz⟩
theorem AX{l:Nat}{o o':Obj}(hl:w.heap[l]?=some o)(ho:K4 o):Calm w (w.putObj l o'):=⟨rfl,rfl,rfl,by simp,MQ hl ho⟩
theorem gC{B':Bas}{M':Mem}{X:V->Value->Prop}{id:Nat}{ob:Ob}(hJ:B.J=noJ)(hM:∀p v,M p=some v->M' p=some v)(hw:∀g,κ.bl id g->w'.heap[g]?=w.heap[g]?)(hc:Calm w w')(hs:∀p v,M' p=some v->w'.cell? p=some v)(ho:∀g,κ.bl id g->B'.own g)(hJ':B'.J=noJ)(hgq:B'.gq=B.gq)
 (h:aE κ M X B w id ob):aE κ M' X B' w' id ob:=by
 have h1:aE κ M X ⟨0,fun _=>True,[],#[],0,noJ,[],B.gq⟩ w id ob:=cq (B:=B) (fun g hg=>.inl (zAi _)) hJ.symm (fun ms e=>by subst e;exact h.2.2.2.2.2) h
 have h2:aE κ M' X ⟨0,fun _=>True,[],#[],0,noJ,[],B.gq⟩ w' id ob:=c9 hM (fun _ _ h=>h) ⟨rfl,rfl,rfl⟩ hw (jO rfl) ⟨hc.os,hc.tape,hc.output,hc.size,fun k hk=>absurd hk (zBf _),hc.siz⟩ hs h1;exact cq (B':=B') ho hJ' (fun ms e=>by subst e;rw[hgq];exact h2.2.2.2.2.2) h2
theorem Rel.rnd{κi:Kap}{Mi Mm:Mem}{τ:St}{W W':World}{ks:List Nat}{cs:Array Value}(hJ:B.J=noJ)(H:Rel N M0 B w0 κi Mi τ a W)(hpin:∀i,i∈ks->a.tmps[i]?=cs[i]?)(hc:Calm W W')(hb:∀g,fg κi τ.h g->W'.heap[g]?=W.heap[g]?)
 (hm:∀p v,Mi p=some v->Mm p=some v) (hMs:Snd Mm W') (hsep:∀p v,Mm p=some v->¬fg κi τ.h p.block):Rel N Mm (E2 κi τ.h W' ks cs B.fb B.gq) W' κi Mm τ ⟨a.tmps,[]⟩ W':=
 { dfr:=rfl
   jst:=jO rfl
   pin:=hpin
   size:=H.size
   regs:=fun t v ht=>let ⟨h1,c,h2,h3⟩:=H.regs t v ht;⟨h1,c,h2,aw hm (fun _ _ h=>h) _ _ h3⟩
   heap:=fun id ob h=>gC hJ hm (fun g hg=>hb g ⟨id,ob,h,hg⟩) hc hMs.snd (fun g hg=>.inr ⟨id,ob,h,hg⟩) rfl rfl (H.heap id ob h)
   inj:=H.inj,snd:=hMs.snd
   sep:=fun p v hp id ob h hg=>hsep p v hp ⟨id,ob,h,hg⟩
   sub:=⟨fun _ _ h=>h,fun p v h=>hm p v (H.sub.fmS p v h),H.sub.fmN,zBd H.sub.fbn (by show B.n<=W'.heap.size;rw[H.base];exact zBd H.blw.size hc.size),hMs.gl⟩
   new:=fun _ _ h=>.inl h
   base:=rfl
   blw:=Und.refl _ _ }
structure Mid (S:Nat->Prop) (l:Nat) (Mm:Mem) (W:World) (B2:Bas) (M1:Mem) (W1:World):Prop where
 calm:Calm W W1
 block:∀g,g<W.heap.size->¬S g->g≠l->W1.heap[g]?=W.heap[g]?
 own:∀g,B2.own g->W.heap.size<=g\/S g
 mem:∀p v,Mm p=some v->M1 p=some v
 new:∀p v,M1 p=some v->Mm p=some v\/W.heap.size<=p.block\/S p.block
theorem Mid.refl{κi:Kap}{h:List (Option Ob)}{l:Nat}{Mm:Mem}{W:World}{ks:List Nat}{cs:Array Value}{fb:Nat}{gq:Nat->Nat->Nat->Nat->Nat->Value->Prop}:Mid (fg κi h) l Mm W (E2 κi h W ks cs fb gq) Mm W:=
 ⟨Calm.refl _,fun _ _ _ _=>rfl,fun g h=>h,fun _ _ h=>h,fun _ _ h=>.inl h⟩
theorem Mid.next{S:Nat->Prop}{l:Nat}{Mm M1 M2:Mem}{W W1 W2 W':World}{B2:Bas}{κ2:Kap}{τ2:St}{a2:Act}{ks:List Nat}{cs:Array Value}{fb:Nat}{gq:Nat->Nat->Nat->Nat->Nat->Value->Prop}(h:Mid S l Mm W B2 M1 W1)(H:Rel N M1 B2 W1 κ2 M2 τ2 a2 W2)(hc:Calm W2 W')(hb:∀g,g≠l->W'.heap[g]?=W2.heap[g]?):
 Mid S l Mm W (E2 κ2 τ2.h W' ks cs fb gq) M2 W':=by
 have ho:∀g,B2.own g->W.heap.size<=g\/S g:=h.own;refine⟨(h.calm.trans (.of_und H.blw)).trans hc,fun g hg hS hl=>?_,fun g hg=>?_,fun p v hp=>H.sub.sub p v (h.mem p v hp),fun p v hp=>?_⟩
 ·have hn:B2.n=W1.heap.size:=H.base
  rw[hb g hl,H.blw.block g (by rw[hn];have:=h.calm.size;omega) (fun hs=>(ho g (.inr hs)).elim (fun h=>by omega) hS)]
  exact h.block g hg hS hl
 ·rcases hg with hg|⟨id,ob,h1,h2⟩
  ·have hg:W'.heap.size<=g:=hg
   have:=h.calm.size;have:=H.blw.size;have:=hc.size;exact .inl (by omega)
  ·exact ho g (H.blk_lt h1 h2).1
 ·rcases H.new p v hp with h1|h1
  ·exact h.new p v h1
  ·exact .inr (ho _ h1)
theorem Rel.unrnd{κi κ2:Kap}{Mi Mm M1 M2:Mem}{τ τ2:St}{W W1 W2:World}{ks:List Nat}{a2:Act}{B2:Bas}{l:Nat}(hJ:B.J=noJ)(H:Rel N M0 B w0 κi Mi τ a W)(hm:∀p v,Mi p=some v->Mm p=some v)(hnew:∀p v,Mm p=some v->M0 p=some v\/B.own p.block)(hl:B.n<=l)
 (h:Mid (fg κi τ.h) l Mm W B2 M1 W1) (hps:B2.ps=ks) (hcs:B2.cs=a.tmps) (hfb:B2.fb=B.fb/\B2.gq=B.gq) (hJ2:B2.J=noJ) (H2:Rel N M1 B2 W1 κ2 M2 τ2 a2 W2) (hk:∀t v,lk τ2.r t=some v->t∈ks):Rel N M0 B w0 κ2 M2 τ2 a W2:=by
 have hBn:B.n<=W.heap.size:=by rw[H.base];exact H.blw.size
 have ho:∀g,B2.own g->B.own g:=fun g hg=>(h.own g hg).elim (fun h=>.inl (by omega)) fun⟨id,ob,h1,h2⟩=>(H.blk_lt h1 h2).1
 have hu1:Und B W W1:=⟨h.calm.os,h.calm.tape,h.calm.output,h.calm.size,fun k hk hs=>h.block k (by omega) (fun⟨id,ob,h1,h2⟩=>(H.blk_lt h1 h2).1.elim (fun h=>by omega) hs) (by omega),h.calm.siz⟩
 have hu2:Und B W1 W2:=⟨H2.blw.os,H2.blw.tape,H2.blw.output,H2.blw.size,fun k hk hs=>H2.blw.block k (by rw[H2.base];have:=h.calm.size;omega) (fun h2=>(ho k (.inr h2)).elim (fun h=>by omega) hs),H2.blw.siz⟩
 exact
 { dfr:=H.dfr,jst:=H.jst,pin:=H.pin,size:=H.size
   regs:=fun t v ht=>by
    obtain⟨h1,c,h2,h3⟩:=H2.regs t v ht;rw[H2.pin t (by rw[hps];exact hk t v ht),hcs]at h2
    exact⟨h1,c,h2,h3⟩
   heap:=fun id ob h=>cq (B:=B2) (fun g hg=>ho g (H2.blk_lt h hg).1) (by rw[hJ,hJ2]) (fun ms e=>by subst e;rw[<-hfb.2];exact(H2.heap id _ h).2.2.2.2.2) (H2.heap id ob h)
   inj:=H2.inj,snd:=H2.snd,sep:=H2.sep
   sub:=⟨fun p v hp=>H2.sub.sub p v (h.mem p v (hm p v (H.sub.sub p v hp))),H2.sub.fmS,fun p v hp=>by rw[<-hfb.1];exact H2.sub.fmN p v hp,H.sub.fbn,H.sub.gl⟩
   new:=fun p v hp=>(H2.new p v hp).elim (fun h1=>(h.new p v h1).elim (hnew p v) fun h2=>.inr (h2.elim (fun h=>.inl (by omega)) fun⟨id,ob,h1,h2⟩=>(H.blk_lt h1 h2).1)) fun h=>.inr (ho _ h)
   base:=H.base
   blw:=(H.blw.trans hu1).trans hu2 }
theorem HW(hmx:P.follows .mixedOrders=true)(hJ:B.J=noJ){ρ:Option Nat}{ks:List Nat}{ps:Array Nat}{assign body:Code}{xa xb:AC}(hLa:LC P N ks assign xa)(hLb:LC P N ks body xb){κi:Kap}{Mi Mm:Mem}{τ:St}{w1:World}{l D fnid:Nat}{r:Loop}
 (H:Rel N M0 B w0 κi Mi τ a w1) (hm:∀p v,Mi p=some v->Mm p=some v) (hl:w1.heap[l]?=some (.loop r)) (hlD:∀g,fg κi τ.h g->g≠l/\g≠D) (hr:r.state=.ready)
 (hMs:Snd Mm w1) (hsep:∀p v,Mm p=some v->¬fg κi τ.h p.block)
 {us:List V} {cs:Array Value} (hus:ae Mm NX us cs.toList) (hps:∀t∈ps.toList,t<N/\t ∉ ks) {R:Ending->World->Prop} {post:Ex->St->Prop}
 (hW:W (Cn P) xa (Ex.then (W (Cn P) xb post) (fun _ _=>False)) ⟨xw ps.toList us τ.r,τ.h⟩)
 (hpost:∀e τ2 κ2 M1 M2 a2 W1 W2 B2,post e τ2->Mid (fg κi τ.h) l Mm w1 B2 M1 W1->B2.ps=ks->B2.cs=a.tmps->(B2.fb=B.fb/\B2.gq=B.gq)->B2.J=noJ->Rel N M1 B2 W1 κ2 M2 τ2 a2 W2->W2.heap[l]?=some (.loop { r with state:=.busy })->roundPost P l R e.out a2 W2):
 RoundIn (FR ρ) 0 P l fnid ((ps.zip cs).foldl (fun tmps (x:Nat×Value)=>tmps.setIfInBounds x.1 x.2) a.tmps) assign body w1 R:=by
 have H0:Rel N Mm (E2 κi τ.h w1 ks a.tmps B.fb B.gq) w1 κi Mm τ ⟨a.tmps,[]⟩ w1:=H.rnd hJ (fun _ _=>rfl) (Calm.refl _) (fun _ _=>rfl) hm hMs hsep;have H1:=Rel.zip H0 hus hps
 have e1:(ps.zip cs).foldl (fun tmps (x:Nat×Value)=>tmps.setIfInBounds x.1 x.2) a.tmps=(ps.toList.zip cs.toList).foldl (fun tmps (x:Nat×Value)=>tmps.setIfInBounds x.1 x.2) a.tmps:=by
  rw[<-Array.foldl_toList,Array.toList_zip]
 rw[e1];have hll:l<w1.heap.size:=(zAc.1 hl).1;have hnl:¬fg κi τ.h l:=fun h=>(hlD l h).1 rfl;refine roundIn_of_wpIn (F:=FR ρ) trivial (nd (ρ:=some l) hmx (jP rfl) (B:=E2 κi τ.h w1 ks a.tmps B.fb B.gq) hLa ?_ H1 hW);intro e κa Ma τa aa Wa hR Ha;cases e with
 |norm=>
   have hla:Wa.heap[l]?=some (.loop r):=by rw[Ha.blw.block l hll hnl];exact hl
   refine⟨_,run_beginRound hla hr,?_⟩;have hnl2:¬fg κa τa.h l:=fun⟨id,ob,h1,h2⟩=>(Ha.blk_lt h1 h2).1.elim (fun h=>absurd h (Nat.not_le.2 hll)) hnl;have hcp:Calm Wa (Wa.putObj l (.loop { r with state:=.busy })):=AX hla dG
   have hsn:∀p v,Ma p=some v->(Wa.putObj l (.loop { r with state:=.busy })).cell? p=some v:=fun p v hp=>pS hla dG (Ha.snd p v hp)
   have Hb:Rel N Ma (E2 κa τa.h (Wa.putObj l (.loop { r with state:=.busy })) ks a.tmps B.fb B.gq) (Wa.putObj l (.loop { r with state:=.busy })) κa Ma τa ⟨aa.tmps,[]⟩ (Wa.putObj l (.loop { r with state:=.busy })):=
    Rel.rnd (B:=E2 κi τ.h w1 ks a.tmps B.fb B.gq) rfl Ha Ha.pin hcp (fun g hg=>World.putObj_heap_other (fun e=>hnl2 (e ▸ hg))) (fun _ _ h=>h) ⟨hsn,Ha.sub.gl.mono Ha.sub.sub⟩ (fun p v hp ⟨id,ob,h1,h2⟩=>Ha.sep p v hp id ob h1 h2)
   have ea:aa=⟨aa.tmps,[]⟩:=by have:=Ha.dfr;cases aa;simp only at this;rw[this];rfl
   rw[ea];have hMid:Mid (fg κi τ.h) l Mm w1 (E2 κa τa.h (Wa.putObj l (.loop { r with state:=.busy })) ks a.tmps B.fb B.gq) Ma (Wa.putObj l (.loop { r with state:=.busy })):=Mid.refl.next Ha hcp (fun g hg=>World.putObj_heap_other hg)
   refine nd (ρ:=some l) hmx (jP rfl) (B:=E2 κa τa.h (Wa.putObj l (.loop { r with state:=.busy })) ks a.tmps B.fb B.gq) hLb ?_ Hb hR
   intro e κ2 M2 τ2 a2 W2 hp H2;refine hpost e τ2 κ2 Ma M2 a2 _ W2 _ hp hMid rfl rfl ⟨rfl,rfl⟩ rfl H2 ?_;have hl3:l<Wa.heap.size:=(zAc.1 hla).1;rw[H2.blw.block l (by show l<(Wa.putObj l _).heap.size;simpa using hl3) hnl2]
   exact World.putObj_heap_same hl3
 |exit id=>exact hR.elim
 |goto l=>exact hR.elim
 |ret=>exact hR.elim
end
section
variable{P:Program}{N:Nat}{M0:Mem}{B:Bas}{w0:World}{κ:Kap}{M:Mem}{σ:St}{a:Act}{w w':World}
def Ki(st:Nat->St)(stx:St)(ks:List Nat)(i:Nat)(b:Bool):Ex->St->Prop
 | .norm,τ=>b=true/\∃ms τ',τ.mats ms=some τ'/\τ'.nrm ks=st (i+1)
 | .ret,τ=>b=false/\∃ms τ',τ.mats ms=some τ'/\τ'.nrm ks=stx
 |_,_=>False
def oS(fn:FuncId)(a:Act)(ps:Array Tmp)(assign body:Code)(D:Nat)(s:LoopState)(p:Option Code):Loop:={ state:=s,pending:=p,fn,tmps:=a.tmps,params:=ps,assign,body,defers:=D }
def aar(N:Nat)(M0:Mem)(B:Bas)(w0:World)(a:Act)(ks:List Nat)(l D:Nat)(full:List (V×Bool))(st:Nat->St)(stx:St)(rec:LoopState->Option Code->Loop):Nat->List (V×Bool)->(Nat->Prop)->Mem->World->Prop:=fun k ann S Mm W=>k=l/\
 ((∃i,ann=full.drop i/\i<=full.length/\(∀(j:Nat)(v:V)(b:Bool),j<i->full[j]?=some (v,b)->b=true)/\Kk N M0 B w0 a ks l D (st i) (rec .ready none) S Mm W)\/
  (ann=[]/\(∃(j:Nat)(v:V),full[j]?=some (v,false))/\Kk N M0 B w0 a ks l D stx (rec .done (some .ret)) S Mm W))
theorem DI {ks:List Nat} {κi κ2:Kap} {Mi Mm M1 M2:Mem} {τ τ2:St} {W1 W2:World} {a2:Act} {B2:Bas} {l D:Nat} {S:Nat→Prop} {r r2:Loop} (hJ:B.J=noJ) (H:Rel N M0 B w0 κi Mi τ a w) (hm:∀ p v,Mi p=some v→Mm p=some v)
 (hnew:∀ p v,Mm p=some v→M0 p=some v∨B.own p.block) (hl:B.n≤l) (hld:l≠D) (hS:∀ g,S g↔fg κi τ.h g∨g=l∨g=D) (hlD:∀ g,fg κi τ.h g→g≠l∧g≠D) (hlw:l < w.heap.size) (hD:w.heap[D]?=some (.deferred (some [])))
 (h:Mid (fg κi τ.h) l Mm w B2 M1 W1) (hps:B2.ps=ks) (hcs:B2.cs=a.tmps) (hfb:B2.fb=B.fb∧B2.gq=B.gq) (hJ2:B2.J=noJ) (H2:Rel N M1 B2 W1 κ2 M2 τ2 a2 W2) (hk:∀ t v,lk τ2.r t=some v→t∈ks) (hl2:W2.heap[l]?=some (.loop r)):
 Kk N M0 B w0 a ks l D τ2 r2 (fun g=>fg κ2 τ2.h g∨g=l∨g=D) M2 (W2.putObj l (.loop r2))∧EnvStep S w (fun g=>fg κ2 τ2.h g∨g=l∨g=D) Mm M2 (W2.putObj l (.loop r2)):=by
 have hDw:D < w.heap.size:=(zAc.1 hD).1
 have hbk:∀ g,fg κ2 τ2.h g→w.heap.size≤g∨fg κi τ.h g:=fun g ⟨id,ob,h1,h2⟩=>h.own g (H2.blk_lt h1 h2).1
 have hb2:∀ g,fg κ2 τ2.h g→g≠l∧g≠D:=fun g hg=>(hbk g hg).elim (fun h=>⟨by omega,by omega⟩) (hlD g)
 have hW:∀ g,g < w.heap.size→¬fg κi τ.h g→g≠l→W2.heap[g]?=w.heap[g]?:=fun g hg hS hl=>by
  rw [H2.blw.block g (by rw [H2.base]; have:=h.calm.size; omega) (fun hs=>(h.own g (.inr hs)).elim (fun h=>by omega) hS)]
  exact h.block g hg hS hl
 have hD2:W2.heap[D]?=some (.deferred (some [])):=by rw [hW D hDw (fun hd=>(hlD D hd).2 rfl) (Ne.symm hld)]; exact hD
 have hl3:l < W2.heap.size:=(zAc.1 hl2).1
 have hcm:Calm w W2:=h.calm.trans (.of_und H2.blw)
 have hcp:=AX (o':=.loop r2) hl2 dG
 have hR:=Rel.unrnd hJ H hm hnew hl h hps hcs hfb hJ2 H2 hk
 have hs3:∀ p v,M2 p=some v→(W2.putObj l (.loop r2)).cell? p=some v:=fun p v hp=>pS hl2 dG (H2.snd p v hp)
 have hS3:∀ p v,M2 p=some v→¬(fg κ2 τ2.h p.block∨p.block=l∨p.block=D):=fun p v hp=>by
  rintro (⟨id,ob,h1,h2⟩ | h1 | h1)
  · exact H2.sep p v hp id ob h1 h2
  · exact qE hl2 dG (H2.snd p v hp) h1
  · exact qE hD2 oF (H2.snd p v hp) h1
 refine ⟨⟨κ2,M2,hR.stay (x9 hl2 dG hl) (fun g hg=>World.putObj_heap_other (hb2 g hg).1) hs3,hk,fun _ _ h=>h,World.putObj_heap_same hl3,by rw [World.putObj_heap_other (Ne.symm hld)]; exact hD2,fun g=>zBg,hb2⟩,?_⟩
 have hc3:=hcm.trans hcp
 exact { os:=hc3.os,tape:=hc3.tape,output:=hc3.output,size:=hc3.size
         block:=fun g hg hn=>by
          have:g≠l:=fun e=>hn ((hS g).2 (.inr (.inl e)))
          rw [World.putObj_heap_other this]
          exact hW g hg (fun hb=>hn ((hS g).2 (.inl hb))) this
         siz:=hc3.siz
         mem:=fun p v hp=>H2.sub.sub p v (h.mem p v hp)
         snd:=hs3
         new:=fun p v hp=>by
          rcases H2.new p v hp with h1 | h1
          · rcases h.new p v h1 with h2 | h2 | h2
            · exact .inl h2
            · exact .inr (.inl h2)
            · exact .inr (.inr ((hS _).2 (.inl h2)))
          · rcases h.own _ h1 with h2 | h2
            · exact .inr (.inl h2)
            · exact .inr (.inr ((hS _).2 (.inl h2)))
         sep:=hS3
         sub:=fun g hg=>by
          rcases hg with hg | hg | hg
          · exact (hbk g hg).elim .inr fun h=>.inl ((hS g).2 (.inl h))
          · exact .inl ((hS g).2 (.inr (.inl hg)))
          · exact .inl ((hS g).2 (.inr (.inr hg)))
         lt:=fun g hg=>by
          rw [World.putObj_size]
          rcases hg with ⟨id,ob,h1,h2⟩ | hg | hg
          · exact (H2.blk_lt h1 h2).2
          · rw [hg]; exact hl3
          · rw [hg]; exact (zAc.1 hD2).1 }
theorem PQ(hmx:P.follows .mixedOrders=true)(hJ:B.J=noJ){ks:List Nat}{ps:Array Nat}{assign body:Code}{xa xb:AC}(hLa:LC P N ks assign xa)(hLb:LC P N ks body xb){l D fnid:Nat}(hl:B.n<=l)(hld:l≠D)
 (hps:∀t∈ps.toList,t<N/\t ∉ ks) {full:List (V×Bool)} {st:Nat->St} {stx:St} (hlen:∀(i:Nat)(us:List V)(b:Bool),full[i]?=some (.tup us,b)->us.length=ps.size) (hfull:∀(i:Nat)(v:V),full[i]?=some (v,false)->i+1=full.length)
 (hround:∀(i:Nat)(us:List V)(b:Bool),full[i]?=some (.tup us,b)->W (Cn P) xa (Ex.then (W (Cn P) xb (Ki st stx ks i b)) (fun _ _=>False)) ⟨xw ps.toList us (st i).r,(st i).h⟩)
 {Mst:Mem} {Bit:Bas} (hBJ:Bit.J=aar N M0 B w0 a ks l D full st stx (oS fnid a ps assign body D)) (hMst:∀p v,Mst p=some v->M0 p=some v\/B.own p.block) (hown:∀g,Bit.own g->B.own g):gw P Mst Bit:=by
 intro k us b rest S Mm W cs hjj hMs hsep hnew hus o a' Nx Q ρ hN;rw[hBJ]at hjj;obtain⟨rfl,(⟨i,hd,hi,htr,κi,Mi,H,hk,hm,hlW,hDW,hS,hlD⟩|⟨h0,_⟩)⟩:=hjj
 ·have hfi:full[i]?=some (.tup us,b):=by
   have:(full.drop i)[0]?=some (.tup us,b):=by rw[<-hd];rfl
   simpa using this
  have hrest:rest=full.drop (i+1):=by
   have:(full.drop i).drop 1=rest:=by rw[<-hd];rfl
   rw[<-this,List.drop_drop]
  have hil:i<full.length:=(zAg.1 hfi).1
  have hsz:cs.size=ps.size:=by
   have:=aC hus;rw[<-hlen i us b hfi,<-this];simp
  rw[run_yield hlW hsz,Oper.uponIn_round];have hlw:k<W.heap.size:=(zAc.1 hlW).1;refine⟨fun h=>(by cases h),HW hmx hJ hLa hLb H hm hlW hlD rfl hMs (fun p v hp hb=>hsep p v hp ((hS _).2 (.inl hb))) hus hps (hround i us b hfi) ?_⟩
  intro e τ2 κ2 M1 M2 a2 W1 W2 B2 hp hMid hps2 hcs2 hfb2 hJ2 H2 hl2;have hnew':∀p v,Mm p=some v->M0 p=some v\/B.own p.block:=fun p v hp=>(hnew p v hp).elim (hMst p v) fun h=>.inr (hown _ h);cases e with
  |norm=>
    obtain⟨rfl,ms,τ',h1,h2⟩:=hp;obtain⟨κ3,M3,H3⟩:=H2.mats h1;have H4:=H3.nrm' ks;have hk4:∀t v,lk (st (i+1)).r t=some v->t∈ks:=fun t v h=>Lh (by rw[h2];exact h)
    rw[h2]at H4;obtain⟨hE,hst⟩:=DI (r2:=oS fnid a ps assign body D .ready none) hJ H hm hnew' hl hld hS hlD hlw hDW hMid hps2 hcs2 hfb2 hJ2 H4 hk4 hl2;refine⟨_,_,run_endRound none hl2,hN _ _ _ ?_ hst⟩;rw[hBJ];refine⟨rfl,.inl ⟨i+1,hrest,hil,fun j v b' hj hjb=>?_,hE⟩⟩;rcases Nat.lt_or_ge j i with h|h
    ·exact htr j v b' h hjb
    ·obtain rfl:j=i:=by omega
     rw[hfi]at hjb;cases hjb;rfl
  |ret=>
    obtain⟨rfl,ms,τ',h1,h2⟩:=hp;obtain⟨κ3,M3,H3⟩:=H2.mats h1;have H4:=H3.nrm' ks;have hk4:∀t v,lk stx.r t=some v->t∈ks:=fun t v h=>Lh (by rw[h2];exact h)
    rw[h2]at H4;obtain⟨hE,hst⟩:=DI (r2:=oS fnid a ps assign body D .done (some .ret)) hJ H hm hnew' hl hld hS hlD hlw hDW hMid hps2 hcs2 hfb2 hJ2 H4 hk4 hl2;refine⟨_,_,run_endRound (some .ret) hl2,hN _ _ _ ?_ hst⟩;rw[hBJ];refine⟨rfl,.inr ⟨?_,⟨i,_,hfi⟩,hE⟩⟩;rw[hrest,zBb,hfull i _ hfi];exact zAj _
  |exit id=>exact hp.elim
  |goto t=>exact hp.elim
 ·cases h0
theorem PP{ks:List Nat}{l D:Nat}{full:List (V×Bool)}{st:Nat->St}{stx:St}{rec:LoopState->Option Code->Loop}{Bit:Bas}(hBJ:Bit.J=aar N M0 B w0 a ks l D full st stx rec)(hn:B.n<=Bit.n)(hown:∀g,Bit.own g->B.own g):Be Bit:=by
 intro k ann S Mm Mm' W W' hj hu hS hm hs;rw[hBJ]at hj⊢;have hu':Und B W W':=⟨hu.os,hu.tape,hu.output,hu.size,fun g hg hs=>hu.block g (by omega) (fun h=>(hown g (.inr h)).elim (fun h=>by omega) hs),hu.siz⟩
 obtain⟨rfl,(⟨i,h1,h2,h3,h4⟩|⟨h1,h2,h4⟩)⟩:=hj
 ·exact⟨rfl,.inl ⟨i,h1,h2,h3,h4.stay hu' hS hm hs⟩⟩
 ·exact⟨rfl,.inr ⟨h1,h2,h4.stay hu' hS hm hs⟩⟩
abbrev jS(D:Nat):Deferred:={ target:=.collected D,args:=#[] }
def dqB(B:Bas)(D:Nat):Bas:=⟨B.n,B.S,B.ps,B.cs,B.fb,fun _ l S _ w=>l=[]/\(∀g,S g↔g=D)/\w.heap[D]?=some (.deferred (some [])),jS D::B.df,B.gq⟩
theorem So{D:Nat}{Mst:Mem}:gw P Mst (dqB B D):=fun _ _ _ _ _ _ _ _ h=>by cases h.1
theorem Sn{D:Nat}:Be (dqB B D):=fun k l S M M' w w' h hu hS _ _=>⟨h.1,h.2.1,by rw[hS D ((h.2.1 D).2 rfl)];exact h.2.2⟩
theorem Yv{B':Bas}{X:V->Value->Prop}{id:Nat}{ob:Ob}(hJ:B.J=noJ)(ho:∀g,κ.bl id g->B'.own g)(hgq:B'.gq=B.gq)(h:aE κ M X B w id ob):aE κ M X B' w id ob:=by
 cases ob with
 |gh l=>obtain⟨k,_,h1,_⟩:=h;rw[hJ]at h1;exact h1.elim
 |box cs=>exact cq (B:=B) (B':=⟨B'.n,B'.S,B'.ps,B'.cs,B'.fb,B.J,B'.df,B'.gq⟩) ho rfl (fun _ e=>by cases e) h
 |arr e sz l=>exact cq (B:=B) (B':=⟨B'.n,B'.S,B'.ps,B'.cs,B'.fb,B.J,B'.df,B'.gq⟩) ho rfl (fun _ e=>by cases e) h
 |mat e e2 sz l=>exact cq (B:=B) (B':=⟨B'.n,B'.S,B'.ps,B'.cs,B'.fb,B.J,B'.df,B'.gq⟩) ho rfl (fun _ e=>by cases e) h
 |mp kt l=>exact cq (B:=B) (B':=⟨B'.n,B'.S,B'.ps,B'.cs,B'.fb,B.J,B'.df,B'.gq⟩) ho rfl (fun _ e=>by cases e) h
 |tok c=>exact h
 |pool ms=>exact cq (B:=B) (B':=⟨B'.n,B'.S,B'.ps,B'.cs,B'.fb,B.J,B'.df,B'.gq⟩) ho rfl (fun _ e=>by cases e;show ∀k j n i off c,B'.gq k j n i off c->_;rw[hgq];exact h.2.2.2.2.2) h
 |itr s p=>exact cq (B:=B) (B':=⟨B'.n,B'.S,B'.ps,B'.cs,B'.fb,B.J,B'.df,B'.gq⟩) ho rfl (fun _ e=>by cases e) h
theorem Rel.dq{D:Nat}(hJ:B.J=noJ)(H:Rel N M0 B w0 κ M σ a w)(hD:w.heap[D]?=some (.deferred (some [])))(hn:B.n<=D)(hb:∀g,fg κ σ.h g->g≠D):
 Rel N M0 (dqB B D) w0 (bW κ σ.h.length (.func (.yield 0) #[] #[]) (fun _=>Go.undef) (fun g=>g=D)) M ⟨σ.r,σ.h++[some (.gh [])]⟩ { a with defers:=jS D::a.defers } w:=by
 have H':Rel N M0 (dqB B D) w0 κ M σ { a with defers:=jS D::a.defers } w:=
  { dfr:=by show jS D::a.defers=jS D::B.df;rw[H.dfr]
    jst:=Sn,pin:=H.pin,size:=H.size,regs:=H.regs
    heap:=fun id ob h=>Yv hJ (fun g hg=>(H.blk_lt h hg).1) rfl (H.heap id ob h)
    inj:=H.inj,snd:=H.snd,sep:=H.sep,sub:=⟨H.sub.sub,H.sub.fmS,H.sub.fmN,H.sub.fbn,H.sub.gl⟩,new:=H.new,base:=H.base
    blw:=⟨H.blw.os,H.blw.tape,H.blw.output,H.blw.size,H.blw.block,H.blw.siz⟩ }
 refine H'.newOb' (w':=w) (Below.refl _ _) (fun g hg j oj hj hj'=>hb g ⟨j,oj,hj,hj'⟩ hg) (fun p v hp hg=>qE hD oF (H.snd p v hp) hg) ?_;simp only[aE];rw[be,aJ];exact⟨0,rfl,⟨rfl,fun g=>zBg,hD⟩,fun g hg=>⟨by rw[hg];exact .inl hn,by rw[hg];exact(zAc.1 hD).1⟩⟩
theorem Calls.mono'{f:FuncId}{args:Array Value}{R R':Ending->World->Prop}(h:Calls P f args w R)(hr:∀e w',R e w'->R' e w'):Calls P f args w R':=h.mono hr
theorem Og(hmx:P.follows .mixedOrders=true)(hJ:B.J=noJ)(H:Rel N M0 B w0 κ M σ a w){ks:List Nat}{ps:Array Nat}{assign body:Code}{xa xb:AC}(hLa:LC P N ks assign xa)(hLb:LC P N ks body xb)
 (hps:∀t∈ps.toList,t<N/\t ∉ ks) {full:List (V×Bool)} {st:Nat->St} {stx:St} (hlen:∀(i:Nat)(us:List V)(b:Bool),full[i]?=some (.tup us,b)->us.length=ps.size) (hfull:∀(i:Nat)(v:V),full[i]?=some (v,false)->i+1=full.length)
 (hround:∀(i:Nat)(us:List V)(b:Bool),full[i]?=some (.tup us,b)->W (Cn P) xa (Ex.then (W (Cn P) xb (Ki st stx ks i b)) (fun _ _=>False)) ⟨xw ps.toList us (st i).r,(st i).h⟩)
 {g:Operand} {g':AO} {tg:TypeId} (hg:cO P tg g=some g') {gf:FuncId} {id:Nat} {cs cs':List V} (hgv:σ.ev g'=some (.fn (.func gf) [] [.ptr id 0])) (hbx:σ.h[id]?=some (some (.box cs))) (hcs:purs [] cs=some cs')
 (hid:id ∉ σ.ids ks) (hst0:σ.nrm ks=st 0) (hen:∀args w,(callFunc gf args).run P w=.ok (.enter gf args) w)
 (hF:FnH P gf [0] [.ref 0 0,.ptr 1 0] [some (.gh full),some (.box cs')] (.tup []) [some (.gh [])])
 {Q:Exit->Act->World->Prop}
 (hdone:(∀p∈full,p.2=true)->∀κ' M' w' D,Rel N M0 (dqB B D) w0 κ' M' ⟨(st full.length).r,(st full.length).h++[some (.gh [])]⟩ { a with defers:=jS D::a.defers } w'->Q .normal { a with defers:=jS D::a.defers } w')
 (hstop:(∃p∈full,p.2=false)->∀κ' M' w' D,Rel N M0 (dqB B D) w0 κ' M' ⟨stx.r,stx.h++[some (.gh [])]⟩ { a with defers:=jS D::a.defers } w'->Q .ret { a with defers:=jS D::a.defers } w'):
 (Code.rangeFunc g ps assign body).wpIn (FR none) 0 P Q a w:=by
 refine wpIn_rangeFunc ?_;intro fnid hfn;obtain⟨D,hDe⟩:∃D,w.heap.size=D:=⟨_,rfl⟩;obtain⟨l,hle⟩:∃l,w.heap.size+1=l:=⟨_,rfl⟩;obtain⟨W1,hW1⟩:∃W1,(w.alloc (.deferred (some []))).alloc (.loop (oS fnid a ps assign body D .ready none))=W1:=⟨_,rfl⟩;have hent:=run_enterLoop_outer (P:=P) (w:=w) fnid a.tmps ps assign body;rw[hDe,show D+1=l by omega]at hent
 have hent':(Instr.enterLoop fnid a.tmps ps assign body (FR none).round).run P w=.ok (l,[jS D]) W1:=by rw[<-hW1];exact hent
 have hL1:W1.heap[l]?=some (.loop (oS fnid a ps assign body D .ready none)):=by
  rw[<-hW1,<-hle];have:=World.alloc_heap_new (w.alloc (.deferred (some []))) (.loop (oS fnid a ps assign body D .ready none));rwa[World.size_alloc]at this
 have hD1:W1.heap[D]?=some (.deferred (some [])):=by
  rw[<-hW1,<-hDe];exact(Below.heap_alloc _ _ _ (by simp)).trans (World.alloc_heap_new w _)
 have hbel:Below w.heap.size w W1:=by
  rw[<-hW1];exact(((Below.refl _ w).alloc (zAj _) _).alloc (by simp) _)
 have hBn:B.n<=w.heap.size:=by rw[H.base];exact H.blw.size
 have hfv:=H.op hg hgv;simp only[rep]at hfv;obtain⟨a1,a2,hev,hr1,hr2⟩:=hfv;simp only[ae]at hr1 hr2;have ha1:a1=#[]:=by cases a1;simp at hr1;rw[hr1]
 obtain⟨c,c',hr2,hc,rfl⟩:=hr2;have ha2:a2=#[c]:=by cases a2;simp at hr2;rw[hr2]
 subst ha1 ha2;have hc':=hc;simp only[rep,XX]at hc;obtain⟨b0,hb1,hb2⟩:=hc.2.2 cs hbx;subst hb2
 -- the state at the start
 have H1:=H.grow0 hbel;have H2:=H1.nrm' ks;rw[hst0]at H2;have hk0:∀t v,lk (st 0).r t=some v->t∈ks:=fun t v h=>Lh (by rw[hst0];exact h)
 have hbl0:∀g,fg (κ.ren (σ.ids ks)) (st 0).h g->∃j ob,j≠id/\σ.h[j]?=some (some ob)/\κ.bl j g:=by
  rintro g ⟨j,ob,h1,h2⟩;rw[<-hst0,K0]at h1;obtain⟨i,ob',g1,g2,_⟩:=ib h1;refine⟨i,ob',fun e=>hid (e ▸ zBc g1),g2,?_⟩;simpa[Kap.ren,List.getD,g1]using h2
 have hlD0:∀g,fg (κ.ren (σ.ids ks)) (st 0).h g->g≠l/\g≠D:=fun g hg=>by
  obtain⟨j,ob,_,h1,h2⟩:=hbl0 g hg;have:=(H.blk_lt h1 h2).2;omega
 let S0:Nat->Prop:=fun g=>fg (κ.ren (σ.ids ks)) (st 0).h g\/g=l\/g=D
 let κit:Kap:=⟨fun j=>if j=0 then .func (.yield l) #[] #[]else κ id,fun _ _=>Go.undef,fun j=>if j=0 then S0 else κ.bl id,fun _=>none⟩
 let J:=aar N M0 B w0 a ks l D full st stx (oS fnid a ps assign body D)
 let Hit:List (Option Ob):=[some (.gh full),some (.box cs')]
 let Bit:Bas:=cg κit Hit W1 [0] (#[.func (.yield l) #[] #[]]++#[Value.pointer (some ⟨b0,0,none⟩)]) J
 have hWs:W1.heap.size=w.heap.size+2:=by rw[<-hW1];simp
 have hown:∀g,Bit.own g->B.own g:=by
  rintro g (h|⟨j,ob,h1,h2⟩)
  ·have h:W1.heap.size<=g:=h
   exact .inl (by omega)
  ·match j,h1,h2 with
   |0,h1,h2=>
     have h2:S0 g:=h2;rcases h2 with h2|h2|h2
     ·obtain⟨j,ob,_,h3,h4⟩:=hbl0 g h2;exact(H.blk_lt h3 h4).1
     ·exact .inl (by omega)
     ·exact .inl (by omega)
   |1,h1,h2=>
     have h2:κ.bl id g:=h2;exact(H.blk_lt hbx h2).1
   |j+2,h1,h2=>simp[Hit]at h1
 have hpre:Heap κit M Bit W1 Hit:=
  { heap:=fun j ob hj=>by
     match j,hj with
     |0,hj=>
       have:ob=.gh full:=by simpa[Hit]using hj.symm
       subst this;refine⟨l,rfl,⟨rfl,.inl ⟨0,rfl,zAi _,fun j v b h=>absurd h (zBf _),_,M,H2,hk0,fun _ _ h=>h,hL1,hD1,fun g=>zBg,hlD0⟩⟩,fun g hg=>⟨.inr ⟨0,_,rfl,hg⟩,?_⟩⟩;have hg:S0 g:=hg;rcases hg with hg|hg|hg
       ·obtain⟨j,ob,_,h3,h4⟩:=hbl0 g hg
        have:=(H.blk_lt h3 h4).2;omega
       ·omega
       ·omega
     |1,hj=>
       have:ob=.box cs':=by simpa[Hit]using hj.symm
       subst this;have ho:=H1.heap id _ hbx;simp only[aE]at ho;obtain⟨b,arr,T,h1,h2,h3,h4,h5,h6⟩:=ho;have h7:=bo H1 (fun _ _ h=>h) (fun i hi=>by rw[(fk hcs).1]at hi;cases hi) h4 ((fk hcs).2 σ.h)
       exact⟨b,arr,T,h1,.inr ⟨1,_,rfl,(h6 b).2 rfl⟩,h3,aD (fun _ _ h=>h) (fun _ _ h=>h.elim) _ _ h7,h5,h6⟩
     |j+2,hj=>simp[Hit]at hj
    inj:=fun i j oi oj g hi hj gi gj=>by
     have key:∀g,S0 g->κ.bl id g->False:=fun g h1 h2=>by
      have:=(H.blk_lt hbx h2).2;rcases h1 with h1|h1|h1
      ·obtain⟨j,ob,h3,h4,h5⟩:=hbl0 g h1
       exact h3 (H.inj j id ob _ g h4 hbx h5 h2)
      ·omega
      ·omega
     match i,j,hi,hj,gi,gj with
     |0,0,_,_,_,_=>rfl
     |1,1,_,_,_,_=>rfl
     |0,1,_,_,gi,gj=>exact(key g gi gj).elim
     |1,0,_,_,gi,gj=>exact(key g gj gi).elim
     |i+2,_,hi,_,_,_=>simp[Hit]at hi
     |_,j+2,_,hj,_,_=>simp[Hit]at hj
    snd:=H1.snd
    sep:=fun p v hp j ob hj hg=>by
     have:=H.mem_lt hp
     match j,hj,hg with
     |0,_,hg=>
       have hg:S0 p.block:=hg;rcases hg with hg|hg|hg
       ·obtain⟨j,ob,_,h3,h4⟩:=hbl0 _ hg;exact H.sep p v hp j ob h3 h4
       ·omega
       ·omega
     |1,_,hg=>exact H.sep p v hp id _ hbx hg
     |j+2,hj,_=>simp[Hit]at hj
    fmS:=fun _ _ h=>by cases h
    gl:=H.sub.gl.mono H.sub.sub
    jst:=PP (Bit:=Bit) rfl (by show B.n<=W1.heap.size;omega) hown }
 have hJC:gw P M Bit:=PQ hmx hJ hLa hLb (by omega) (by omega) hps hlen hfull hround rfl H.new hown
 have hus:ae M (XX κit Hit) [.ref 0 0,.ptr 1 0] (#[Value.func (.yield l) #[] #[]]++#[Value.pointer (some ⟨b0,0,none⟩)]).toList:=by
  simp only[ae,rep,XX];refine⟨_,_,rfl,⟨rfl,by simp[Hit],fun e sz l h=>by simp[Hit]at h,fun e e2 sz l h=>by simp[Hit]at h,fun o ho hn=>rfl⟩,_,_,rfl,⟨rfl,by simp[Hit],fun cs1 h1=>⟨b0,hb1,rfl⟩⟩,rfl⟩
 refine⟨l,[jS D],W1,{ target:=.fn (.func gf) #[Value.pointer (some ⟨b0,0,none⟩)],args:=#[.func (.yield l) #[] #[]] },W1,gf,#[.func (.yield l) #[] #[]]++#[Value.pointer (some ⟨b0,0,none⟩)],W1,hent',?_,fun _ _=>trivial,?_,fun h=>(by cases h),?_⟩
 ·simp only[resolve,hev]
  simp[go_sem]
 ·simp[invoke,go_sem,hen]
 ·have hcall:=hF M W1 κit _ J hJC hpre hus (default:Oper) a (fun _ w''=>rangePost (FR none) 0 P l Q { a with defers:=[jS D]++a.defers } (.returned Go.undef) w'') (fun _ _ _=>False) (fun c2 M' w' κ' hr hu hh hM1 hM2 hpin=>?_)
  ·rw[hen,Oper.upon_enter]at hcall
   refine AY (Calls.mono' hcall ?_);intro e w'' he;cases e with
   |returned v=>exact he
   |panicked chain=>exact he.elim
   |outgrown=>obtain⟨_,_,h⟩:=he;exact h.elim
  ·obtain⟨k,hk1,⟨rfl,hj⟩,hk3⟩:=hh.heap 0 _ rfl
   rcases hj with⟨i,hd,hi,htr,κi,Mi,Hi,hki,hmi,hlW,hDW,hS,hlD⟩|⟨_,⟨j,v,hjv⟩,κi,Mi,Hi,hki,hmi,hlW,hDW,hS,hlD⟩
   ·have hie:i=full.length:=by have:=zBb.1 hd.symm;omega
    subst hie;refine⟨none,_,run_endLoop hlW (by simp[oS]),?_⟩
    have Hs:=Hi.stay (x9 (o':=.loop { oS fnid a ps assign body D .ready none with state:=.exhausted }) hlW dG (by omega)) (fun g hg=>World.putObj_heap_other (hlD g hg).1) (fun p v hp=>pS hlW dG (Hi.snd p v hp))
    refine hdone (fun p hp=>?_) _ _ _ D (Hs.dq hJ (by rw[World.putObj_heap_other (by omega)];exact hDW) (by omega) (fun g hg=>(hlD g hg).2))
    obtain⟨j,hj,hjp⟩:=List.getElem_of_mem hp;exact htr j p.1 p.2 hj (by rw[List.getElem?_eq_getElem hj,hjp])
   ·refine⟨some .ret,_,run_endLoop hlW (by simp[oS]),?_⟩
    have Hs:=Hi.stay (x9 (o':=.loop { oS fnid a ps assign body D .done (some .ret)with state:=.exhausted }) hlW dG (by omega)) (fun g hg=>World.putObj_heap_other (hlD g hg).1) (fun p v hp=>pS hlW dG (Hi.snd p v hp))
    exact wpIn_ret (hstop ⟨_,zBc hjv,rfl⟩ _ _ _ D (Hs.dq hJ (by rw[World.putObj_heap_other (by omega)];exact hDW) (by omega) (fun g hg=>(hlD g hg).2)))
end
def JB:Code->List Code
 | .seq a b=>JB a++JB b
 |c=>[c]
def wpL(F:Fence)(n:Nat)(P:Program):List Code->(Exit->Act->World->Prop)->Act->World->Prop
 |[],Q,a,w=>Q .normal a w
 |c::l,Q,a,w=>c.wpIn F n P (Exit.then (wpL F n P l Q) Q) a w
section
variable{F:Fence}{n:Nat}{P:Program}
theorem r9{m:List Code}{Q:Exit->Act->World->Prop}:∀(l:List Code),wpL F n P (l++m) Q=wpL F n P l (Exit.then (wpL F n P m Q) Q)
 |[]=>by funext a w;rfl
 |c::l=>by
   funext a w;simp only[List.cons_append,wpL];rw[r9 l];congr 1;funext e;cases e<;>rfl
theorem PY(c:Code):∀{Q:Exit->Act->World->Prop}{a:Act}{w:World},wpL F n P (JB c) Q a w->c.wpIn F n P Q a w:=by
 have one:∀(c:Code){Q:Exit->Act->World->Prop}{a:Act}{w:World},wpL F n P [c] Q a w->c.wpIn F n P Q a w:=fun c Q a w h=>wpIn_mono h fun e a w h=>by cases e<;>exact h
 induction c with
 |seq x y ihx ihy=>
   intro Q a w h;rw[JB,r9]at h
   exact wpIn_seq (wpIn_mono (ihx h) fun e a w h=>by
    cases e with
    |normal=>exact ihy h
    |_=>exact h)
 |_=>exact one _
end
def xv:List AC->AC
 |[]=>.skip
 |x::xs=>.seq x (xv xs)
inductive LCl (P:Program) (N:Nat) (ps:List Nat):List Code->List AC->Prop
 |nil:LCl P N ps [] []
 |cons {c x l xs}:LC P N ps c x->LCl P N ps l xs->LCl P N ps (c::l) (x::xs)
section
variable{P:Program}{N:Nat}{M0:Mem}{B:Bas}{w0:World}{κ:Kap}{M:Mem}{σ:St}{a:Act}{w w':World}
theorem Kh(hmx:P.follows .mixedOrders=true)(hJC:gw P M0 B){ρ:Option Nat}{l:List Code}{xs:List AC}(h:LCl P N B.ps l xs):∀{Q:Exit->Act->World->Prop}{R:Ex->St->Prop},
 (∀e κ M σ a w,R e σ->Rel N M0 B w0 κ M σ a w->Q e.out a w)->∀{κ:Kap}{M:Mem}{σ:St}{a:Act}{w:World},Rel N M0 B w0 κ M σ a w->W (Cn P) (xv xs) R σ->wpL (FR ρ) 0 P l Q a w:=by
 induction h with
 |nil=>intro Q R hQ κ M σ a w H hW;exact hQ .norm _ _ _ _ _ hW H
 |cons hc _ ih=>
   intro Q R hQ κ M σ a w H hW;refine nd hmx hJC hc ?_ H hW;intro e κ M σ a w hR H;cases e with
   |norm=>exact ih hQ H hR
   |exit id=>exact hQ (.exit id) _ _ _ _ _ hR H
   |goto l=>exact hQ (.goto l) _ _ _ _ _ hR H
   |ret=>exact hQ .ret _ _ _ _ _ hR H
structure RImg where
 pre:List AC
 g:AO
 ps:List Nat
 xa:AC
 xb:AC
 post:List AC
 rs:List RV
def yJ:List Code->List Code->Option (List Code×Nat×Operand×Array Tmp×Code×Code×List Code)
 |_,[]=>none
 |acc,c::l=>match c with
   | .block id (.rangeFunc g ps a b)=>some (acc.reverse,id,g,ps,a,b,l)
   |c=>yJ (c::acc) l
theorem wA:∀{l acc:List Code}{pre post:List Code}{id:Nat}{g:Operand}{ps:Array Tmp}{a b:Code},yJ acc l=some (pre,id,g,ps,a,b,post)->acc.reverse++l=pre++.block id (.rangeFunc g ps a b)::post
 |[],_,_,_,_,_,_,_,_,h=>by simp[yJ]at h
 |c::l,acc,pre,post,id,g,ps,a,b,h=>by
   unfold yJ at h;split at h
   ·cases h;rfl
   ·have:=wA h
    simpa using this
def ED(P:Program)(N:Nat)(ps E:List Nat):List Code->List (List Nat)->Option (List AC×List (List Nat))
 |[],K=>some ([],K)
 |c::l,K=>match bL P N ps E c K with
   |some (x,K')=>match ED P N ps E l K' with
     |some (xs,K'')=>some (x::xs,K'')
     |none=>none
   |none=>none
theorem s4{ps E:List Nat}:∀{l:List Code}{K K':List (List Nat)}{xs:List AC},ED P N ps E l K=some (xs,K')->LCl P N ps l xs
 |[],K,K',xs,h=>by simp only[ED,zAb,zAd]at h;rw[<-h.1];exact .nil
 |c::l,K,K',xs,h=>by
   simp only[ED]at h;split at h
   ·rename_i x K1 h1
    split at h
    ·rename_i xs' K2 h2
     cases h;exact .cons (dw h1) (s4 h2)
    ·cases h
   ·cases h
def FG(P:Program)(fn:Func)(E ks:List Nat)(K:List (List Nat))(n:Nat):Option RImg:=
 match fn.body with
 |some c=>match yJ [] (JB c)with
   |some (pre,_,g,ps,a,b,post)=>match ED P fn.ntmps [] E pre K with
     |some (xs,K1)=>match bL P fn.ntmps ks E a K1 with
       |some (xa,K2)=>match bL P fn.ntmps ks E b K2 with
         |some (xb,K3)=>match ED P fn.ntmps [] E post K3,cO P 0 g,u9 P fn.results.toList with
           |some (ys,[]),some g',some rs=>if(fn.name == "runtime.NumGoroutine")=false/\n<=fn.ntmps/\ps.toList.all (fun t=>decide (t<fn.ntmps)&& !(gm t ks))=true then some ⟨xs,g',ps.toList,xa,xb,ys,rs⟩else none
           |_,_,_=>none
         |none=>none
       |none=>none
     |none=>none
   |none=>none
 |none=>none
def MD(P:Program)(g:AO)(ks:List Nat)(full:List (V×Bool))(s0:St):Ex->St->Prop
 | .norm,σ=>∃(gf:FuncId)(id:Nat)(cs cs':List V),σ.ev g=some (.fn (.func gf) [] [.ptr id 0])/\σ.h[id]?=some (some (.box cs))/\purs [] cs=some cs'/\gm id (σ.ids ks)=false/\σ.nrm ks=s0/\
    (∀args w,(callFunc gf args).run P w=.ok (.enter gf args) w)/\FnH P gf [0] [.ref 0 0,.ptr 1 0] [some (.gh full),some (.box cs')] (.tup []) [some (.gh [])]
 |_,_=>False
def I7:List (Option Ob)->Bool
 |[]=>false
 |some (.gh [])::_=>true
 |_::h=>I7 h
theorem Ei:∀{h:List (Option Ob)},I7 h=true->∃id:Nat,h[id]?=some (some (.gh []))
 |[],h=>by simp[I7]at h
 |x::l,h=>by
   unfold I7 at h;split at h
   ·rename_i e;cases e
   ·rename_i e;cases e;exact⟨0,rfl⟩
   ·rename_i e;cases e;obtain⟨id,hi⟩:=Ei h;exact⟨id+1,by simpa using hi⟩
def Z5(rs:List RV)(r:V)(e:Ex)(σ:St):Prop:=Res rs (·=r) e σ/\I7 σ.h=true
theorem U5{B':Bas}{X:V->Value->Prop}{id:Nat}{ob:Ob}(hng:∀l,ob≠.gh l)(hw:∀g,κ.bl id g->w'.heap[g]?=w.heap[g]?)(hc:Calm w w')(hs:∀p v,M p=some v->w'.cell? p=some v)(ho:∀g,κ.bl id g->B'.own g)(hgq:B'.gq=B.gq)
 (h:aE κ M X B w id ob):aE κ M X B' w' id ob:=by
 cases ob with
 |gh l=>exact(hng l rfl).elim
 |pool ms=>
   have h':aE κ M X ⟨B.n,B.S,B.ps,B.cs,B.fb,noJ,B.df,B.gq⟩ w id (.pool ms):=h;have h2:aE κ M X ⟨B'.n,B'.S,B'.ps,B'.cs,B'.fb,noJ,B'.df,B'.gq⟩ w' id (.pool ms):=gC (B:=⟨B.n,B.S,B.ps,B.cs,B.fb,noJ,B.df,B.gq⟩) (B':=⟨B'.n,B'.S,B'.ps,B'.cs,B'.fb,noJ,B'.df,B'.gq⟩) rfl (fun _ _ h=>h) hw hc hs ho rfl hgq h';exact h2
 |box cs=>
   have h':aE κ M X ⟨B.n,B.S,B.ps,B.cs,B.fb,noJ,B.df,B.gq⟩ w id (.box cs):=h;have h2:aE κ M X ⟨B'.n,B'.S,B'.ps,B'.cs,B'.fb,noJ,B'.df,B'.gq⟩ w' id (.box cs):=gC (B:=⟨B.n,B.S,B.ps,B.cs,B.fb,noJ,B.df,B.gq⟩) (B':=⟨B'.n,B'.S,B'.ps,B'.cs,B'.fb,noJ,B'.df,B'.gq⟩) rfl (fun _ _ h=>h) hw hc hs ho rfl hgq h';exact h2
 |arr e sz l=>
   have h':aE κ M X ⟨B.n,B.S,B.ps,B.cs,B.fb,noJ,B.df,B.gq⟩ w id (.arr e sz l):=h;have h2:aE κ M X ⟨B'.n,B'.S,B'.ps,B'.cs,B'.fb,noJ,B'.df,B'.gq⟩ w' id (.arr e sz l):=gC (B:=⟨B.n,B.S,B.ps,B.cs,B.fb,noJ,B.df,B.gq⟩) (B':=⟨B'.n,B'.S,B'.ps,B'.cs,B'.fb,noJ,B'.df,B'.gq⟩) rfl (fun _ _ h=>h) hw hc hs ho rfl hgq h';exact h2
 |mat e e2 sz l=>
   have h':aE κ M X ⟨B.n,B.S,B.ps,B.cs,B.fb,noJ,B.df,B.gq⟩ w id (.mat e e2 sz l):=h;have h2:aE κ M X ⟨B'.n,B'.S,B'.ps,B'.cs,B'.fb,noJ,B'.df,B'.gq⟩ w' id (.mat e e2 sz l):=gC (B:=⟨B.n,B.S,B.ps,B.cs,B.fb,noJ,B.df,B.gq⟩) (B':=⟨B'.n,B'.S,B'.ps,B'.cs,B'.fb,noJ,B'.df,B'.gq⟩) rfl (fun _ _ h=>h) hw hc hs ho rfl hgq h';exact h2
 |mp kt l=>
   have h':aE κ M X ⟨B.n,B.S,B.ps,B.cs,B.fb,noJ,B.df,B.gq⟩ w id (.mp kt l):=h;have h2:aE κ M X ⟨B'.n,B'.S,B'.ps,B'.cs,B'.fb,noJ,B'.df,B'.gq⟩ w' id (.mp kt l):=gC (B:=⟨B.n,B.S,B.ps,B.cs,B.fb,noJ,B.df,B.gq⟩) (B':=⟨B'.n,B'.S,B'.ps,B'.cs,B'.fb,noJ,B'.df,B'.gq⟩) rfl (fun _ _ h=>h) hw hc hs ho rfl hgq h';exact h2
 |tok c=>exact h
 |itr s p=>
   have h':aE κ M X ⟨B.n,B.S,B.ps,B.cs,B.fb,noJ,B.df,B.gq⟩ w id (.itr s p):=h;have h2:aE κ M X ⟨B'.n,B'.S,B'.ps,B'.cs,B'.fb,noJ,B'.df,B'.gq⟩ w' id (.itr s p):=gC (B:=⟨B.n,B.S,B.ps,B.cs,B.fb,noJ,B.df,B.gq⟩) (B':=⟨B'.n,B'.S,B'.ps,B'.cs,B'.fb,noJ,B'.df,B'.gq⟩) rfl (fun _ _ h=>h) hw hc hs ho rfl hgq h';exact h2
theorem Rel.shut{D:Nat}{id:Nat}(H:Rel N M0 (dqB B D) w0 κ M σ a w)(hid:σ.h[id]?=some (some (.gh [])))(hn:B.n<=D):
 Rel N M0 ⟨B.n,B.S,B.ps,B.cs,B.fb,fun _ l _ _ _=>l=[],jS D::B.df,B.gq⟩ w0 κ M σ a (w.putObj D (.deferred none)):=by
 obtain⟨k,_,⟨_,hS,hD⟩,_⟩:=H.heap id _ hid;have hs:∀p v,M p=some v->(w.putObj D (.deferred none)).cell? p=some v:=fun p v hp=>pS hD oF (H.snd p v hp);have hc:=AX (o':=.deferred none) hD oF;exact
 { dfr:=H.dfr,jst:=fun _ _ _ _ _ _ _ h _ _ _ _=>h,pin:=H.pin,size:=H.size,regs:=H.regs
   heap:=fun j ob h=>by
    by_cases hg:∃l,ob=.gh l
    ·obtain⟨l,rfl⟩:=hg
     obtain⟨k',h1,⟨h2,_,_⟩,h4⟩:=H.heap j _ h;exact⟨k',h1,h2,fun g hg=>⟨(h4 g hg).1,by rw[World.putObj_size];exact(h4 g hg).2⟩⟩
    ·refine U5 (B:=dqB B D) (fun l e=>hg ⟨l,e⟩) (fun g hb=>World.putObj_heap_other (fun e=>?_)) hc hs (fun g hb=>(H.blk_lt h hb).1) rfl (H.heap j ob h)
     subst e;have:=H.inj id j _ ob g hid h ((hS g).2 rfl) hb;subst this;rw[hid]at h;cases h;exact hg ⟨_,rfl⟩
   inj:=H.inj,snd:=hs,sep:=H.sep,sub:=⟨H.sub.sub,H.sub.fmS,H.sub.fmN,H.sub.fbn,H.sub.gl⟩,new:=H.new,base:=H.base
   blw:=(⟨H.blw.os,H.blw.tape,H.blw.output,H.blw.size,H.blw.block,H.blw.siz⟩:Und ⟨B.n,B.S,B.ps,B.cs,B.fb,fun _ l _ _ _=>l=[],jS D::B.df,B.gq⟩ w0 w).trans (x9 hD oF hn) }
theorem FnE.of_rng{f:FuncId}{fn:Func}{us:List V}{r:V}{E ks:List Nat}{K:List (List Nat)}{n:Nat}{im:RImg}(hm:P.follows .mixedOrders=true)(hf:P.funcs[f]?=some fn)(hi:FG P fn E ks K n=some im)(hun:us.length=n)
 {full:List (V×Bool)} {st:Nat->St} {stx:St} (hlen:∀(i:Nat)(us:List V)(b:Bool),full[i]?=some (.tup us,b)->us.length=im.ps.length) (hfull:∀(i:Nat)(v:V),full[i]?=some (v,false)->i+1=full.length)
 (hpre:oks us->W (Cn P) (xv im.pre) (MD P im.g ks full (st 0)) ⟨ent 0 us,[]⟩)
 (hround:∀(i:Nat)(us:List V)(b:Bool),full[i]?=some (.tup us,b)->W (Cn P) im.xa (Ex.then (W (Cn P) im.xb (Ki st stx ks i b)) (fun _ _=>False)) ⟨xw im.ps us (st i).r,(st i).h⟩)
 (hdone:(∀p∈full,p.2=true)->W (Cn P) (xv im.post) (Z5 im.rs r) ⟨(st full.length).r,(st full.length).h++[some (.gh [])]⟩)
 (hstop:(∃p∈full,p.2=false)->Z5 im.rs r .ret ⟨stx.r,stx.h++[some (.gh [])]⟩):FnE P f us r:=by
 unfold FG at hi;split at hi;rotate_left
 ·cases hi
 rename_i c hb;split at hi;rotate_left
 ·cases hi
 rename_i pre bid g ps ca cb post hsp;split at hi;rotate_left
 ·cases hi
 rename_i xs K1 hpr;split at hi;rotate_left
 ·cases hi
 rename_i xa K2 hxa;split at hi;rotate_left
 ·cases hi
 rename_i xb K3 hxb;split at hi;rotate_left
 ·cases hi
 rename_i ys g' rs hpo hg hrs;split at hi;rotate_left
 ·cases hi
 rename_i hcond;cases hi;obtain⟨hname,hnn,hpsa⟩:=hcond;simp only at hlen hpre hround hdone hstop
 have hps:∀t∈ps.toList,t<fn.ntmps/\t ∉ ks:=fun t ht=>by
  have:=List.all_eq_true.1 hpsa t ht;simp only[zAa,decide_eq_true_eq,Bool.not_eq_true']at this;exact⟨this.1,fun h=>by rw[ij.2 h]at this;simp at this⟩
 refine{ call:=fun args w=>?_,does:=fun M w cs hM hus=>?_ }
 ·unfold callFunc
  simp only[beq_eq_false_iff_ne,ne_eq]at hname;simp[Sem.run_bind,hf,hb,hname]
 have hl:cs.size=us.length:=by have:=aC hus;simpa using this
 refine SH (ρ:=none) (n:=0) (callsIn_of_wp_marks (F:=FR none) hf hb trivial ?_ rfl)
 have H:Rel fn.ntmps M ⟨w.heap.size,fun _=>False,[],#[],w.heap.size,noJ,[],fun _ _ _ _ _ _=>False⟩ w ⟨fun _=>Go.undef,fun _ _=>Go.undef,fun _ _=>False,fun _=>none⟩ M ⟨ent 0 us,[]⟩ { tmps:=cs++Array.replicate (fn.ntmps-cs.size) Go.undef,defers:=[] } w:=
  { dfr:=rfl,jst:=jO rfl,pin:=fun i hi=>by cases hi
    size:=by simp;omega
    regs:=fun t v ht=>by
     obtain⟨_,h2⟩:=vG ht;simp only[Nat.sub_zero]at h2;have hlt:t<us.length:=(zAg.1 h2).1;obtain⟨c,h3,h4⟩:=cd hus h2;refine⟨by omega,c,?_,aw (fun _ _ h=>h) (fun _ _ h=>h.elim) _ _ h4⟩
     rw[Array.getElem?_append_left (by omega)]
     simpa using h3
    heap:=fun id ob h=>by simp at h
    inj:=fun i j oi oj g h=>by simp at h
    snd:=hM.snd
    sep:=fun p v _ id ob h=>by simp at h
    sub:=⟨fun _ _ h=>h,fun _ _ h=>(by cases h),fun _ _ h=>(by cases h),zAj _,hM.gl⟩
    new:=fun _ _ h=>.inl h
    base:=rfl
    blw:=Und.refl _ _ }
 -- the end
 have fin:∀(D:Nat)(e:Ex)(κ1:Kap)(M1:Mem)(σ:St)(a:Act)(w1:World),Z5 rs r e σ->Rel fn.ntmps M (dqB ⟨w.heap.size,fun _=>False,[],#[],w.heap.size,noJ,[],fun _ _ _ _ _ _=>False⟩ D) w κ1 M1 σ a w1->
  bodyPostM (FR none) 0 P fn (fun e w'=>∃(c:Value)(M':Mem),e=.returned c/\rep M' NX r c/\Below w.heap.size w w'/\(∀p v,M' p=some v->w'.cell? p=some v)/\(∀p v,M p=some v->M' p=some v)/\∀p v,M' p=some v->M p=some v\/w.heap.size<=p.block) e.out a w1:=by
  intro D e κ1 M1 σ a w1 hR Hd;obtain⟨hR,hgh⟩:=hR;obtain⟨gid,hgid⟩:=Ei hgh;obtain⟨k,_,⟨_,hS,hD⟩,hown⟩:=Hd.heap gid _ hgid
  have hDn:w.heap.size<=D:=by
   rcases(hown D ((hS D).2 rfl)).1 with h|h
   ·exact h
   ·exact h.elim
  have H1:=Hd.shut (B:=⟨w.heap.size,fun _=>False,[],#[],w.heap.size,noJ,[],fun _ _ _ _ _ _=>False⟩) hgid hDn;simp only[Res]at hR;obtain⟨he,hR⟩:=hR;split at hR
  ·rename_i vs hvs
   split at hR
   ·rename_i ws hws
    obtain⟨ds,k1,k2⟩:=gY hrs H1 hvs;obtain⟨H2,hM1⟩:=H1.kill (ak vs) (dr hws)
    have k3:ae (ext M1 (w1.putObj D (.deferred none)) (gp κ1 (ak vs))) NX ws ds:=by
     refine bo H1 hM1 (fun id hid g hg p hpb=>?_) k1 hws;unfold ext;rw[if_pos (cf.2 ⟨id,hid,by rw[hpb];exact hg⟩)]
    have hleave:LeavesInM (FR none) 0 P fn a.tmps (fun e w'=>∃(c:Value)(M':Mem),e=.returned c/\rep M' NX r c/\Below w.heap.size w w'/\(∀p v,M' p=some v->w'.cell? p=some v)/\(∀p v,M p=some v->M' p=some v)/\∀p v,M' p=some v->M p=some v\/w.heap.size<=p.block) a.defers .returning w1:=by
     have hdf:a.defers=[jS D]:=Hd.dfr;rw[hdf];refine⟨by simp,.inl ⟨D,_,rfl,run_takeDeferred hD,?_⟩⟩
     refine⟨_,k2,_,_,rfl,?_,⟨H1.blw.os,H1.blw.tape,H1.blw.output,H1.blw.size,fun k hk=>H1.blw.block k hk id⟩,H2.snd,H2.sub.sub,fun p v h=>(H2.new p v h).imp_right fun h=>h.elim id False.elim⟩;subst hR;exact Hu k3
    cases e with
    |norm=>exact hleave
    |ret=>exact hleave
    |exit id=>exact he.elim
    |goto l=>exact he.elim
   ·exact hR.elim
  ·exact hR.elim
 refine PY c ?_;have hspl:=wA hsp;simp only[List.reverse_nil,List.nil_append]at hspl;rw[hspl,r9];refine Kh hm (jP rfl) (B:=⟨w.heap.size,fun _=>False,[],#[],w.heap.size,noJ,[],fun _ _ _ _ _ _=>False⟩) (s4 hpr) ?_ H (hpre (c8 hus));intro e κ1 M1 σ a w1 hR H1;cases e with
 |norm=>
   obtain⟨gf,id,bcs,bcs',e1,e2,e3,e4,e5,e6,e7⟩:=hR;refine wpIn_block (Og hm rfl H1 (dw hxa) (dw hxb) hps (by simpa using hlen) hfull hround hg e1 e2 e3 (fun h=>by rw[ij.2 h]at e4;cases e4) e5 e6 e7 ?_ ?_)
   ·intro hall κ' M' w' D Hd
    refine Kh hm So (B:=dqB ⟨w.heap.size,fun _=>False,[],#[],w.heap.size,noJ,[],fun _ _ _ _ _ _=>False⟩ D) (s4 hpo) ?_ Hd (hdone hall);exact fun e κ M σ a w h1 h2=>fin D e κ M σ a w h1 h2
   ·intro hex κ' M' w' D Hd
    exact fin D .ret κ' M' _ _ w' (hstop hex) Hd
 |exit id=>exact hR.elim
 |goto l=>exact hR.elim
 |ret=>exact hR.elim
end
end Go.Abs
end
section
end
