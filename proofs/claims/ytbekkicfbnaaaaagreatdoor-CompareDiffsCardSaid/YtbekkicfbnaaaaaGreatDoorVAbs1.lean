/- An abstract machine of pure values beside the model's machine: values, what they stand for in memory, states. No condition. -/
import Derived.WalkKit
import Derived.Laws.AppendOwn
import Derived.Laws.MakeOwn
import Derived.Laws.BytesArg
import Derived.Laws.Tables
import Derived.Laws.Strings2
import Derived.RegionTactic
import Derived.Still
import Derived.DeepKeys3
import Derived.MapKept
import Derived.Laws.StructEq
set_option linter.all false open Option.some renaming injEq->zA
open List renaming getElem?_eq_some_iff->zAa,mem_append->zAe,mem_of_getElem?->zAf,getElem?_append_left->zAg,length_append->zAh,mem_singleton->zAi,getElem?_cons_succ->zAj,getElem?_append_right->zB,replicate->zBa,getElem?_set->zBf,eq_nil_of_length_eq_zero->zBg,isEmpty_cons->zBi,getElem?_take->zC,getD->zCb,length_take->zCc,map_cons->zCd,getElem?_drop->zCg,flatten_cons->zCj,mem_cons->zD,length_drop->zDa,getElem?_eq_none->zDc,cons_append->zDi,length_cons->zDj,drop_append->zE,getElem?_cons_zero->zEa,take_of_length_le->zEc,drop_eq_nil_of_le->zEd,take_append_drop->zEe,mapM_cons->zEf,mem_of_mem_drop->zEg,mem_of_mem_take->zEh,range->zEi,take_succ_cons->zF,set_cons_zero->zFa,set_cons_succ->zFb,nodup_append->zFe,getElem?_inj->zFf,size_toArray->zFg,range'->zFh,nil_append->zGa,nodup_cons->zGb,drop_drop->zGd,nodup_nil->zGe
open Option renaming map_eq_some_iff->zAb,isSome_iff_exists->zBe,or_eq_some_iff->zDd,map_some->zEb
open Bool renaming and_eq_true->zAc,false_eq_true->zCa,or_false->zCe,eq_iff_iff->zG
open Array renaming getElem?_eq_some_iff->zAd,length_toList->zBj,getElem?_eq_getElem->zCf,ext'->zEj
open List.cons renaming injEq->zBb
open Iff renaming rfl->zBc
open Nat renaming add_mul->zBd,le_refl->zDe,one_mul->zDf,add_assoc->zDh,eq_zero_or_pos->zFd,le_trans->zGg
open Int renaming le_of_lt->zBh,ediv_nonpos_of_nonneg_of_nonpos->zCh,mul_nonneg_of_nonpos_of_nonpos->zCi,mul_ediv_add_emod->zDb,tmod_eq_emod_of_nonneg->zDg,lt_or_gt_of_ne->zFc,tmod_nonneg->zFi,ediv_nonneg->zFj,mul_nonneg->zGc
open BitVec renaming ofInt->zGf
open UInt8 renaming ofNat->zGh open Option renaming some->ś,none->ń open Bool renaming true->ť,false->ğ
section
namespace Go.Abs
open Go.RowKit
abbrev Mem:=Addr->Option Value
def GLs:List (Nat×List Nat):=[(0,[0,1,56,2,57,49,28,3,61,58,42,50,38,29,17,4,62,47,59,36,45,43,51,22,53,39,33,30,24,18,12,5,63,55,48,27,60,41,37,16,46,35,44,21,52,32,23,11,54,26,40,15,34,20,31,10,25,14,19,9,13,8,7,6])]
def GLm:List Nat:=[1]
def GLv(n:Nat):Value:=.int .u8 (n%256:Nat)
def GLt(g:Nat):List Nat:=match GLs.find? (λt=>t.1 == g)with
 |some t=>t.2
 |none=>[]
def GL:Mem:=λp=>if p=⟨p.block,p.off,ń⟩then((GLt p.block)[p.off]?).map GLv else ń
def XA(M:Mem):Prop:=(∀p v,GL p=ś v->M p=ś v)/\∀b,b∈GLm->∃m,M ⟨b,0,ń⟩=ś (.int .i64 m)
theorem XA.mono{M M'}(h:XA M)(hM:∀p v,M p=ś v->M' p=ś v):XA M':=
 ⟨λp v hp=>hM p v (h.1 p v hp),λb hb=>by obtain⟨m,hm⟩:=h.2 b hb;simp_all⟩
inductive V where
 |int (k:IntKind) (n:Int)
 |bool (b:Bool)
 |str (s:List UInt8)
 |nil (sz:Nat)
 |seq (sz:Nat) (l:List V)
 |ref (id n:Nat)
 |strct (cs:List V)
 |ptr (id off:Nat)
 |eptr (id n i off:Nat)
 |mref (id i n:Nat)
 |fseq (sz:Nat) (l:List V)
 |mptr (id i n k off:Nat)
 |sptr (x:V) (off:Nat)
 |nilptr
 |fn (f:Fn) (first cap:List V)
 |nilfn
 |iface (t:TypeId) (x:V)
 |niliface
 |tup (vs:List V)
 |junk
 deriving Inhabited
abbrev NX:V->Value->Prop:=λ_ _=>False
def aI(c:Value):Prop:=c.oneCell'=ť
mutual
def rep(M:Mem):(V->Value->Prop)->V->Value->Prop
 |_,.int k n,c=>c=.int k n/\k.min<=n/\n<=k.max
 |_,.bool b,c=>c=.bool b
 |_,.str s,c=>∃bs:ByteArray,c=.string bs/\bs.data.toList=s/\s.length<=4611686018427387904
 |_,.nil sz,c=>c=.slice ń 0 0/\0<sz
 |_,.seq sz l,c=>∃a cap,c=.slice a l.length cap/\l.length<=cap/\l.length<=140737488355328/\0<sz/\(l=[]\/∃b off,a=ś ⟨b,off,ń⟩/\cx M sz l b off)
 |X,.strct cs,c=>∃arr:Array Value,c=.agg arr/\af M X cs arr.toList/\∀u∈arr.toList,aI u
 |_,.sptr x off,c=>∃b o y,c=.pointer (ś ⟨b,o+off,ń⟩)/\rep M NX x y/\(∀u∈y.cells.toList,aI u)/\∀j,j<y.cells.size->M ⟨b,o+j,ń⟩=y.cells[j]?
 |_,.nilptr,c=>c=.pointer ń
 |X,.fn f fs cs,c=>∃a1 a2:Array Value,c=.func f a1 a2/\af M X fs a1.toList/\af M X cs a2.toList
 |_,.nilfn,c=>c=.nilFunc
 |X,.iface t x,c=>∃y,c=.iface t y/\rep M X x y
 |_,.niliface,c=>c=.nilIface
 |X,.tup vs,c=>∃arr:Array Value,c=.tuple arr/\af M X vs arr.toList
 |_,.junk,c=>aI c
 |X,.ref id n,c=>X (.ref id n) c
 |X,.ptr id n,c=>X (.ptr id n) c
 |X,.eptr id n i off,c=>X (.eptr id n i off) c
 |X,.mref id i n,c=>X (.mref id i n) c
 |X,.fseq sz l,c=>X (.fseq sz l) c
 |X,.mptr id i n k off,c=>X (.mptr id i n k off) c
def af(M:Mem):(V->Value->Prop)->List V->List Value->Prop
 |_,[],cs=>cs=[]
 |X,v::vs,cs=>∃c cs',cs=c::cs'/\rep M X v c/\af M X vs cs'
def cx(M:Mem):Nat->List V->Nat->Nat->Prop
 |_,[],_,_=>True
 |sz,v::vs,b,off=>(∃y,rep M NX v y/\y.cells.size=sz/\(∀u∈y.cells.toList,aI u)/\∀j,j<sz->M ⟨b,off+j,ń⟩=y.cells[j]?)/\cx M sz vs b (off+sz)
end
section
variable{M M':Mem}(hM:∀p u,M p=ś u->M' p=ś u)
include hM
mutual
theorem aO:∀{X X':V->Value->Prop}(hX:∀v c,X v c->X' v c)(v:V)(c:Value),rep M X v c->rep M' X' v c
 |_,_,_,.int _ _,_,h=>h
 |_,_,_,.bool _,_,h=>h
 |_,_,_,.str _,_,h=>h
 |_,_,_,.nil _,_,h=>h
 |_,_,_,.seq sz l,c,h=>by
   simp only[rep]at h⊢;obtain⟨a,cap,h1,h1',h2,h2',h3⟩:=h;refine⟨a,cap,h1,h1',h2,h2',?_⟩;rcases h3 with h3|⟨b,off,h4,h5⟩
   ·exact .inl h3
   ·exact .inr ⟨b,off,h4,vN sz l b off h5⟩
 |_,_,hX,.strct cs,c,h=>by
   simp only[rep]at h⊢;obtain⟨arr,h1,h2,h3⟩:=h;exact⟨arr,h1,bv hX cs _ h2,h3⟩
 |_,_,_,.sptr x off,c,h=>by
   simp only[rep]at h⊢;obtain⟨b,o,y,h1,h2,h2',h3⟩:=h;refine⟨b,o,y,h1,aO (λ_ _ h=>h) x y h2,h2',λj hj=>?_⟩;have h4:=h3 j hj;rw[zCf hj]at h4⊢;exact hM _ _ h4
 |_,_,_,.nilptr,_,h=>h
 |_,_,hX,.fn f fs cs,c,h=>by
   simp only[rep]at h⊢;obtain⟨a1,a2,h1,h2,h3⟩:=h;exact⟨a1,a2,h1,bv hX fs _ h2,bv hX cs _ h3⟩
 |_,_,_,.nilfn,_,h=>h
 |_,_,hX,.iface t x,c,h=>by
   simp only[rep]at h⊢;obtain⟨y,h1,h2⟩:=h;exact⟨y,h1,aO hX x y h2⟩
 |_,_,_,.niliface,_,h=>h
 |_,_,hX,.tup vs,c,h=>by
   simp only[rep]at h⊢;obtain⟨arr,h1,h2⟩:=h;exact⟨arr,h1,bv hX vs _ h2⟩
 |_,_,_,.junk,_,h=>h
 |_,_,hX,.ref _ _,_,h=>hX _ _ h
 |_,_,hX,.ptr _ _,_,h=>hX _ _ h
 |_,_,hX,.eptr _ _ _ _,_,h=>hX _ _ h
 |_,_,hX,.mref _ _ _,_,h=>hX _ _ h
 |_,_,hX,.fseq _ _,_,h=>hX _ _ h
 |_,_,hX,.mptr _ _ _ _ _,_,h=>hX _ _ h
theorem bv:∀{X X':V->Value->Prop}(hX:∀v c,X v c->X' v c)(vs:List V)(cs:List Value),af M X vs cs->af M' X' vs cs
 |_,_,_,[],_,h=>h
 |_,_,hX,v::vs,cs,h=>by
   simp only[af]at h⊢;obtain⟨c,cs',h1,h2,h3⟩:=h;exact⟨c,cs',h1,aO hX v c h2,bv hX vs cs' h3⟩
theorem vN:∀(sz:Nat)(l:List V)(b off:Nat),cx M sz l b off->cx M' sz l b off
 |_,[],_,_,_=>trivial
 |sz,v::vs,b,off,h=>by
   simp only[cx]at h⊢;obtain⟨⟨y,h1,h2,h2',h3⟩,h4⟩:=h;refine⟨⟨y,aO (λ_ _ h=>h) v y h1,h2,h2',λj hj=>?_⟩,vN sz vs b _ h4⟩;have h5:=h3 j hj;rw[zCf (by omega)]at h5⊢
   exact hM _ _ h5
end
end
theorem U7{M X X'}(hX:∀v c,X v c->X' v c){v c}(h:rep M X v c):rep M X' v c:=aO (λ_ _ h=>h) hX v c h
theorem aX{M X v c}(h:rep M NX v c):rep M X v c:=U7 (λ_ _ h=>h.elim) h
theorem bg{M X}:∀{vs:List V}{cs:List Value},af M X vs cs->cs.length=vs.length
 |[],_,h=>by grind[af]
 |v::vs,_,h=>by
   simp only[af]at h;obtain⟨c,cs',rfl,_,h3⟩:=h;simp[bg h3]
theorem f6{M X}:∀{vs:List V}{cs:List Value},af M X vs cs->∀{i:Nat}{v:V},vs[i]?=ś v->∃c,cs[i]?=ś c/\rep M X v c
 |[],_,h,i,v,hi=>by simp at hi
 |v::vs,_,h,i,u,hi=>by
   simp only[af]at h;obtain⟨c,cs',rfl,h2,h3⟩:=h;cases i with
   |zero=>simp at hi;subst hi;exact⟨c,by simp,h2⟩
   |succ i=>simp at hi;simpa using f6 h3 hi
theorem d6{M X}:∀{vs us:List V}{cs ds:List Value},af M X vs cs->af M X us ds->af M X (vs++us) (cs++ds)
 |[],us,cs,ds,h,h'=>by grind[af]
 |v::vs,us,cs,ds,h,h'=>by
   simp only[af]at h;obtain⟨c,cs',rfl,h2,h3⟩:=h;simp only[zDi,af];exact⟨c,cs'++ds,rfl,h2,d6 h3 h'⟩
theorem pX{M X}:∀(n:Nat){vs:List V}{cs:List Value},af M X vs cs->af M X (vs.take n) (cs.take n)
 |0,_,_,_=>by simp[af]
 |n+1,[],_,h=>by grind[af]
 |n+1,v::vs,_,h=>by
   simp only[af]at h;obtain⟨c,cs',rfl,h2,h3⟩:=h;simp only[zF,af];exact⟨c,cs'.take n,rfl,h2,pX n h3⟩
theorem pY{M X}:∀(n:Nat){vs:List V}{cs:List Value},af M X vs cs->af M X (vs.drop n) (cs.drop n)
 |0,_,_,h=>h
 |n+1,[],_,h=>by grind[af]
 |n+1,v::vs,_,h=>by
   simp only[af]at h;obtain⟨c,cs',rfl,h2,h3⟩:=h;simpa using pY n h3
theorem I6{M X}:∀(n:Nat){vs:List V}{cs:List Value}{v:V}{c:Value},af M X vs cs->rep M X v c->af M X (vs.set n v) (cs.set n c)
 |_,[],_,_,_,h,_=>by grind[af]
 |0,v::vs,_,_,_,h,h'=>by
   simp only[af]at h;obtain⟨c,cs',rfl,h2,h3⟩:=h;simp only[zFa,af];grind
 |n+1,v::vs,_,_,_,h,h'=>by
   simp only[af]at h;obtain⟨c,cs',rfl,h2,h3⟩:=h;simp only[zFb,af];exact⟨_,_,rfl,h2,I6 n h3 h'⟩
def cl:V->List V
 | .strct cs=>cs
 |v=>[v]
def mkc:Bool->List V->Option V
 |true,cs=>ś (.strct cs)
 |false,[v]=>ś v
 |false,_=>ń
theorem ab1{M X v c}(h:rep M X v c)(hc:c.cells=#[c]\/∃cs,v=.strct cs):af M X (cl v) c.cells.toList:=by
 cases v with
 |strct cs=>
   simp only[rep]at h;obtain⟨arr,rfl,h2,_⟩:=h;grind[cl,Value.cells]
 |_=>
   simp_all[cl,af]
theorem dM{c}(h:aI c):c.cells=#[c]:=by cases c<;>simp_all[aI,Value.oneCell',Value.cells]
end Go.Abs
end
section
namespace Go.Abs
inductive KK where
 |i (k:IntKind)
 |b
 |s
 deriving DecidableEq,Inhabited
structure KT where
 agg:Bool
 ks:List KK
 deriving DecidableEq,Inhabited
def kOf:V->Option KK
 | .int k _=>ś (.i k)
 | .bool _=>ś .b
 | .str _=>ś .s
 |_=>ń
def b5:List V->List (Option KK)
 |[]=>[]
 |v::vs=>kOf v::b5 vs
def aU:List KK->List (Option KK)
 |[]=>[]
 |k::ks=>ś k::aU ks
def gD:V->Bool
 | .strct _=>ť
 |_=>ğ
def bH(kt:KT)(v:V):Bool:=decide (gD v=kt.agg)&&decide (b5 (cl v)=aU kt.ks)
def eqC:V->V->Bool
 | .int _ a,.int _ b=>decide (a=b)
 | .bool a,.bool b=>a == b
 | .str a,.str b=>decide (a=b)
 |_,_=>ğ
def pm:List V->List V->Bool
 |[],[]=>ť
 |u::us,v::vs=>eqC u v&&pm us vs
 |_,_=>ğ
def eqK(u v:V):Bool:=pm (cl u) (cl v)
def lU(k:V):List (V×V)->Option V
 |[]=>ń
 |(k',v)::l=>if eqK k k'=ť then ś v else lU k l
def nq(k u:V):List (V×V)->List (V×V)
 |[]=>[(k,u)]
 |(k',v)::l=>if eqK k k'=ť then(k,u)::l else(k',v)::nq k u l
inductive Rw where
 |a (l:List V)
 |g (k:Nat)
 deriving Inhabited
inductive Ob where
  |box (cs : List V)
  |arr (e sz : Nat) (l : List V)
  |mat (e e2 sz : Nat) (rows : List Rw)
  |mp (kt : KT) (l : List (V×V))
  |gh (l : List (V×Bool))
  |itr (s : List UInt8) (p : Nat)
  |tok (c : Value)
  deriving Inhabited
structure St where
 r:List (Nat×V)
 h:List (Option Ob)
inductive AO where
 |t (n:Nat)
 |v (x:V)
 deriving Inhabited
inductive Act' where
  |mov (x : AO)
  |pick (c a b : AO)
  |fld (x : AO) (off n : Nat) (agg : Bool)
  |fa (x : AO) (off : Nat)
  |ia (x i : AO) (sz : Nat)
  |iaa (x i : AO) (len sz : Nat)
  |ld (x : AO) (n : Nat) (agg : Bool)
  |ixs (x i : AO)
  |ixa (x i : AO) (len sz : Nat) (agg : Bool)
  |bin (op : BinOp) (x y : AO)
  |un (op : UnOp) (x : AO)
  |cii (k : IntKind) (x : AO)
  |r2s (x : AO)
  |s2b (x : AO)
  |b2s (x : AO)
  |sls (x : AO) (lo hi : Option AO)
  |slq (x : AO) (lo hi : Option AO) (sz : Nat)
  |lens (x : AO)
  |lenq (x : AO)
  |beq (neg : Bool) (x y : AO)
  |ext (x : AO) (i : Nat)
  |bld (z : List V) (parts : List (Nat×Nat×AO))
  |lit (e sz : Nat) (xs : List AO)
  |ltr (e sz : Nat) (xs : List AO)
  |mkf (f : Fn) (first cap : List AO)
  |nlc (x : AO)
  |alc (z : List V)
  |box (x : AO)
  |st (n : Nat) (a x : AO)
  |app (x y : AO) (e sz by' : Nat)
  |mks (e sz by' : Nat) (z : V) (n : AO)
  |mk0 (e sz by' : Nat) (n : AO)
  |mkm (e by' e2 sz : Nat) (n : AO)
  |call (f : FuncId) (xs : List AO)
  |callv (g : AO) (xs : List AO)
  |callH (f : FuncId) (xs : List AO)
  |mki (t : TypeId) (x : AO)
  |tya (t : TypeId) (z : V) (okk : Bool) (x : AO)
  |aeq (neg : Bool) (kt : KT) (x y : AO)
  |mkp (kt : KT)
  |lkp (kt : KT) (z : V) (ok : Bool) (x k : AO)
  |mup (kt : KT) (x k v : AO)
  |inv (tbl : List (Nat×FuncId)) (x : AO) (xs : List AO)
  |ivp (tbl : List (Nat×FuncId×Option (Nat×Bool))) (x : AO) (xs : List AO)
  |mm (mx : Bool) (x y : AO)
  |trc (x hi : AO) (sz : Nat)
  |nlq (k : Nat) (neg : Bool) (x : AO)
  |yld (g : AO) (xs : List AO)
  |rgs (x : AO)
  |nxs (x : AO)
  |bad
  deriving Inhabited
structure AOp where
 d:Option Nat
 a:Act'
 g:Option (Nat×Bool)
 deriving Inhabited
inductive OT where
 |nil
 |op (x:AOp) (t:OT)
 |both (a b:OT)
 deriving Inhabited
inductive AC where
 |skip
 |reg (ops:List AOp) (ks:List Nat)
 |regD (ops:List AOp) (ks:List Nat)
 |regE (alts:List (List AOp)) (ks:List Nat)
 |regF (t:OT) (ks:List Nat)
 |scope (l:Nat) (ks:List Nat) (a b:AC)
 |label (l:Nat)
 |goto (l:Nat)
 |bad
 |seq (a b:AC)
 |cond (c:AO) (a b:AC)
 |block (id:Nat) (c:AC)
 |loop (ks:List Nat) (c:AC)
 |exit (id:Nat)
 |ret
 deriving Inhabited
def lk:List (Nat×V)->Nat->Option V
 |[],_=>ń
 |(k,v)::r,t=>if k=t then ś v else lk r t
def nu:Nat->List Nat->Bool
 |_,[]=>ğ
 |n,k::ks=>if n=k then ť else nu n ks
def pk(r:List (Nat×V)):List Nat->List (Nat×V)
 |[]=>[]
 |k::ks=>match lk r k with
   |some v=>(k,v)::pk r ks
   |none=>pk r ks
namespace St
def ev(σ:St):AO->Option V
 | .t n=>lk σ.r n
 | .v x=>ś x
def evs(σ:St):List AO->Option (List V)
 |[]=>ś []
 |x::xs=>match σ.ev x,σ.evs xs with
   |some v,ś vs=>ś (v::vs)
   |_,_=>ń
def evo(σ:St)(d:V):Option AO->Option V
 |none=>ś d
 |some x=>σ.ev x
def put(σ:St)(d:Option Nat)(v:V):St:=
 match d with
 |none=>σ
 |some t=>{ σ with r:=(t,v)::σ.r }
def cls(old σ:St)(ks:List Nat):St:={ σ with r:=pk σ.r ks }
end St
def cut(cs:List V)(off n:Nat):Option (List V):=if off+n<=cs.length then ś ((cs.drop off).take n)else ń
def ju(cs:List V)(off:Nat)(us:List V):Option (List V):=if off+us.length<=cs.length then ś (cs.take off++us++cs.drop (off+us.length))else ń
def St.box?(σ:St)(id:Nat):Option (List V):=
 match σ.h[id]? with
 |some (ś (.box cs))=>ś cs
 |_=>ń
def St.arr?(σ:St)(id:Nat):Option (Nat×Nat×List V):=
 match σ.h[id]? with
 |some (ś (.arr e sz l))=>ś (e,sz,l)
 |_=>ń
def St.rws?(σ:St)(id:Nat):Option (Nat×Nat×Nat×List Rw):=
 match σ.h[id]? with
 |some (ś (.mat e e2 sz rows))=>ś (e,e2,sz,rows)
 |_=>ń
def St.mp?(σ:St)(id:Nat):Option (KT×List (V×V)):=
 match σ.h[id]? with
 |some (ś (.mp kt l))=>ś (kt,l)
 |_=>ń
def St.gh?(σ:St)(id:Nat):Option (List (V×Bool)):=
 match σ.h[id]? with
 |some (ś (.gh l))=>ś l
 |_=>ń
def St.itr?(σ:St)(id:Nat):Option (List UInt8×Nat):=
 match σ.h[id]? with
 |some (ś (.itr s p))=>ś (s,p)
 |_=>ń
def Lt(s:List UInt8)(p:Nat):Nat×Nat:=Utf8.decode ⟨s.toArray⟩ p
def bq(rows:List Rw)(i:Nat):Option (List V):=match rows[i]? with
 |some (.a r)=>ś r
 |_=>ń
def vG(rows:List Rw)(i:Nat):Option Nat:=match rows[i]? with
 |some (.a r)=>ś r.length
 |some (.g k)=>ś k
 |none=>ń
def St.fetch(σ:St):V->Nat->Option (List V)
 | .ptr id off,n=>match σ.box? id with
   |some cs=>cut cs off n
   |none=>ń
 | .eptr id m i off,n=>match σ.arr? id with
   |some (_,_,l)=>if m=l.length then(match l[i]? with
     |some v=>cut (cl v) off n
     |none=>ń)else ń
   |none=>match σ.rws? id with
     |some (_,_,_,rows)=>if m=rows.length/\off=0/\n=1 then(match bq rows i with
       |some r=>ś [.mref id i r.length]
       |none=>ń)else ń
     |none=>ń
 | .mptr id i m k off,n=>match σ.rws? id with
   |some (_,_,_,rows)=>match bq rows i with
     |some r=>if m=r.length then(match r[k]? with
       |some v=>cut (cl v) off n
       |none=>ń)else ń
     |none=>ń
   |none=>ń
 | .sptr x off,n=>cut (cl x) off n
 |_,_=>ń
def nS(sz:Nat):List Rw->Option (List V)
 |[]=>ś []
 | .a r::l=>match nS sz l with
   |some vs=>ś (.seq sz r::vs)
   |none=>ń
 | .g _::_=>ń
def pur1(h:List (Option Ob))(id n:Nat):Option V:=
 match h[id]? with
 |some (ś (.arr _ sz l))=>if n=l.length then ś (.seq sz l)else ń
 |some (ś (.mat _ _ sz rows))=>if n=rows.length then(nS sz rows).map (.seq 1)else ń
 |_=>ń
def pur2(h:List (Option Ob))(id i n:Nat):Option V:=
 match h[id]? with
 |some (ś (.mat _ _ sz rows))=>match bq rows i with
   |some r=>if n=r.length then ś (.seq sz r)else ń
   |none=>ń
 |_=>ń
mutual
def pur(h:List (Option Ob)):V->Option V
 | .nil sz=>ś (.seq sz [])
 | .ref id n=>pur1 h id n
 | .mref id i n=>pur2 h id i n
 | .fseq sz l=>ś (.seq sz l)
 | .mptr _ _ _ _ _=>ń
 | .strct cs=>(purs h cs).map .strct
 | .tup vs=>(purs h vs).map .tup
 | .fn f a b=>match purs h a,purs h b with
   |some a',ś b'=>ś (.fn f a' b')
   |_,_=>ń
 | .iface t x=>(pur h x).map (.iface t)
 | .ptr _ _=>ń
 | .eptr _ _ _ _=>ń
 | .int k n=>ś (.int k n)
 | .bool b=>ś (.bool b)
 | .str s=>ś (.str s)
 | .seq sz l=>ś (.seq sz l)
 | .sptr x off=>ś (.sptr x off)
 | .nilptr=>ś .nilptr
 | .nilfn=>ś .nilfn
 | .niliface=>ś .niliface
 | .junk=>ś .junk
def purs(h:List (Option Ob)):List V->Option (List V)
 |[]=>ś []
 |v::vs=>match pur h v,purs h vs with
   |some u,ś us=>ś (u::us)
   |_,_=>ń
end
def src(h:List (Option Ob)):V->Option V
 | .ref id n=>match h[id]? with
   |some (ś (.arr _ sz l))=>if n=l.length then ś (.seq sz l)else ń
   |_=>ń
 |v=>pur h v
mutual
def dA:V->Bool
 | .int _ _=>ť
 | .bool _=>ť
 | .str _=>ť
 | .strct cs=>dJ cs
 | .tup vs=>dJ vs
 | .nilptr=>ť
 | .nilfn=>ť
 | .niliface=>ť
 | .junk=>ť
 | .fn _ a b=>dJ a&&dJ b
 | .seq _ l=>l.isEmpty
 | .iface _ x=>dA x
 | .nil _=>ť
 | .ref _ _=>ğ
 | .ptr _ _=>ğ
 | .eptr _ _ _ _=>ğ
 | .mref _ _ _=>ğ
 | .fseq _ _=>ğ
 | .mptr _ _ _ _ _=>ğ
 | .sptr _ _=>ğ
def dJ:List V->Bool
 |[]=>ť
 |v::vs=>dA v&&dJ vs
end
mutual
def aF:V->List Nat
 | .ref id _=>[id]
 | .ptr id _=>[id]
 | .eptr id _ _ _=>[id]
 | .mref id _ _=>[id]
 | .fseq _ _=>[]
 | .mptr id _ _ _ _=>[id]
 | .strct cs=>ax cs
 | .tup vs=>ax vs
 | .fn _ a b=>ax a++ax b
 | .iface _ x=>aF x
 | .int _ _=>[]
 | .bool _=>[]
 | .str _=>[]
 | .nil _=>[]
 | .seq _ _=>[]
 | .sptr _ _=>[]
 | .nilptr=>[]
 | .nilfn=>[]
 | .niliface=>[]
 | .junk=>[]
def ax:List V->List Nat
 |[]=>[]
 |v::vs=>aF v++ax vs
end
def idx:Nat->List Nat->Option Nat
 |_,[]=>ń
 |n,k::ks=>if n=k then ś 0 else(idx n ks).map (· +1)
mutual
def ren(m:List Nat):V->V
 | .ref id n=>match idx id m with
   |some j=>.ref j n
   |none=>.junk
 | .ptr id off=>match idx id m with
   |some j=>.ptr j off
   |none=>.junk
 | .eptr id n i off=>match idx id m with
   |some j=>.eptr j n i off
   |none=>.junk
 | .fseq sz l=>.fseq sz l
 | .mref id i n=>match idx id m with
   |some j=>.mref j i n
   |none=>.junk
 | .mptr id i n k off=>match idx id m with
   |some j=>.mptr j i n k off
   |none=>.junk
 | .strct cs=>.strct (fq m cs)
 | .tup vs=>.tup (fq m vs)
 | .fn f a b=>.fn f (fq m a) (fq m b)
 | .iface t x=>.iface t (ren m x)
 | .int k n=>.int k n
 | .bool b=>.bool b
 | .str s=>.str s
 | .nil sz=>.nil sz
 | .seq sz l=>.seq sz l
 | .sptr x off=>.sptr x off
 | .nilptr=>.nilptr
 | .nilfn=>.nilfn
 | .niliface=>.niliface
 | .junk=>.junk
def fq(m:List Nat):List V->List V
 |[]=>[]
 |v::vs=>ren m v::fq m vs
end
def jg:List Nat->List Nat->List Nat
 |acc,[]=>acc
 |acc,k::ks=>if nu k acc=ť then jg acc ks else jg (acc++[k]) ks
def akw:List (Nat×V)->List Nat
 |[]=>[]
 |(_,v)::r=>aF v++akw r
def obI : Option (Option Ob) -> List Nat
  |some (some (.box cs)) => ax cs
  |some (some (.arr _ _ _)) => []
  |some (some (.mat _ _ _ _)) => []
  |some (some (.mp _ _)) => []
  |some (some (.gh _)) => []
  |some (some (.itr _ _)) => []
  |some (some (.tok _)) => []
  |some none => []
  |none => []
def yO(h : List (Option Ob)) : List Nat -> List Nat
  |[] => []
  |id :: ids => obI h[id]? ++ yO h ids
def Rb(m:List Nat):List (Nat×V)->List (Nat×V)
 |[]=>[]
 |(k,v)::r=>(k,ren m v)::Rb m r
def gZ(m : List Nat) : Option Ob -> Option Ob
  |some (Ob.box cs) => some (.box (fq m cs))
  |some (Ob.arr e sz l) => some (Ob.arr e sz l)
  |some (Ob.mat e e2 sz rows) => some (Ob.mat e e2 sz rows)
  |some (Ob.mp kt l) => some (Ob.mp kt l)
  |some (Ob.gh l) => some (Ob.gh l)
  |some (Ob.itr s p) => some (Ob.itr s p)
  |some (Ob.tok c) => some (Ob.tok c)
  |none => none
def kN(h:List (Option Ob))(m:List Nat):List Nat->List (Option Ob)
 |[]=>[]
 |id::ids=>gZ m (h.getD id ń)::kN h m ids
def St.nrm(σ:St)(ks:List Nat):St:=
 let r:=pk σ.r ks
 let a:=jg [] (akw r)
 let b:=jg a (yO σ.h a)
 let c:=jg b (yO σ.h b)
 { r:=Rb c r,h:=kN σ.h c c }
inductive Mat where
 |r (t e sz:Nat)
 |b (id off e sz:Nat)
 |z (t:Nat)
def St.kill:St->List Nat->St
 |σ,[]=>σ
 |σ,id::ids=>St.kill { σ with h:=σ.h.set id ń } ids
def St.mat(σ:St):Mat->Option St
 | .r t e sz=>match lk σ.r t with
   |some (.nil _)=>if 0<sz then ś { r:=(t,.ref σ.h.length 0)::σ.r,h:=σ.h++[ś (Ob.arr e sz [])] }else ń
   |_=>ń
 | .b id off e sz=>match σ.box? id with
   |some cs=>match cs[off]? with
     |some (.nil _)=>if 0<sz then ś { σ with h:=σ.h.set id (ś (.box (cs.set off (.ref σ.h.length 0))))++[ś (Ob.arr e sz [])] }else ń
     |_=>ń
   |none=>ń
 | .z t=>match lk σ.r t with
   |some v=>match pur σ.h v with
     |some u=>ś { r:=(t,u)::σ.r,h:=(σ.kill (aF v)).h }
     |none=>ń
   |none=>ń
def St.mats(σ:St):List Mat->Option St
 |[]=>ś σ
 |m::ms=>match σ.mat m with
   |some σ'=>σ'.mats ms
   |none=>ń
def Az(op:BinOp)(k:IntKind)(a b:Int):Option V:=
 if b<0 then ń else
 match op with
 | .shl=>ś (.int k (k.wrap (a*2^(min b.toNat k.bits))))
 | .shr=>ś (.int k (a.fdiv (2^(min b.toNat k.bits))))
 |_=>ń
def yZ(op:BinOp)(k:IntKind)(x y:Int):Option V:=
 let a:=zGf k.bits x
 let b:=zGf k.bits y
 match op with
 | .and=>ś (.int k (k.wrap (a &&& b).toNat))
 | .or=>ś (.int k (k.wrap (a ||| b).toNat))
 | .xor=>ś (.int k (k.wrap (a^^^b).toNat))
 | .andNot=>ś (.int k (k.wrap (a &&& ~~~b).toNat))
 |_=>ń
def dx(op:BinOp)(k:IntKind)(a b:Int):Option V:=
 match op with
 | .add=>ś (.int k (k.wrap (a+b)))
 | .sub=>ś (.int k (k.wrap (a-b)))
 | .mul=>ś (.int k (k.wrap (a*b)))
 | .quo=>if b=0 then ń else ś (.int k (k.wrap (a.tdiv b)))
 | .rem=>if b=0 then ń else ś (.int k (a.tmod b))
 | .eql=>ś (.bool (decide (a=b)))
 | .neq=>ś (.bool (!decide (a=b)))
 | .lss=>ś (.bool (decide (a<b)))
 | .leq=>ś (.bool (decide (a<=b)))
 | .gtr=>ś (.bool (decide (b<a)))
 | .geq=>ś (.bool (decide (b<=a)))
 |_=>ń
def aj7(op:BinOp)(a b:List UInt8):Option V:=
 match op with
 | .add=>if a.length+b.length<=4611686018427387904 then ś (.str (a++b))else ń
 | .eql=>ś (.bool (decide (a=b)))
 | .neq=>ś (.bool (!decide (a=b)))
 | .lss=>ś (.bool (Op.bytesLess a b))
 | .leq=>ś (.bool (Op.bytesLess a b||decide (a=b)))
 | .gtr=>ś (.bool (!(Op.bytesLess a b||decide (a=b))))
 | .geq=>ś (.bool (!Op.bytesLess a b))
 |_=>ń
def ahR(op:BinOp):V->V->Option V
 | .int k a,.int k' b=>match op with
   | .shl=>Az .shl k a b
   | .shr=>Az .shr k a b
   | .and=>if k=k' then yZ .and k a b else ń
   | .or=>if k=k' then yZ .or k a b else ń
   | .xor=>if k=k' then yZ .xor k a b else ń
   | .andNot=>if k=k' then yZ .andNot k a b else ń
   | .add=>if k=k' then dx .add k a b else ń
   | .sub=>if k=k' then dx .sub k a b else ń
   | .mul=>if k=k' then dx .mul k a b else ń
   | .quo=>if k=k' then dx .quo k a b else ń
   | .rem=>if k=k' then dx .rem k a b else ń
   | .eql=>if k=k' then dx .eql k a b else ń
   | .neq=>if k=k' then dx .neq k a b else ń
   | .lss=>if k=k' then dx .lss k a b else ń
   | .leq=>if k=k' then dx .leq k a b else ń
   | .gtr=>if k=k' then dx .gtr k a b else ń
   | .geq=>if k=k' then dx .geq k a b else ń
 | .str a,.str b=>aj7 op a b
 |_,_=>ń
def aeg(n:Int):Option V:=if 0<=n/\n<128 then ś (.str [zGh n.toNat])else ń
def L4(k:IntKind)(n:Int):Option V:=ś (.int k (k.wrap n))
def vun(op:UnOp):V->Option V
 | .int k n=>match op with
   | .neg=>ś (.int k (k.wrap (0-n)))
   |_=>ń
 | .bool b=>match op with
   | .not=>ś (.bool !b)
   |_=>ń
 |_=>ń
def lg:List UInt8->List V
 |[]=>[]
 |b::s=>.int .u8 b.toNat::lg s
def ez:List V->Option (List UInt8)
 |[]=>ś []
 | .int .u8 n::l=>(ez l).map (zGh n.toNat::·)
 |_::_=>ń
def isS:V->Bool
 | .strct _=>ť
 |_=>ğ
def nt:V->Bool
 | .tup _=>ğ
 |_=>ť
def cw(sz:Nat):List V->Bool
 |[]=>ť
 |v::vs=>decide ((cl v).length=sz)&&nt v&&cw sz vs
def bldV(σ:St):List V->List (Nat×Nat×AO)->Option (List V)
 |cs,[]=>ś cs
 |cs,(off,n,x)::ps=>match σ.ev x with
   |some v=>if(cl v).length=n/\nt v=ť then(match ju cs off (cl v)with
     |some cs'=>bldV σ cs' ps
     |none=>ń)else ń
   |none=>ń
def Ef(s:List V)(lo hi:Int):Option (List V):=if 0<=lo/\lo<=hi/\hi<=s.length then ś ((s.drop lo.toNat).take (hi.toNat-lo.toNat))else ń
namespace St
def live(σ:St):V->Bool
 | .ptr id _=>(σ.box? id).isSome
 | .eptr id n i _=>match σ.arr? id with
   |some (_,_,l)=>decide (n=l.length)&&decide (i<n)
   |none=>ğ
 | .mptr id i n k _=>match σ.rws? id with
   |some (_,_,_,rows)=>match bq rows i with
     |some r=>decide (n=r.length)&&decide (k<n)
     |none=>ğ
   |none=>ğ
 | .sptr _ _=>ť
 | .fn (.func _) _ _=>ť
 |_=>ğ
def fwd(k:Nat):V->Option V
 | .ptr id o=>ś (.ptr id (o+k))
 | .eptr id n i o=>ś (.eptr id n i (o+k))
 | .mptr id i n j o=>ś (.mptr id i n j (o+k))
 | .sptr y o=>ś (.sptr y (o+k))
 |_=>ń
def isNil(k:Nat)(lv:Bool):V->Option Bool
 | .nilptr=>if k=0 then ś ť else ń
 | .sptr _ _=>if k=0 then ś ğ else ń
 | .ptr _ _=>if k=0/\lv=ť then ś ğ else ń
 | .eptr _ _ _ _=>if k=0/\lv=ť then ś ğ else ń
 | .mptr _ _ _ _ _=>if k=0/\lv=ť then ś ğ else ń
 | .niliface=>if k=1 then ś ť else ń
 | .iface _ _=>if k=1 then ś ğ else ń
 | .nilfn=>if k=2 then ś ť else ń
 | .fn _ _ _=>if k=2 then ś ğ else ń
 |_=>ń
def val(σ : St) : Act' -> Option V
  | .mov x => σ.ev x
  | .pick c a b => match σ.ev c with
    |some (.bool t) => if t = true then σ.ev a else σ.ev b
    |_ => none
  | .fld x off n agg => match σ.ev x with
    |some (.strct cs) => match cut cs off n with
      |some us => mkc agg us
      |none => none
    |_ => none
  | .fa x off => match σ.ev x with
    |some v => if σ.live v = true then fwd off v else none
    |none => none
  | .ia x i sz => match σ.ev x,σ.ev i with
    |some (.seq sz' l),some (.int _ n) => if sz = sz' /\ 0 <= n then(match l[n.toNat]? with
      |some v => some (.sptr v 0)
      |none => none)else none
    |some (.fseq sz' l),some (.int _ n) => if sz = sz' /\ 0 <= n then(match l[n.toNat]? with
      |some v => some (.sptr v 0)
      |none => none)else none
    |some (.ref id m),some (.int _ n) => match σ.arr? id with
      |some (_,sz',l) => if sz = sz' /\ m = l.length /\ 0 <= n /\ n<m then some (.eptr id m n.toNat 0)else none
      |none => match σ.rws? id with
        |some (_,_,_,rows) => if sz = 1 /\ m = rows.length /\ 0 <= n /\ n<m then some (.eptr id m n.toNat 0)else none
        |none => none
    |some (.mref id i m),some (.int _ n) => match σ.rws? id with
      |some (_,_,sz',rows) => match bq rows i with
        |some r => if sz = sz' /\ m = r.length /\ 0 <= n /\ n<m then some (.mptr id i m n.toNat 0)else none
        |none => none
      |none => none
    |_,_ => none
  | .iaa x i len sz => match σ.ev x,σ.ev i with
    |some v,some (.int _ n) => if σ.live v = true /\ 0 <= n /\ n<len then fwd (n.toNat*sz) v else none
    |_,_ => none
  | .ld x n agg => match σ.ev x with
    |some p => match σ.fetch p n with
      |some us => mkc agg us
      |none => none
    |none => none
  | .ixs x i => match σ.ev x,σ.ev i with
    |some (.str s),some (.int _ n) => if 0 <= n then(match s[n.toNat]? with
      |some b => some (.int .u8 b.toNat)
      |none => none)else none
    |_,_ => none
  | .ixa x i len sz agg => match σ.ev x,σ.ev i with
    |some (.strct cs),some (.int _ n) => if 0 <= n /\ n<len then(match cut cs (n.toNat*sz) sz with
      |some us => mkc agg us
      |none => none)else none
    |_,_ => none
  | .bin op x y => match σ.ev x,σ.ev y with
    |some a,some b => ahR op a b
    |_,_ => none
  | .un op x => match σ.ev x with
    |some a => vun op a
    |_ => none
  | .cii k x => match σ.ev x with
    |some (.int _ n) => L4 k n
    |_ => none
  | .r2s x => match σ.ev x with
    |some (.int _ n) => aeg n
    |_ => none
  | .b2s x => match σ.ev x with
    |some v => match pur σ.h v with
      |some (.seq 1 l) => (ez l).map .str
      |_ => none
    |none => none
  | .sls x lo hi => match σ.ev x with
    |some (.str s) => match σ.evo (.int .i64 0) lo,σ.evo (.int .i64 s.length) hi with
      |some (.int _ a),some (.int _ b) => if 0 <= a /\ a <= b /\ b <= s.length then some (.str ((s.drop a.toNat).take (b.toNat-a.toNat)))else none
      |_,_ => none
    |_ => none
  | .slq x lo hi sz => match σ.ev x with
    |some (.seq sz' l) => match σ.evo (.int .i64 0) lo,σ.evo (.int .i64 l.length) hi with
      |some (.int _ a),some (.int _ b) => if sz = sz' then(Ef l a b).map (.seq sz)else none
      |_,_ => none
    |_ => none
  | .beq neg x y => match σ.ev x,σ.ev y with
    |some (.bool a),some (.bool b) => if neg = true then some (.bool (!(a == b)))else some (.bool (a == b))
    |_,_ => none
  | .lens x => match σ.ev x with
    |some (.str s) => some (.int .i64 s.length)
    |_ => none
  | .lenq x => match σ.ev x with
    |some (.seq _ l) => some (.int .i64 l.length)
    |some (.fseq _ l) => some (.int .i64 l.length)
    |some (.nil _) => some (.int .i64 0)
    |some (.ref id n) => match σ.arr? id with
      |some (_,_,l) => if n = l.length then some (.int .i64 n)else none
      |none => match σ.rws? id with
        |some (_,_,_,rows) => if n = rows.length then some (.int .i64 n)else none
        |none => none
    |some (.mref id i n) => match σ.rws? id with
      |some (_,_,_,rows) => match bq rows i with
        |some r => if n = r.length then some (.int .i64 n)else none
        |none => none
      |none => none
    |_ => none
  | .ext x i => match σ.ev x with
    |some (.tup vs) => vs[i]?
    |_ => none
  | .bld z ps => (bldV σ z ps).map .strct
  | .mkf f a b => match σ.evs a,σ.evs b with
    |some a',some b' => some (.fn f a' b')
    |_,_ => none
  | .nlc x => match σ.ev x with
    |some v => if σ.live v = true then some v else none
    |none => none
  | .mki t x => match σ.ev x with
    |some v => if nt v = true then some (.iface t v)else none
    |none => none
  | .tya t z okk x => match σ.ev x with
    |some (.iface t' v) => if t' = t then some (if okk = true then .tup [v,.bool true]else v)else if okk = true then some (.tup [z,.bool false])else none
    |_ => none
  | .aeq neg kt x y => match σ.ev x,σ.ev y with
    |some u,some v => if bH kt u = true /\ bH kt v = true then some (.bool (xor neg (eqK u v)))else none
    |_,_ => none
  | .lkp kt z okk x k => match σ.ev x,σ.ev k with
    |some (.ref id _),some kv => match σ.mp? id with
      |some (kt',l) => if kt' = kt /\ bH kt kv = true then(match lU kv l with
        |some v => some (if okk = true then .tup [v,.bool true]else v)
        |none => some (if okk = true then .tup [z,.bool false]else z))else none
      |none => none
    |_,_ => none
  | .mm mx x y => match σ.ev x,σ.ev y with
    |some (.int k a),some (.int k' b) => if k = k' then some (.int k (if mx = true then(if b>a then b else a)else(if b<a then b else a)))else none
    |_,_ => none
  | .nlq k neg x => match σ.ev x with
    |some v => match isNil k (σ.live v) v with
      |some b => some (.bool (xor neg b))
      |none => none
    |none => none
  |_ => none
def storM(σ:St)(n id m i off:Nat):List V->Option St
 |[.ref id2 n2]=>match σ.rws? id,σ.arr? id2 with
   |some (e,e2,sz,rows),ś (e2',sz',l)=>match vG rows i with
     |some k=>if n=1/\off=0/\m=rows.length/\e2'=e2/\sz'=sz/\n2=l.length/\k<l.length then ś { σ with h:=(σ.h.set id2 ń).set id (ś (Ob.mat e e2 sz (rows.set i (.a l)))) }else ń
     |none=>ń
   |_,_=>ń
 |_=>ń
def stor(σ:St)(n:Nat):V->List V->Option St
 | .ptr id off,us=>match σ.box? id with
   |some cs=>if us.length=n then(match ju cs off us with
     |some cs'=>ś { σ with h:=σ.h.set id (ś (Ob.box cs')) }
     |none=>ń)else ń
   |none=>ń
 | .eptr id m i off,us=>match purs σ.h us with
   |some us'=>match(σ.kill (ax us)).arr? id with
     |some (e,sz,l)=>if us.length=n/\m=l.length then(match l[i]? with
       |some v=>match ju (cl v) off us' with
         |some cs'=>match mkc (isS v) cs' with
           |some v'=>ś { (σ.kill (ax us))with h:=(σ.kill (ax us)).h.set id (ś (Ob.arr e sz (l.set i v'))) }
           |none=>ń
         |none=>ń
       |none=>ń)else ń
     |none=>σ.storM n id m i off us
   |none=>ń
 | .mptr id i m k off,us=>match purs σ.h us with
   |some us'=>match(σ.kill (ax us)).rws? id with
     |some (e,e2,sz,rows)=>match bq rows i with
       |some r=>if us.length=n/\m=r.length then(match r[k]? with
         |some v=>match ju (cl v) off us' with
           |some cs'=>match mkc (isS v) cs' with
             |some v'=>ś { (σ.kill (ax us))with h:=(σ.kill (ax us)).h.set id (ś (Ob.mat e e2 sz (rows.set i (.a (r.set k v'))))) }
             |none=>ń
           |none=>ń
         |none=>ń)else ń
       |none=>ń
     |none=>ń
   |none=>ń
 |_,_=>ń
end St
mutual
def ok:V->Prop
 | .int k n=>k.min<=n/\n<=k.max
 | .str s=>s.length<=4611686018427387904
 | .seq _ l=>l.length<=140737488355328/\oks l
 | .strct cs=>oks cs
 | .tup vs=>oks vs
 | .sptr x _=>ok x
 | .iface _ x=>ok x
 | .fn _ a b=>oks a/\oks b
 | .bool _=>True
 | .nil _=>True
 | .ref _ _=>True
 | .ptr _ _=>True
 | .eptr _ _ _ _=>True
 | .mref _ _ _=>True
 | .fseq _ _=>True
 | .mptr _ _ _ _ _=>True
 | .nilptr=>True
 | .nilfn=>True
 | .niliface=>True
 | .junk=>True
def oks:List V->Prop
 |[]=>True
 |v::vs=>ok v/\oks vs
end
structure Ctr where
 p:FuncId->List V->V->Prop
 n:FuncId->List V->V->Prop
 e:FuncId->List Nat->List V->List (Option Ob)->V->List (Option Ob)->Prop
def c9(vs:List V):List Nat->List V
 |[]=>[]
 |i::is=>match vs[i]? with
   |some v=>v::c9 vs is
   |none=>c9 vs is
def St.cur0(σ : St) : V -> Bool
  | .ptr id _ => (σ.box? id).isSome
  | .ref id n => match σ.arr? id with
    |some (_,_,l) => decide (n = l.length)
    |none => (σ.gh? id).isSome
  | .eptr id n i _ => match σ.arr? id with
    |some (_,_,l) => decide (n = l.length)&&decide (i<n)
    |none => false
  |_ => false
mutual
def St.cur(σ:St):V->Bool
 | .fn _ a b=>σ.curA a&&σ.curA b
 | .strct cs=>σ.curA cs
 | .tup cs=>σ.curA cs
 | .iface _ x=>σ.cur x
 |v=>σ.cur0 v||(aF v).isEmpty
def St.curA(σ:St):List V->Bool
 |[]=>ť
 |v::vs=>σ.cur v&&σ.curA vs
end
def St.curs(σ:St):List V->Bool
 |[]=>ť
 |v::vs=>σ.cur v&&σ.curs vs
def ir(h:List (Option Ob))(pvs vs:List V):Nat×List Nat:=
 let a:=jg [] (ax pvs)
 let b:=jg a (ax vs)
 let c:=jg b (yO h b)
 (a.length,jg c (yO h c))
mutual
def bck(m:List Nat):V->V
 | .ref j n=>match m[j]? with
   |some id=>.ref id n
   |none=>.junk
 | .ptr j off=>match m[j]? with
   |some id=>.ptr id off
   |none=>.junk
 | .eptr j n i off=>match m[j]? with
   |some id=>.eptr id n i off
   |none=>.junk
 | .fseq sz l=>.seq sz l
 | .mref j i n=>match m[j]? with
   |some id=>.mref id i n
   |none=>.junk
 | .mptr j i n k off=>match m[j]? with
   |some id=>.mptr id i n k off
   |none=>.junk
 | .strct cs=>.strct (so m cs)
 | .tup vs=>.tup (so m vs)
 | .fn f a b=>.fn f (so m a) (so m b)
 | .iface t x=>.iface t (bck m x)
 | .int k n=>.int k n
 | .bool b=>.bool b
 | .str s=>.str s
 | .nil sz=>.nil sz
 | .seq sz l=>.seq sz l
 | .sptr x off=>.sptr x off
 | .nilptr=>.nilptr
 | .nilfn=>.nilfn
 | .niliface=>.niliface
 | .junk=>.junk
def so(m:List Nat):List V->List V
 |[]=>[]
 |v::vs=>bck m v::so m vs
end
def rn(m : List Nat) : Option Ob -> Option Ob
  |some (Ob.box cs) => some (.box (so m cs))
  |some (Ob.arr e sz l) => some (Ob.arr e sz l)
  |some (Ob.mat e e2 sz rows) => some (Ob.mat e e2 sz rows)
  |some (Ob.mp kt l) => some (Ob.mp kt l)
  |some (Ob.gh l) => some (Ob.gh l)
  |some (Ob.itr s p) => some (Ob.itr s p)
  |some (Ob.tok c) => some (Ob.tok c)
  |none => none
def Up(m:List Nat):List (Option Ob)->List (Option Ob)
 |[]=>[]
 |ob::obs=>rn m ob::Up m obs
def wr(h:List (Option Ob)):List Nat->List (Option Ob)->List (Option Ob)
 |[],_=>h
 |_,[]=>h
 |id::ids,ob::obs=>wr (h.set id ob) ids obs
def Fq(q:Nat)(m:List Nat)(n k:Nat):List Nat:=m.take q++zFh n (k-q)
def St.back(σ:St)(q:Nat)(m:List Nat)(H':List (Option Ob)):List (Option Ob):=
 wr ((σ.kill m).h++zBa (H'.length-q) ń) (Fq q m σ.h.length H'.length) (Up (Fq q m σ.h.length H'.length) H')
def okH : List (Option Ob) -> Prop
  |[] => True
  |some (.box cs) :: h => oks cs /\ okH h
  |some (.arr _ _ l) :: h => (l.length <= 140737488355328 /\ oks l) /\ okH h
  |some (.mat _ _ _ rows) :: h => rows.length <= 140737488355328 /\ okH h
  |some (.mp _ _) :: h => okH h
  |some (.gh _) :: h => okH h
  |some (.itr s _) :: h => s.length <= 4611686018427387904 /\ okH h
  |some (.tok _) :: h => okH h
  |none :: h => okH h
def kin:Nat->List (Option Ob)->List (Option Ob)->Bool
 |0,_,_=>ť
 |q+1,ś (.box _)::H,ś (.box _)::H'=>kin q H H'
 |q+1,ś (.arr e sz _)::H,ś (.arr e' sz' _)::H'=>decide (e=e')&&decide (sz=sz')&&kin q H H'
 |q+1,ś (.gh _)::H,ś (.gh _)::H'=>kin q H H'
 |_,_,_=>ğ
def ahP(Φ:Ctr)(d:Option Nat)(f:FuncId)(vs:List V)(ps:List Nat)(K:St->Prop)(σ:St)(q:Nat)(m:List Nat):Prop:=
 ∃r H',kin q (kN σ.h m m) H'=ť/\Φ.e f ps (fq m vs) (kN σ.h m m) r H'/\(ok r->okH H'->K (St.put ⟨σ.r,σ.back q m H'⟩ d (bck (Fq q m σ.h.length H'.length) r)))
def wcallH0(Φ : Ctr)(d : Option Nat)(f : FuncId)(vs : List V)(K : St -> Prop)(σ : St) : Prop :=
  ∃ps,σ.curs (c9 vs ps) = true /\ ahP Φ d f vs ps K σ (ir σ.h (c9 vs ps) vs).1 (ir σ.h (c9 vs ps) vs).2
def St.nowR(σ : St)(a n : Nat) : Bool :=
  match σ.h[a]? with
  |some (some (.arr _ _ l)) => decide (n = l.length)
  |some (some (.mat _ _ _ rows)) => decide (n = rows.length)
  |_ => false
def St.hide(σ : St)(id off : Nat)(cs : List V)(c : Value) : St := { σ with h := (σ.h ++ [some (Ob.tok c)]).set id (some (Ob.box (cs.set off (.ref σ.h.length 0)))) }
def unhideK(t id off : Nat)(v : V)(c : Value)(K : St -> Prop)(σ : St) : Prop :=
  ∃cs j,lk σ.r t = some v /\ σ.box? id = some cs /\ cs[off]? = some (.ref j 0) /\ σ.h[j]? = some (some (.tok c)) /\ K { σ with h := σ.h.set id (some (Ob.box (cs.set off v))) }
def wcallHh(Φ : Ctr)(d : Option Nat)(f : FuncId)(vs : List V)(K : St -> Prop)(σ : St) : Prop :=
  ∃t id off a n cs,lk σ.r t = some (.ref a n) /\ d≠some t /\ σ.nowR a n = true /\ σ.box? id = some cs /\ cs[off]? = some (.ref a n) /\ ∀c,wcallH0 Φ d f vs (unhideK t id off (.ref a n) c K) (σ.hide id off cs c)
def kH(Φ : Ctr)(d : Option Nat)(f : FuncId)(vs : List V)(K : St -> Prop)(σ : St) : Prop := wcallH0 Φ d f vs K σ \/ wcallHh Φ d f vs K σ
def wret(Φ:Ctr)(f:FuncId)(vs us:List V)(r:V):Prop:=(Φ.p f us r/\(dA r=ť\/ax vs=[]))\/Φ.n f us r
mutual
def fz:V->V
 | .seq sz l=>.fseq sz l
 | .strct cs=>.strct (fzs cs)
 | .tup vs=>.tup (fzs vs)
 |v=>v
def fzs:List V->List V
 |[]=>[]
 |v::vs=>fz v::fzs vs
end
def ry(Φ:Ctr)(d:Option Nat)(f:FuncId)(vs us:List V)(K:St->Prop)(σ:St):Prop:=
 ∃r,(wret Φ f vs us r/\(ok r->K (σ.put d r)))\/(Φ.p f us r/\(ok r->K ((σ.kill (ax vs)).put d r)))\/(Φ.n f us r/\(ok r->K (σ.put d (fz r))))
def lkF:List (Nat×FuncId)->Nat->Option FuncId
 |[],_=>ń
 |(t,f)::l,u=>if t=u then ś f else lkF l u
def lkG : List (Nat×FuncId×Option (Nat×Bool)) -> Nat -> Option (FuncId×Option (Nat×Bool))
  |[],_ => none
  |(t,f) :: l,u => if t = u then some f else lkG l u
def St.recv(σ : St)(v : V) : Option (Nat×Bool) -> Option V
  |none => some v
  |some (n,g) => match σ.fetch v n with
    |some us => mkc g us
    |none => none
def St.ivpV(σ : St)(tbl : List (Nat×FuncId×Option (Nat×Bool)))(x : AO)(xs : List AO) : Option (FuncId×List V) := match σ.ev x,σ.evs xs with
  |some (.iface t v),some vs => match lkG tbl t with
    |some (f,l) => match σ.recv v l with
      |some u => some (f,u :: vs)
      |none => none
    |none => none
  |_,_ => none
def ivpK(Φ : Ctr)(d : Option Nat)(f : FuncId)(vs : List V)(K : St -> Prop)(σ : St) : Prop := match purs σ.h vs with
  |some us => ry Φ d f vs us K σ \/ kH Φ d f vs K σ
  |none => kH Φ d f vs K σ
def ak(Φ : Ctr)(d : Option Nat)(a : Act')(K : St -> Prop)(σ : St) : Prop :=
  match a with
  | .alc z => K ({ σ with h := σ.h ++ [some (Ob.box z)] }.put d (.ptr σ.h.length 0))
  | .box x => match σ.ev x with
    |some v => if nt v = true then K ({ σ with h := σ.h ++ [some (Ob.box (cl v))] }.put d (.ptr σ.h.length 0))else False
    |none => False
  | .st n p x => match σ.ev p,σ.ev x with
    |some a,some v => if nt v = true then(match σ.stor n a (cl v)with
      |some σ' => K (σ'.put d (.tup []))
      |none => False)else False
    |_,_ => False
  | .s2b x => match σ.ev x with
    |some (.str s) => s.length <= 140737488355328 /\ K (σ.put d (.seq 1 (lg s)))
    |_ => False
  | .lit _ sz xs => match σ.evs xs with
    |some vs => match purs σ.h vs with
      |some us => cw sz us = true /\ us.length <= 16777216 /\ K ((σ.kill (ax vs)).put d (.seq sz us))
      |none => False
    |none => False
  | .app x y e sz by' => match σ.ev x,σ.ev y with
    |some u,some v => match src σ.h v with
      |some (.seq sz' l) => sz' = sz /\
        (match u with
        | .nil _ => l.length*by' <= 140737488355328 /\ K ({ σ with h := σ.h ++ [some (Ob.arr e sz l)] }.put d (.ref σ.h.length l.length))
        | .ref id n => match σ.arr? id with
          |some (e',sz',l0) => e' = e /\ sz' = sz /\ n = l0.length /\ (n+l.length)*by' <= 140737488355328 /\
            K ({ σ with h := σ.h.set id (some (Ob.arr e sz (l0 ++ l))) }.put d (.ref id (n+l.length)))
          |none => False
        | .mref id i n => match σ.rws? id with
          |some (e1,e2,sz2,rows) => match bq rows i with
            |some r => e2 = e /\ sz2 = sz /\ n = r.length /\ (n+l.length)*by' <= 140737488355328 /\
              K ({ σ with h := σ.h.set id (some (Ob.mat e1 e2 sz2 (rows.set i (.g r.length)))) ++ [some (Ob.arr e sz (r ++ l))] }.put d (.ref σ.h.length (n+l.length)))
            |none => False
          |none => False
        |_ => False)
      |_ => False
    |_,_ => False
  | .mks e sz by' z n => match σ.ev n with
    |some (.int _ m) => 0 <= m /\ m*by' <= 140737488355328 /\
      K ({ σ with h := σ.h ++ [some (Ob.arr e sz (List.replicate m.toNat z))] }.put d (.ref σ.h.length m.toNat))
    |_ => False
  | .mk0 e sz by' n => match σ.ev n with
    |some (.int _ m) => 0 <= m /\ m*by' <= 140737488355328 /\
      K ({ σ with h := σ.h ++ [some (Ob.arr e sz [])] }.put d (.ref σ.h.length 0))
    |_ => False
  | .mkm e by' e2 sz n => match σ.ev n with
    |some (.int _ m) => 0 <= m /\ m*by' <= 140737488355328 /\
      K ({ σ with h := σ.h ++ [some (Ob.mat e e2 sz (List.replicate m.toNat (.a [])))] }.put d (.ref σ.h.length m.toNat))
    |_ => False
  | .call f xs => match σ.evs xs with
    |some vs => match purs σ.h vs with
      |some us => ry Φ d f vs us K σ
      |none => kH Φ d f vs K σ
    |none => False
  | .callv g xs => match σ.ev g,σ.evs xs with
    |some (.fn (.func f) a b),some vs => match purs σ.h (a ++ vs ++ b)with
      |some us => ry Φ d f (a ++ vs ++ b) us K σ
      |none => kH Φ d f (a ++ vs ++ b) K σ
    |_,_ => False
  | .callH f xs => match σ.evs xs with
    |some vs => kH Φ d f vs K σ
    |none => False
  | .mkp kt => K ({ σ with h := σ.h ++ [some (Ob.mp kt [])] }.put d (.ref σ.h.length 0))
  | .mup kt x k v => match σ.ev x,σ.ev k,σ.ev v with
    |some (.ref id _),some kv,some u => match σ.mp? id,pur σ.h u with
      |some (kt',l),some u' => kt' = kt /\ bH kt kv = true /\ aF u = [] /\ nt u' = true /\ K ({ σ with h := σ.h.set id (some (Ob.mp kt (nq kv u' l))) }.put d (.tup []))
      |_,_ => False
    |_,_,_ => False
  | .inv tbl x xs => match σ.ev x,σ.evs xs with
    |some (.iface t v),some vs => match lkF tbl t with
      |some f => (match purs σ.h (v :: vs)with
        |some us => ry Φ d f (v :: vs) us K σ
        |none => kH Φ d f (v :: vs) K σ)
      |none => False
    |_,_ => False
  | .ivp tbl x xs => match σ.ivpV tbl x xs with
    |some (f,vs) => ivpK Φ d f vs K σ
    |none => False
  | .ltr e sz xs => match σ.evs xs with
    |some vs => match purs σ.h vs with
      |some us => cw sz us = true /\ us.length <= 16777216 /\ K (St.put ⟨(σ.kill (ax vs)).r,(σ.kill (ax vs)).h ++ [some (Ob.arr e sz us)]⟩ d (.ref (σ.kill (ax vs)).h.length us.length))
      |none => False
    |none => False
  | .trc x hi sz => match σ.ev x,σ.ev hi with
    |some (.ref id n),some (.int _ b) => match σ.arr? id with
      |some (e,sz',l) => sz' = sz /\ n = l.length /\ 0 <= b /\ b <= n /\ K ({ σ with h := σ.h.set id none ++ [some (Ob.arr e sz (l.take b.toNat))] }.put d (.ref σ.h.length b.toNat))
      |none => False
    |_,_ => False
  | .yld g xs => match σ.ev g,σ.evs xs with
    |some (.ref id _),some vs => match σ.gh? id,purs σ.h vs with
      |some ((v,b) :: l),some us => v = .tup us /\ ax vs = [] /\ K ({ σ with h := σ.h.set id (some (Ob.gh l)) }.put d (.bool b))
      |_,_ => False
    |_,_ => False
  | .rgs x => match σ.ev x with
    |some (.str s) => K ({ σ with h := σ.h ++ [some (Ob.itr s 0)] }.put d (.ref σ.h.length 0))
    |_ => False
  | .nxs x => match σ.ev x with
    |some (.ref id _) => match σ.itr? id with
      |some (s,p) => if p<s.length then K ({ σ with h := σ.h.set id (some (Ob.itr s (p+(Lt s p).2))) }.put d (.tup [.bool true,.int .i64 p,.int .i32 (Lt s p).1]))else K (σ.put d (.tup [.bool false]))
      |none => False
    |_ => False
  |a => match σ.val a with
    |some v => K (σ.put d v)
    |none => False
def Br(t:Bool)(A B:Prop):Prop:=(t=ť->A)/\(t=ğ->B)
def wop(Φ:Ctr)(o:AOp)(K:St->Prop)(σ:St):Prop:=
 match o.g with
 |none=>ak Φ o.d o.a K σ
 |some (t,b)=>match lk σ.r t with
   |some (.bool y)=>if b=ť then Br y (ak Φ o.d o.a K σ) (K (σ.put o.d (.tup [])))else Br y (K (σ.put o.d (.tup []))) (ak Φ o.d o.a K σ)
   |some (.tup [])=>K (σ.put o.d (.tup []))
   |_=>False
def D7(Φ:Ctr):List AOp->(St->Prop)->St->Prop
 |[],K,σ=>K σ
 |o::os,K,σ=>wop Φ o (D7 Φ os K) σ
def xY(Φ:Ctr)(d:Option Nat)(f:FuncId)(vs:List V)(K:St->Prop)(σ:St):Prop:=
 ∃ps,σ.curs (c9 vs ps)=ť/\∃r H',kin (ir σ.h (c9 vs ps) vs).1 (kN σ.h (ir σ.h (c9 vs ps) vs).2 (ir σ.h (c9 vs ps) vs).2) H'=ť/\
   Φ.e f ps (fq (ir σ.h (c9 vs ps) vs).2 vs) (kN σ.h (ir σ.h (c9 vs ps) vs).2 (ir σ.h (c9 vs ps) vs).2) r H'/\
   K (St.put ⟨σ.r,σ.back (ir σ.h (c9 vs ps) vs).1 (ir σ.h (c9 vs ps) vs).2 H'⟩ d (bck (Fq (ir σ.h (c9 vs ps) vs).1 (ir σ.h (c9 vs ps) vs).2 σ.h.length H'.length) r))
def vm(Φ:Ctr)(d:Option Nat)(f:FuncId)(vs us:List V)(K:St->Prop)(σ:St):Prop:=∃r,wret Φ f vs us r/\K (σ.put d r)
def an(Φ : Ctr)(d : Option Nat)(a : Act')(K : St -> Prop)(σ : St) : Prop :=
  match a with
  | .lit _ sz xs => match σ.evs xs with
    |some vs => match purs [] vs with
      |some us => cw sz us = true /\ us.length <= 16777216 /\ K (σ.put d (.seq sz us))
      |none => False
    |none => False
  | .call f xs => match σ.evs xs with
    |some vs => match purs σ.h vs with
      |some us => vm Φ d f vs us K σ
      |none => False
    |none => False
  | .callv g xs => match σ.ev g,σ.evs xs with
    |some (.fn (.func f) a b),some vs => match purs σ.h (a ++ vs ++ b)with
      |some us => vm Φ d f (a ++ vs ++ b) us K σ
      |none => False
    |_,_ => False
  | .callH f xs => match σ.evs xs with
    |some vs => xY Φ d f vs K σ
    |none => False
  | .inv tbl x xs => match σ.ev x,σ.evs xs with
    |some (.iface t v),some vs => match lkF tbl t with
      |some f => match purs σ.h (v :: vs)with
        |some us => vm Φ d f (v :: vs) us K σ
        |none => False
      |none => False
    |_,_ => False
  | .ivp _ _ _ => False
  | .trc _ _ _ => False
  |a => ak Φ d a K σ
def a8(Φ:Ctr)(o:AOp)(K:St->Prop)(σ:St):Prop:=
 match o.g with
 |none=>an Φ o.d o.a K σ
 |some (t,b)=>match lk σ.r t with
   |some (.bool y)=>if b=ť then Br y (an Φ o.d o.a K σ) (K (σ.put o.d (.tup [])))else Br y (K (σ.put o.d (.tup []))) (an Φ o.d o.a K σ)
   |some (.tup [])=>K (σ.put o.d (.tup []))
   |_=>False
def BJ(Φ:Ctr):List AOp->(St->Prop)->St->Prop
 |[],K,σ=>K σ
 |o::os,K,σ=>a8 Φ o (BJ Φ os K) σ
def XJ(Φ:Ctr):List (List AOp)->(St->Prop)->St->Prop
 |[],K,σ=>True
 |os::l,K,σ=>D7 Φ os K σ/\XJ Φ l K σ
def lJ(Φ:Ctr):OT->(St->Prop)->St->Prop
 | .nil,K,σ=>K σ
 | .op x t,K,σ=>a8 Φ x (lJ Φ t K) σ
 | .both a b,K,σ=>lJ Φ a K σ/\lJ Φ b K σ
inductive Ex where
 |norm
 |exit (id:Nat)
 |goto (l:Nat)
 |ret
def Ex.then(N:St->Prop)(Q:Ex->St->Prop):Ex->St->Prop
 | .norm,σ=>N σ
 |e,σ=>Q e σ
def Ex.inBlock(id:Nat)(Q:Ex->St->Prop):Ex->St->Prop
 | .exit id',σ=>if id'=id then Q .norm σ else Q (.exit id') σ
 |e,σ=>Q e σ
def Ex.jump(l:Nat)(J:St->Prop)(Q:Ex->St->Prop):Ex->St->Prop
 | .goto l',σ=>l'=l/\J σ
 |e,σ=>Q e σ
def W(Φ:Ctr):AC->(Ex->St->Prop)->St->Prop
 | .skip,Q,σ=>Q .norm σ
 | .reg ops ks,Q,σ=>D7 Φ ops (λσ'=>Q .norm (σ.cls σ' ks)) σ
 | .regD ops ks,Q,σ=>BJ Φ ops (λσ'=>Q .norm (σ.cls σ' ks)) σ
 | .regE alts ks,Q,σ=>XJ Φ alts (λσ'=>Q .norm (σ.cls σ' ks)) σ
 | .regF t ks,Q,σ=>lJ Φ t (λσ'=>Q .norm (σ'.nrm ks)) σ
 | .scope l ks a b,Q,σ=>∃I:Nat->St->Prop,W Φ a (Ex.jump l (λτ'=>∃n ms τ'',τ'.mats ms=ś τ''/\I n (τ''.nrm ks)) Q) σ/\
    ∀n τ,I n τ->W Φ b (Ex.jump l (λτ'=>∃m ms τ'',τ'.mats ms=ś τ''/\I m (τ''.nrm ks)/\m<n) Q) τ
 | .label l,Q,σ=>Q .norm σ
 | .goto l,Q,σ=>Q (.goto l) σ
 | .bad,_,_=>False
 | .seq a b,Q,σ=>W Φ a (Ex.then (W Φ b Q) Q) σ
 | .cond c a b,Q,σ=>match σ.ev c with
   |some (.bool t)=>Br t (W Φ a Q σ) (W Φ b Q σ)
   |_=>False
 | .block id c,Q,σ=>W Φ c (Ex.inBlock id Q) σ
 | .loop ks c,Q,σ=>∃I:Nat->St->Prop,(∃n ms σ',σ.mats ms=ś σ'/\I n (σ'.nrm ks))/\
    ∀n τ,I n τ->W Φ c (Ex.then (λτ'=>∃m ms τ'',τ'.mats ms=ś τ''/\I m (τ''.nrm ks)/\m<n) Q) τ
 | .exit id,Q,σ=>Q (.exit id) σ
 | .ret,Q,σ=>Q .ret σ
section rules
variable{Φ:Ctr}{Q:Ex->St->Prop}{σ:St}
theorem alZ:W Φ .skip Q σ=Q .norm σ:=propext zBc
theorem aje{l}:W Φ (.label l) Q σ=Q .norm σ:=propext zBc
theorem al2{l}:W Φ (.goto l) Q σ=Q (.goto l) σ:=propext zBc
theorem abH{N l}:Ex.then N Q (.goto l) σ=Q (.goto l) σ:=propext zBc
theorem Se{id l}:Ex.inBlock id Q (.goto l) σ=Q (.goto l) σ:=propext zBc
theorem acA{l J}:Ex.jump l J Q .norm σ=Q .norm σ:=propext zBc
theorem afD{l J}:Ex.jump l J Q .ret σ=Q .ret σ:=propext zBc
theorem acC{l id J}:Ex.jump l J Q (.exit id) σ=Q (.exit id) σ:=propext zBc
theorem acB{l l' J}:Ex.jump l J Q (.goto l') σ=(l'=l/\J σ):=propext zBc
theorem abm{id c}:W Φ (.block id c) Q σ=W Φ c (Ex.inBlock id Q) σ:=propext zBc
theorem al3{id}:W Φ (.exit id) Q σ=Q (.exit id) σ:=propext zBc
theorem W_ret:W Φ .ret Q σ=Q .ret σ:=propext zBc
theorem al4{c a b}:W Φ (.cond c a b) Q σ=match σ.ev c with
 |some (.bool t)=>Br t (W Φ a Q σ) (W Φ b Q σ)
 |_=>False:=propext zBc
theorem Pg{N}:Ex.then N Q .norm σ=N σ:=propext zBc
theorem abI{N id}:Ex.then N Q (.exit id) σ=Q (.exit id) σ:=propext zBc
theorem ael{N}:Ex.then N Q .ret σ=Q .ret σ:=propext zBc
theorem Sd{id}:Ex.inBlock id Q .norm σ=Q .norm σ:=propext zBc
theorem VN{id}:Ex.inBlock id Q .ret σ=Q .ret σ:=propext zBc
theorem CF{id id'}:Ex.inBlock id Q (.exit id') σ=if id'=id then Q .norm σ else Q (.exit id') σ:=propext zBc
def Nx{ι:Type}(st:ι->St)(inv:ι->Prop)(μ:ι->Nat)(ks:List Nat)(n:Nat)(τ:St):Prop:=
 ∃ms τ' j,τ.mats ms=ś τ'/\τ'.nrm ks=st j/\inv j/\μ j<n
theorem Nx.mk{ι st inv μ ks n τ}(j:ι)(h:τ.nrm ks=st j)(hi:inv j)(hm:μ j<n):Nx st inv μ ks n τ:=
 ⟨[],τ,j,rfl,h,hi,hm⟩
def ajl(p:Prop):Prop:=p
theorem ajl.out{p}(h:ajl p):p:=h
theorem ah{ks c ι}(st)(inv)(μ)(ms)(σ')(i0:ι)(hms:σ.mats ms=ś σ')(h0:σ'.nrm ks=st i0)(hi:inv i0)
 (round:∀i,inv i->∀N:St->Prop,ajl (∀τ,Nx st inv μ ks (μ i) τ->N τ)->W Φ c (Ex.then N Q) (st i)):W Φ (.loop ks c) Q σ:=by
 refine⟨λn τ=>∃i,inv i/\μ i=n/\τ=st i,⟨μ i0,ms,σ',hms,i0,hi,rfl,h0⟩,?_⟩;rintro n τ ⟨i,hi,rfl,rfl⟩
 have e:Ex.then (Nx st inv μ ks (μ i)) Q=Ex.then (λτ'=>∃m ms τ'',τ'.mats ms=ś τ''/\(∃j,inv j/\μ j=m/\τ''.nrm ks=st j)/\m<μ i) Q:=by
  funext x τ';cases x with
  |norm=>
    simp only[Pg,eq_iff_iff];constructor
    ·rintro⟨ms,τ',j,h1,h2,h3,h4⟩;grind
    ·rintro⟨_,ms,τ',h1,⟨j,h3,rfl,h2⟩,h4⟩;exact⟨ms,τ',j,h1,h2,h3,h4⟩
  |_=>rfl
 rw[<-e];exact round i hi _ (λ_ h=>h)
theorem aw{d f vs us K r}(h:Φ.p f us r)(hf:dA r=ť)(k:K (σ.put d r)):vm Φ d f vs us K σ:=⟨r,.inl ⟨h,.inl hf⟩,k⟩
theorem az{d f vs us K r}(h:Φ.p f us r)(hf:ax vs=[])(k:K (σ.put d r)):vm Φ d f vs us K σ:=⟨r,.inl ⟨h,.inr hf⟩,k⟩
theorem ol{d f vs us K r}(h:Φ.n f us r)(k:K (σ.put d r)):vm Φ d f vs us K σ:=⟨r,.inr h,k⟩
theorem fD{d f vs us K r}(h:Φ.n f us r)(k:ok r->K (σ.put d r)):ry Φ d f vs us K σ:=⟨r,.inl ⟨.inr h,k⟩⟩
theorem ae{d f vs us K r}(h:Φ.p f us r)(hf:ax vs=[])(k:ok r->K (σ.put d r)):ry Φ d f vs us K σ:=⟨r,.inl ⟨.inl ⟨h,.inr hf⟩,k⟩⟩
theorem aa{d f vs us K r}(h:Φ.p f us r)(hf:dA r=ť)(k:ok r->K (σ.put d r)):ry Φ d f vs us K σ:=⟨r,.inl ⟨.inl ⟨h,.inl hf⟩,k⟩⟩
theorem dC{d f vs us K r}(h:Φ.p f us r)(k:ok r->K ((σ.kill (ax vs)).put d r)):ry Φ d f vs us K σ:=⟨r,.inr (.inl ⟨h,k⟩)⟩
theorem iT{d f vs us K r}(h:Φ.n f us r)(k:ok r->K (σ.put d (fz r))):ry Φ d f vs us K σ:=⟨r,.inr (.inr ⟨h,k⟩)⟩
end rules
end Go.Abs
end
section
namespace Go.Abs
open Go.RowKit
structure Kap where
 v:Nat->Value
 row:Nat->Nat->Value
 bl:Nat->Nat->Prop
 fm:Mem
instance :CoeFun Kap λ_=>Nat->Value:=⟨Kap.v⟩
def blk:Value->Option Nat
 | .pointer (ś a)=>ś a.block
 | .slice (ś a) _ _=>ś a.block
 |_=>ń
def Ob.nam : Ob -> Bool
  | .mp _ _ => true
  | .gh _ => true
  | .itr _ _ => true
  | .tok _ => true
  |_ => false
def XX(κ:Kap)(h:List (Option Ob)):V->Value->Prop
 | .ref id n,c=>aI c/\id<h.length/\(∀e sz l,h[id]?=ś (ś (.arr e sz l))->n<=l.length/\(n=l.length->c=κ id))/\(∀e e2 sz rows,h[id]?=ś (ś (.mat e e2 sz rows))->n<=rows.length/\(n=rows.length->c=κ id))/\(∀o,h[id]?=ś (ś o)->o.nam=ť->c=κ id)
 | .ptr id off,c=>aI c/\id<h.length/\∀cs,h[id]?=ś (ś (.box cs))->∃b,κ id=.pointer (ś ⟨b,0,ń⟩)/\c=.pointer (ś ⟨b,off,ń⟩)
 | .eptr id n i off,c=>aI c/\id<h.length/\(∀e sz l,h[id]?=ś (ś (.arr e sz l))->n<=l.length/\(n=l.length->i<n->∃b cap,κ id=.slice (ś ⟨b,0,ń⟩) n cap/\c=.pointer (ś ⟨b,i*sz+off,ń⟩)))/\(∀e e2 sz rows,h[id]?=ś (ś (.mat e e2 sz rows))->n<=rows.length/\(n=rows.length->i<n->∃b cap,κ id=.slice (ś ⟨b,0,ń⟩) n cap/\c=.pointer (ś ⟨b,i+off,ń⟩)))
 | .fseq sz l,c=>aI c/\rep κ.fm NX (.seq sz l) c
 | .mref id i n,c=>aI c/\id<h.length/\∀e e2 sz rows,h[id]?=ś (ś (.mat e e2 sz rows))->(∀r,bq rows i=ś r->n<=r.length/\(n=r.length->c=κ.row id i))/\∀k,rows[i]?=ś (.g k)->n<=k
 | .mptr id i n k off,c=>aI c/\id<h.length/\∀e e2 sz rows,h[id]?=ś (ś (.mat e e2 sz rows))->(∀r,bq rows i=ś r->n<=r.length/\(n=r.length->k<n->∃b cap,κ.row id i=.slice (ś ⟨b,0,ń⟩) n cap/\c=.pointer (ś ⟨b,k*sz+off,ń⟩)))/\∀q,rows[i]?=ś (.g q)->n<=q
 |_,_=>False
def aB(M:Mem)(sz:Nat):List V->List Value->Prop
 |[],xs=>xs=[]
 |v::vs,xs=>∃(y:Value)(rest:List Value),xs=y.cells.toList++rest/\rep M NX v y/\y.cells.size=sz/\(∀u∈y.cells.toList,aI u)/\aB M sz vs rest
structure Bas where
 n:Nat
 S:Nat->Prop
 ps:List Nat
 cs:Array Value
 fb:Nat
 J:Nat->List (V×Bool)->(Nat->Prop)->Mem->World->Prop
 df:List Deferred
def Bas.own(B:Bas)(g:Nat):Prop:=B.n<=g\/B.S g
def Siz(w w':World):Prop:=∀(k:Nat)(cur:Array Value)(T:TypeId)(z:Nat×Nat),w.heap[k]?=ś (Obj.cells cur T z)->∃(cur':Array Value)(T':TypeId)(z':Nat×Nat),w'.heap[k]?=ś (Obj.cells cur' T' z')/\cur'.size=cur.size
structure Und (B:Bas) (w w':World):Prop where
 os:w'.os=w.os
 tape:w'.tape=w.tape
 output:w'.output=w.output
 size:w.heap.size<=w'.heap.size
 block:∀k,k<B.n->¬B.S k->w'.heap[k]?=w.heap[k]?
 siz:∀(k:Nat)(cur:Array Value)(T:TypeId)(z:Nat×Nat),w.heap[k]?=ś (Obj.cells cur T z)->∃(cur':Array Value)(T':TypeId)(z':Nat×Nat),w'.heap[k]?=ś (Obj.cells cur' T' z')/\cur'.size=cur.size
theorem Und.refl(B)(w):Und B w w:=⟨rfl,rfl,rfl,zDe _,λ_ _ _=>rfl,λ_ cur T z h=>⟨cur,T,z,h,rfl⟩⟩
theorem Und.trans{B a b c}(h:Und B a b)(k:Und B b c):Und B a c:=
 ⟨k.os.trans h.os,k.tape.trans h.tape,k.output.trans h.output,zGg h.size k.size,λi hi hs=>(k.block i hi hs).trans (h.block i hi hs),λi cur T z hc=>by
   obtain⟨c1,T1,z1,h1,e1⟩:=h.siz i cur T z hc;obtain⟨c2,T2,z2,h2,e2⟩:=k.siz i c1 T1 z1 h1;simp_all⟩
theorem Und.of_below{B w w'}(h:Below w.heap.size w w')(hB:B.n<=w.heap.size):Und B w w':=⟨h.os,h.tape,h.output,h.size,λk hk _=>h.block k (by omega),λk cur T z hc=>⟨cur,T,z,by rw[h.block k (zAd.1 hc).1];exact hc,rfl⟩⟩
def qL(M:Mem)(kt:KT):List (V×V)->List MapEntry->Prop
 |[],es=>es=[]
 |(k,v)::l,es=>∃(e:MapEntry)(rest:List MapEntry),es=e::rest/\bH kt k=ť/\rep M NX k e.key/\rep M NX v e.val/\qL M kt l rest
def bn(κ : Kap)(M : Mem)(X : V -> Value -> Prop)(B : Bas)(w : World)(id : Nat) : Ob -> Prop
  | .box cs => ∃(b : Nat)(arr : Array Value)(T : TypeId),κ id = .pointer (some ⟨b,0,none⟩) /\ B.own b /\ w.heap[b]? = some (.cells arr T (0,0)) /\ af M X cs arr.toList /\ (∀u ∈ arr.toList,aI u) /\ ∀g,κ.bl id g ↔ g = b
  | .arr e sz l => 0<sz /\ l.length <= 140737488355328 /\ ∃xs,w.ownsRow 0 e sz (κ id) l.length xs /\ aB M sz l xs /\ (∀g,κ.bl id g -> B.own g) /\ ∀g,κ.bl id g ↔ blk (κ id) = some g
  | .mat e e2 sz rows => 0<sz /\ rows.length <= 140737488355328 /\ (∃xs,w.ownsRow 0 e 1 (κ id) rows.length xs /\ (∀u ∈ xs,aI u) /\ ∀i r,bq rows i = some r -> xs[i]? = some (κ.row id i)) /\
    (∀i r,bq rows i = some r -> r.length <= 140737488355328 /\ ∃ys,w.ownsRow 0 e2 sz (κ.row id i) r.length ys /\ aB M sz r ys) /\
    (∀i j r s g,bq rows i = some r -> bq rows j = some s -> blk (κ.row id i) = some g -> blk (κ.row id j) = some g -> i = j) /\ (∀i r g,bq rows i = some r -> blk (κ.row id i) = some g -> blk (κ id)≠some g) /\
    (∀g,κ.bl id g -> B.own g) /\ ∀g,κ.bl id g ↔ (blk (κ id) = some g \/ ∃i r,bq rows i = some r /\ blk (κ.row id i) = some g)
  | .mp kt l => ∃(b : Nat)(es : Array MapEntry)(clock : Nat),κ id = .map (some b) /\ B.own b /\ w.heap[b]? = some (.map es clock) /\ qL M kt l es.toList /\ ∀g,κ.bl id g ↔ g = b
  | .itr s p => ∃(b : Nat)(bs : ByteArray),κ id = .pointer (some ⟨b,0,none⟩) /\ B.own b /\ w.heap[b]? = some (.stringIter bs p) /\ bs.data.toList = s /\ s.length <= 4611686018427387904 /\ ∀g,κ.bl id g ↔ g = b
  | .tok c => κ id = c /\ ∀g,¬ κ.bl id g
  | .gh l => ∃k,κ id = .func (.yield k) #[] #[] /\ B.J k l (κ.bl id) M w /\ ∀g,κ.bl id g -> B.own g /\ g<w.heap.size
def Xz(B:Bas):Prop:=∀(k:Nat)(l:List (V×Bool))(S:Nat->Prop)(M M':Mem)(w w':World),B.J k l S M w->Und B w w'->(∀g,S g->w'.heap[g]?=w.heap[g]?)->
 (∀p v,M p=ś v->M' p=ś v)->(∀p v,M' p=ś v->w'.cell? p=ś v)->B.J k l S M' w'
structure Sub (M0:Mem) (B:Bas) (fm M:Mem):Prop where
 sub:∀p v,M0 p=ś v->M p=ś v
 fmS:∀p v,fm p=ś v->M p=ś v
 fmN:∀p v,fm p=ś v->B.fb<=p.block
 fbn:B.fb<=B.n
 gl:XA M0
structure Rel (N:Nat) (M0:Mem) (B:Bas) (w0:World) (κ:Kap) (M:Mem) (σ:St) (a:Act) (w:World):Prop where
 dfr:a.defers=B.df
 jst:Xz B
 pin:∀i,i∈B.ps->a.tmps[i]?=B.cs[i]?
 size:a.tmps.size=N
 regs:∀t v,lk σ.r t=ś v->t<N/\∃c,a.tmps[t]?=ś c/\rep M (XX κ σ.h) v c
 heap:∀id ob,σ.h[id]?=ś (ś ob)->bn κ M (XX κ σ.h) B w id ob
 inj:∀i j oi oj g,σ.h[i]?=ś (ś oi)->σ.h[j]?=ś (ś oj)->κ.bl i g->κ.bl j g->i=j
 snd:∀p v,M p=ś v->w.cell? p=ś v
 sep:∀p v,M p=ś v->∀id ob,σ.h[id]?=ś (ś ob)->¬κ.bl id p.block
 sub:Sub M0 B κ.fm M
 new:∀p v,M p=ś v->M0 p=ś v\/B.own p.block
 base:B.n=w0.heap.size
 blw:Und B w0 w
theorem agp{M X k n c}(h:rep M X (.int k n) c):aI c:=by simp only[rep]at h;rw[h.1];rfl
theorem d5{M X v c}(h:rep M X v c)(hX:∀v c,X v c->aI c)(hv:∀vs,v≠.tup vs):
 af M X (cl v) c.cells.toList/\∀u∈c.cells.toList,aI u:=by
 have one:aI c->cl v=[v]->af M X (cl v) c.cells.toList/\∀u∈c.cells.toList,aI u:=by
  simp_all[dM,af]
 cases v with
 |strct cs=>
   simp only[rep]at h;obtain⟨arr,rfl,h2,h3⟩:=h;grind[cl,Value.cells]
 |tup vs=>simp_all
 |int k n=>exact one (agp h) rfl
 |bool b=>simp only[rep]at h;exact one (by rw[h];rfl) rfl
 |str s=>simp only[rep]at h;obtain⟨bs,rfl,_⟩:=h;exact one rfl rfl
 |nil sz=>simp only[rep]at h;exact one (by rw[h.1];rfl) rfl
 |seq sz l=>simp only[rep]at h;obtain⟨a,cap,rfl,_⟩:=h;exact one rfl rfl
 |ref id n=>exact one (hX _ _ h) rfl
 |ptr id n=>exact one (hX _ _ h) rfl
 |eptr id n i off=>exact one (hX _ _ h) rfl
 |mref id i n=>exact one (hX _ _ h) rfl
 |fseq sz l=>exact one (hX _ _ h) rfl
 |mptr id i n k off=>exact one (hX _ _ h) rfl
 |sptr x off=>simp only[rep]at h;obtain⟨b,o,y,rfl,_⟩:=h;exact one rfl rfl
 |nilptr=>simp only[rep]at h;exact one (by rw[h];rfl) rfl
 |fn f a b=>simp only[rep]at h;obtain⟨a1,a2,rfl,_⟩:=h;exact one rfl rfl
 |nilfn=>simp only[rep]at h;exact one (by rw[h];rfl) rfl
 |iface t x=>simp only[rep]at h;obtain⟨y,rfl,_⟩:=h;exact one rfl rfl
 |niliface=>simp only[rep]at h;exact one (by rw[h];rfl) rfl
 |junk=>exact one h rfl
theorem Uu{κ h}:∀v c,XX κ h v c->aI c:=by
 intro v c hx;cases v<;>simp only[XX]at hx<;>first|exact hx.1|exact hx.elim
theorem tU:∀v c,NX v c->aI c:=λ_ _ h=>h.elim
theorem In{M X agg us v}(h:mkc agg us=ś v){cs}(hr:af M X us cs)(hc:∀u∈cs,aI u):
 (agg=ť/\rep M X v (.agg cs.toArray))\/(agg=ğ/\∃c,cs=[c]/\rep M X v c):=by
 cases agg with
 |true=>
   simp only[mkc,zA]at h;subst h;simp_all[rep]
 |false=>
   match us,h with
   |[u],h=>
     simp_all[mkc,zA,af]
theorem It{M X cs us off n}(h:cut cs off n=ś us){ds}(hr:af M X cs ds)(hc:∀u∈ds,aI u):
 off+n<=ds.length/\af M X us ((ds.drop off).take n)/\(∀u∈(ds.drop off).take n,aI u)/\((ds.drop off).take n).length=n:=by
 grind[cut,bg,pX,pY,zEg,zEh]
theorem AB{M X cs us cs' off}(h:ju cs off us=ś cs'){ds es}(hr:af M X cs ds)(hu:af M X us es):
 off+es.length<=ds.length/\af M X cs' (ds.take off++es++ds.drop (off+es.length)):=by
 grind[ju,bg,d6,pX,pY]
section
variable{N:Nat}{M0:Mem}{B:Bas}{w0:World}{κ:Kap}{M:Mem}{σ:St}{a:Act}{w:World}
theorem Rel.put(H:Rel N M0 B w0 κ M σ a w){d}(hd:d<N/\d ∉ B.ps){v c}(hv:rep M (XX κ σ.h) v c):Rel N M0 B w0 κ M (σ.put (ś d) v) (a.put (ś d) c) w:=by
 refine{ dfr:=H.dfr,jst:=H.jst,pin:=λi hi=>by rw[<-H.pin i hi];simp only[Act.put];rw[Array.getElem?_setIfInBounds_ne (λe=>hd.2 (by rw[e];exact hi))],size:=by simpa[Act.put]using H.size,regs:=?_,heap:=H.heap,inj:=H.inj,snd:=H.snd,sep:=H.sep,sub:=H.sub,new:=H.new,base:=H.base,blw:=H.blw }
 intro t u ht;simp only[St.put,lk]at ht;split at ht
 ·rename_i he
  subst he;cases ht;exact⟨hd.1,c,by simp[Act.put,H.size,hd.1],hv⟩
 ·rename_i he
  obtain⟨h1,c',h2,h3⟩:=H.regs t u ht;exact⟨h1,c',by simp[Act.put,Array.getElem?_setIfInBounds,he,h2],h3⟩
theorem Rel.put'(H:Rel N M0 B w0 κ M σ a w){d}(hd:∀t,d=ś t->t<N/\t ∉ B.ps){v c}(hv:rep M (XX κ σ.h) v c):Rel N M0 B w0 κ M (σ.put d v) (a.put d c) w:=by
 cases d with
 |none=>exact H
 |some t=>exact H.put (hd t rfl) hv
theorem Rel.undef(H:Rel N M0 B w0 κ M σ a w){d}(hd:∀t,d=ś t->t<N/\t ∉ B.ps):Rel N M0 B w0 κ M (σ.put d (.tup [])) (a.put d undef) w:=
 H.put' hd (by simp only[rep];exact⟨#[],rfl,by simp[af]⟩)
theorem Rel.forget(H:Rel N M0 B w0 κ M σ a w)(r)(hr:∀t v,lk r t=ś v->lk σ.r t=ś v):Rel N M0 B w0 κ M { σ with r:=r } a w:=
 { dfr:=H.dfr,jst:=H.jst,pin:=H.pin,size:=H.size,regs:=λt v ht=>H.regs t v (hr t v ht),heap:=H.heap,inj:=H.inj,snd:=H.snd,sep:=H.sep,sub:=H.sub,new:=H.new,base:=H.base,blw:=H.blw }
theorem aaQ{r}:∀{ks:List Nat}{t:Nat}{v:V},lk (pk r ks) t=ś v->lk r t=ś v
 |[],_,_,h=>by grind[pk,lk]
 |k::ks,t,v,h=>by
   simp only[pk]at h;split at h
   ·rename_i u hu
    simp only[lk]at h;split at h
    ·rename_i he;subst he;rw[hu];exact h
    ·exact aaQ h
   ·exact aaQ h
theorem rM{n}:∀{ks:List Nat},nu n ks=ť↔n∈ks
 |[]=>by simp[nu]
 |k::ks=>by
   simp only[nu];split
   ·rename_i h;simp[h]
   ·rename_i h;rw[rM];simp[h]
theorem Rel.ev(H:Rel N M0 B w0 κ M σ a w){t v}(h:lk σ.r t=ś v):rep M (XX κ σ.h) v (a.eval (.tmp t)):=by
 obtain⟨_,c,h1,h2⟩:=H.regs t v h;simp_all[Act.eval]
theorem tQ{σ:St}{id cs}(h:σ.box? id=ś cs):σ.h[id]?=ś (ś (.box cs)):=by
 grind[St.box?]
theorem gT{σ:St}{id x}(h:σ.arr? id=ś x):σ.h[id]?=ś (ś (.arr x.1 x.2.1 x.2.2)):=by
 grind[St.arr?]
theorem dq{sz}:∀{l:List V}{xs:List Value},aB M sz l xs->xs.length=l.length*sz
 |[],_,h=>by grind[aB]
 |v::vs,xs,h=>by
   simp only[aB]at h;obtain⟨y,rest,rfl,_,h2,_,h3⟩:=h;have:=dq h3;grind
theorem AI{sz}:∀{l:List V}{xs:List Value},aB M sz l xs->∀{i:Nat}{v:V},l[i]?=ś v->
 ∃y,rep M NX v y/\y.cells.size=sz/\(∀u∈y.cells.toList,aI u)/\∀j,j<sz->xs[i*sz+j]?=y.cells[j]?
 |[],_,h,i,v,hi=>by simp at hi
 |v::vs,xs,h,i,u,hi=>by
   simp only[aB]at h;obtain⟨y,rest,rfl,h1,h2,h2',h3⟩:=h;cases i with
   |zero=>
     grind
   |succ i=>
     simp at hi;obtain⟨y',g1,g2,g2',g3⟩:=AI h3 hi;refine⟨y',g1,g2,g2',λj hj=>?_⟩;rw[zB (by simp[zBd,h2];omega),<-g3 j hj]
     congr 1;simp[zBd,h2];omega
theorem sQ{sz}:∀{l:List V}{b off:Nat},cx M sz l b off->∀{i:Nat}{v:V},l[i]?=ś v->
 ∃y,rep M NX v y/\y.cells.size=sz/\(∀u∈y.cells.toList,aI u)/\∀j,j<sz->M ⟨b,off+i*sz+j,ń⟩=y.cells[j]?
 |[],_,_,_,i,v,hi=>by simp at hi
 |v::vs,b,off,h,i,u,hi=>by
   simp only[cx]at h;obtain⟨⟨y,h1,h2,h2',h3⟩,h4⟩:=h;cases i with
   |zero=>
     simp at hi;subst hi;exact⟨y,h1,h2,h2',λj hj=>by simpa using h3 j hj⟩
   |succ i=>
     simp at hi;obtain⟨y',g1,g2,g2',g3⟩:=sQ h4 hi;refine⟨y',g1,g2,g2',λj hj=>?_⟩;rw[<-g3 j hj];congr 2;simp only[zBd];omega
theorem RZ{σ:St}{id x}(h:σ.mp? id=ś x):σ.h[id]?=ś (ś (.mp x.1 x.2)):=by
 grind[St.mp?]
theorem iB{σ:St}{id x}(h:σ.rws? id=ś x):σ.h[id]?=ś (ś (.mat x.1 x.2.1 x.2.2.1 x.2.2.2)):=by
 grind[St.rws?]
theorem vH{rows i r}(h:bq rows i=ś r):rows[i]?=ś (.a r)/\i<rows.length:=by
 grind[bq,zAa]
theorem Pu{e sz:Nat}{val l xs}(ho:w.ownsRow 0 e sz val l.length xs)(hrow:aB M sz l xs){b cap m}(g1:val=.slice (ś ⟨b,0,ń⟩) m cap){i v}(hv:l[i]?=ś v)
 {off n} {us} (h:cut (cl v) off n=ś us) {X}:
 ∃cs:List Value,af M X us cs/\(∀u∈cs,aI u)/\cs.length=n/\∀j u,cs[j]?=ś u->w.cell? ((⟨b,i*sz+off,ń⟩:Addr).add j)=ś u:=by
 have hi:i<l.length:=(zAa.1 hv).1;obtain⟨y,k1,k2,k2',k3⟩:=AI hrow hv
 have hnt:∀vs,v≠.tup vs:=by
  rintro vs rfl;simp only[rep]at k1;obtain⟨arr,rfl,_⟩:=k1;simp_all[Value.cells,aI,Value.oneCell']
 have kc:=d5 k1 tU hnt;obtain⟨c1,c2,c3,c4⟩:=It h kc.1 kc.2;refine⟨_,bv (λ_ _ h=>h) (λ_ _ h=>h.elim) _ _ c2,c3,c4,λj u hj=>?_⟩
 have hjn:j<n:=by
  grind
 rw[zC,if_pos hjn,zCg]at hj;have hj':y.cells[off+j]?=ś u:=by simp_all
 have hlt:off+j<sz:=by grind
 have hx:=k3 (off+j) hlt;rw[hj']at hx;have:=ho.cells (g:=b) (by rw[g1];rfl) (i*sz+(off+j)) u hx
 grind[Addr.add_lit]
theorem Gw(H:Rel N M0 B w0 κ M σ a w){p c}(hp:rep M (XX κ σ.h) p c){n us}(h:σ.fetch p n=ś us):
 ∃(b o:Nat)(cs:List Value),c=.pointer (ś ⟨b,o,ń⟩)/\af M (XX κ σ.h) us cs/\(∀u∈cs,aI u)/\cs.length=n/\∀j v,cs[j]?=ś v->w.cell? ((⟨b,o,ń⟩:Addr).add j)=ś v:=by
 cases p<;>simp only[St.fetch]at h<;>try (cases h;done)
 case ptr id off=>
  split at h
  ·rename_i cs hcs
   have hb:=tQ hcs;obtain⟨b,arr,T,h1,h2,h3,h4,h5,_⟩:=H.heap id _ hb;simp only[rep,XX]at hp;obtain⟨b',g1,g2⟩:=hp.2.2 cs hb;rw[h1]at g1;cases g1;obtain⟨k1,k2,k3,k4⟩:=It h h4 h5;grind[Addr.add_lit,cell_of_row]
  ·cases h
 case eptr id m i off=>
  split at h
  ·rename_i e sz l hl
   have ha:=gT hl;simp only at ha;obtain⟨hsz,hlen,xs,ho,hrow,_⟩:=H.heap id _ ha;split at h
   ·rename_i hm
    split at h
    ·rename_i v hv
     have hi:i<l.length:=(zAa.1 hv).1;simp only[rep,XX]at hp;obtain⟨b,cap,g1,g2⟩:=(hp.2.2.1 e sz l ha).2 hm (by omega)
     obtain⟨cs,k1,k2,k3,k4⟩:=Pu ho hrow g1 hv h (X:=XX κ σ.h);grind
    ·cases h
   ·cases h
  ·split at h
   ·rename_i e e2 sz rows hr
    have hr':=iB hr;simp only at hr';split at h
    ·rename_i hc
     obtain⟨hm,rfl,rfl⟩:=hc;split at h
     ·rename_i r hrow
      cases h;obtain⟨h1,h2,⟨xs,ho,hcx,hxs⟩,_⟩:=H.heap id _ hr';have hlt:=vH hrow;simp only[rep,XX]at hp;obtain⟨b,cap,g1,g2⟩:=(hp.2.2.2 e e2 sz rows hr').2 hm (by omega)
      refine⟨b,i+0,[κ.row id i],g2,?_,?_,rfl,λj v hj=>?_⟩
      ·simp only[af,rep,XX]
       grind
      ·grind
      ·have hj0:j=0:=by
        grind
       subst hj0;simp at hj;subst hj;have:=ho.cells (g:=b) (by rw[g1];rfl) i _ (hxs i r hrow)
       grind[Addr.add_lit]
     ·cases h
    ·cases h
   ·cases h
 case mptr id i m k off=>
  split at h
  ·rename_i e e2 sz rows hr
   have hr':=iB hr;simp only at hr';split at h
   ·rename_i r hrow
    split at h
    ·rename_i hm
     split at h
     ·rename_i v hv
      have hk:k<r.length:=(zAa.1 hv).1;obtain⟨h1,h2,_,h3,_⟩:=H.heap id _ hr';obtain⟨hrl,ys,ho,hys⟩:=h3 i r hrow;simp only[rep,XX]at hp;obtain⟨b,cap,g1,g2⟩:=((hp.2.2 e e2 sz rows hr').1 r hrow).2 hm (by omega)
      obtain⟨cs,k1,k2,k3,k4⟩:=Pu ho hys g1 hv h (X:=XX κ σ.h);grind
     ·cases h
    ·cases h
   ·cases h
  ·cases h
 case sptr x off=>
  simp only[rep]at hp;obtain⟨b,o,y,rfl,h2,h2',h3⟩:=hp
  have hnt:∀vs,x=.tup vs->False:=by
   rintro vs rfl;simp only[rep]at h2;obtain⟨arr,rfl,_⟩:=h2;simp_all[Value.cells,aI,Value.oneCell']
  have kc:=d5 h2 tU (λvs h=>hnt vs h);obtain⟨c1,c2,c3,c4⟩:=It h kc.1 kc.2;refine⟨b,o+off,_,rfl,bv (λ_ _ h=>h) (λ_ _ h=>h.elim) _ _ c2,c3,c4,λj u hj=>?_⟩
  have hjn:j<n:=by
   grind
  rw[zC,if_pos hjn,zCg]at hj;have hj':y.cells[off+j]?=ś u:=by simp_all
  have hlt:off+j<y.cells.size:=(zAd.1 hj').1;have hx:=h3 (off+j) hlt;rw[hj']at hx;have:=H.snd _ _ hx;grind[Addr.add_lit]
end
def WB(P:Program):Nat->TypeId->Option (List TypeId)
 |0,_=>ń
 |d+1,t=>match P.underlying t with
   |some (.struct fs)=>fs.toList.foldr (λf acc=>match WB P d f.type,acc with
     |some l,ś r=>ś (l++r)
     |_,_=>ń) (ś [])
   |some (.array n e)=>(WB P d e).map λl=>(zBa n l).flatten
   |some _=>ś [t]
   |none=>ń
def ik(P:Program)(t:TypeId):Option Nat:=(P.info? t).map (·.size)
def G4(P:Program)(t:TypeId):Option Bool:=(P.underlying t).map λ
 | .struct _| .array _ _=>ť
 |_=>ğ
def cS(P:Program)(t:TypeId):Value->Option V
 | .int k n=>if k.min<=n/\n<=k.max then ś (.int k n)else ń
 | .bool b=>ś (.bool b)
 | .string bs=>if bs.data.toList.length<=4611686018427387904 then ś (.str bs.data.toList)else ń
 | .slice ń 0 0=>match P.underlying t with
   |some (.slice e)=>match ik P e with
     |some n=>if 0<n then ś (.nil n)else ń
     |none=>ń
   |_=>ń
 | .pointer ń=>ś .nilptr
 | .nilFunc=>ś .nilfn
 | .nilIface=>ś .niliface
 | .map ń=>ś .junk
 |_=>ń
def cSs(P:Program):List TypeId->List Value->Option (List V)
 |[],[]=>ś []
 |t::ts,c::cs=>match cS P t c,cSs P ts cs with
   |some v,ś vs=>ś (v::vs)
   |_,_=>ń
 |_,_=>ń
def cV(P:Program)(t:TypeId):Value->Option V
 | .agg cs=>match WB P 20 t with
   |some ts=>(cSs P ts cs.toList).map .strct
   |none=>ń
 |c=>cS P t c
def cO(P:Program)(t:TypeId):Operand->Option AO
 | .tmp n=>ś (.t n)
 | .const c=>(cV P t c).map .v
 | .func f=>ś (.v (.fn (.func f) [] []))
 | .global g=>if 0<(GLt g).length then ś (.v (.sptr (.strct ((GLt g).map λn=>.int .u8 (n%256:Nat))) 0))else ń
def cOs(P:Program):List TypeId->List Operand->Option (List AO)
 |[],[]=>ś []
 |t::ts,x::xs=>match cO P t x,cOs P ts xs with
   |some v,ś vs=>ś (v::vs)
   |_,_=>ń
 |_,_=>ń
theorem agr{P t c v}(h:cS P t c=ś v){M X}:rep M X v c/\aI c:=by
 unfold cS at h;split at h
 ·split at h
  ·cases h;exact⟨by simp_all[rep,trivial],rfl⟩
  ·cases h
 ·cases h;exact⟨rfl,rfl⟩
 ·split at h
  ·cases h;exact⟨by simp_all[rep],rfl⟩
  ·cases h
 ·split at h
  ·split at h
   ·split at h
    ·rename_i h0;cases h;exact⟨⟨rfl,h0⟩,rfl⟩
    ·cases h
   ·cases h
  ·cases h
 ·cases h;exact⟨rfl,rfl⟩
 ·cases h;exact⟨rfl,rfl⟩
 ·cases h;exact⟨rfl,rfl⟩
 ·cases h;exact⟨rfl,rfl⟩
 ·cases h
theorem Uk{P M X}:∀{ts:List TypeId}{cs:List Value}{vs:List V},cSs P ts cs=ś vs->af M X vs cs/\∀u∈cs,aI u
 |[],[],vs,h=>by grind[cSs,zA,af]
 |t::ts,c::cs,vs,h=>by
   simp only[cSs]at h;split at h
   ·rename_i v us hv hus
    cases h;have h1:=agr hv (M:=M) (X:=X);have h2:=Uk (M:=M) (X:=X) hus;refine⟨by simp only[af];grind,λu hu=>?_⟩
    grind
   ·cases h
 |[],_::_,_,h=>by simp[cSs]at h
 |_::_,[],_,h=>by simp[cSs]at h
theorem LR{P t c v}(h:cV P t c=ś v){M X}:rep M X v c:=by
 unfold cV at h;split at h
 ·split at h
  ·rename_i ts _
   obtain⟨vs,hc,rfl⟩:=zAb.1 h;have:=Uk hc (M:=M) (X:=X);simp_all[rep]
  ·cases h
 grind[agr]
section
variable{P:Program}{N:Nat}{M0:Mem}{B:Bas}{w0:World}{κ:Kap}{M:Mem}{σ:St}{a:Act}{w:World}
theorem abp{M X}:∀l:List Nat,af M X (l.map λn=>.int .u8 (n%256:Nat)) (l.map GLv)/\∀u∈l.map GLv,aI u
 |[]=>by simp[af]
 |n::l=>by
   obtain⟨h1,h2⟩:=abp (M:=M) (X:=X) l;refine⟨?_,?_⟩
   ·simp only[zCd,af]
    refine⟨_,_,rfl,?_,h1⟩;simp only[rep,GLv];refine⟨trivial,?_⟩;grind[IntKind.min,IntKind.max,IntKind.signed,IntKind.bits]
   ·intro u hu
    simp only[zCd,zD]at hu;rcases hu with rfl|hu
    ·rfl
    grind
theorem amd{M X}(hM:XA M){g}:rep M X (.sptr (.strct ((GLt g).map λn=>.int .u8 (n%256:Nat))) 0) (.pointer (ś ⟨g,0,ń⟩)):=by
 simp only[rep];obtain⟨h1,h2⟩:=abp (M:=M) (X:=NX) (GLt g);refine⟨g,0,.agg ((GLt g).map GLv).toArray,rfl,⟨_,rfl,h1,h2⟩,h2,λj hj=>?_⟩;have hj:j<(GLt g).length:=by grind[Value.cells]
 have e:(Value.agg ((GLt g).map GLv).toArray).cells[j]?=ś (GLv (GLt g)[j]):=by grind[Value.cells]
 rw[e];refine hM.1 _ _ ?_;simp[GL,hj]
theorem Rel.op(H:Rel N M0 B w0 κ M σ a w){t o x v}(hc:cO P t o=ś x)(hv:σ.ev x=ś v):rep M (XX κ σ.h) v (a.eval o):=by
 cases o with
 |tmp n=>simp only[cO,zA]at hc;subst hc;exact H.ev hv
 |const c=>
   simp only[cO]at hc;cases h:cV P t c with
   |none=>simp[h]at hc
   |some u=>
     simp only[h,zEb,zA]at hc;subst hc;simp only[St.ev,zA]at hv;subst hv;exact LR h
 |global g=>
   simp only[cO]at hc;split at hc
   ·rename_i hg
    cases hc;simp only[St.ev,zA]at hv;subst hv;exact amd (H.sub.gl.mono H.sub.sub)
   ·cases hc
 |func f=>
   simp only[cO,zA]at hc;subst hc;simp only[St.ev,zA]at hv;subst hv;simp_all[rep,Act.eval,af]
theorem Rel.ops(H:Rel N M0 B w0 κ M σ a w):∀{ts:List TypeId}{os:List Operand}{xs:List AO}{vs:List V},cOs P ts os=ś xs->σ.evs xs=ś vs->af M (XX κ σ.h) vs (os.map a.eval)
 |[],[],xs,vs,h,h'=>by
   grind[cOs,zA,St.evs,af]
 |t::ts,o::os,xs,vs,h,h'=>by
   simp only[cOs]at h;split at h
   ·rename_i x ys hx hys
    cases h;simp only[St.evs]at h';split at h'
    ·rename_i u us hu hus
     cases h';simp only[zCd,af];exact⟨_,_,rfl,H.op hx hu,H.ops hys hus⟩
    ·cases h'
   ·cases h
 |[],_::_,_,_,h,_=>by simp[cOs]at h
 |_::_,[],_,_,h,_=>by simp[cOs]at h
theorem ci{X k n c}(h:rep M X (.int k n) c):c=.int k n/\k.min<=n/\n<=k.max:=by grind[rep]
theorem lL{X b c}(h:rep M X (.bool b) c):c=.bool b:=by grind[rep]
theorem sO{X s c}(h:rep M X (.str s) c):∃bs:ByteArray,c=.string bs/\bs.data.toList=s/\s.length<=4611686018427387904:=h
theorem sI(bs:ByteArray):bs.size=bs.data.toList.length:=by simp
theorem agU(k:IntKind)(n):k.min<=k.wrap n/\k.wrap n<=k.max:=by
 cases k<;>simp[IntKind.wrap,IntKind.min,IntKind.max,IntKind.signed,IntKind.bits]<;>(try split)<;>omega
theorem gk{X}(k)(n):rep M X (.int k (k.wrap n)) (.int k (k.wrap n)):=by simp_all[rep,trivial,agU]
theorem gS{X}(b):rep M X (.bool b) (.bool b):=rfl
theorem Ge(k:IntKind):k.min<=0/\0<=k.max:=by cases k<;>decide
theorem ahT{k:IntKind}{m n:Int}(h:k.min<=m/\m<=k.max):k.min<=m.tmod n/\m.tmod n<=k.max:=by
 have:=Ge k;by_cases hm:0<=m
 ·have h1:=zFi n hm
  have h2:m.tmod n<=m:=by
   rw[zDg hm];by_cases hn:n=0
   ·subst hn;simp
   ·have h3:=zDb m n
    have h4:0<=n*(m/n):=by
     rcases zFc hn with h5|h5
     ·have:=zCh hm (zBh h5)
      simp_all[zCi,zBh]
     ·exact zGc (zBh h5) (zFj hm (zBh h5))
    omega
  omega
 ·have e:m.tmod n=-((-m).tmod n):=by simp
  have h1:=zFi n (show 0<=-m by omega)
  have h2:(-m).tmod n<=-m:=by
   rw[zDg (show 0<=-m by omega)]
   by_cases hn:n=0
   ·subst hn;simp
   ·have h3:=zDb (-m) n
    have h4:0<=n*(-m/n):=by
     rcases zFc hn with h5|h5
     ·have:=zCh (show 0<=-m by omega) (zBh h5)
      simp_all[zCi,zBh]
     ·exact zGc (zBh h5) (zFj (show 0<=-m by omega) (zBh h5))
    omega
  omega
theorem aiN{k:IntKind}{m n}(h:k.min<=m/\m<=k.max):k.min<=m.fdiv (2^n)/\m.fdiv (2^n)<=k.max:=by
 have hz:=Ge k;have hp:(0:Int)<2^n:=Int.pow_pos (by decide)
 rw[Int.fdiv_eq_ediv_of_nonneg _ (zBh hp)];have h3:=zDb m (2^n);have h4:=Int.emod_nonneg m (Int.ne_of_gt hp);have h5:=Int.emod_lt_of_pos m hp;generalize m/2^n=q at *;generalize(2:Int)^n=p at *;generalize m%p=r at *;by_cases hm:0<=q
 ·have:q<=p*q:=by
   have:1*q<=p*q:=Int.mul_le_mul_of_nonneg_right (by omega) hm
   omega
  omega
 ·have h6:(p-1)*1<=(p-1)*(-q):=Int.mul_le_mul_of_nonneg_left (by omega) (by omega)
  grind
theorem yw(a b:List UInt8):(a == b)=decide (a=b):=by
 grind
theorem x7(op)(xt)(x y)(c d)(h1:∀cs,c≠.agg cs)(h2:c≠.nilIface):(eqGuard op xt x y c d).run P w=.ok () w:=by
 simp_all[eqGuard]
theorem XN{op u v r}(h:ahR op u v=ś r){X:V->Value->Prop}{c d}(hu:rep M X u c)(hv:rep M X v d)(xt)(x y):
 ∃e,((do eqGuard op xt x y c d;binOp op xt c d:Sem Value)).run P w=.ok e w/\rep M X r e:=by
 cases u<;>cases v<;>simp only[ahR]at h<;>try (cases h;done)
 case int.int k m k' n=>
  obtain⟨rfl,hm⟩:=ci hu;obtain⟨rfl,hn⟩:=ci hv;simp only[Sem.run_bind,x7 op xt x y (.int k m) (.int k' n) (by simp) (by simp),Result.andThen_ok]
  cases op<;>simp only[dx,yZ,Az]at h
  case shl=>
   split at h
   ·cases h
   ·rename_i hb
    cases h;exact⟨_,by simp[binOp,Op.shift,hb],gk _ _⟩
  case shr=>
   split at h
   ·cases h
   ·rename_i hb
    cases h;exact⟨.int k (m.fdiv (2^min n.toNat k.bits)),by simp[binOp,Op.shift,hb],by simp_all[rep,trivial,aiN]⟩
  all_goals (split at h<;>try (cases h;done));rename_i hk;subst hk
  case quo=>
   split at h
   ·cases h
   ·rename_i hb;cases h;simp_all[binOp,Op.intDiv,gk]
  case rem=>
   split at h
   ·cases h
   ·rename_i hb;cases h;simp_all[binOp,Op.intDiv,rep,trivial,ahT]
  case add=>cases h;simp_all[binOp,Op.intArith,gk]
  case sub=>cases h;simp_all[binOp,Op.intArith,gk]
  case mul=>cases h;simp_all[binOp,Op.intArith,gk]
  case and=>cases h;simp_all[binOp,Op.intBits,gk]
  case or=>cases h;simp_all[binOp,Op.intBits,gk]
  case xor=>cases h;simp_all[binOp,Op.intBits,gk]
  case andNot=>cases h;simp_all[binOp,Op.intBits,gk]
  case eql=>cases h;exact⟨_,by simp only[binOp,Op.intCmp,ne_eq,not_true_eq_false,if_false];rfl,gS _⟩
  case neq=>cases h;exact⟨_,by simp only[binOp,Op.intCmp,ne_eq,not_true_eq_false,if_false];rfl,gS _⟩
  case lss=>cases h;simp_all[binOp,Op.intCmp,ne_eq,not_true_eq_false,if_false,gS]
  case leq=>cases h;simp_all[binOp,Op.intCmp,ne_eq,not_true_eq_false,if_false,gS]
  case gtr=>cases h;simp_all[binOp,Op.intCmp,ne_eq,not_true_eq_false,if_false,gS]
  case geq=>cases h;simp_all[binOp,Op.intCmp,ne_eq,not_true_eq_false,if_false,gS]
 case str.str s t=>
  obtain⟨bs,rfl,rfl,hl⟩:=sO hu;obtain⟨bt,rfl,rfl,hl'⟩:=sO hv;simp only[Sem.run_bind,x7 op xt x y (.string bs) (.string bt) (by simp) (by simp),Result.andThen_ok]
  have e1:=ByteArray.toList_eq bs;have e2:=ByteArray.toList_eq bt;cases op<;>simp only[aj7]at h<;>try (cases h;done)
  case add=>
   split at h
   ·rename_i hb
    cases h;have hs:=sI bs;have ht:=sI bt;refine⟨.string (bs++bt),?_,?_⟩
    ·have:¬(((bs.size+bt.size:Nat):Int)>IntKind.i64.max):=by
      grind[IntKind.max,IntKind.signed,IntKind.bits]
     simp only[binOp,Op.stringOp];rw[if_neg this];rfl
    ·simp only[rep]
     exact⟨_,rfl,by simp,by grind⟩
   ·cases h
  case eql=>cases h;exact⟨_,by simp only[binOp,Op.stringOp,e1,e2,yw];rfl,gS _⟩
  case neq=>cases h;exact⟨_,by simp only[binOp,Op.stringOp,e1,e2,yw];rfl,gS _⟩
  case lss=>cases h;simp_all[binOp,Op.stringOp,yw,gS]
  case leq=>cases h;exact⟨_,by simp only[binOp,Op.stringOp,e1,e2,yw];rfl,gS _⟩
  case gtr=>cases h;exact⟨_,by simp only[binOp,Op.stringOp,e1,e2,yw];rfl,gS _⟩
  case geq=>cases h;simp_all[binOp,Op.stringOp,yw,gS]
end
end Go.Abs
end
section
namespace Go.Abs
open Go.RowKit Go.WideShapes
section
variable{P:Program}
def rP(f:TypeId->Option (List KK)):Nat->List (Nat×TypeId)->Option (List KK)
 |_,[]=>ś []
 |o,(off,t)::ps=>match f t with
   |some ks=>if off=o/\P.cellsOf t=ks.length then(match rP f (o+ks.length) ps with
     |some r=>ś (ks++r)
     |none=>ń)else ń
   |none=>ń
def EG(P:Program):Nat->TypeId->Option (List KK)
 |0,_=>ń
 |d+1,t=>match P.underlying t with
   |some .bool=>ś [.b]
   |some (.int k)=>ś [.i k]
   |some .string=>ś [.s]
   |some (.array n e)=>match rP (P:=P) (EG P d) 0 ((zEi n).map λi=>(i*P.cellsOf e,e))with
     |some ks=>if P.cellsOf t=ks.length then ś ks else ń
     |none=>ń
   |some (.struct fs)=>match rP (P:=P) (EG P d) 0 (fs.toList.map λf=>(f.offset,f.type))with
     |some ks=>if P.cellsOf t=ks.length/\fs.all (·.name != "_")=ť then ś ks else ń
     |none=>ń
   |_=>ń
def YE:V->Lit
 | .int k n=>.int k n
 | .bool b=>.bool b
 | .str s=>.string s
 |_=>.bool ğ
def jL:List V->List Lit
 |[]=>[]
 |v::vs=>YE v::jL vs
theorem Cx:∀{a b:List V},jL (a++b)=jL a++jL b
 |[],b=>rfl
 |v::a,b=>by simp[jL,Cx (a:=a)]
theorem lY:∀{us:List V}{ks:List KK},b5 us=aU ks->us.length=ks.length
 |[],[],_=>rfl
 |[],_::_,h=>by grind[b5,aU]
 |_::_,[],h=>by grind[b5,aU]
 |u::us,k::ks,h=>by
   simp only[b5,aU,zBb]at h;simp[lY h.2]
theorem Gm:∀{a b:List V},b5 (a++b)=b5 a++b5 b
 |[],b=>rfl
 |v::a,b=>by simp[b5,Gm (a:=a)]
theorem BY:∀{a b:List KK},aU (a++b)=aU a++aU b
 |[],b=>rfl
 |v::a,b=>by simp[aU,BY (a:=a)]
theorem YK{us a b}(h:b5 us=aU (a++b)):b5 (us.take a.length)=aU a/\b5 (us.drop a.length)=aU b:=by
 have hl:=lY h;rw[zAh]at hl;have h2:us=us.take a.length++us.drop a.length:=(zEe _ _).symm;rw[h2,Gm,BY]at h
 have hlen:(b5 (us.take a.length)).length=(aU a).length:=by
  have l1:∀(l:List V),(b5 l).length=l.length:=λl=>by induction l<;>simp[b5, *]
  have l2:∀(l:List KK),(aU l).length=l.length:=λl=>by induction l<;>simp[aU, *]
  grind
 grind[List.append_inj]
theorem wg{f d M X}(hf:∀(t:TypeId)(ks:List KK)(us:List V)(cs:List Value),f t=ś ks->af M X us cs->b5 us=aU ks->P.keyLits d t cs=ś (jL us)):
 ∀(ps:List (Nat×TypeId))(o:Nat)(ks:List KK)(us:List V)(cs:List Value),rP (P:=P) f o ps=ś ks->af M X us (cs.drop o)->b5 us=aU ks->
   ∃ls,ps.mapM (λp=>P.keyLits d p.2 ((cs.drop p.1).take (P.cellsOf p.2)))=ś ls/\ls.flatten=jL us
 |[],o,ks,us,cs,h,hr,hk=>by
   simp only[rP,zA]at h;subst h;have:=lY hk;have:us=[]:=zBg (by omega)
   subst this;exact⟨[],rfl,rfl⟩
 |(off,t)::ps,o,ks,us,cs,h,hr,hk=>by
   simp only[rP]at h;split at h
   ·rename_i k1 h1
    split at h
    ·rename_i hc
     obtain⟨rfl,hcell⟩:=hc;split at h
     ·rename_i k2 h2
      simp only[zA]at h;subst h;obtain⟨g1,g2⟩:=YK hk;have r1:=pX k1.length hr;have r2:=pY k1.length hr;rw[zGd]at r2;have e1:=hf t k1 _ _ h1 r1 g1;obtain⟨ls,e2,e3⟩:=wg hf ps (off+k1.length) k2 _ cs h2 r2 g2;grind[jL,zCj,Cx,zEe]
     ·cases h
    ·cases h
   ·cases h
theorem JN{α β γ:Type}(f:β->Option γ)(g):∀l:List α,(l.map g).mapM f=l.mapM (λx=>f (g x))
 |[]=>rfl
 |x::l=>by rw[zCd,zEf,zEf,JN f g l]
theorem aaT:∀(d:Nat)(t:TypeId)(ks:List KK){M:Mem}{X:V->Value->Prop}(us:List V)(cs:List Value),EG P d t=ś ks->af M X us cs->b5 us=aU ks->P.keyLits d t cs=ś (jL us):=by
 intro d
 induction d with
 |zero=>grind[EG]
 |succ d ih=>
   intro t ks M X us cs h hr hk;have hlen:=lY hk;have hlc:=bg hr;unfold EG at h
   have one:∀k:KK,ks=[k]->∃u,us=[u]/\kOf u=ś k:=by
    intro k hks;subst hks
    match us,hk with
    |[u],hk=>simp_all[b5,aU,zBb,and_true]
    |[],hk=>simp_all
    |_::_::_,hk=>simp_all
   split at h
   ·rename_i hu
    simp only[zA]at h;obtain⟨u,rfl,h2⟩:=one _ h.symm;cases u<;>simp[kOf]at h2;simp_all[af,rep,Program.keyLits,jL,YE]
   ·rename_i k hu
    simp only[zA]at h;obtain⟨u,rfl,h2⟩:=one _ h.symm;cases u<;>simp[kOf]at h2;subst h2;simp only[af,rep]at hr;obtain⟨c,cs',rfl,⟨rfl,h3,h4⟩,rfl⟩:=hr;simp_all[Program.keyLits,jL,YE,Lit.wf]
   ·rename_i hu
    simp only[zA]at h;obtain⟨u,rfl,h2⟩:=one _ h.symm;cases u<;>simp[kOf]at h2;simp only[af,rep]at hr;obtain⟨c,cs',rfl,⟨bs,rfl,rfl,h3⟩,rfl⟩:=hr
    have:bs.size<=maxLen:=by
     have e:bs.data.toList.length=bs.size:=zBj;rw[e]at h3;exact zGg h3 (by decide)
    simp_all[Program.keyLits,if_true,jL,YE]
   ·rename_i n e hu
    split at h
    ·rename_i k1 h1
     split at h
     ·rename_i hc
      cases h;obtain⟨ls,e1,e2⟩:=wg (λt ks us cs h1 h2 h3=>ih t ks us cs h1 h2 h3) _ 0 ks us cs h1 (by simpa using hr) hk
      rw[JN]at e1;simp_all[Program.keyLits,if_pos]
     ·cases h
    ·cases h
   ·rename_i fs hu
    split at h
    ·rename_i k1 h1
     split at h
     ·rename_i hc
      cases h;obtain⟨ls,e1,e2⟩:=wg (λt ks us cs h1 h2 h3=>ih t ks us cs h1 h2 h3) _ 0 ks us cs h1 (by simpa using hr) hk
      rw[JN]at e1;simp_all[Program.keyLits,if_pos]
     ·cases h
    ·cases h
   ·cases h
theorem aiz:∀{u v:V}{k:KK},kOf u=ś k->kOf v=ś k->(YE u=YE v↔eqC u v=ť):=by
 intro u v k h1 h2;cases u<;>simp[kOf]at h1<;>cases v<;>simp[kOf]at h2<;>subst h1<;>simp_all[YE,eqC]
theorem P4:∀{us vs:List V}{ks:List KK},b5 us=aU ks->b5 vs=aU ks->(jL us=jL vs↔pm us vs=ť)
 |[],[],_,_,_=>by simp[jL,pm]
 |u::us,v::vs,k::ks,h1,h2=>by
   simp only[b5,aU,zBb]at h1 h2;simp only[jL,pm,zBb,zAc,aiz h1.1 h2.1,P4 h1.2 h2.2]
 |[],_::_,[],_,h2=>by grind[b5,aU]
 |[],_::_,_::_,h1,_=>by grind[b5,aU]
 |_::_,[],[],h1,_=>by grind[b5,aU]
 |_::_,[],_::_,_,h2=>by grind[b5,aU]
 |_::_,_::_,[],h1,_=>by grind[b5,aU]
def ktT(P:Program)(t:TypeId):Option KT:=
 match P.underlying t,EG P 20 t with
 |some (.struct _),ś ks=>if P.keyTypeAt 20 t=ť/\P.eqGuardType P.depth t=ğ then ś ⟨ť,ks⟩else ń
 |some (.array _ _),ś ks=>if P.keyTypeAt 20 t=ť/\P.eqGuardType P.depth t=ğ then ś ⟨ť,ks⟩else ń
 |some .bool,ś ks=>if P.keyTypeAt 20 t=ť then ś ⟨ğ,ks⟩else ń
 |some (.int _),ś ks=>if P.keyTypeAt 20 t=ť then ś ⟨ğ,ks⟩else ń
 |some .string,ś ks=>if P.keyTypeAt 20 t=ť then ś ⟨ğ,ks⟩else ń
 |_,_=>ń
theorem YJ{d t ks}(h:EG P d t=ś ks)(hagg:(∃fs,P.underlying t=ś (.struct fs))\/∃n e,P.underlying t=ś (.array n e)):P.cellsOf t=ks.length:=by
 cases d with
 |zero=>simp[EG]at h
 |succ d=>
   grind[EG]
theorem ny{t kt}(hk:ktT P t=ś kt){M X u c}(hf:bH kt u=ť)(hr:rep M X u c):
 c.formed P t=ť/\P.keyLits 20 t c.cells.toList=ś (jL (cl u))/\P.keyTypeAt 20 t=ť/\b5 (cl u)=aU kt.ks/\
  ((kt.agg=ť/\(∃cs,c=.agg cs)/\P.eqGuardType P.depth t=ğ/\∀k,P.underlying t≠ś (.int k))\/(kt.agg=ğ/\(P.plainKey t=ť)/\∀cs,c≠.agg cs)):=by
 simp only[bH,zAc,decide_eq_true_eq]at hf;obtain⟨ha,hks⟩:=hf
 have scal:kt.agg=ğ->P.plainKey t=ť->EG P 20 t=ś kt.ks->P.keyTypeAt 20 t=ť->c.formed P t=ť/\P.keyLits 20 t c.cells.toList=ś (jL (cl u))/\(∀cs,c≠.agg cs):=by
  intro hg hp ho _
  have hu:c.cells=#[c]/\(∀cs,c≠.agg cs)/\cl u=[u]/\(∀x,c≠.tuple x):=by
   rw[hg]at ha;cases u<;>simp[gD]at ha<;>simp[cl,b5,kOf]at hks<;>simp only[rep]at hr<;>(try (cases hq:kt.ks<;>simp[hq,aU]at hks;done))
   ·simp_all[Value.cells,cl]
   ·grind[Value.cells,cl]
   ·obtain⟨bs,rfl,_⟩:=hr;simp[Value.cells,cl]
  refine⟨?_,?_,hu.2.1⟩
  ·have h2:=hu.2.1
   have h3:=hu.2.2.2;unfold Value.formed;grind[Program.plainKey]
  ·refine aaT 20 t kt.ks (M:=M) (X:=X) (cl u) _ ho ?_ hks
   simp_all[af]
 have agg:kt.agg=ť->((∃fs,P.underlying t=ś (.struct fs))\/∃n e,P.underlying t=ś (.array n e))->EG P 20 t=ś kt.ks->c.formed P t=ť/\P.keyLits 20 t c.cells.toList=ś (jL (cl u))/\∃cs,c=.agg cs:=by
  intro hg hu ho;rw[hg]at ha;cases u<;>simp[gD]at ha;rename_i us;simp only[rep]at hr;obtain⟨arr,rfl,h2,_⟩:=hr;have hlen:=lY hks;have hl2:=bg h2;simp only[cl]at hlen hks⊢;refine⟨?_,?_,⟨arr,rfl⟩⟩
  ·grind[YJ,Value.formed]
  grind[aaT,Value.cells]
 unfold ktT at hk;split at hk
 ·rename_i fs ks hu ho
  split at hk
  ·rename_i hc;cases hk
   simp_all
  ·cases hk
 ·rename_i n e ks hu ho
  split at hk
  ·rename_i hc;cases hk
   simp_all
  ·cases hk
 ·rename_i ks hu ho
  split at hk
  ·rename_i hc;cases hk
   simp_all[Program.plainKey]
  ·cases hk
 ·rename_i ks hu ho
  split at hk
  ·rename_i hc;cases hk
   simp_all[Program.plainKey]
  ·cases hk
 ·rename_i ks hu ho
  split at hk
  ·rename_i hc;cases hk
   simp_all[Program.plainKey]
  ·cases hk
 ·cases hk
theorem El{t kt}(hk:ktT P t=ś kt){M M' X X' u v c d}(hu:bH kt u=ť)(hv:bH kt v=ť)(hc:rep M X u c)(hd:rep M' X' v d)(w):
 (Op.equalIn 10000 t c d).run P w=.ok (eqK u v) w:=by
 obtain⟨f1,l1,k1,s1,_⟩:=ny hk hu hc;obtain⟨f2,l2,_,s2,_⟩:=ny hk hv hd;obtain⟨r,hr,hiff⟩:=run_equalIn_deep 9980 20 t k1 w 20 20 c d _ _ f1 f2 l1 l2;grind[P4,eqK,pm,cl]
end
end Go.Abs
namespace Go.Abs
open Go.RowKit Go.WideShapes
section
variable{P:Program}
theorem Z6(a b:ByteArray):(a == b)=decide (a.data.toList=b.data.toList):=by
 have e:(a == b)=(a.data == b.data):=rfl;rw[e,zG,beq_iff_eq,decide_eq_true_eq];simp
def L3(M:Mem)(kt:KT)(u:V)(l:List (V×V))(es:List MapEntry)(i:Nat)(r:Option (Nat×Value)):Prop:=
 (r=ń/\lU u l=ń/\∀(ne:MapEntry)(x:V),bH kt u=ť->rep M NX u ne.key->rep M NX x ne.val->qL M kt (nq u x l) (es++[ne]))\/
 ∃(j:Nat)(e:MapEntry)(k v:V),r=ś (i+j,e.val)/\es[j]?=ś e/\lU u l=ś v/\rep M NX v e.val/\bH kt k=ť/\rep M NX k e.key/\eqK u k=ť/\
   ∀(f:MapEntry->MapEntry)(x:V),bH kt u=ť->(∀e,rep M NX u (f e).key/\rep M NX x (f e).val)->qL M kt (nq u x l) (es.modify j f)
theorem L3.nil{M kt u i}:L3 M kt u [] [] i none:=
 .inl ⟨rfl,rfl,λne x hf h1 h2=>by simp only[nq,zGa,qL];grind⟩
theorem L3.hit{M kt u k v l e es i}(h1:bH kt k=ť)(h2:rep M NX k e.key)(h3:rep M NX v e.val)(h4:qL M kt l es)(h:eqK u k=ť):
 L3 M kt u ((k,v)::l) (e::es) i (ś (i,e.val)):=
 .inr ⟨0,e,k,v,rfl,rfl,by simp[lU,h],h3,h1,h2,h,λf x hf hx=>by
  simp only[nq,h,if_true,List.modify_zero_cons,qL];grind⟩
theorem L3.miss{M kt u k v l e es i r}(h1:bH kt k=ť)(h2:rep M NX k e.key)(h3:rep M NX v e.val)(h:eqK u k=ğ)
 (hr:L3 M kt u l es (i+1) r):L3 M kt u ((k,v)::l) (e::es) i r:=by
 rcases hr with⟨rfl,g1,g2⟩|⟨j,e',k',v',rfl,g1,g2,g3,g4,g5,g6,g7⟩
 ·refine .inl ⟨rfl,by simp[lU,h,g1],λne x hf n1 n2=>?_⟩
  simp only[nq,h,zCa,if_false,zDi,qL];grind
 ·refine .inr ⟨j+1,e',k',v',by simp;omega,by simp_all,by simp[lU,h,g2],g3,g4,g5,g6,λf x hf hx=>?_⟩
  simp only[nq,h,zCa,if_false,List.modify_succ_cons,qL];grind
theorem IY{t kt}(hk:ktT P t=ś kt){M M' X u c}(hu:bH kt u=ť)(hc:rep M X u c)(w):
 ∀(l:List (V×V))(es:List MapEntry)(i:Nat),qL M' kt l es->∃r,(Instr.findAsking t c es i).run P w=.ok r w/\L3 M' kt u l es i r
 |[],es,i,h=>by
   simp only[qL]at h;subst h;exact⟨ń,rfl,.nil⟩
 |(k,v)::l,es,i,h=>by
   simp only[qL]at h;obtain⟨e,rest,rfl,h1,h2,h3,h4⟩:=h;have he:=El (P:=P) hk hu h1 hc h2 w;have heq:(Op.equal t c e.key).run P w=.ok (eqK u k) w:=he;cases hq:eqK u k
   ·obtain⟨r,g1,g2⟩:=IY hk hu hc w l rest (i+1) h4
    refine⟨r,?_,.miss h1 h2 h3 hq g2⟩;simp_all[Instr.findAsking,Sem.run_bind,Result.andThen_ok,zCa,if_false]
   ·refine⟨_,?_,.hit h1 h2 h3 h4 hq⟩
    simp_all[Instr.findAsking,Sem.run_bind,Result.andThen_ok,if_true]
theorem akS{t kt}(hk:ktT P t=ś kt)(hg:kt.agg=ğ){d}(hd:P.underlying t=ś d){M M' X X' u k c e}(hu:bH kt u=ť)(hc:rep M X u c)(hv:bH kt k=ť)(he:rep M' X' k e):
 Instr.sameNow d c e=ś (eqK u k):=by
 simp only[bH,zAc,decide_eq_true_eq]at hu hv;obtain⟨a1,b1⟩:=hu;obtain⟨a2,b2⟩:=hv
 have one:∀kk:KK,kt.ks=[kk]->(∃x,cl u=[x]/\x=u/\kOf u=ś kk)/\∃x,cl k=[x]/\x=k/\kOf k=ś kk:=by
  intro kk hq;rw[hq]at b1 b2;rw[hg]at a1 a2;constructor
  ·cases u<;>simp[gD]at a1<;>simp[cl,b5,aU]at b1⊢<;>exact b1
  ·cases k<;>simp[gD]at a2<;>simp[cl,b5,aU]at b2⊢<;>exact b2
 have hks:(d=.bool/\kt.ks=[.b])\/(∃q,d=.int q/\kt.ks=[.i q])\/(d=.string/\kt.ks=[.s]):=by
  grind[ktT,EG,zA]
 rcases hks with⟨rfl,hq⟩|⟨q,rfl,hq⟩|⟨rfl,hq⟩<;>obtain⟨⟨_,_,_,k1⟩,⟨_,_,_,k2⟩⟩:=one _ hq
 ·cases u<;>simp[kOf]at k1
  cases k<;>simp[kOf]at k2;grind[rep,Instr.sameNow,eqK,cl,pm,eqC]
 ·cases u<;>simp[kOf]at k1
  cases k<;>simp[kOf]at k2;subst k1;subst k2;simp only[rep]at hc he;rw[hc.1,he.1];simp[Instr.sameNow,eqK,cl,pm,eqC];rw[zG];simp
 ·cases u<;>simp[kOf]at k1
  cases k<;>simp[kOf]at k2;simp only[rep]at hc he;obtain⟨bs,rfl,rfl,_⟩:=hc;obtain⟨bs',rfl,rfl,_⟩:=he;simp only[Instr.sameNow,eqK,cl,pm,eqC,Bool.and_true,Z6]
theorem aaC{t kt}(hk:ktT P t=ś kt)(hg:kt.agg=ğ){d}(hd:P.underlying t=ś d){M M' X u c}(hu:bH kt u=ť)(hc:rep M X u c):
 ∀(l:List (V×V))(es:List MapEntry)(i:Nat),qL M' kt l es->∃r,Instr.findNow d c es i=ś r/\L3 M' kt u l es i r
 |[],es,i,h=>by
   simp only[qL]at h;subst h;exact⟨ń,rfl,.nil⟩
 |(k,v)::l,es,i,h=>by
   simp only[qL]at h;obtain⟨e,rest,rfl,h1,h2,h3,h4⟩:=h;have he:=akS hk hg hd hu hc h1 h2;cases hq:eqK u k
   ·obtain⟨r,g1,g2⟩:=aaC hk hg hd hu hc l rest (i+1) h4
    refine⟨r,?_,.miss h1 h2 h3 hq g2⟩;grind[Instr.findNow]
   ·refine⟨_,?_,.hit h1 h2 h3 h4 hq⟩
    grind[Instr.findNow]
theorem UZ{t kt}(hk:ktT P t=ś kt){M M' X u c}(hu:bH kt u=ť)(hc:rep M X u c)(w)(l)(es)(h:qL M' kt l es):
 ∃r,(Instr.findKey t c es).run P w=.ok r w/\L3 M' kt u l es 0 r:=by
 obtain⟨f1,l1,k1,s1,hcase⟩:=ny hk hu hc
 have hd:∃d,P.underlying t=ś d:=by
  grind[ktT]
 obtain⟨d,hd⟩:=hd;rcases hcase with⟨hg,⟨cs,rfl⟩,_,hni⟩|⟨hg,_,_⟩
 ·cases es with
  |nil=>
    cases l with
    |nil=>exact⟨ń,by simp_all[Instr.findKey,Sem.run_bind,run_underlying,Result.andThen_ok,Instr.findNow],.nil⟩
    |cons p l=>grind[qL]
  |cons e es=>
    obtain⟨r,g1,g2⟩:=IY hk hu hc w l (e::es) 0 h;simp_all[Instr.sameNow,Instr.findKey,Sem.run_bind,run_underlying,Result.andThen_ok,Instr.findNow]
 ·obtain⟨r,g1,g2⟩:=aaC hk hg hd hu hc l es 0 h
  simp_all[Instr.findKey,Sem.run_bind,run_underlying,Result.andThen_ok]
theorem Pp{t kt}(hk:ktT P t=ś kt){M X u c}(hu:bH kt u=ť)(hc:rep M X u c)(em)(w):(Instr.checkKey em 10000 t c).run P w=.ok () w:=by
 obtain⟨f1,l1,k1,s1,_⟩:=ny hk hu hc;exact run_checkKey_deep em 9980 20 t k1 w 20 c _ f1 l1
theorem LF{M M' X X'}:∀{us vs:List V}{ks:List KK}{cs ds:List Value},b5 us=aU ks->b5 vs=aU ks->pm us vs=ť->af M X us cs->af M' X' vs ds->cs=ds
 |[],[],_,cs,ds,_,_,_,h1,h2=>by grind[af]
 |u::us,v::vs,k::ks,cs,ds,h1,h2,he,r1,r2=>by
   simp only[b5,aU,zBb]at h1 h2;simp only[pm,zAc]at he;simp only[af]at r1 r2;obtain⟨c,cs',rfl,q1,q2⟩:=r1;obtain⟨d,ds',rfl,q3,q4⟩:=r2;rw[LF h1.2 h2.2 he.2 q2 q4];congr 1;have e1:=h1.1;have e2:=h2.1;have e3:=he.1;cases u<;>simp[kOf]at e1<;>cases v<;>simp[kOf]at e2<;>subst e1<;>simp[eqC]at e3<;>simp only[rep]at q1 q3
   ·simp_all
   ·simp_all
   ·obtain⟨bs,rfl,h0,_⟩:=q1
    obtain⟨bs',rfl,h,_⟩:=q3;rw[<-e3,<-h0]at h;congr 1;cases bs;cases bs';grind[zEj]
 |[],_::_,[],_,_,_,h2,_,_,_=>by grind[b5,aU]
 |[],_::_,_::_,_,_,h1,_,_,_,_=>by grind[b5,aU]
 |_::_,[],[],_,_,h1,_,_,_,_=>by grind[b5,aU]
 |_::_,[],_::_,_,_,_,h2,_,_,_=>by grind[b5,aU]
 |_::_,_::_,[],_,_,h1,_,_,_,_=>by grind[b5,aU]
theorem afC{kt M M' X X' u v c d}(hu:bH kt u=ť)(hv:bH kt v=ť)(he:eqK u v=ť)(hc:rep M X u c)(hd:rep M' X' v d):c=d:=by
 simp only[bH,zAc,decide_eq_true_eq]at hu hv
 have r1:af M X (cl u) c.cells.toList/\(gD u=ť->∃cs,c=.agg cs)/\(gD u=ğ->c.cells=#[c]):=by
  cases hg:gD u
  ·refine⟨?_,by simp,?_⟩
   all_goals
    cases u<;>simp[gD]at hg<;>simp[cl,b5,kOf]at hu<;>simp only[rep]at hc<;>(try (cases h:kt.ks<;>simp[h,aU]at hu;done))
   ·simp_all[Value.cells,cl,af,rep]
   ·grind[Value.cells,cl,af,rep]
   ·obtain⟨bs,rfl,h⟩:=hc;simp_all[Value.cells,cl,af,rep]
   ·obtain⟨rfl,h⟩:=hc;exact λ_=>rfl
   ·subst hc;exact λ_=>rfl
   ·obtain⟨bs,rfl,h⟩:=hc;exact λ_=>rfl
  ·cases u<;>simp[gD]at hg
   simp only[rep]at hc;obtain⟨arr,rfl,h,_⟩:=hc;simp_all[Value.cells,cl,gD]
 have r2:af M' X' (cl v) d.cells.toList/\(gD v=ť->∃cs,d=.agg cs)/\(gD v=ğ->d.cells=#[d]):=by
  cases hg:gD v
  ·refine⟨?_,by simp,?_⟩
   all_goals
    cases v<;>simp[gD]at hg<;>simp[cl,b5,kOf]at hv<;>simp only[rep]at hd<;>(try (cases h:kt.ks<;>simp[h,aU]at hv;done))
   ·simp_all[Value.cells,cl,af,rep]
   ·grind[Value.cells,cl,af,rep]
   ·obtain⟨bs,rfl,h⟩:=hd;simp_all[Value.cells,cl,af,rep]
   ·obtain⟨rfl,h⟩:=hd;exact λ_=>rfl
   ·subst hd;exact λ_=>rfl
   ·obtain⟨bs,rfl,h⟩:=hd;exact λ_=>rfl
  ·cases v<;>simp[gD]at hg
   simp only[rep]at hd;obtain⟨arr,rfl,h,_⟩:=hd;simp_all[Value.cells,cl,gD]
 have hcs:=LF hu.2 hv.2 he r1.1 r2.1;cases hg:kt.agg
 ·simp_all
 ·obtain⟨a1,rfl⟩:=r1.2.1 (by rw[hu.1,hg])
  obtain⟨a2,rfl⟩:=r2.2.1 (by rw[hv.1,hg])
  simp_all[Value.cells]
theorem LW{M X}:∀{us:List V}{ks:List KK}{cs:List Value},b5 us=aU ks->af M X us cs->∀n,∀c∈cs,Instr.sameBits n c c=ť
 |[],_,cs,_,h,n,c,hc=>by grind[af]
 |u::us,k::ks,cs,h1,h,n,c,hc=>by
   simp only[b5,aU,zBb]at h1;simp only[af]at h;obtain⟨c0,cs',rfl,q1,q2⟩:=h;rcases zD.1 hc with rfl|hc
   ·have e1:=h1.1
    cases u<;>simp[kOf]at e1<;>simp only[rep]at q1
    ·simp_all[Instr.sameBits]
    ·grind[Instr.sameBits]
    ·obtain⟨bs,rfl,_⟩:=q1;grind[Instr.sameBits,Z6]
   ·exact LW h1.2 q2 n c hc
 |_::_,[],_,h1,_,_,_,_=>by grind[b5,aU]
theorem adq{kt M X u c}(hu:bH kt u=ť)(hc:rep M X u c):Instr.sameBits 10000 c c=true:=by
 simp only[bH,zAc,decide_eq_true_eq]at hu;cases hg:gD u
 ·cases u<;>simp[gD]at hg<;>simp[cl,b5,kOf]at hu<;>simp only[rep]at hc<;>(try (cases h:kt.ks<;>simp[h,aU]at hu;done))
  ·simp_all[Instr.sameBits]
  ·grind[Instr.sameBits]
  ·obtain⟨bs,rfl,_⟩:=hc;simp[Instr.sameBits,Z6]
 ·cases u<;>simp[gD]at hg
  simp only[rep]at hc;obtain⟨arr,rfl,h,_⟩:=hc;have hb:=LW hu.2 h 9999;simp only[Instr.sameBits,beq_self_eq_true,Bool.true_and,List.all_eq_true];intro p hp
  have:p.1=p.2/\p.1∈arr.toList:=by
   obtain⟨a,b⟩:=p;have:=List.of_mem_zip hp;grind[List.mem_iff_getElem?,List.getElem?_zip_eq_some,Option.some.inj,zAf]
  grind
theorem aaY{M X}:∀{us:List V}{ks:List KK}{cs:List Value},b5 us=aU ks->af M X us cs->af M NX us cs
 |[],_,_,_,h=>h
 |u::us,k::ks,cs,h1,h=>by
   simp only[b5,aU,zBb]at h1;simp only[af]at h⊢;obtain⟨c,cs',rfl,q1,q2⟩:=h;refine⟨c,cs',rfl,?_,aaY h1.2 q2⟩;have e1:=h1.1;cases u<;>simp[kOf]at e1<;>exact q1
 |_::_,[],_,h1,_=>by grind[b5,aU]
theorem ak3{kt M X u c}(hu:bH kt u=ť)(hc:rep M X u c):rep M NX u c:=by
 simp only[bH,zAc,decide_eq_true_eq]at hu;cases hg:gD u
 ·cases u<;>simp[gD]at hg<;>simp[cl,b5,kOf]at hu<;>first|exact hc|(cases h:kt.ks<;>simp[h,aU]at hu)
 ·cases u<;>simp[gD]at hg
  simp only[rep]at hc⊢;obtain⟨arr,rfl,h,h2⟩:=hc;exact⟨arr,rfl,aaY hu.2 h,h2⟩
end
end Go.Abs
end
section
namespace Go.Abs
open Go.RowKit
def cOo(P:Program)(t:TypeId):Option Operand->Option (Option AO)
 |none=>ś ń
 |some x=>(cO P t x).map ś
def Ik(P:Program)(t:TypeId)(i:Nat):Option (Nat×Nat×TypeId):=
 match P.underlying t with
 |some (.struct fs)=>match fs[i]? with
   |some f=>match ik P f.type with
     |some n=>ś (f.offset,n,f.type)
     |none=>ń
   |none=>ń
 |some (.array m e)=>match ik P e with
   |some n=>if i<m then ś (i*n,n,e)else ń
   |none=>ń
 |_=>ń
def Fz(P:Program)(t:TypeId):List (Nat×Operand)->Option (List (Nat×Nat×AO))
 |[]=>ś []
 |(i,x)::ps=>match Ik P t i with
   |some (off,n,ft)=>match cO P ft x,Fz P t ps with
     |some y,ś qs=>ś ((off,n,y)::qs)
     |_,_=>ń
   |none=>ń
def Rj(P:Program)(t:TypeId)(c:Value):Option Nat:=match P.underlying t,c with
 |some (.pointer _),.pointer ń=>ś 0
 |some (.interface _),.nilIface=>ś 1
 |some (.func _ _ _),.nilFunc=>ś 2
 |_,_=>ń
inductive LV (P : Program) : TypeId -> Op -> Act' -> Prop
  |move {ty x y} : cO P ty x = some y -> LV P ty (.move x) (.mov y)
  |assign {ty x y} : cO P ty x = some y -> LV P ty (.assign x) (.mov y)
  |pick {ty c a b c' a' b'} : cO P ty c = some c' -> cO P ty a = some a' -> cO P ty b = some b' -> LV P ty (.pick c a b) (.pick c' a' b')
  |field {ty t x i y fs f n g} : cO P t x = some y -> P.underlying t = some (.struct fs) -> fs[i]? = some f -> ik P f.type = some n -> G4 P f.type = some g -> (g = false -> n = 1) -> LV P ty (.field t x i) (.fld y f.offset n g)
  |fieldAddr {ty t x i y fs f n} : cO P 0 x = some y -> P.underlying t = some (.struct fs) -> fs[i]? = some f -> ik P f.type = some n -> n≠0 -> LV P ty (.fieldAddr t x i) (.fa y f.offset)
  |indexAddr {ty t x i y j e n} : cO P t x = some y -> cO P 0 i = some j -> P.underlying t = some (.slice e) -> ik P e = some n -> LV P ty (.indexAddr t x i) (.ia y j n)
  |indexAddrA {ty t x i y j e m n} : cO P 0 x = some y -> cO P 0 i = some j -> P.underlying t = some (.array m e) -> ik P e = some n -> LV P ty (.indexAddr t x i) (.iaa y j m n)
  |load {ty t x y n g} : cO P 0 x = some y -> ik P t = some n -> G4 P t = some g -> (g = false -> n = 1) -> LV P ty (.load t x) (.ld y n g)
  |indexS {ty t x i y j} : cO P t x = some y -> cO P 0 i = some j -> P.underlying t = some .string -> LV P ty (.index t x i) (.ixs y j)
  |indexA {ty t x i y j m e n g} : cO P t x = some y -> cO P 0 i = some j -> P.underlying t = some (.array m e) -> ik P e = some n -> G4 P e = some g -> (g = false -> n = 1) -> LV P ty (.index t x i) (.ixa y j m n g)
  |bin {ty op xt x y yt u v} : cO P xt x = some u -> cO P yt y = some v -> LV P ty (.binOp op xt x y yt) (.bin op u v)
  |beq {ty xt x y yt u v} : P.underlying xt = some .bool -> cO P xt x = some u -> cO P yt y = some v -> LV P ty (.binOp .eql xt x y yt) (.beq false u v)
  |bne {ty xt x y yt u v} : P.underlying xt = some .bool -> cO P xt x = some u -> cO P yt y = some v -> LV P ty (.binOp .neq xt x y yt) (.beq true u v)
  |un {ty op t x u} : cO P t x = some u -> LV P ty (.unOp op t x) (.un op u)
  |r2s {ty s d x u k} : cO P s x = some u -> P.underlying s = some (.int k) -> P.underlying d = some .string -> LV P ty (.convert s d x) (.r2s u)
  |cii {ty s d x u k ds} : cO P s x = some u -> P.underlying d = some (.int k) -> P.underlying s = some ds -> LV P ty (.convert s d x) (.cii k u)
  |sls {ty t x lo hi u lo' hi'} : cO P t x = some u -> cOo P 0 lo = some lo' -> cOo P 0 hi = some hi' -> P.underlying t = some .string -> LV P ty (.slice t x lo hi none) (.sls u lo' hi')
  |slq {ty t x lo hi u lo' hi' e n} : cO P t x = some u -> cOo P 0 lo = some lo' -> cOo P 0 hi = some hi' -> P.underlying t = some (.slice e) -> ik P e = some n -> LV P ty (.slice t x lo hi none) (.slq u lo' hi' n)
  |lens {ty t x u} : cO P t x = some u -> P.underlying t = some .string -> LV P ty (.call { callee := .builtin .len,args := #[x],argTypes := #[t] }) (.lens u)
  |lenq {ty t x u e} : cO P t x = some u -> P.underlying t = some (.slice e) -> LV P ty (.call { callee := .builtin .len,args := #[x],argTypes := #[t] }) (.lenq u)
  |mmx {ty x y t t' u v} : cO P t x = some u -> cO P t' y = some v -> LV P ty (.call { callee := .builtin .max,args := #[x,y],argTypes := #[t,t'] }) (.mm true u v)
  |mmn {ty x y t t' u v} : cO P t x = some u -> cO P t' y = some v -> LV P ty (.call { callee := .builtin .min,args := #[x,y],argTypes := #[t,t'] }) (.mm false u v)
  |nlq {ty t x yt u neg op k c} : Rj P t c = some k -> ((op = .eql /\ neg = false) \/ (op = .neq /\ neg = true)) -> cO P t x = some u -> LV P ty (.binOp op t x (.const c) yt) (.nlq k neg u)
  |ext {ty x i u} : cO P 0 x = some u -> LV P ty (.extract x i) (.ext u i)
  |bld {ty t parts z zc zs ps i z'} : P.built t [] = some z' -> P.info? t = some i -> i.zero = some (.agg z) -> WB P 20 t = some zc -> cSs P zc z.toList = some zs -> Fz P t parts.toList = some ps -> LV P ty (.build t parts) (.bld zs ps)
  |mkf {ty f a b a' b'} : cOs P (List.replicate a.size 0) a.toList = some a' -> cOs P (List.replicate b.size 0) b.toList = some b' -> LV P ty (.makeFunc f a b) (.mkf f a' b')
  |nlc {ty x u} : cO P 0 x = some u -> LV P ty (.nilCheck x) (.nlc u)
  |mki {ty t x u ds} : cO P t x = some u -> P.underlying t = some ds -> (∀ms,ds≠ .interface ms) -> LV P ty (.makeInterface t x) (.mki t u)
  |tya {ty t x xt okk u i z zv ds} : P.underlying t = some ds -> (∀ms,ds≠ .interface ms) -> cO P xt x = some u -> P.info? t = some i -> i.zero = some z -> cV P t z = some zv -> LV P ty (.typeAssert x xt t okk) (.tya t zv okk u)
  |aeq {ty t x y yt u v kt} : ktT P t = some kt -> kt.agg = true -> cO P t x = some u -> cO P yt y = some v -> LV P ty (.binOp .eql t x y yt) (.aeq false kt u v)
  |ane {ty t x y yt u v kt} : ktT P t = some kt -> kt.agg = true -> cO P t x = some u -> cO P yt y = some v -> LV P ty (.binOp .neq t x y yt) (.aeq true kt u v)
  |lkp {ty t K E x k u v kt i z zv okk} : P.underlying t = some (.map K E) -> ktT P K = some kt -> cO P t x = some u -> cO P K k = some v -> P.info? E = some i -> i.zero = some z -> cV P E z = some zv -> LV P ty (.lookup t x k okk) (.lkp kt zv okk u v)
section
variable{P:Program}{N:Nat}{M0:Mem}{B:Bas}{w0:World}{κ:Kap}{M:Mem}{σ:St}{a:Act}{w:World}
theorem bQ{t n}(h:ik P t=ś n)(w):(sizeOf t).run P w=.ok n w:=by
 unfold ik at h;obtain⟨i,hi,rfl⟩:=zAb.1 h;simp[sizeOf,typeInfo,hi]
theorem nX{t g}(h:G4 P t=ś g)(w):(isAgg t).run P w=.ok g w:=by
 unfold G4 at h;obtain⟨d,hd,rfl⟩:=zAb.1 h;unfold isAgg;rw[Sem.run_bind,run_underlying hd w,Result.andThen_ok];cases d<;>rfl
theorem UX{t cs off n g}(hs:ik P t=ś n)(hg:G4 P t=ś g)(h1:g=ğ->n=1){X vs us v}
 (hr:af M X vs cs.toList) (hc:∀u∈cs.toList,aI u) (hcut:cut vs off n=ś us) (hm:mkc g us=ś v) (w):∃c,(part t cs off).run P w=.ok c w/\rep M X v c:=by
 obtain⟨k1,k2,k3,k4⟩:=It hcut hr hc;have hk:=In hm k2 k3;rcases hk with⟨rfl,hk⟩|⟨rfl,c,hk1,hk2⟩
 ·refine⟨_,?_,hk⟩
  simp only[part,Sem.run_bind,nX hg,bQ hs,Result.andThen_ok,if_true,Sem.run_pure];congr 2;grind
 ·have hn:=h1 rfl
  subst hn;refine⟨c,?_,hk2⟩
  have:cs[off]?=ś c:=by
   have:((cs.toList.drop off).take 1)[0]?=ś c:=by rw[hk1];rfl
   grind
  simp_all[part,Sem.run_bind,nX,Result.andThen_ok,zCa,if_false,Sem.run_pure]
theorem Rel.opo(H:Rel N M0 B w0 κ M σ a w){t o x}(hc:cOo P t o=ś x){d v}(hv:σ.evo d x=ś v){c}(hd:rep M (XX κ σ.h) d c):
 rep M (XX κ σ.h) v ((o.map a.eval).getD c):=by
 cases o with
 |none=>grind[cOo,zA,St.evo]
 |some o=>
   simp only[cOo]at hc;obtain⟨y,hy,rfl⟩:=zAb.1 hc;exact H.op hy hv
theorem C2(off):∀(l:List Value)(k:Nat)(ds:Array Value),off+k+l.length<=ds.size->
 ((l.zipIdx k).foldl (λcs (x:Value×Nat)=>cs.setIfInBounds (off+x.2) x.1) ds).toList=ds.toList.take (off+k)++l++ds.toList.drop (off+k+l.length)
 |[],k,ds,h=>by simp
 |v::l,k,ds,h=>by
   simp only[zDj]at h;simp only[List.zipIdx_cons,List.foldl_cons];rw[C2 off l (k+1) _ (by simp;omega)]
   grind[Array.toList_setIfInBounds,zDh,List.take_add_one,List.take_set_of_le,List.drop_set_of_lt]
theorem zt(off)(l ds:Array Value)(h:off+l.size<=ds.size):
 l.zipIdx.foldl (λcs (x:Value×Nat)=>cs.setIfInBounds (off+x.2) x.1) ds=(ds.toList.take off++l.toList++ds.toList.drop (off+l.toList.length)).toArray:=by
 rw[<-Array.foldl_toList,Array.toList_zipIdx];apply zEj;simp_all[C2]
theorem sT{v}(h:nt v=ť):∀vs,v≠.tup vs:=by rintro vs rfl;simp[nt]at h
theorem Bk{t place}(hpl:∀i off n ft,Ik P t i=ś (off,n,ft)->place i=ś (off,n))(H:Rel N M0 B w0 κ M σ a w):
 ∀{parts:List (Nat×Operand)}{ps:List (Nat×Nat×AO)},Fz P t parts=ś ps->∀{cs us:List V}{ds:Array Value},bldV σ cs ps=ś us->af M (XX κ σ.h) cs ds.toList->(∀u∈ds.toList,aI u)->
 ∃es:Array Value,Instr.fill place ds (parts.map λx=>(x.1,a.eval x.2))=ś es/\af M (XX κ σ.h) us es.toList/\∀u∈es.toList,aI u
 |[],ps,h,cs,us,ds,hb,hr,hc=>by
   simp only[Fz,zA]at h;subst h;simp only[bldV,zA]at hb;subst hb;exact⟨ds,rfl,hr,hc⟩
 |(i,x)::parts,ps,h,cs,us,ds,hb,hr,hc=>by
   simp only[Fz]at h;split at h
   ·rename_i off n ft hp
    split at h
    ·rename_i y qs hy hqs
     cases h;simp only[bldV]at hb;split at hb
     ·rename_i v hv
      split at hb
      ·rename_i hn
       split at hb
       ·rename_i cs' hcs'
        have hrv:=H.op hy hv;have hk:=d5 hrv Uu (sT hn.2);have hsp:=AB hcs' hr hk.1
        have hlen:(a.eval x).cells.size=n:=by
         grind[bg]
        have hle:off+(a.eval x).cells.size<=ds.size:=by simp_all
        obtain⟨es,h1,h2,h3⟩:=Bk hpl H hqs hb (ds:=(ds.toList.take off++(a.eval x).cells.toList++ds.toList.drop (off+(a.eval x).cells.toList.length)).toArray) (by simp_all) (by
         grind)
        refine⟨es,?_,h2,h3⟩;simp only[zCd,Instr.fill,hpl i off n ft hp]
        have hno:¬((a.eval x).cells.size≠n||off+(a.eval x).cells.size>ds.size)=true:=by
         simp;omega
        rw[if_neg hno];grind[zt]
       ·cases hb
      ·cases hb
     ·cases hb
    ·cases h
   ·cases h
theorem gL(H:Rel N M0 B w0 κ M σ a w){v c}(hv:rep M (XX κ σ.h) v c)(hl:σ.live v=ť){k u}(hf:St.fwd k v=ś u):
 ∃b o,c=.pointer (ś ⟨b,o,ń⟩)/\rep M (XX κ σ.h) u (.pointer (ś ⟨b,o+k,ń⟩)):=by
 cases v<;>simp only[St.fwd]at hf<;>try (cases hf;done)
 case ptr id off=>
  cases hf;simp only[St.live]at hl;obtain⟨cs,hcs⟩:=zBe.1 hl;have hb:=tQ hcs;simp only[rep,XX]at hv⊢;obtain⟨b,g1,g2⟩:=hv.2.2 cs hb;refine⟨b,off,g2,rfl,hv.2.1,λcs' _=>⟨b,g1,rfl⟩⟩
 case eptr id n i off=>
  cases hf;simp only[St.live]at hl;split at hl
  ·rename_i e sz l hal
   have ha:=gT hal;simp only at ha;simp at hl;simp only[rep,XX]at hv⊢;obtain⟨b,cap,g1,g2⟩:=(hv.2.2.1 e sz l ha).2 hl.1 hl.2;refine⟨b,i*sz+off,g2,rfl,hv.2.1,λe' sz' l' hl'=>?_,λe' e2' sz' rows' hl'=>?_⟩
   ·grind
   simp_all
  ·cases hl
 case mptr id i n j off=>
  cases hf;simp only[St.live]at hl;split at hl
  ·rename_i e e2 sz rows hal
   have ha:=iB hal;simp only at ha;split at hl
   ·rename_i r hrow
    simp at hl;simp only[rep,XX]at hv⊢;obtain⟨b,cap,g1,g2⟩:=((hv.2.2 e e2 sz rows ha).1 r hrow).2 hl.1 hl.2;refine⟨b,j*sz+off,g2,rfl,hv.2.1,λe' e2' sz' rows' hl'=>?_⟩;grind
   ·cases hl
  ·cases hl
 case sptr y off=>
  cases hf;simp only[rep]at hv⊢;obtain⟨b,o,z,rfl,h2,h3,h4⟩:=hv;grind
theorem aft(H:Rel N M0 B w0 κ M σ a w){v c}(hv:rep M (XX κ σ.h) v c)(hl:σ.live v=ť):(∃p,c=.pointer (ś p))\/∃f x y,c=.func (.func f) x y:=by
 cases v<;>simp only[St.live]at hl<;>try (cases hl;done)
 case ptr id off=>obtain⟨b,o,h,_⟩:=gL H hv (by grind[St.live]) (k:=0) rfl;simp_all
 case eptr id n i off=>obtain⟨b,o,h,_⟩:=gL H hv (by grind[St.live]) (k:=0) rfl;simp_all
 case mptr id i n j off=>obtain⟨b,o,h,_⟩:=gL H hv (by grind[St.live]) (k:=0) rfl;simp_all
 case sptr y off=>obtain⟨b,o,h,_⟩:=gL H hv rfl (k:=0) rfl;simp_all
 grind[rep]
theorem F0{sz}:∀{l:List V}{b off:Nat}(n:Nat),cx M sz l b off->cx M sz (l.drop n) b (off+n*sz)
 |l,b,off,0,h=>by simpa using h
 |[],b,off,n+1,h=>by simp[cx]
 |v::vs,b,off,n+1,h=>by
   simp only[cx]at h;have:=F0 n h.2;simp only[List.drop_succ_cons];rw[show off+(n+1)*sz=off+sz+n*sz by simp[zBd];omega]
   exact this
theorem FZ{sz}:∀{l:List V}{b off:Nat}(n:Nat),cx M sz l b off->cx M sz (l.take n) b off
 |l,b,off,0,h=>by simp[cx]
 |[],b,off,n+1,h=>by simp[cx]
 |v::vs,b,off,n+1,h=>by
   simp only[cx]at h;simp only[zF,cx];exact⟨h.1,FZ n h.2⟩
theorem x8{k}{n:Int}{y:Nat}{code}(h:0<=n/\n<=y)(w):(Instr.sliceBound (.int k n) y code).run P w=.ok n.toNat w:=by
 simp[Instr.sliceBound,asIntOf,h]
theorem AD{s}{len cap p q:Nat}{lo hi:Option Value}(h1:(hi=ń/\q=len)\/∃k n,hi=ś (.int k n)/\0<=n/\n<=cap/\q=n.toNat)
 (h2:(lo=ń/\p=0)\/∃k n,lo=ś (.int k n)/\0<=n/\n<=q/\p=n.toNat) (w):(Instr.sliceBounds s len cap lo hi ń).run P w=.ok (p,q,cap) w:=by
 rcases h1 with⟨rfl,rfl⟩|⟨k,n,rfl,h3,h4,rfl⟩<;>rcases h2 with⟨rfl,rfl⟩|⟨k',n',rfl,h5,h6,rfl⟩
 ·simp[Instr.sliceBounds]
 ·simp_all[Instr.sliceBounds,x8]
 ·simp_all[Instr.sliceBounds,x8]
 simp_all[Instr.sliceBounds,x8]
theorem acD(H:Rel N M0 B w0 κ M σ a w){v c b}(hv:rep M (XX κ σ.h) v c)(h:St.isNil 0 (σ.live v) v=ś b):(b=ť/\c=.pointer ń)\/(b=ğ/\∃p,c=.pointer (ś p)):=by
 cases v<;>simp[St.isNil]at h
 case nilptr=>simp_all[rep]
 case sptr=>subst h;simp only[rep]at hv;grind
 case ptr=>obtain⟨h1,rfl⟩:=h;obtain⟨b,o,e,_⟩:=gL H hv h1 (k:=0) rfl;simp_all
 case eptr=>obtain⟨h1,rfl⟩:=h;obtain⟨b,o,e,_⟩:=gL H hv h1 (k:=0) rfl;simp_all
 case mptr=>obtain⟨h1,rfl⟩:=h;obtain⟨b,o,e,_⟩:=gL H hv h1 (k:=0) rfl;simp_all
theorem VL{X v c b lv}(hv:rep M X v c)(h:St.isNil 1 lv v=ś b):(b=ť/\c=.nilIface)\/(b=ğ/\∃t y,c=.iface t y):=by
 cases v<;>simp[St.isNil]at h
 case niliface=>simp_all[rep]
 case iface=>subst h;simp only[rep]at hv;grind
theorem afF{X v c b lv}(hv:rep M X v c)(h:St.isNil 2 lv v=ś b):(b=ť/\c=.nilFunc)\/(b=ğ/\∃f x y,c=.func f x y):=by
 cases v<;>simp[St.isNil]at h
 case nilfn=>simp_all[rep]
 case fn=>subst h;simp only[rep]at hv;grind
theorem ak9{t}{c d:Value}(h:(∃p,c=.pointer p)\/c=.nilIface\/(∃u y,c=.iface u y)\/c=.nilFunc\/∃f x y,c=.func f x y)(h':d=.pointer ń\/d=.nilIface\/d=.nilFunc):
 binOp .eql t c d=(do pure (.bool (<-Op.equal t c d)))/\binOp .neq t c d=(do pure (.bool (!(<-Op.equal t c d)))):=by
 rcases h with⟨p,rfl⟩|rfl|⟨u,y,rfl⟩|rfl|⟨f,x,y,rfl⟩<;>rcases h' with rfl|rfl|rfl<;>exact⟨by grind[binOp],by grind[binOp]⟩
theorem L6{t c d b}(h:(Op.equalIn (9999+1) t c d).run P w=.ok b w):(Op.equal t c d).run P w=.ok b w:=h
theorem aeI{t c d k b}(hk:Rj P t d=ś k)(h:(k=0/\((b=ť/\c=.pointer ń)\/(b=ğ/\∃p,c=.pointer (ś p))))\/(k=1/\((b=ť/\c=.nilIface)\/(b=ğ/\∃t y,c=.iface t y)))\/(k=2/\((b=ť/\c=.nilFunc)\/(b=ğ/\∃f x y,c=.func f x y)))):
 (Op.equal t c d).run P w=.ok b w:=by
 apply L6;unfold Rj at hk;split at hk
 all_goals (try cases hk)
 all_goals
  rename_i hu;unfold Op.equalIn;rw[Sem.run_bind,run_underlying hu,Result.andThen_ok];rcases h with⟨hk,h⟩|⟨hk,h⟩|⟨hk,h⟩<;>first|(cases hk;done)|skip
 ·rcases h with⟨rfl,rfl⟩|⟨rfl,p,rfl⟩<;>rfl
 ·rcases h with⟨rfl,rfl⟩|⟨rfl,p,y,rfl⟩<;>rfl
 ·rcases h with⟨rfl,rfl⟩|⟨rfl,p,x,y,rfl⟩<;>rfl
theorem B3{op t x c d}(h':d=.pointer ń\/d=.nilIface\/d=.nilFunc)(ho:op=.eql\/op=.neq):(eqGuard op t x (.const d) c d).run P w=.ok () w:=by
 rcases h' with rfl|rfl|rfl<;>rcases ho with rfl|rfl<;>cases c<;>first|rfl|(cases x<;>rfl)
theorem ah4(H:Rel N M0 B w0 κ M σ a w){t x v c d k b neg op}(hk:Rj P t d=ś k)(ho:(op=.eql/\neg=ğ)\/(op=.neq/\neg=ť))(hv:rep M (XX κ σ.h) v c)(h:St.isNil k (σ.live v) v=ś b):
 ((do eqGuard op t x (.const d) c d;binOp op t c d:Sem Value)).run P w=.ok (.bool (xor neg b)) w:=by
 have hd:d=.pointer ń\/d=.nilIface\/d=.nilFunc:=by
  unfold Rj at hk;grind
 have hc:(k=0/\((b=ť/\c=.pointer ń)\/(b=ğ/\∃p,c=.pointer (ś p))))\/(k=1/\((b=ť/\c=.nilIface)\/(b=ğ/\∃t y,c=.iface t y)))\/(k=2/\((b=ť/\c=.nilFunc)\/(b=ğ/\∃f x y,c=.func f x y))):=by
  unfold Rj at hk;split at hk<;>cases hk
  ·exact .inl ⟨rfl,acD H hv h⟩
  ·exact .inr (.inl ⟨rfl,VL hv h⟩)
  ·exact .inr (.inr ⟨rfl,afF hv h⟩)
 have k1:=aeI (w:=w) hk hc
 have hf:(∃p,c=.pointer p)\/c=.nilIface\/(∃u y,c=.iface u y)\/c=.nilFunc\/∃f x y,c=.func f x y:=by
  grind
 obtain⟨e1,e2⟩:=ak9 (t:=t) hf hd;rcases ho with⟨rfl,rfl⟩|⟨rfl,rfl⟩
 ·simp_all[Sem.run_bind,B3,Result.andThen_ok]
 simp_all[Sem.run_bind,B3,Result.andThen_ok]
theorem Wy(H:Rel N M0 B w0 κ M σ a w){sz l c}(h:rep M (XX κ σ.h) (.fseq sz l) c):rep M (XX κ σ.h) (.seq sz l) c:=by
 simp only[rep,XX]at h;have:=aO (λp v hp=>H.sub.fmS p v hp) (X:=NX) (λ_ _ h=>h) (.seq sz l) c (by grind[rep])
 grind[rep]
theorem abE (H : Rel N M0 B w0 κ M σ a w) {ty : TypeId} {op : Op} {act : Act'} (hl : LV P ty op act) {v : V} (hv : σ.val act = some v) (o : Oper) (ho : o.op = op) (hty : o.type = ty) :
    ∃ c, (execOp a.eval o).run P w = .ok (.value c) w ∧ rep M (XX κ σ.h) v c := by
  unfold execOp
  cases hl <;> simp only [St.val] at hv <;> rw [ho] <;> dsimp only
  case move x y hc => exact ⟨_, rfl, H.op hc hv⟩
  case assign x y hc => exact ⟨_, rfl, H.op hc hv⟩
  case pick c x y c' x' y' hc hx hy =>
    split at hv
    · rename_i t ht
      have h1 := lL (H.op hc ht)
      cases t
      · simp at hv; exact ⟨_, by simp [h1, asBool], H.op hy hv⟩
      · simp at hv; exact ⟨_, by simp [h1, asBool], H.op hx hv⟩
    · cases hv
  case field t x i y fs f n g hx ht hf hs hg h1 =>
    split at hv
    · rename_i cs hcs
      split at hv
      · rename_i us hus
        have hr := H.op hx hcs
        simp only [rep] at hr
        obtain ⟨arr, e, k1, k2⟩ := hr
        obtain ⟨c, hrun, hc⟩ := UX hs hg h1 k1 k2 hus hv w
        refine ⟨c, ?_, hc⟩
        simp [Instr.field, run_underlying ht, hf, e, asAgg, hrun]
      · cases hv
    · cases hv
  case fieldAddr t x i y fs f n hx ht hf hs hn =>
    split at hv
    · rename_i u he
      split at hv
      · rename_i hlv
        obtain ⟨b, o', e, hr⟩ := gL H (H.op hx he) hlv hv
        exact ⟨_, by simp [Instr.fieldAt, run_underlying ht, hf, e, Instr.sureAddr, fieldPlace, bQ hs, hn, Addr.add_lit], hr⟩
      · cases hv
    · cases hv
  case indexAddr t x i y j e n hx hi ht hs =>
    split at hv
    · rename_i sz' l k m he hj
      obtain ⟨ei, _⟩ := ci (H.op hi hj)
      split at hv
      · rename_i hc
        split at hv
        · rename_i u hu
          cases hv
          have hr := H.op hx he
          simp only [rep] at hr
          obtain ⟨ad, cap, ex, _, hlen, hsz, hmem⟩ := hr
          have hlt : m.toNat < l.length := (List.getElem?_eq_some_iff.1 hu).1
          rcases hmem with rfl | ⟨b, off, rfl, hmem⟩
          · simp at hlt
          · obtain ⟨y', k1, k2, k3, k4⟩ := sQ hmem hu
            have hm : 0 ≤ m ∧ m < l.length := by omega
            refine ⟨.pointer (some ⟨b, off + m.toNat * n, none⟩), ?_, ?_⟩
            · simp [Instr.indexAt, ei, ex, asIntOf, run_underlying ht, hm, bQ hs, Addr.add_lit]
            · simp only [rep]
              refine ⟨b, off + m.toNat * n, y', by simp, k1, k3, fun q hq => ?_⟩
              rw [k2] at hq
              rw [← k4 q hq, hc.1]
        · cases hv
      · cases hv
    · rename_i sz' l k m he hj
      obtain ⟨ei, _⟩ := ci (H.op hi hj)
      split at hv
      · rename_i hc
        split at hv
        · rename_i u hu
          cases hv
          have hr := Wy H (H.op hx he)
          simp only [rep] at hr
          obtain ⟨ad, cap, ex, _, hlen, hsz, hmem⟩ := hr
          have hlt : m.toNat < l.length := (List.getElem?_eq_some_iff.1 hu).1
          rcases hmem with rfl | ⟨b, off, rfl, hmem⟩
          · simp at hlt
          · obtain ⟨y', k1, k2, k3, k4⟩ := sQ hmem hu
            have hm : 0 ≤ m ∧ m < l.length := by omega
            refine ⟨.pointer (some ⟨b, off + m.toNat * n, none⟩), ?_, ?_⟩
            · simp [Instr.indexAt, ei, ex, asIntOf, run_underlying ht, hm, bQ hs, Addr.add_lit]
            · simp only [rep]
              refine ⟨b, off + m.toNat * n, y', by simp, k1, k3, fun q hq => ?_⟩
              rw [k2] at hq
              rw [← k4 q hq, hc.1]
        · cases hv
      · cases hv
    · rename_i id m k q he hj
      obtain ⟨ei, _⟩ := ci (H.op hi hj)
      split at hv
      · rename_i e' sz' l hal
        split at hv
        · rename_i hc
          cases hv
          have ha := gT hal
          simp only at ha
          have hr := H.op hx he
          simp only [rep, XX] at hr
          have hck := (hr.2.2.1 _ _ _ ha).2 hc.2.1
          obtain ⟨hsz, hlen, xs, ho, hrow, _⟩ := H.heap id _ ha
          rcases ho.2 with ⟨hv0, h0⟩ | ⟨g, cap, cur, hv0, _⟩
          · omega
          · have hq : 0 ≤ q ∧ q < (l.length : Int) := by omega
            rw [hv0] at hck
            refine ⟨.pointer (some ⟨g, q.toNat * n, none⟩), ?_, ?_⟩
            · simp [Instr.indexAt, ei, hck, asIntOf, run_underlying ht, hq, bQ hs, Addr.add_lit]
            · simp only [rep, XX]
              refine ⟨rfl, hr.2.1, fun e2 sz2 l2 h2 => ?_, fun e1 e2 sz2 l2 h2 => ?_⟩
              · rw [ha] at h2
                cases h2
                exact ⟨(hr.2.2.1 _ _ _ ha).1, fun hn2 hi2 => ⟨g, cap, by rw [hv0, hn2], by rw [hc.1]; simp⟩⟩
              · rw [ha] at h2; cases h2
        · cases hv
      · split at hv
        · rename_i e1 e2 sz' rows hal
          split at hv
          · rename_i hc
            cases hv
            have ha := iB hal
            simp only at ha
            have hr := H.op hx he
            simp only [rep, XX] at hr
            have hck := (hr.2.2.2.1 _ _ _ _ ha).2 hc.2.1
            obtain ⟨hsz, hlen, ⟨xs, ho, _⟩, _⟩ := H.heap id _ ha
            rcases ho.2 with ⟨hv0, h0⟩ | ⟨g, cap, cur, hv0, _⟩
            · omega
            · have hq : 0 ≤ q ∧ q < (rows.length : Int) := by omega
              rw [hv0] at hck
              refine ⟨.pointer (some ⟨g, q.toNat * n, none⟩), ?_, ?_⟩
              · simp [Instr.indexAt, ei, hck, asIntOf, run_underlying ht, hq, bQ hs, Addr.add_lit]
              · simp only [rep, XX]
                refine ⟨rfl, hr.2.1, fun e2 sz2 l2 h2 => ?_, fun e1 e2 sz2 l2 h2 => ?_⟩
                · rw [ha] at h2; cases h2
                · rw [ha] at h2
                  cases h2
                  exact ⟨(hr.2.2.2.1 _ _ _ _ ha).1, fun hn2 hi2 => ⟨g, cap, by rw [hv0, hn2], by rw [hc.1]; simp⟩⟩
          · cases hv
        · cases hv
    · rename_i id i' m k q he hj
      obtain ⟨ei, _⟩ := ci (H.op hi hj)
      split at hv
      · rename_i e1 e2 sz' rows hal
        split at hv
        · rename_i r hrow
          split at hv
          · rename_i hc
            cases hv
            have ha := iB hal
            simp only at ha
            have hr := H.op hx he
            simp only [rep, XX] at hr
            have hck := ((hr.2.2 _ _ _ _ ha).1 r hrow).2 hc.2.1
            obtain ⟨hsz, hlen, _, hrs, _⟩ := H.heap id _ ha
            obtain ⟨hrl, ys, ho, _⟩ := hrs i' r hrow
            rcases ho.2 with ⟨hv0, h0⟩ | ⟨g, cap, cur, hv0, _⟩
            · omega
            · have hq : 0 ≤ q ∧ q < (r.length : Int) := by omega
              rw [hv0] at hck
              refine ⟨.pointer (some ⟨g, q.toNat * n, none⟩), ?_, ?_⟩
              · simp [Instr.indexAt, ei, hck, asIntOf, run_underlying ht, hq, bQ hs, Addr.add_lit]
              · simp only [rep, XX]
                refine ⟨rfl, hr.2.1, fun e1 e2 sz2 l2 h2 => ?_⟩
                rw [ha] at h2
                cases h2
                refine ⟨fun r2 hr2 => ?_, (hr.2.2 _ _ _ _ ha).2⟩
                rw [hrow] at hr2
                cases hr2
                exact ⟨((hr.2.2 _ _ _ _ ha).1 r hrow).1, fun hn2 hi2 => ⟨g, cap, by rw [hv0, hn2], by rw [hc.1]; simp⟩⟩
          · cases hv
        · cases hv
      · cases hv
    · cases hv
  case indexAddrA t x i y j e m n hx hi ht hs =>
    split at hv
    · rename_i u k q he hj
      obtain ⟨ei, _⟩ := ci (H.op hi hj)
      split at hv
      · rename_i hc
        obtain ⟨b, o', e', hr⟩ := gL H (H.op hx he) hc.1 hv
        exact ⟨_, by simp [Instr.indexAt, ei, e', asIntOf, run_underlying ht, hc.2, bQ hs, Addr.add_lit, Instr.sureAddr], hr⟩
      · cases hv
    · cases hv
  case load t x y n g hx hs hg h1 =>
    split at hv
    · rename_i p he
      split at hv
      · rename_i us hus
        obtain ⟨b, o', cs, e, k1, k2, k3, k4⟩ := Gw H (H.op hx he) hus
        rcases In hv k1 k2 with ⟨rfl, hk⟩ | ⟨rfl, c, hk1, hk2⟩
        · refine ⟨_, ?_, hk⟩
          have := run_loadCells_list (P := P) w ⟨b, o', none⟩ cs k4
          rw [k3] at this
          simp [Instr.loadAt, e, Instr.sureAddr, loadVar, nX hg, bQ hs, this]
        · refine ⟨c, ?_, hk2⟩
          have := k4 0 c (by simp [hk1])
          rw [Addr.add_lit] at this
          simp at this
          simp [Instr.loadAt, e, Instr.sureAddr, loadVar, nX hg, this]
      · cases hv
    · cases hv
  case indexS t x i y j hx hi ht =>
    split at hv
    · rename_i s k q he hj
      obtain ⟨ei, _⟩ := ci (H.op hi hj)
      obtain ⟨bs, ex, hs, hl⟩ := sO (H.op hx he)
      split at hv
      · rename_i hc
        split at hv
        · rename_i b hb
          cases hv
          subst hs
          have hlt : q.toNat < bs.size := by rw [sI]; exact (List.getElem?_eq_some_iff.1 hb).1
          have hbq : bs[q.toNat]? = some b := by
            rw [ByteArray.getElem?_lt' bs _ hlt]
            congr 1
            have := (List.getElem?_eq_some_iff.1 hb).2
            rw [← this]
            rfl
          refine ⟨.int .u8 b.toNat, by simp [Instr.index, ei, ex, asIntOf, run_underlying ht, hc, hbq], ?_⟩
          simp only [rep]
          have := b.toNat_lt
          exact ⟨trivial, by simp [IntKind.min, IntKind.signed], by simp [IntKind.max, IntKind.signed, IntKind.bits]; omega⟩
        · cases hv
      · cases hv
    · cases hv
  case indexA t x i y j m e n g hx hi ht hs hg h1 =>
    split at hv
    · rename_i cs k q he hj
      obtain ⟨ei, _⟩ := ci (H.op hi hj)
      split at hv
      · rename_i hc
        split at hv
        · rename_i us hus
          have hr := H.op hx he
          simp only [rep] at hr
          obtain ⟨arr, ex, k1, k2⟩ := hr
          obtain ⟨c, hrun, hcr⟩ := UX hs hg h1 k1 k2 hus hv w
          exact ⟨c, by simp [Instr.index, ei, ex, asIntOf, run_underlying ht, hc, bQ hs, hrun], hcr⟩
        · cases hv
      · cases hv
    · cases hv
  case bin op xt x y yt u v' hx hy =>
    split at hv
    · rename_i c d hc hd
      obtain ⟨e, h1, h2⟩ := XN (P := P) (w := w) hv (H.op hx hc) (H.op hy hd) xt x y
      refine ⟨e, ?_, h2⟩
      simp only [Sem.run_bind] at h1 ⊢
      rw [h1]; rfl
    · cases hv
  case beq xt x y yt u v' hu hx hy =>
    split at hv
    · rename_i c d hc hd
      have h1 := lL (H.op hx hc)
      have h2 := lL (H.op hy hd)
      simp at hv
      subst hv
      refine ⟨.bool (c == d), ?_, rfl⟩
      simp only [h1, h2, Sem.run_bind, x7 .eql xt x y (.bool c) (.bool d) (by simp) (by simp), Result.andThen_ok, run_eql_bool w xt c d hu]
      rfl
    · cases hv
  case bne xt x y yt u v' hu hx hy =>
    split at hv
    · rename_i c d hc hd
      have h1 := lL (H.op hx hc)
      have h2 := lL (H.op hy hd)
      simp at hv
      subst hv
      refine ⟨.bool (!(c == d)), ?_, rfl⟩
      simp only [h1, h2, Sem.run_bind, x7 .neq xt x y (.bool c) (.bool d) (by simp) (by simp), Result.andThen_ok, run_neq_bool w xt c d hu]
      rfl
    · cases hv
  case un op t x u hx =>
    split at hv
    · rename_i c hc
      have hr := H.op hx hc
      cases c <;> simp only [vun] at hv <;> try (cases hv; done)
      case int k n =>
        obtain ⟨e, _⟩ := ci hr
        cases op <;> simp only at hv <;> try (cases hv; done)
        cases hv
        exact ⟨_, by simp [Op.unary, e, Op.intArith], gk _ _⟩
      case bool b =>
        have e := lL hr
        cases op <;> simp only at hv <;> try (cases hv; done)
        cases hv
        exact ⟨_, by simp [Op.unary, e], gS _⟩
    · cases hv
  case r2s s d x u k hx hs hd =>
    split at hv
    · rename_i k' n hc
      obtain ⟨e, _⟩ := ci (H.op hx hc)
      unfold aeg at hv
      split at hv
      · rename_i hn
        cases hv
        refine ⟨.string (Utf8.encode n), by simp [convert, run_underlying hd, run_underlying hs, e, Conv.intToString], ?_⟩
        simp only [rep]
        refine ⟨_, rfl, ?_, by simp⟩
        have h1 : n.toNat < 128 := by omega
        have h2 : Utf8.valid n = true := by simp [Utf8.valid]; omega
        simp [Utf8.encode, h1, h2]
      · cases hv
    · cases hv
  case cii s d x u k ds hx hd hs =>
    split at hv
    · rename_i k' n hc
      obtain ⟨e, _⟩ := ci (H.op hx hc)
      cases hv
      exact ⟨_, by simp [convert, run_underlying hd, run_underlying hs, e, Conv.intToInt], gk _ _⟩
    · cases hv
  case sls t x lo hi u lo' hi' hx hlo hhi ht =>
    split at hv
    · rename_i s he
      obtain ⟨bs, ex, hs, hl⟩ := sO (H.op hx he)
      split at hv
      · rename_i k p k' q hp hq
        split at hv
        · rename_i hc
          cases hv
          subst hs
          have hsz := sI bs
          obtain ⟨e1, _⟩ := ci (H.opo hlo hp (c := .int .i64 0) (by simp only [rep]; exact ⟨trivial, by decide, by decide⟩))
          obtain ⟨e2, _⟩ := ci (H.opo hhi hq (c := .int .i64 (bs.data.toList.length : Int)) (by
            simp only [rep]; refine ⟨trivial, ?_, ?_⟩
            · simp [IntKind.min, IntKind.signed, IntKind.bits] <;> omega
            · simp [IntKind.max, IntKind.signed, IntKind.bits]; simp at hl; omega))
          refine ⟨.string (bs.extract p.toNat q.toNat), ?_, ?_⟩
          · have b3 : (Instr.sliceBounds false bs.size bs.size (lo.map a.eval) (hi.map a.eval) none).run P w = .ok (p.toNat, q.toNat, bs.size) w := by
              refine AD ?_ ?_ w
              · cases hi with
                | none => simp at e2 ⊢; rw [hsz]; simp; omega
                | some o' => simp at e2; exact .inr ⟨k', q, by simp [e2], by omega, by omega, rfl⟩
              · cases lo with
                | none => simp at e1 ⊢; omega
                | some o' => simp at e1; exact .inr ⟨k, p, by simp [e1], by omega, by omega, rfl⟩
            simp [Instr.sliceAt, run_underlying ht, Instr.slice, ex, b3]
          · simp only [rep]
            refine ⟨_, rfl, ?_, ?_⟩
            · rw [ByteArray.data_extract, Array.toList_extract, List.extract_eq_take_drop]
            · simp only [List.length_take, List.length_drop]; omega
        · cases hv
      · cases hv
    · cases hv
  case slq t x lo hi u lo' hi' e n hx hlo hhi ht hsz =>
    split at hv
    · rename_i sz' l he
      have hr := H.op hx he
      simp only [rep] at hr
      obtain ⟨ad, cap, ex, hcap, hlen, hsz', hmem⟩ := hr
      split at hv
      · rename_i k p k' q hp hq
        split at hv
        · rename_i hc
          subst hc
          obtain ⟨us, hus, rfl⟩ := Option.map_eq_some_iff.1 hv
          unfold Ef at hus
          split at hus
          · rename_i hc
            cases hus
            obtain ⟨e1, _⟩ := ci (H.opo hlo hp (c := .int .i64 0) (by simp only [rep]; exact ⟨trivial, by decide, by decide⟩))
            obtain ⟨e2, _⟩ := ci (H.opo hhi hq (c := .int .i64 (l.length : Int)) (by
              simp only [rep]; refine ⟨trivial, ?_, ?_⟩
              · simp [IntKind.min, IntKind.signed, IntKind.bits] <;> omega
              · simp [IntKind.max, IntKind.signed, IntKind.bits]; omega))
            have b3 : (Instr.sliceBounds true l.length cap (lo.map a.eval) (hi.map a.eval) none).run P w = .ok (p.toNat, q.toNat, cap) w := by
              refine AD ?_ ?_ w
              · cases hi with
                | none => simp at e2 ⊢; omega
                | some o' => simp at e2; exact .inr ⟨k', q, by simp [e2], by omega, by omega, rfl⟩
              · cases lo with
                | none => simp at e1 ⊢; omega
                | some o' => simp at e1; exact .inr ⟨k, p, by simp [e1], by omega, by omega, rfl⟩
            refine ⟨.slice (if cap = p.toNat then ad else ad.map (·.add (p.toNat * n))) (q.toNat - p.toNat) (cap - p.toNat), ?_, ?_⟩
            · simp [Instr.sliceAt, run_underlying ht, Instr.slice, ex, b3, bQ hsz]
            · have hl2 : ((l.drop p.toNat).take (q.toNat - p.toNat)).length = q.toNat - p.toNat := by
                simp only [List.length_take, List.length_drop]; omega
              simp only [rep]
              refine ⟨_, _, by rw [hl2], by rw [hl2]; omega, by rw [hl2]; omega, hsz', ?_⟩
              by_cases h0 : (l.drop p.toNat).take (q.toNat - p.toNat) = []
              · exact .inl h0
              · have hpq : ¬ cap = p.toNat := by
                  intro hcp
                  apply h0
                  rw [← List.length_eq_zero_iff, hl2]; omega
                rcases hmem with rfl | ⟨b, off, rfl, hmem⟩
                · simp at h0
                · refine .inr ⟨b, off + p.toNat * n, by simp [hpq, Addr.add_lit], FZ _ (F0 _ hmem)⟩
          · cases hus
        · cases hv
      · cases hv
    · cases hv
  case lens t x u hx ht =>
    split at hv
    · rename_i s he
      obtain ⟨bs, ex, hs, hl⟩ := sO (H.op hx he)
      cases hv
      subst hs
      refine ⟨.int .i64 (bs.data.toList.length : Int), ?_, ?_⟩
      · rw [← sI]
        simp [resolve, invoke, builtin, Builtin.len_, ex, run_underlying ht, goInt]
      · simp only [rep]; refine ⟨trivial, ?_, ?_⟩
        · simp [IntKind.min, IntKind.signed, IntKind.bits] <;> omega
        · simp [IntKind.max, IntKind.signed, IntKind.bits]; simp at hl; omega
    · cases hv
  case lenq t x u e hx ht =>
    have hlenI : ∀ n : Nat, n ≤ 140737488355328 → rep M (XX κ σ.h) (.int .i64 (n : Int)) (.int .i64 (n : Int)) := by
      intro n hn
      simp only [rep]; refine ⟨trivial, ?_, ?_⟩
      · simp [IntKind.min, IntKind.signed, IntKind.bits] <;> omega
      · simp [IntKind.max, IntKind.signed, IntKind.bits]; omega
    split at hv
    · rename_i sz' l he
      have hr := H.op hx he
      simp only [rep] at hr
      obtain ⟨ad, cap, ex, _, hlen, _, hmem⟩ := hr
      cases hv
      exact ⟨_, by simp [resolve, invoke, builtin, Builtin.len_, ex, run_underlying ht, goInt], hlenI _ hlen⟩
    · rename_i sz' l he
      have hr := Wy H (H.op hx he)
      simp only [rep] at hr
      obtain ⟨ad, cap, ex, _, hlen, _, hmem⟩ := hr
      cases hv
      exact ⟨_, by simp [resolve, invoke, builtin, Builtin.len_, ex, run_underlying ht, goInt], hlenI _ hlen⟩
    · rename_i sz' he
      have hr := H.op hx he
      simp only [rep] at hr
      cases hv
      exact ⟨_, by simp [resolve, invoke, builtin, Builtin.len_, hr.1, run_underlying ht, goInt], hlenI 0 (by omega)⟩
    · rename_i id n he
      split at hv
      · rename_i e' sz' l hal
        split at hv
        · rename_i hn
          cases hv
          have ha := gT hal
          simp only at ha
          have hr := H.op hx he
          simp only [rep, XX] at hr
          have hck := (hr.2.2.1 _ _ _ ha).2 hn
          obtain ⟨hsz, hlen, xs, ho, hrow, _⟩ := H.heap id _ ha
          subst hn
          rcases ho.2 with ⟨hv0, h0⟩ | ⟨g, cap, cur, hv0, _⟩
          · rw [hv0] at hck
            exact ⟨.int .i64 (l.length : Int), by simp [resolve, invoke, builtin, Builtin.len_, hck, run_underlying ht, goInt, h0], hlenI _ hlen⟩
          · rw [hv0] at hck
            exact ⟨.int .i64 (l.length : Int), by simp [resolve, invoke, builtin, Builtin.len_, hck, run_underlying ht, goInt], hlenI _ hlen⟩
        · cases hv
      · split at hv
        · rename_i e1 e2 sz' rows hal
          split at hv
          · rename_i hn
            cases hv
            have ha := iB hal
            simp only at ha
            have hr := H.op hx he
            simp only [rep, XX] at hr
            have hck := (hr.2.2.2.1 _ _ _ _ ha).2 hn
            obtain ⟨hsz, hlen, ⟨xs, ho, _⟩, _⟩ := H.heap id _ ha
            subst hn
            rcases ho.2 with ⟨hv0, h0⟩ | ⟨g, cap, cur, hv0, _⟩
            · rw [hv0] at hck
              exact ⟨.int .i64 (rows.length : Int), by simp [resolve, invoke, builtin, Builtin.len_, hck, run_underlying ht, goInt, h0], hlenI _ hlen⟩
            · rw [hv0] at hck
              exact ⟨.int .i64 (rows.length : Int), by simp [resolve, invoke, builtin, Builtin.len_, hck, run_underlying ht, goInt], hlenI _ hlen⟩
          · cases hv
        · cases hv
    · rename_i id i' n he
      split at hv
      · rename_i e1 e2 sz' rows hal
        split at hv
        · rename_i r hrow
          split at hv
          · rename_i hn
            cases hv
            have ha := iB hal
            simp only at ha
            have hr := H.op hx he
            simp only [rep, XX] at hr
            have hck := ((hr.2.2 _ _ _ _ ha).1 r hrow).2 hn
            obtain ⟨hsz, hlen, _, hrs, _⟩ := H.heap id _ ha
            obtain ⟨hrl, ys, ho, _⟩ := hrs i' r hrow
            subst hn
            rcases ho.2 with ⟨hv0, h0⟩ | ⟨g, cap, cur, hv0, _⟩
            · rw [hv0] at hck
              exact ⟨.int .i64 (r.length : Int), by simp [resolve, invoke, builtin, Builtin.len_, hck, run_underlying ht, goInt, h0], hlenI _ hrl⟩
            · rw [hv0] at hck
              exact ⟨.int .i64 (r.length : Int), by simp [resolve, invoke, builtin, Builtin.len_, hck, run_underlying ht, goInt], hlenI _ hrl⟩
          · cases hv
        · cases hv
      · cases hv
    · cases hv
  case mmx x y t t' u v' hx hy =>
    split at hv
    · rename_i k p k' q he hf
      split at hv
      · rename_i hk
        subst hk
        cases hv
        obtain ⟨e1, h1⟩ := ci (H.op hx he)
        obtain ⟨e2, h2⟩ := ci (H.op hy hf)
        refine ⟨.int k (if q > p then q else p), by simp [resolve, invoke, builtin, Builtin.max_, Builtin.max2, e1, e2], ?_⟩
        simp only [rep, if_true]
        refine ⟨trivial, ?_⟩
        split <;> assumption
      · cases hv
    · cases hv
  case mmn x y t t' u v' hx hy =>
    split at hv
    · rename_i k p k' q he hf
      split at hv
      · rename_i hk
        subst hk
        cases hv
        obtain ⟨e1, h1⟩ := ci (H.op hx he)
        obtain ⟨e2, h2⟩ := ci (H.op hy hf)
        refine ⟨.int k (if q < p then q else p), by simp [resolve, invoke, builtin, Builtin.min_, Builtin.min2, e1, e2], ?_⟩
        simp only [rep, Bool.false_eq_true, if_false]
        refine ⟨trivial, ?_⟩
        split <;> assumption
      · cases hv
    · cases hv
  case nlq t x yt u neg op k c hk ho' hx =>
    split at hv
    · rename_i v' he
      split at hv
      · rename_i b hb
        cases hv
        have := ah4 (P := P) H (x := x) hk ho' (H.op hx he) hb
        refine ⟨.bool (xor neg b), ?_, by simp [rep]⟩
        simp only [Act.eval, Sem.run_bind, Sem.run_pure] at this ⊢
        rw [this]
        rfl
      · cases hv
    · cases hv
  case ext x i u hx =>
    split at hv
    · rename_i vs he
      have hr := H.op hx he
      simp only [rep] at hr
      obtain ⟨arr, ex, k1⟩ := hr
      obtain ⟨c, k2, k3⟩ := f6 k1 hv
      exact ⟨c, by simp at k2; simp [Instr.extract, ex, k2], k3⟩
    · cases hv
  case bld t parts z zc zs ps i z' hbt hi hz hzc hzs hps =>
    obtain ⟨us, hus, rfl⟩ := Option.map_eq_some_iff.1 hv
    have hz0 := Uk hzs (M := M) (X := XX κ σ.h)
    have hb : ∃ es : Array Value, P.built t (parts.toList.map fun x => (x.1, a.eval x.2)) = some es ∧ af M (XX κ σ.h) us es.toList ∧ ∀ u ∈ es.toList, aI u := by
      unfold Program.built at hbt ⊢
      rw [hi] at hbt ⊢
      cases hu : P.underlying t with
      | none => rw [hu] at hbt; simp at hbt
      | some d =>
        rw [hu] at hbt
        cases d <;> simp only at hbt <;> try (cases hbt; done)
        case struct fs =>
          rw [hz] at hbt
          simp only [hz]
          cases hpl : fs.toList.mapM (fun f => (P.info? f.type).map fun i => (f.offset, i.size)) with
          | none => rw [hpl] at hbt; simp at hbt
          | some places =>
            refine Bk (t := t) (place := (places.toArray[·]?)) ?_ H hps hus hz0.1 hz0.2
            intro j off n ft hj
            unfold Ik at hj
            rw [hu] at hj
            simp only at hj
            split at hj
            · rename_i f hf
              split at hj
              · rename_i n' hn'
                cases hj
                have h5 := mapM_some_get hpl j f (by simpa using hf)
                unfold ik at hn'
                obtain ⟨i', hi', rfl⟩ := Option.map_eq_some_iff.1 hn'
                rw [hi'] at h5
                simpa using h5.symm
              · cases hj
            · cases hj
        case array m e =>
          rw [hz] at hbt
          simp only [hz]
          cases hie : P.info? e with
          | none => rw [hie] at hbt; simp at hbt
          | some ie =>
            refine Bk (t := t) (place := fun i => some (i * ie.size, ie.size)) ?_ H hps hus hz0.1 hz0.2
            intro j off n ft hj
            unfold Ik at hj
            rw [hu] at hj
            simp only [ik, hie, Option.map_some] at hj
            split at hj
            · cases hj; rfl
            · cases hj
    obtain ⟨es, k1, k2, k3⟩ := hb
    refine ⟨.agg es, ?_, by simp only [rep]; exact ⟨es, rfl, k2, k3⟩⟩
    have := run_build (P := P) w t (parts.map fun x => (x.1, a.eval x.2)) es (by simpa using k1)
    simp [this]
  case mkf f x y x' y' hx hy =>
    split at hv
    · rename_i vs us hvs hus
      cases hv
      refine ⟨.func f (x.map a.eval) (y.map a.eval), by simp [Instr.makeFunc], ?_⟩
      simp only [rep]
      exact ⟨_, _, rfl, by simpa using H.ops hx hvs, by simpa using H.ops hy hus⟩
    · cases hv
  case mki t x u ds hx hd hne =>
    split at hv
    · rename_i v' he
      split at hv
      · cases hv
        have hr : (Instr.makeInterface t (a.eval x)).run P w = .ok (.iface t (a.eval x)) w := by
          simp only [Instr.makeInterface, Sem.run_bind, run_underlying hd w, Result.andThen_ok]
          first
            | rfl
            | (split
               · exact absurd rfl (hne _)
               · rfl)
        exact ⟨.iface t (a.eval x), by simp [hr], by simp only [rep]; exact ⟨_, rfl, H.op hx he⟩⟩
      · cases hv
    · cases hv
  case tya t x xt okk u i z zv ds ht hne hx hi hz hzv =>
    split at hv
    · rename_i t' v' he
      have r1 := H.op hx he
      simp only [rep] at r1
      obtain ⟨y, e1, e2⟩ := r1
      have hzr : (zeroValue t).run P w = .ok z w := by simp [zeroValue, typeInfo, hi, hz]
      have hrun : (Instr.typeAssert (a.eval x) xt t okk).run P w = (if t' = t then .ok (if okk = true then .tuple #[y, .bool true] else y) w else if okk = true then .ok (.tuple #[z, .bool false]) w else (Instr.typeAssert (a.eval x) xt t okk).run P w) := by
        by_cases h1 : t' = t
        · rw [if_pos h1, e1]
          subst h1
          cases ds <;> first | exact absurd rfl (hne _) | (cases okk <;> simp [Instr.typeAssert, run_underlying ht])
        · rw [if_neg h1]
          cases okk with
          | false => simp
          | true =>
            rw [e1]
            cases ds <;> first | exact absurd rfl (hne _) | simp [Instr.typeAssert, run_underlying ht, h1, hzr]
      split at hv
      · rename_i h1
        cases hv
        rw [if_pos h1] at hrun
        refine ⟨if okk = true then .tuple #[y, .bool true] else y, by simp [hrun], ?_⟩
        cases okk
        · simpa using e2
        · simp only [if_true, rep, af]
          exact ⟨_, rfl, y, _, rfl, e2, .bool true, [], rfl, rfl, rfl⟩
      · rename_i h1
        split at hv
        · rename_i h2
          cases hv
          rw [if_neg h1, if_pos h2] at hrun
          refine ⟨.tuple #[z, .bool false], by simp [hrun], ?_⟩
          simp only [rep, af]
          exact ⟨_, rfl, z, _, rfl, LR hzv, .bool false, [], rfl, rfl, rfl⟩
        · cases hv
    · cases hv
  case aeq t x y yt u v' kt hk hg hx hy =>
    split at hv
    · rename_i u1 v1 h1 h2
      split at hv
      · rename_i hf
        cases hv
        have r1 := H.op hx h1
        have r2 := H.op hy h2
        have e := El hk hf.1 hf.2 r1 r2 w
        obtain ⟨_, _, _, _, hc⟩ := ny hk hf.1 r1
        obtain ⟨_, _, _, _, hc2⟩ := ny hk hf.2 r2
        rcases hc with ⟨_, ⟨cs, ec⟩, hq, _⟩ | ⟨hn, _⟩
        · rcases hc2 with ⟨_, ⟨ds, ed⟩, _, _⟩ | ⟨hn, _⟩
          · rw [ec, ed] at e ⊢
            refine ⟨.bool (eqK u1 v1), ?_, by simp [rep]⟩
            simp only [Sem.run_bind, run_eqGuard_agg w .eql t x y cs ds hq, Result.andThen_ok, run_eql_struct, e]
            rfl
          · rw [hg] at hn; cases hn
        · rw [hg] at hn; cases hn
      · cases hv
    · cases hv
  case ane t x y yt u v' kt hk hg hx hy =>
    split at hv
    · rename_i u1 v1 h1 h2
      split at hv
      · rename_i hf
        cases hv
        have r1 := H.op hx h1
        have r2 := H.op hy h2
        have e := El hk hf.1 hf.2 r1 r2 w
        obtain ⟨_, _, _, _, hc⟩ := ny hk hf.1 r1
        obtain ⟨_, _, _, _, hc2⟩ := ny hk hf.2 r2
        rcases hc with ⟨_, ⟨cs, ec⟩, hq, _⟩ | ⟨hn, _⟩
        · rcases hc2 with ⟨_, ⟨ds, ed⟩, _, _⟩ | ⟨hn, _⟩
          · rw [ec, ed] at e ⊢
            refine ⟨.bool (!eqK u1 v1), ?_, by simp [rep]⟩
            simp only [Sem.run_bind, run_eqGuard_agg w .neq t x y cs ds hq, Result.andThen_ok, run_neq_struct, e]
            rfl
          · rw [hg] at hn; cases hn
        · rw [hg] at hn; cases hn
      · cases hv
    · cases hv
  case lkp t K E x k u v' kt i z zv okk ht hkt hx hk2 hi hz hzv =>
    split at hv
    · rename_i id n kv h1 h2
      split at hv
      · rename_i kt' l hm
        split at hv
        · rename_i hf
          obtain ⟨rfl, hf⟩ := hf
          have hmp := RZ hm
          have r1 := H.op hx h1
          simp only [rep, XX] at r1
          have ex := r1.2.2.2.2 _ hmp rfl
          obtain ⟨b, es, clock, e1, e2, e3, e4, e5⟩ := H.heap id _ hmp
          rw [e1] at ex
          have r2 := H.op hk2 h2
          obtain ⟨r, g1, g2⟩ := UZ hkt hf r2 w l es.toList e4
          have gc := Pp hkt hf r2 es.isEmpty w
          have hzr : (zeroValue E).run P w = .ok z w := by simp [zeroValue, typeInfo, hi, hz]
          have hobj := Go.MapKept.run_getObj_map (P := P) e3
          rcases g2 with ⟨rfl, g3, _⟩ | ⟨j, e, k', v2, rfl, _, g3, g4, _⟩
          · rw [g3] at hv
            simp only [Option.some.injEq] at hv
            subst hv
            have hrun : (Instr.lookup t (a.eval x) (a.eval k) okk).run P w = .ok (if okk then .tuple #[z, .bool false] else z) w := by
              unfold Instr.lookup
              simp [run_underlying ht, ex, hobj, gc, g1, hzr]
            refine ⟨if okk then .tuple #[z, .bool false] else z, by simp [hrun], ?_⟩
            cases okk
            · simpa using LR hzv
            · simp only [if_true, rep, af]
              exact ⟨_, rfl, z, _, rfl, LR hzv, .bool false, [], rfl, rfl, rfl⟩
          · rw [g3] at hv
            simp only [Option.some.injEq] at hv
            subst hv
            have hrun : (Instr.lookup t (a.eval x) (a.eval k) okk).run P w = .ok (if okk then .tuple #[e.val, .bool true] else e.val) w := by
              unfold Instr.lookup
              simp [run_underlying ht, ex, hobj, gc, g1]
            refine ⟨if okk then .tuple #[e.val, .bool true] else e.val, by simp [hrun], ?_⟩
            cases okk
            · simpa using aX g4
            · simp only [if_true, rep, af]
              exact ⟨_, rfl, e.val, _, rfl, aX g4, .bool true, [], rfl, rfl, rfl⟩
        · cases hv
      · cases hv
    · cases hv
  case nlc x u hx =>
    split at hv
    · rename_i v' he
      split at hv
      · rename_i hlv
        cases hv
        have hr := H.op hx he
        rcases aft H hr hlv with ⟨p, e⟩ | ⟨f, x1, y1, e⟩
        · exact ⟨_, by rw [e]; rfl, hr⟩
        · exact ⟨_, by rw [e]; rfl, hr⟩
      · cases hv
    · cases hv
end
def dy(κ:Kap)(id:Nat)(v:Value)(rw':Nat->Value)(bl:Nat->Prop):Kap:=⟨λi=>if i=id then v else κ i,λi=>if i=id then rw' else κ.row i,λi=>if i=id then bl else κ.bl i,κ.fm⟩
abbrev upd(κ:Kap)(id:Nat)(v:Value):Kap:=dy κ id v (λ_=>undef) (λg=>blk v=ś g)
section
variable{κ:Kap}{id:Nat}{v:Value}{rw':Nat->Value}{bl:Nat->Prop}
theorem cm:(dy κ id v rw' bl) id=v:=by simp[dy]
theorem rz:(dy κ id v rw' bl).row id=rw':=by simp[dy]
theorem bj:(dy κ id v rw' bl).bl id=bl:=by simp[dy]
theorem dg{i}(h:i≠id):(dy κ id v rw' bl) i=κ i/\(dy κ id v rw' bl).row i=κ.row i/\(dy κ id v rw' bl).bl i=κ.bl i:=by simp[dy,h]
theorem cq:upd κ id v id=v:=cm
theorem aei{i}(h:i≠id):upd κ id v i=κ i:=(dg h).1
end
theorem abk{κ h v c}(hx:XX κ h v c){κ' h'}(hl:h.length<=h'.length)(hk:∀i,i<h.length->κ' i=κ i)(hr:∀i,i<h.length->κ'.row i=κ.row i)(hh:∀i ob,i<h.length->h'[i]?=ś (ś ob)->h[i]?=ś (ś ob))(hf:κ'.fm=κ.fm:=by rfl):XX κ' h' v c:=by
 cases v<;>simp only[XX]at hx⊢
 case ref id n=>grind
 case ptr id off=>grind
 case eptr id n i off=>grind
 case fseq sz l=>simp_all
 case mref id i n=>grind
 grind
theorem vL{M M'}(hM:∀p v,M p=ś v->M' p=ś v){sz}:∀{l:List V}{xs:List Value},aB M sz l xs->aB M' sz l xs
 |[],_,h=>h
 |v::vs,xs,h=>by
   simp only[aB]at h⊢;obtain⟨y,rest,g1,g2,g3,g4,g5⟩:=h;exact⟨y,rest,g1,aO hM (λ_ _ h=>h) _ _ g2,g3,g4,vL hM g5⟩
theorem eU{w w':World}{n e sz len:Nat}{v xs}(h:w.ownsRow n e sz v len xs)(hw:∀g,blk v=ś g->w'.heap[g]?=w.heap[g]?):w'.ownsRow n e sz v len xs:=by
 refine⟨h.1,?_⟩;rcases h.2 with h4|⟨g,cap,cur,h4,h5,h6,h7⟩
 ·exact .inl h4
 ·exact .inr ⟨g,cap,cur,h4,h5,by rw[hw g (by rw[h4];rfl),h6],h7⟩
theorem vQ{w:World}{n e sz len:Nat}{v xs}(h:w.ownsRow n e sz v len xs){g}(hg:blk v=ś g):g<w.heap.size:=by
 rcases h.2 with⟨h4,_⟩|⟨g',cap,cur,h4,h5,h6,_⟩
 ·rw[h4]at hg;cases hg
 ·rw[h4]at hg
  cases hg;grind
section
variable{P:Program}{N:Nat}{M0:Mem}{B:Bas}{w0:World}{κ:Kap}{M:Mem}{σ:St}{a:Act}{w w':World}
theorem PQ{M M'}(hM:∀p v,M p=ś v->M' p=ś v){kt}:∀{l:List (V×V)}{es:List MapEntry},qL M kt l es->qL M' kt l es
 |[],_,h=>h
 |(k,v)::l,_,h=>by
   simp only[qL]at h⊢;obtain⟨e,rest,h1,h2,h3,h4,h5⟩:=h;exact⟨e,rest,h1,h2,aO hM (λ_ _ h=>h) _ _ h3,aO hM (λ_ _ h=>h) _ _ h4,PQ hM h5⟩
theorem i6{X X' : V -> Value -> Prop}{M' : Mem}(hM : ∀p v,M p = some v -> M' p = some v)(hX : ∀v c,X v c -> X' v c){κ' : Kap}{id : Nat}(hk : κ' id = κ id /\ κ'.row id = κ.row id /\ κ'.bl id = κ.bl id)(hw : ∀g,κ.bl id g -> w'.heap[g]? = w.heap[g]?)(hj : Xz B)(hu : Und B w w')(hs : ∀p v,M' p = some v -> w'.cell? p = some v) : ∀{ob : Ob},bn κ M X B w id ob -> bn κ' M' X' B w' id ob
  | .itr s p,h => by
    simp only[bn]at h⊢;obtain⟨b,bs,h1,h2,h3,h4,h5,h6⟩ := h;exact⟨b,bs,by rw[hk.1,h1],h2,by rw[hw b ((h6 b).2 rfl),h3],h4,h5,by rw[hk.2.2];exact h6⟩
  | .tok c,h => by
    simp only[bn]at h⊢;rw[hk.1,hk.2.2];exact h
  | .gh l,h => by
    simp only[bn]at h⊢;obtain⟨k,h1,h2,h3⟩ := h;rw[hk.1,hk.2.2];exact⟨k,h1,hj _ _ _ _ _ _ _ h2 hu hw hM hs,λg hg => ⟨(h3 g hg).1,Nat.lt_of_lt_of_le (h3 g hg).2 hu.size⟩⟩
  | .box cs,h => by
    simp only[bn]at h⊢;obtain⟨b,arr,T,h1,h2,h3,h4,h5,h6⟩ := h;exact⟨b,arr,T,by rw[hk.1,h1],h2,by rw[hw b ((h6 b).2 rfl),h3],bv hM hX _ _ h4,h5,by rw[hk.2.2];exact h6⟩
  | .arr e sz l,h => by
    simp only[bn]at h⊢;obtain⟨h0,h1,xs,h2,h3,hown,hbl⟩ := h;rw[hk.1,hk.2.2];exact⟨h0,h1,xs,eU h2 λg hg => hw g ((hbl g).2 hg),vL hM h3,hown,hbl⟩
  | .mat e e2 sz rows,h => by
    simp only[bn]at h⊢;obtain⟨h0,h1,⟨xs,h2,h3,h4⟩,h5,h6,h7,hown,hbl⟩ := h;rw[hk.1,hk.2.1,hk.2.2];exact⟨h0,h1,⟨xs,eU h2 λg hg => hw g ((hbl g).2 (.inl hg)),h3,h4⟩,λi r hr => let ⟨k1,ys,k2,k3⟩ := h5 i r hr;⟨k1,ys,eU k2 λg hg => hw g ((hbl g).2 (.inr ⟨i,r,hr,hg⟩)),vL hM k3⟩,h6,h7,hown,hbl⟩
  | .mp kt l,h => by
    simp only[bn]at h⊢;obtain⟨b,es,clock,h1,h2,h3,h4,h5⟩ := h;exact⟨b,es,clock,by rw[hk.1,h1],h2,by rw[hw b ((h5 b).2 rfl),h3],PQ hM h4,by rw[hk.2.2];exact h5⟩
theorem Vi{X : V -> Value -> Prop}{id : Nat} : ∀{ob : Ob},bn κ M X B w id ob -> ∀g,κ.bl id g -> B.own g /\ g<w.heap.size
  | .tok c,h,g,hg => by
    simp only[bn]at h;exact(h.2 g hg).elim
  | .itr s p,h,g,hg => by
    simp only[bn]at h;obtain⟨b,bs,h1,h2,h3,_,_,h6⟩ := h;have := (h6 g).1 hg;subst this;exact⟨h2,(Array.getElem?_eq_some_iff.1 h3).1⟩
  | .gh l,h,g,hg => by
    simp only[bn]at h;obtain⟨k,_,_,h3⟩ := h;exact h3 g hg
  | .box cs,h,g,hg => by
    simp only[bn]at h;obtain⟨b,arr,T,h1,h2,h3,_,_,h6⟩ := h;have := (h6 g).1 hg;subst this;exact⟨h2,(Array.getElem?_eq_some_iff.1 h3).1⟩
  | .arr e sz l,h,g,hg => by
    simp only[bn]at h;obtain⟨_,_,xs,h2,_,hown,hbl⟩ := h;exact⟨hown g hg,vQ h2 ((hbl g).1 hg)⟩
  | .mat e e2 sz rows,h,g,hg => by
    simp only[bn]at h;obtain⟨_,_,⟨xs,h2,_⟩,h5,_,_,hown,hbl⟩ := h;refine⟨hown g hg,?_⟩;rcases(hbl g).1 hg with h|⟨i,r,hr,h⟩
    ·exact vQ h2 h
    ·obtain⟨_,ys,k2,_⟩ := h5 i r hr
     exact vQ k2 h
  | .mp kt l,h,g,hg => by
    simp only[bn]at h;obtain⟨b,es,clock,h1,h2,h3,_,h5⟩ := h;have := (h5 g).1 hg;subst this;exact⟨h2,(Array.getElem?_eq_some_iff.1 h3).1⟩
theorem Rel.blk_lt(H:Rel N M0 B w0 κ M σ a w){id ob}(h:σ.h[id]?=ś (ś ob)){g}(hg:κ.bl id g):B.own g/\g<w.heap.size:=Vi (H.heap id ob h) g hg
theorem Rel.mem_lt(H:Rel N M0 B w0 κ M σ a w){p v}(h:M p=ś v):p.block<w.heap.size:=World.block_lt_of_cell? w p (H.snd p v h)
theorem Rel.grow(H:Rel N M0 B w0 κ M σ a w)(hb:Below w.heap.size w w'){M'}(hM:∀p v,M p=ś v->M' p=ś v)(hs:∀p v,M' p=ś v->w'.cell? p=ś v)
 (hn:∀p v,M' p=ś v->M p=ś v\/w.heap.size<=p.block):Rel N M0 B w0 κ M' σ a w' where
 dfr:=H.dfr
 jst:=H.jst
 pin:=H.pin
 size:=H.size
 regs:=λt v ht=>let ⟨h1,c,h2,h3⟩:=H.regs t v ht;⟨h1,c,h2,aO hM (λ_ _ h=>h) _ _ h3⟩
 heap:=λid ob h=>i6 hM (λ_ _ h=>h) ⟨rfl,rfl,rfl⟩ (λg hg=>hb.block g (H.blk_lt h hg).2) H.jst (.of_below hb (by rw[H.base];exact H.blw.size)) hs (H.heap id ob h)
 inj:=H.inj
 snd:=hs
 sep:=λp v hp id ob h=>by
  rcases hn p v hp with h1|h1
  ·exact H.sep p v h1 id ob h
  ·intro hg
   have:=(H.blk_lt h hg).2;omega
 sub:=⟨λp v h=>hM p v (H.sub.sub p v h),λp v h=>hM p v (H.sub.fmS p v h),H.sub.fmN,H.sub.fbn,H.sub.gl⟩
 new:=λp v h=>by
  rcases hn p v h with h1|h1
  ·exact H.new p v h1
  ·have:=H.blw.size
   exact .inr (.inl (by rw[H.base];omega))
 base:=H.base
 blw:=H.blw.trans (.of_below hb (by rw[H.base];exact H.blw.size))
theorem Rel.grow0(H:Rel N M0 B w0 κ M σ a w)(hb:Below w.heap.size w w'):Rel N M0 B w0 κ M σ a w':=
 H.grow hb (λ_ _ h=>h) (λp v h=>by rw[hb.cell (H.mem_lt h)];exact H.snd p v h) (λ_ _ h=>.inl h)
theorem eh{α l}{x y:α}{i}(h:(l++[x])[i]?=ś y):(i<l.length/\l[i]?=ś y)\/(i=l.length/\x=y):=by
 grind
theorem Rel.newOb'(H:Rel N M0 B w0 κ M σ a w)(hb:Below w.heap.size w w'){ob kv kr kb}(hkI:∀g,kb g->∀j oj,σ.h[j]?=ś (ś oj)->¬κ.bl j g)(hkS:∀p v,M p=ś v->¬kb p.block)
 (ho:bn (dy κ σ.h.length kv kr kb) M (XX (dy κ σ.h.length kv kr kb) (σ.h++[ś ob])) B w' σ.h.length ob):Rel N M0 B w0 (dy κ σ.h.length kv kr kb) M { σ with h:=σ.h++[ś ob] } a w':=by
 have H':=H.grow0 hb;have hX:∀v c,XX κ σ.h v c->XX (dy κ σ.h.length kv kr kb) (σ.h++[ś ob]) v c:=λv c hx=>abk hx (by simp) (λi hi=>(dg (by omega)).1) (λi hi=>(dg (by omega)).2.1) (λi ob' hi h=>by grind)
 have hne:∀{i},i<σ.h.length->(dy κ σ.h.length kv kr kb).bl i=κ.bl i:=λhi=>(dg (by omega)).2.2
 have hse:(dy κ σ.h.length kv kr kb).bl σ.h.length=kb:=bj;refine{ dfr:=H'.dfr,jst:=H'.jst,pin:=H'.pin,size:=H'.size,regs:=?_,heap:=?_,inj:=?_,snd:=H'.snd,sep:=?_,sub:=H'.sub,new:=H'.new,base:=H'.base,blw:=H'.blw }
 ·intro t v ht
  obtain⟨h1,c,h2,h3⟩:=H'.regs t v ht;grind[U7]
 ·intro id ob' h
  rcases eh h with⟨hi,h⟩|⟨rfl,h⟩
  ·exact i6 (λ_ _ h=>h) hX (dg (by omega)) (λ_ _=>rfl) H'.jst (Und.refl _ _) H'.snd (H'.heap id ob' h)
  simp_all
 ·intro i j oi oj g hi hj gi gj
  rcases eh hi with⟨hi',hi⟩|⟨rfl,hi⟩<;>rcases eh hj with⟨hj',hj⟩|⟨rfl,hj⟩
  ·rw[hne hi']at gi;rw[hne hj']at gj;exact H.inj i j oi oj g hi hj gi gj
  ·simp_all
  ·simp_all
  ·rfl
 ·intro p v hp id ob' h
  rcases eh h with⟨hi,h⟩|⟨rfl,h⟩
  ·rw[hne hi];exact H'.sep p v hp id ob' h
  simp_all
theorem Rel.newOb(H:Rel N M0 B w0 κ M σ a w)(hb:Below w.heap.size w w'){ob kv kr kb}(hk:∀g,kb g->w.heap.size<=g)
 (ho:bn (dy κ σ.h.length kv kr kb) M (XX (dy κ σ.h.length kv kr kb) (σ.h++[ś ob])) B w' σ.h.length ob):Rel N M0 B w0 (dy κ σ.h.length kv kr kb) M { σ with h:=σ.h++[ś ob] } a w':=
 H.newOb' hb (λg hg j oj hj hg'=>by have:=(H.blk_lt hj hg').2;grind) (λp v hp hg=>by have:=H.mem_lt hp;grind) ho
theorem Rel.setOb'(H:Rel N M0 B w0 κ M σ a w){id old ob}(hid:σ.h[id]?=ś (ś old)){kv kr kb}(hb:Und B w w')
 (hother:∀k,k<w.heap.size->¬κ.bl id k->w'.heap[k]?=w.heap[k]?) (hkI:∀g,kb g->∀j oj,σ.h[j]?=ś (ś oj)->κ.bl j g->id=j) (hkS:∀p v,M p=ś v->¬kb p.block)
 (hX:∀v c,XX κ σ.h v c->XX (dy κ id kv kr kb) (σ.h.set id (ś ob)) v c)
 (ho:bn (dy κ id kv kr kb) M (XX (dy κ id kv kr kb) (σ.h.set id (ś ob))) B w' id ob):Rel N M0 B w0 (dy κ id kv kr kb) M { σ with h:=σ.h.set id (ś ob) } a w':=by
 have hlt:id<σ.h.length:=(zAa.1 hid).1;have hne:∀{i},¬id=i->(dy κ id kv kr kb).bl i=κ.bl i:=λhi=>(dg (λe=>hi e.symm)).2.2;have hse:(dy κ id kv kr kb).bl id=kb:=bj
 have hsnd:∀p v,M p=ś v->w'.cell? p=ś v:=λp v hp=>by
  rw[World.cell?_of_block (hother p.block (H.mem_lt hp) (H.sep p v hp id old hid))];exact H.snd p v hp
 refine{ dfr:=H.dfr,jst:=H.jst,pin:=H.pin,size:=H.size,regs:=?_,heap:=?_,inj:=?_,snd:=?_,sep:=?_,sub:=H.sub,new:=H.new,base:=H.base,blw:=H.blw.trans hb }
 ·intro t v ht
  obtain⟨h1,c,h2,h3⟩:=H.regs t v ht;grind[U7]
 ·intro i ob' h
  rw[zBf]at h;split at h
  ·simp_all
  ·rename_i he
   refine i6 (λ_ _ h=>h) hX (dg (λe=>he e.symm)) (λg hg=>?_) H.jst hb hsnd (H.heap i ob' h);exact hother g (H.blk_lt h hg).2 (λhg'=>he (H.inj id i old ob' g hid h hg' hg))
 ·intro i j oi oj g hi hj gi gj
  rw[zBf]at hi hj;split at hi<;>split at hj
  ·omega
  ·rename_i h1 h2
   subst h1;rw[hse]at gi;grind
  ·rename_i h1 h2
   subst h2;rw[hse]at gj;grind
  ·rename_i h1 h2
   rw[hne h1]at gi;rw[hne h2]at gj;exact H.inj i j oi oj g hi hj gi gj
 ·omega
 ·intro p v hp i ob' h
  rw[zBf]at h;split at h
  ·simp_all
  ·rename_i he
   rw[hne he];exact H.sep p v hp i ob' h
theorem Rel.setOb(H:Rel N M0 B w0 κ M σ a w){id old ob}(hid:σ.h[id]?=ś (ś old)){kv kr kb}(hb:Und B w w')
 (hother:∀k,k<w.heap.size->¬κ.bl id k->w'.heap[k]?=w.heap[k]?) (hk:∀g,kb g->κ.bl id g\/w.heap.size<=g)
 (hX:∀v c,XX κ σ.h v c->XX (dy κ id kv kr kb) (σ.h.set id (ś ob)) v c)
 (ho:bn (dy κ id kv kr kb) M (XX (dy κ id kv kr kb) (σ.h.set id (ś ob))) B w' id ob):Rel N M0 B w0 (dy κ id kv kr kb) M { σ with h:=σ.h.set id (ś ob) } a w':=
 H.setOb' hid hb hother (λg hg j oj hj gj=>by
  rcases hk g hg with h3|h3
  ·exact H.inj id j old oj g hid hj h3 gj
  ·have:=(H.blk_lt hj gj).2;omega) (λp v hp hg=>by
  rcases hk _ hg with h3|h3
  ·exact H.sep p v hp id old hid h3
  ·have:=H.mem_lt hp;omega) hX ho
theorem Rel.drop (H:Rel N M0 B w0 κ M σ a w) (id):Rel N M0 B w0 κ M { σ with h:=σ.h.set id ń } a w:=by
 have k3:∀ {i:Nat} {ob:Ob},(σ.h.set id ń)[i]?=ś (ś ob)→σ.h[i]?=ś (ś ob):=by
  grind
 have hX:∀ v c,XX κ σ.h v c→XX κ (σ.h.set id ń) v c:=λv c hx=>abk hx (by simp) (λ_ _=>rfl) (λ_ _=>rfl) (λi ob hi h=>k3 h)
 exact { dfr:=H.dfr,jst:=H.jst,pin:=H.pin,size:=H.size
         regs:=λt v ht=>let ⟨h1,c,h2,h3⟩:=H.regs t v ht; ⟨h1,c,h2,U7 hX h3⟩
         heap:=λi ob h=>i6 (λ_ _ h=>h) hX ⟨rfl,rfl,rfl⟩ (λ_ _=>rfl) H.jst (Und.refl _ _) H.snd (H.heap i ob (k3 h))
         inj:=λi j oi oj g hi hj=>H.inj i j oi oj g (k3 hi) (k3 hj)
         snd:=H.snd
         sep:=λp v hp i ob h=>H.sep p v hp i ob (k3 h)
         sub:=H.sub,new:=H.new,base:=H.base,blw:=H.blw }
def Kap.add(κ:Kap)(F:Mem):Kap:=⟨κ.v,κ.row,κ.bl,λp=>(κ.fm p).or (F p)⟩
theorem agK{κ F h}:∀v c,XX κ h v c->XX (κ.add F) h v c:=by
 intro v c hx;cases v<;>simp only[XX]at hx⊢<;>try exact hx
 exact⟨hx.1,aO (M':=(κ.add F).fm) (λp v hp=>by grind[Kap.add]) (X:=NX) (λ_ _ h=>h) _ _ hx.2⟩
theorem Rel.addF(H:Rel N M0 B w0 κ M σ a w){F}(hF:∀p v,F p=ś v->M p=ś v/\B.fb<=p.block):Rel N M0 B w0 (κ.add F) M σ a w:=
 { dfr:=H.dfr,jst:=H.jst,pin:=H.pin,size:=H.size
   regs:=λt v ht=>let ⟨h1,c,h2,h3⟩:=H.regs t v ht;⟨h1,c,h2,U7 agK h3⟩
   heap:=λi ob h=>i6 (κ':=κ.add F) (λ_ _ h=>h) agK ⟨rfl,rfl,rfl⟩ (λ_ _=>rfl) H.jst (Und.refl _ _) H.snd (H.heap i ob h)
   inj:=H.inj,snd:=H.snd,sep:=H.sep
   sub:=⟨H.sub.sub,λp v hp=>by
       simp only[Kap.add,zDd]at hp;rcases hp with hp|hp
       ·exact H.sub.fmS p v hp
       simp_all,λp v hp=>by
       simp only[Kap.add,zDd]at hp;rcases hp with hp|hp
       ·exact H.sub.fmN p v hp
       simp_all,H.sub.fbn,H.sub.gl⟩
   new:=H.new,base:=H.base,blw:=H.blw }
mutual
theorem afU{Mn M:Mem}{X:V->Value->Prop}(hM:∀p v,Mn p=ś v->M p=ś v)(hX:∀sz l c,aI c->rep Mn NX (.seq sz l) c->X (.fseq sz l) c):∀{v:V}{c:Value},rep Mn NX v c->rep M X (fz v) c
 | .seq sz l,c,h=>by
   simp only[fz,rep];refine hX sz l c ?_ h;simp only[rep]at h;obtain⟨a,cap,rfl,_⟩:=h;rfl
 | .strct cs,c,h=>by
   simp only[rep,fz]at h⊢;obtain⟨arr,h1,h2,h3⟩:=h;exact⟨arr,h1,TC hM hX h2,h3⟩
 | .tup cs,c,h=>by
   simp only[rep,fz]at h⊢;obtain⟨arr,h1,h2⟩:=h;exact⟨arr,h1,TC hM hX h2⟩
 | .int k n,c,h=>aX (aO hM (λ_ _ h=>h) (.int k n) c h)
 | .bool b,c,h=>aX (aO hM (λ_ _ h=>h) (.bool b) c h)
 | .str s,c,h=>aX (aO hM (λ_ _ h=>h) (.str s) c h)
 | .nil sz,c,h=>aX (aO hM (λ_ _ h=>h) (.nil sz) c h)
 | .sptr x o,c,h=>aX (aO hM (λ_ _ h=>h) (.sptr x o) c h)
 | .nilptr,c,h=>aX (aO hM (λ_ _ h=>h) .nilptr c h)
 | .fn f x y,c,h=>aX (aO hM (λ_ _ h=>h) (.fn f x y) c h)
 | .nilfn,c,h=>aX (aO hM (λ_ _ h=>h) .nilfn c h)
 | .iface t x,c,h=>aX (aO hM (λ_ _ h=>h) (.iface t x) c h)
 | .niliface,c,h=>aX (aO hM (λ_ _ h=>h) .niliface c h)
 | .junk,c,h=>aX (aO hM (λ_ _ h=>h) .junk c h)
 | .ref _ _,_,h=>h.elim
 | .ptr _ _,_,h=>h.elim
 | .eptr _ _ _ _,_,h=>h.elim
 | .mref _ _ _,_,h=>h.elim
 | .mptr _ _ _ _ _,_,h=>h.elim
 | .fseq _ _,_,h=>h.elim
theorem TC{Mn M:Mem}{X:V->Value->Prop}(hM:∀p v,Mn p=ś v->M p=ś v)(hX:∀sz l c,aI c->rep Mn NX (.seq sz l) c->X (.fseq sz l) c):∀{vs:List V}{cs:List Value},af Mn NX vs cs->af M X (fzs vs) cs
 |[],cs,h=>h
 |v::vs,cs,h=>by
   simp only[af,fzs]at h⊢;obtain⟨c,cs',h1,h2,h3⟩:=h;exact⟨c,cs',h1,afU hM hX h2,TC hM hX h3⟩
end
open Classical in
noncomputable def ext(M:Mem)(w:World)(bs:Nat->Prop):Mem:=λp=>if bs p.block then w.cell? p else M p
theorem AH{M' sz g}(hM:∀p v,M p=ś v->M' p=ś v):∀{l:List V}{xs:List Value}(off:Nat),aB M sz l xs->(∀j u,xs[j]?=ś u->M' ⟨g,off+j,ń⟩=ś u)->cx M' sz l g off
 |[],_,_,_,_=>by simp[cx]
 |v::vs,xs,off,h,hx=>by
   simp only[aB]at h;obtain⟨y,rest,rfl,g1,g2,g3,g4⟩:=h;simp only[cx];refine⟨⟨y,aO hM (λ_ _ h=>h) _ _ g1,g2,g3,λj hj=>?_⟩,AH hM (off+sz) g4 λj u hu=>?_⟩
   ·grind
   ·have:=hx (sz+j) u (by grind)
    grind
theorem B5{Mr Mn}(hM:∀p v,Mr p=ś v->Mn p=ś v){e sz:Nat}{val l xs}(h2:w.ownsRow 0 e sz val l.length xs)(h3:aB Mr sz l xs)(h0:0<sz)(h1:l.length<=140737488355328)
 (hown:∀g,blk val=ś g->∀p:Addr,p.block=g->Mn p=w.cell? p) {X}:rep Mn X (.seq sz l) val:=by
 simp only[rep];rcases h2.2 with⟨h4,h5⟩|⟨g,cap,cur,h4,h5,h6,h7,h8,h9⟩
 ·simp_all
 ·refine⟨ś ⟨g,0,ń⟩,cap,by rw[h4],h7,h1,h0,.inr ⟨g,0,rfl,?_⟩⟩
  refine AH hM 0 h3 λj u hu=>?_;rw[hown g (by rw[h4];rfl) _ rfl]
  have:=h2.cells (g:=g) (by rw[h4];rfl) j u hu
  grind[Addr.add_lit]
theorem G3{sz}:∀{rows:List Rw}{vs:List V},nS sz rows=ś vs->vs.length=rows.length/\∀(i:Nat)(v:V),vs[i]?=ś v->∃r,bq rows i=ś r/\v=.seq sz r
 |[],vs,h=>by grind[nS]
 | .a r::rows,vs,h=>by
   simp only[nS]at h;split at h
   ·rename_i us hus
    cases h;obtain⟨k1,k2⟩:=G3 hus;refine⟨by simp[k1],λi v hi=>?_⟩
    cases i with
    |zero=>simp at hi;exact⟨r,by simp[bq],hi.symm⟩
    |succ i=>
      simp at hi;obtain⟨r',k3,k4⟩:=k2 i v hi;exact⟨r',by simpa[bq]using k3,k4⟩
   ·cases h
 | .g _::rows,vs,h=>by simp[nS]at h
theorem PB{Mr}:∀{vs:List V}{xs:List Value},vs.length=xs.length->(∀(i:Nat)(v:V),vs[i]?=ś v->∃c:Value,xs[i]?=ś c/\aI c/\rep Mr NX v c)->aB Mr 1 vs xs
 |[],xs,h,_=>by
   grind[aB,zBg]
 |v::vs,[],h,_=>by simp at h
 |v::vs,x::xs,h,hx=>by
   simp only[aB];obtain⟨c,h1,h2,h3⟩:=hx 0 v (by simp)
   simp at h1;subst h1;exact⟨x,xs,by simp[dM h2],h3,by simp[dM h2],by simp[dM h2,h2],PB (by simpa using h) λi u hi=>hx (i+1) u (by simpa using hi)⟩
theorem aaN{Mr Mn}(hM:∀p v,Mr p=ś v->Mn p=ś v){id e e2 sz rows X Y}(h:bn κ M Y B w id (.mat e e2 sz rows))(hr:∀i r xs,bq rows i=ś r->aB M sz r xs->aB Mr sz r xs)
 {vs} (hv:nS sz rows=ś vs) (hown:∀g,κ.bl id g->∀p:Addr,p.block=g->Mn p=w.cell? p):rep Mn X (.seq 1 vs) (κ id):=by
 obtain⟨h0,h1,⟨xs,h2,h3,h4⟩,h5,h6,h7,_,hbl⟩:=h;obtain⟨k1,k2⟩:=G3 hv;have hxl:xs.length=rows.length:=by have:=h2.1;omega
 rw[<-k1]at h2 h1;refine B5 (Mr:=Mn) (λ_ _ h=>h) h2 (PB (by omega) λi v hi=>?_) (by omega) h1 (λg hg=>hown g ((hbl g).2 (.inl hg)))
 obtain⟨r,k3,rfl⟩:=k2 i v hi;grind[zAf,B5]
theorem afi{Mr Mn}(hM:∀p v,Mr p=ś v->Mn p=ś v){id e e2 sz i rows r X Y}(h:bn κ M Y B w id (.mat e e2 sz rows))(k3:bq rows i=ś r)(hr:∀xs,aB M sz r xs->aB Mr sz r xs)
 (hown:∀g,κ.bl id g->∀p:Addr,p.block=g->Mn p=w.cell? p):rep Mn X (.seq sz r) (κ.row id i):=by
 obtain⟨h0,h1,⟨xs,h2,h3,h4⟩,h5,h6,h7,_,hbl⟩:=h;grind[B5]
mutual
theorem yf(H:Rel N M0 B w0 κ M σ a w){M':Mem}(hM:∀p v,M p=ś v->M' p=ś v):∀{v u:V}{c:Value}(hown:∀id∈aF v,∀g,κ.bl id g->∀p,p.block=g->M' p=w.cell? p),rep M (XX κ σ.h) v c->pur σ.h v=ś u->rep M' NX u c
 | .int _ _,u,c,_,h,hp=>by simp only[pur]at hp;cases hp;exact h
 | .bool _,u,c,_,h,hp=>by simp only[pur]at hp;cases hp;exact h
 | .str _,u,c,_,h,hp=>by simp only[pur]at hp;cases hp;exact h
 | .nil sz,u,c,_,h,hp=>by
   grind[pur,rep]
 | .seq sz l,u,c,_,h,hp=>by simp only[pur]at hp;cases hp;exact aO hM (X:=NX) (λ_ _ h=>h) (.seq sz l) c h
 | .ref id n,u,c,hown,h,hp=>by
   simp only[pur,pur1]at hp;split at hp
   ·rename_i e sz l hh
    split at hp
    ·rename_i hn
     cases hp;simp only[rep,XX]at h;have hc:=(h.2.2.1 e sz l hh).2 hn;obtain⟨h0,h1,xs,h2,h3,_,hbl⟩:=H.heap id _ hh;grind[B5,id,aF]
    ·cases hp
   ·rename_i e e2 sz rows hh
    split at hp
    ·rename_i hn
     obtain⟨vs,hvs,rfl⟩:=zAb.1 hp;simp only[rep,XX]at h;have hc:=(h.2.2.2.1 e e2 sz rows hh).2 hn;rw[hc];exact aaN hM (H.heap id _ hh) (λ_ _ _ _ h=>h) hvs (hown id (by simp[aF]))
    ·cases hp
   ·cases hp
 | .fseq sz l,u,c,_,h,hp=>by
   simp only[pur]at hp;cases hp;simp only[rep,XX]at h;exact aO (λp v hp=>hM p v (H.sub.fmS p v hp)) (X:=NX) (λ_ _ h=>h) (.seq sz l) c (by grind[rep])
 | .mref id i n,u,c,hown,h,hp=>by
   simp only[pur,pur2]at hp;split at hp
   ·rename_i e e2 sz rows hh
    split at hp
    ·rename_i r hr
     split at hp
     ·rename_i hn
      cases hp;simp only[rep,XX]at h;have hc:=((h.2.2 e e2 sz rows hh).1 r hr).2 hn;rw[hc];exact afi hM (H.heap id _ hh) hr (λ_ h=>h) (hown id (by simp[aF]))
     ·cases hp
    ·cases hp
   ·cases hp
 | .mptr _ _ _ _ _,u,c,_,h,hp=>by grind[pur]
 | .strct cs,u,c,hown,h,hp=>by
   simp only[pur]at hp;obtain⟨us,hus,rfl⟩:=zAb.1 hp;simp only[rep]at h⊢;obtain⟨arr,h1,h2,h3⟩:=h;exact⟨arr,h1,cz H hM (by simpa only[aF]using hown) h2 hus,h3⟩
 | .ptr _ _,u,c,_,h,hp=>by grind[pur]
 | .eptr _ _ _ _,u,c,_,h,hp=>by grind[pur]
 | .sptr x off,u,c,_,h,hp=>by simp only[pur]at hp;cases hp;exact aO hM (X:=NX) (λ_ _ h=>h) (.sptr x off) c h
 | .nilptr,u,c,_,h,hp=>by simp only[pur]at hp;cases hp;exact h
 | .fn f x y,u,c,hown,h,hp=>by
   simp only[pur]at hp;split at hp
   ·rename_i x' y' hx hy
    cases hp;simp only[rep]at h⊢;obtain⟨a1,a2,h1,h2,h3⟩:=h;simp only[aF,zAe]at hown;exact⟨a1,a2,h1,cz H hM (λid hi=>hown id (.inl hi)) h2 hx,cz H hM (λid hi=>hown id (.inr hi)) h3 hy⟩
   ·cases hp
 | .nilfn,u,c,_,h,hp=>by simp only[pur]at hp;cases hp;exact h
 | .iface t x,u,c,hown,h,hp=>by
   simp only[pur]at hp;obtain⟨x',hx,rfl⟩:=zAb.1 hp;simp only[rep]at h⊢;obtain⟨y,h1,h2⟩:=h;exact⟨y,h1,yf H hM (by simpa only[aF]using hown) h2 hx⟩
 | .niliface,u,c,_,h,hp=>by simp only[pur]at hp;cases hp;exact h
 | .tup vs,u,c,hown,h,hp=>by
   simp only[pur]at hp;obtain⟨us,hus,rfl⟩:=zAb.1 hp;simp only[rep]at h⊢;obtain⟨arr,h1,h2⟩:=h;exact⟨arr,h1,cz H hM (by simpa only[aF]using hown) h2 hus⟩
 | .junk,u,c,_,h,hp=>by simp only[pur]at hp;cases hp;exact h
theorem cz(H:Rel N M0 B w0 κ M σ a w){M':Mem}(hM:∀p v,M p=ś v->M' p=ś v):∀{vs us:List V}{cs:List Value}(hown:∀id∈ax vs,∀g,κ.bl id g->∀p,p.block=g->M' p=w.cell? p),af M (XX κ σ.h) vs cs->purs σ.h vs=ś us->af M' NX us cs
 |[],us,cs,_,h,hp=>by simp only[purs]at hp;cases hp;exact h
 |v::vs,us,cs,hown,h,hp=>by
   simp only[purs]at hp;split at hp
   ·rename_i u us' hu hus
    cases hp;simp only[af]at h⊢;obtain⟨c,cs',h1,h2,h3⟩:=h;simp only[ax,zAe]at hown;exact⟨c,cs',h1,yf H hM (λid hi=>hown id (.inl hi)) h2 hu,cz H hM (λid hi=>hown id (.inr hi)) h3 hus⟩
   ·cases hp
end
mutual
theorem rE{M M':Mem}{X X':V->Value->Prop}:∀{v:V}{c:Value},dA v=ť->rep M X v c->rep M' X' v c
 | .int _ _,_,_,h=>h
 | .bool _,_,_,h=>h
 | .str _,_,_,h=>h
 | .nil _,_,_,h=>h
 | .seq sz l,_,hf,h=>by
   grind[dA,rep]
 | .strct cs,c,hf,h=>by
   simp only[dA]at hf;simp only[rep]at h⊢;obtain⟨arr,h1,h2,h3⟩:=h;exact⟨arr,h1,lM hf h2,h3⟩
 | .ref _ _,_,hf,_=>by simp[dA]at hf
 | .ptr _ _,_,hf,_=>by simp[dA]at hf
 | .eptr _ _ _ _,_,hf,_=>by simp[dA]at hf
 | .mref _ _ _,_,hf,_=>by simp[dA]at hf
 | .fseq _ _,_,hf,_=>by simp[dA]at hf
 | .mptr _ _ _ _ _,_,hf,_=>by simp[dA]at hf
 | .sptr _ _,_,hf,_=>by simp[dA]at hf
 | .nilptr,_,_,h=>h
 | .fn f x y,c,hf,h=>by
   simp only[dA,zAc]at hf;simp only[rep]at h⊢;obtain⟨a1,a2,h1,h2,h3⟩:=h;exact⟨a1,a2,h1,lM hf.1 h2,lM hf.2 h3⟩
 | .nilfn,_,_,h=>h
 | .iface t x,c,hf,h=>by
   simp only[dA]at hf;simp only[rep]at h⊢;obtain⟨y,h1,h2⟩:=h;exact⟨y,h1,rE hf h2⟩
 | .niliface,_,_,h=>h
 | .tup vs,c,hf,h=>by
   simp only[dA]at hf;simp only[rep]at h⊢;obtain⟨arr,h1,h2⟩:=h;exact⟨arr,h1,lM hf h2⟩
 | .junk,_,_,h=>h
theorem lM{M M':Mem}{X X':V->Value->Prop}:∀{vs:List V}{cs:List Value},dJ vs=ť->af M X vs cs->af M' X' vs cs
 |[],_,_,h=>h
 |v::vs,cs,hf,h=>by
   simp only[dJ,zAc]at hf;simp only[af]at h⊢;obtain⟨c,cs',h1,h2,h3⟩:=h;exact⟨c,cs',h1,rE hf.1 h2,lM hf.2 h3⟩
end
mutual
theorem oC{M:Mem}{X:V->Value->Prop}:∀{v:V}{c:Value},rep M X v c->ok v
 | .int _ _,_,h=>by simp only[rep]at h;exact h.2
 | .bool _,_,_=>trivial
 | .str _,_,h=>by simp only[rep]at h;obtain⟨_,_,_,h⟩:=h;exact h
 | .nil _,_,_=>trivial
 | .seq sz l,_,h=>by
   simp only[rep]at h;obtain⟨a,cap,_,_,h2,_,h3⟩:=h;simp only[ok];refine⟨h2,?_⟩;rcases h3 with rfl|⟨b,off,_,h4⟩
   ·trivial
   ·exact PD h4
 | .strct cs,c,h=>by
   simp only[rep]at h;obtain⟨arr,_,h2,_⟩:=h;simp only[ok];exact gI h2
 | .ref _ _,_,_=>trivial
 | .ptr _ _,_,_=>trivial
 | .eptr _ _ _ _,_,_=>trivial
 | .mref _ _ _,_,_=>trivial
 | .fseq _ _,_,_=>trivial
 | .mptr _ _ _ _ _,_,_=>trivial
 | .sptr x _,_,h=>by
   simp only[rep]at h;obtain⟨_,_,y,_,h2,_⟩:=h;simp only[ok];exact oC h2
 | .nilptr,_,_=>trivial
 | .fn f x y,c,h=>by
   simp only[rep]at h;obtain⟨a1,a2,h1,h2,h3⟩:=h;exact⟨gI h2,gI h3⟩
 | .nilfn,_,_=>trivial
 | .iface t x,c,h=>by
   simp only[rep]at h;obtain⟨y,h1,h2⟩:=h;simp only[ok];exact oC h2
 | .niliface,_,_=>trivial
 | .tup vs,c,h=>by
   simp only[rep]at h;obtain⟨arr,h1,h2⟩:=h;simp only[ok];exact gI h2
 | .junk,_,_=>trivial
theorem gI{M:Mem}{X:V->Value->Prop}:∀{vs:List V}{cs:List Value},af M X vs cs->oks vs
 |[],_,_=>trivial
 |v::vs,cs,h=>by
   simp only[af]at h;obtain⟨c,cs',h1,h2,h3⟩:=h;exact⟨oC h2,gI h3⟩
theorem PD{M:Mem}:∀{sz:Nat}{l:List V}{b off:Nat},cx M sz l b off->oks l
 |_,[],_,_,_=>trivial
 |sz,v::vs,b,off,h=>by
   simp only[cx]at h;obtain⟨⟨y,h1,_⟩,h2⟩:=h;exact⟨oC h1,PD h2⟩
end
def rm(κ:Kap)(ids:List Nat):Nat->Prop:=λg=>∃id∈ids,κ.bl id g
theorem eC{g ids}:rm κ ids g↔∃id∈ids,κ.bl id g:=zBc
theorem AX:∀(ids:List Nat)(σ:St),(σ.kill ids).r=σ.r/\(σ.kill ids).h.length=σ.h.length/\∀i ob,(σ.kill ids).h[i]?=ś (ś ob)->σ.h[i]?=ś (ś ob)/\i ∉ ids
 |[],σ=>⟨rfl,rfl,λi ob h=>⟨h,by simp⟩⟩
 |id::ids,σ=>by
   simp only[St.kill];obtain⟨h1,h2,h3⟩:=AX ids { σ with h:=σ.h.set id ń }
   refine⟨h1,by simpa using h2,λi ob h=>?_⟩
   obtain⟨h4,h5⟩:=h3 i ob h;simp only[zBf]at h4;split at h4
   ·rename_i he
    split at h4<;>cases h4
   ·rename_i he
    exact⟨h4,by simp;exact⟨λe=>he e.symm,h5⟩⟩
theorem Rel.kill(H:Rel N M0 B w0 κ M σ a w)(ids)(hin:∀id∈ids,∃ob,σ.h[id]?=ś (ś ob)):
 Rel N M0 B w0 κ (ext M w (rm κ ids)) (σ.kill ids) a w/\(∀p v,M p=ś v->ext M w (rm κ ids) p=ś v):=by
 obtain⟨k1,k2,k3⟩:=AX ids σ
 have hM:∀p v,M p=ś v->ext M w (rm κ ids) p=ś v:=by
  intro p v h;unfold ext;split
  ·exact H.snd p v h
  ·exact h
 have hs:∀p v,ext M w (rm κ ids) p=ś v->w.cell? p=ś v:=by
  intro p v h;unfold ext at h;split at h
  ·exact h
  ·exact H.snd p v h
 have hX:∀v c,XX κ σ.h v c->XX κ (σ.kill ids).h v c:=λv c hx=>abk hx (by omega) (λ_ _=>rfl) (λ_ _=>rfl) (λi ob hi h=>(k3 i ob h).1)
 refine⟨{ dfr:=H.dfr,jst:=H.jst,pin:=H.pin,size:=H.size,regs:=?_,heap:=?_,inj:=?_,snd:=hs,sep:=?_,sub:=⟨λp v h=>hM p v (H.sub.sub p v h),λp v h=>hM p v (H.sub.fmS p v h),H.sub.fmN,H.sub.fbn,H.sub.gl⟩,new:=?_,base:=H.base,blw:=H.blw },hM⟩
 ·intro t v ht
  rw[k1]at ht;obtain⟨h1,c,h2,h3⟩:=H.regs t v ht;grind[aO]
 ·intro id ob h
  exact i6 hM hX ⟨rfl,rfl,rfl⟩ (λ_ _=>rfl) H.jst (Und.refl _ _) hs (H.heap id ob (k3 id ob h).1)
 ·intro i j oi oj g hi hj
  exact H.inj i j oi oj g (k3 i oi hi).1 (k3 j oj hj).1
 ·intro p v hp id ob h
  obtain⟨h1,h2⟩:=k3 id ob h;unfold ext at hp;split at hp
  ·rename_i hm
   obtain⟨id',h3,h4⟩:=eC.1 hm;obtain⟨ob',h5⟩:=hin id' h3;intro hg;have:=H.inj id' id ob' ob p.block h5 h1 h4 hg;simp_all
  ·exact H.sep p v hp id ob h1
 ·intro p v hp
  unfold ext at hp;split at hp
  ·rename_i hm
   obtain⟨id',h3,h4⟩:=eC.1 hm;obtain⟨ob',h5⟩:=hin id' h3;exact .inr (H.blk_lt h5 h4).1
  ·exact H.new p v hp
mutual
theorem Yf{h:List (Option Ob)}:∀{v u:V},pur h v=ś u->∀id∈aF v,∃ob,h[id]?=ś (ś ob)
 | .int _ _,_,_,_,hi=>by simp[aF]at hi
 | .bool _,_,_,_,hi=>by simp[aF]at hi
 | .str _,_,_,_,hi=>by simp[aF]at hi
 | .nil _,_,_,_,hi=>by simp[aF]at hi
 | .seq _ _,_,_,_,hi=>by simp[aF]at hi
 | .sptr _ _,_,_,_,hi=>by simp[aF]at hi
 | .nilptr,_,_,_,hi=>by simp[aF]at hi
 | .nilfn,_,_,_,hi=>by simp[aF]at hi
 | .niliface,_,_,_,hi=>by simp[aF]at hi
 | .junk,_,_,_,hi=>by simp[aF]at hi
 | .ref i n,u,hp,id,hi=>by
   grind[aF,zAi,pur,pur1]
 | .fseq _ _,_,_,_,hi=>by simp[aF]at hi
 | .mref j i n,u,hp,id,hi=>by
   grind[aF,zAi,pur,pur2]
 | .mptr _ _ _ _ _,_,hp,_,_=>by grind[pur]
 | .ptr _ _,_,hp,_,_=>by grind[pur]
 | .eptr _ _ _ _,_,hp,_,_=>by grind[pur]
 | .strct cs,u,hp,id,hi=>by
   simp only[pur]at hp;obtain⟨us,hus,_⟩:=zAb.1 hp;exact eT hus id (by simpa only[aF]using hi)
 | .tup cs,u,hp,id,hi=>by
   simp only[pur]at hp;obtain⟨us,hus,_⟩:=zAb.1 hp;exact eT hus id (by simpa only[aF]using hi)
 | .fn f x y,u,hp,id,hi=>by
   simp only[pur]at hp;split at hp
   ·rename_i x' y' hx hy
    simp only[aF,zAe]at hi;rcases hi with hi|hi
    ·exact eT hx id hi
    ·exact eT hy id hi
   ·cases hp
 | .iface t x,u,hp,id,hi=>by
   simp only[pur]at hp;obtain⟨x',hx,_⟩:=zAb.1 hp;exact Yf hx id (by simpa only[aF]using hi)
theorem eT{h:List (Option Ob)}:∀{vs us:List V},purs h vs=ś us->∀id∈ax vs,∃ob,h[id]?=ś (ś ob)
 |[],_,_,_,hi=>by simp[ax]at hi
 |v::vs,us,hp,id,hi=>by
   simp only[purs]at hp;split at hp
   ·rename_i u us' hu hus
    simp only[ax,zAe]at hi;rcases hi with hi|hi
    ·exact Yf hu id hi
    ·exact eT hus id hi
   ·cases hp
end
def Gu:List Rw->Bool
 |[]=>ť
 | .a r::l=>dJ r&&Gu l
 | .g _::_=>ğ
theorem WC:∀{rows:List Rw}{i:Nat}{r:List V},Gu rows=ť->bq rows i=ś r->dJ r=ť
 |[],i,r,_,h=>by simp[bq]at h
 | .a x::rows,i,r,hf,h=>by
   simp only[Gu,zAc]at hf;cases i with
   |zero=>grind[bq]
   |succ i=>exact WC (i:=i) hf.2 (by grind[bq])
 | .g _::rows,i,r,hf,h=>by simp[Gu]at hf
mutual
def fre(h:List (Option Ob)):V->Bool
 | .ref id _=>match h[id]? with
   |some (ś (.arr _ _ l))=>dJ l
   |some (ś (.mat _ _ _ rows))=>Gu rows
   |_=>ğ
 | .nil _=>ť
 | .strct cs=>KU h cs
 | .tup cs=>KU h cs
 | .int _ _=>ť
 | .bool _=>ť
 | .str _=>ť
 | .nilptr=>ť
 | .nilfn=>ť
 | .niliface=>ť
 | .seq _ l=>l.isEmpty
 | .fseq _ _=>ť
 |_=>ğ
def KU(h:List (Option Ob)):List V->Bool
 |[]=>ť
 |v::vs=>fre h v&&KU h vs
end
theorem vM{M M' sz}:∀{l:List V}{xs:List Value},dJ l=ť->aB M sz l xs->aB M' sz l xs
 |[],_,_,h=>h
 |v::vs,xs,hf,h=>by
   simp only[dJ,zAc]at hf;simp only[aB]at h⊢;obtain⟨y,rest,h1,h2,h3,h4,h5⟩:=h;exact⟨y,rest,h1,rE hf.1 h2,h3,h4,vM hf.2 h5⟩
mutual
theorem aiJ(H:Rel N M0 B w0 κ M σ a w){Mn:Mem}(hfm:∀p v,κ.fm p=ś v->Mn p=ś v):∀{v u:V}{c:Value}(hown:∀id∈aF v,∀g,κ.bl id g->∀p,p.block=g->Mn p=w.cell? p),fre σ.h v=ť->rep M (XX κ σ.h) v c->pur σ.h v=ś u->rep Mn NX u c
 | .ref id n,u,c,hown,hf,h,hp=>by
   simp only[pur,pur1]at hp;split at hp
   ·rename_i e sz l hh
    split at hp
    ·rename_i hn
     cases hp;simp only[fre,hh]at hf;simp only[rep,XX]at h;have hc:=(h.2.2.1 e sz l hh).2 hn;obtain⟨h0,h1,xs,h2,h3,_,hbl⟩:=H.heap id _ hh;rw[hc];exact B5 (Mr:=Mn) (λ_ _ h=>h) h2 (vM hf h3) h0 h1 λg hg=>hown id (by simp[aF]) g ((hbl g).2 hg)
    ·cases hp
   ·rename_i e e2 sz rows hh
    split at hp
    ·rename_i hn
     obtain⟨vs,hvs,rfl⟩:=zAb.1 hp;simp only[fre,hh]at hf;simp only[rep,XX]at h;have hc:=(h.2.2.2.1 e e2 sz rows hh).2 hn;rw[hc];exact aaN (Mr:=Mn) (λ_ _ h=>h) (H.heap id _ hh) (λi r xs hi h=>vM (WC hf hi) h) hvs (hown id (by simp[aF]))
    ·cases hp
   ·cases hp
 | .nil sz,u,c,_,_,h,hp=>by
   grind[pur,rep]
 | .strct cs,u,c,hown,hf,h,hp=>by
   simp only[pur]at hp;obtain⟨us,hus,rfl⟩:=zAb.1 hp;simp only[rep]at h⊢;obtain⟨arr,h1,h2,h3⟩:=h;exact⟨arr,h1,C1 H hfm (by simpa only[aF]using hown) (by simpa only[fre]using hf) h2 hus,h3⟩
 | .tup cs,u,c,hown,hf,h,hp=>by
   simp only[pur]at hp;obtain⟨us,hus,rfl⟩:=zAb.1 hp;simp only[rep]at h⊢;obtain⟨arr,h1,h2⟩:=h;exact⟨arr,h1,C1 H hfm (by simpa only[aF]using hown) (by simpa only[fre]using hf) h2 hus⟩
 | .int _ _,_,_,_,_,h,hp=>by simp only[pur]at hp;cases hp;exact h
 | .bool _,_,_,_,_,h,hp=>by simp only[pur]at hp;cases hp;exact h
 | .str _,_,_,_,_,h,hp=>by simp only[pur]at hp;cases hp;exact h
 | .nilptr,_,_,_,_,h,hp=>by simp only[pur]at hp;cases hp;exact h
 | .nilfn,_,_,_,_,h,hp=>by simp only[pur]at hp;cases hp;exact h
 | .niliface,_,_,_,_,h,hp=>by simp only[pur]at hp;cases hp;exact h
 | .seq sz l,_,_,_,hf,h,hp=>by
   grind[pur,rE,dA,fre]
 | .ptr _ _,_,_,_,hf,_,_=>by grind[fre]
 | .eptr _ _ _ _,_,_,_,hf,_,_=>by grind[fre]
 | .mref _ _ _,_,_,_,hf,_,_=>by grind[fre]
 | .fseq sz l,_,c,_,_,h,hp=>by
   simp only[pur]at hp;cases hp;simp only[rep,XX]at h;exact aO hfm (X:=NX) (λ_ _ h=>h) (.seq sz l) c (by grind[rep])
 | .mptr _ _ _ _ _,_,_,_,hf,_,_=>by grind[fre]
 | .sptr _ _,_,_,_,hf,_,_=>by grind[fre]
 | .fn _ _ _,_,_,_,hf,_,_=>by grind[fre]
 | .iface _ _,_,_,_,hf,_,_=>by grind[fre]
 | .junk,_,_,_,hf,_,_=>by grind[fre]
theorem C1(H:Rel N M0 B w0 κ M σ a w){Mn:Mem}(hfm:∀p v,κ.fm p=ś v->Mn p=ś v):∀{vs us:List V}{cs:List Value}(hown:∀id∈ax vs,∀g,κ.bl id g->∀p,p.block=g->Mn p=w.cell? p),KU σ.h vs=ť->af M (XX κ σ.h) vs cs->purs σ.h vs=ś us->af Mn NX us cs
 |[],us,cs,_,_,h,hp=>by simp only[purs]at hp;cases hp;exact h
 |v::vs,us,cs,hown,hf,h,hp=>by
   simp only[purs]at hp;split at hp
   ·rename_i u us' hu hus
    cases hp;simp only[KU,zAc]at hf;simp only[af]at h⊢;obtain⟨c,cs',h1,h2,h3⟩:=h;exact⟨c,cs',h1,aiJ H hfm (λid hid=>hown id (by simp only[ax,zAe];exact .inl hid)) hf.1 h2 hu,C1 H hfm (λid hid=>hown id (by simp only[ax,zAe];exact .inr hid)) hf.2 h3 hus⟩
   ·cases hp
end
end
section
variable{P:Program}{N:Nat}{M0:Mem}{B:Bas}{w0:World}{κ:Kap}{M:Mem}{σ:St}{a:Act}{w w':World}
theorem d3:∀(l acc:List Nat),acc.Nodup->(jg acc l).Nodup
 |[],acc,h=>h
 |k::ks,acc,h=>by
   simp only[jg];split
   ·exact d3 ks acc h
   ·rename_i hk
    refine d3 ks _ ?_;rw[zFe];exact⟨h,by simp,λx hx y hy=>by simp at hy;subst hy;rintro rfl;grind[rM]⟩
theorem oU{id}:∀{m:List Nat}{j:Nat},idx id m=ś j->m[j]?=ś id
 |[],j,h=>by simp[idx]at h
 |k::ks,j,h=>by
   simp only[idx]at h;split at h
   ·grind
   ·obtain⟨j',h1,rfl⟩:=zAb.1 h
    simpa using oU h1
theorem aaP{m:List Nat}:∀{r:List (Nat×V)}{t:Nat}{v:V},lk (Rb m r) t=ś v->∃u,lk r t=ś u/\v=ren m u
 |[],t,v,h=>by simp[Rb,lk]at h
 |(k,u)::r,t,v,h=>by
   simp only[Rb,lk]at h⊢;split at h
   ·rename_i he;rw[if_pos he];cases h;exact⟨u,rfl,rfl⟩
   ·rename_i he;rw[if_neg he];exact aaP h
theorem oD{h m}:∀{ids:List Nat}{j:Nat}{ob:Ob},(kN h m ids)[j]?=ś (ś ob)->∃id ob',ids[j]?=ś id/\h[id]?=ś (ś ob')/\gZ m (ś ob')=ś ob
 |[],j,ob,hj=>by simp[kN]at hj
 |id::ids,0,ob,hj=>by
   simp only[kN,zEa,zA]at hj;cases hg:h[id]? with
   |none=>grind[zCb,gZ]
   |some o=>
     cases o with
     |none=>grind[zCb,gZ]
     |some ob'=>simp_all
 |id::ids,j+1,ob,hj=>by
   simp only[kN,zAj]at hj⊢;exact oD hj
theorem iX{h m}:∀{ids:List Nat},(kN h m ids).length=ids.length
 |[]=>rfl
 |id::ids=>by simp[kN,iX]
mutual
theorem Ii{m:List Nat}{X X':V->Value->Prop}(hX:∀v c,X v c->rep M X' (ren m v) c):∀{v:V}{c:Value},rep M X v c->rep M X' (ren m v) c
 | .int _ _,_,h=>h
 | .bool _,_,h=>h
 | .str _,_,h=>h
 | .nil _,_,h=>h
 | .seq _ _,_,h=>h
 | .sptr _ _,_,h=>h
 | .nilptr,_,h=>h
 | .nilfn,_,h=>h
 | .niliface,_,h=>h
 | .junk,_,h=>h
 | .ref _ _,_,h=>hX _ _ h
 | .ptr _ _,_,h=>hX _ _ h
 | .eptr _ _ _ _,_,h=>hX _ _ h
 | .mref _ _ _,_,h=>hX _ _ h
 | .fseq _ _,_,h=>hX _ _ h
 | .mptr _ _ _ _ _,_,h=>hX _ _ h
 | .strct cs,c,h=>by
   simp only[rep,ren]at h⊢;obtain⟨arr,h1,h2,h3⟩:=h;exact⟨arr,h1,lN hX h2,h3⟩
 | .tup cs,c,h=>by
   simp only[rep,ren]at h⊢;obtain⟨arr,h1,h2⟩:=h;exact⟨arr,h1,lN hX h2⟩
 | .fn f x y,c,h=>by
   simp only[rep,ren]at h⊢;obtain⟨a1,a2,h1,h2,h3⟩:=h;exact⟨a1,a2,h1,lN hX h2,lN hX h3⟩
 | .iface t x,c,h=>by
   simp only[rep,ren]at h⊢;obtain⟨y,h1,h2⟩:=h;exact⟨y,h1,Ii hX h2⟩
theorem lN{m:List Nat}{X X':V->Value->Prop}(hX:∀v c,X v c->rep M X' (ren m v) c):∀{vs:List V}{cs:List Value},af M X vs cs->af M X' (fq m vs) cs
 |[],_,h=>h
 |v::vs,cs,h=>by
   simp only[af,fq]at h⊢;obtain⟨c,cs',h1,h2,h3⟩:=h;exact⟨c,cs',h1,Ii hX h2,lN hX h3⟩
end
def Kap.ren(κ:Kap)(m:List Nat):Kap:=⟨λj=>κ (m.getD j 0),λj=>κ.row (m.getD j 0),λj=>κ.bl (m.getD j 0),κ.fm⟩
theorem U9{m o e sz l}(h:gZ m (ś o)=ś (.arr e sz l)):o=.arr e sz l:=by
 cases o<;>simp only[gZ,zA]at h<;>first|exact h|cases h
theorem B8{m o e e2 sz l}(h:gZ m (ś o)=ś (.mat e e2 sz l)):o=.mat e e2 sz l:=by
 cases o<;>simp only[gZ,zA]at h<;>first|exact h|cases h
theorem aeX{m : List Nat}{o : Ob}{l : List V}(h : gZ m (some o) = some (.box l)) : ∃l',o = .box l' /\ l = fq m l' := by
  cases o <;> simp only[gZ,Option.some.injEq]at h
  ·cases h;exact⟨_,rfl,rfl⟩
  ·cases h
  ·cases h
  ·cases h
  ·cases h
  ·cases h
  ·cases h
theorem U8{m o o'}(h:gZ m (ś o)=ś o')(hn:o'.nam=ť):o=o':=by
 cases o<;>simp only[gZ,zA]at h<;>first|exact h|(subst h;cases hn)
theorem L2{h m}(hm:m.Nodup):∀v c,XX κ h v c->rep M (XX (κ.ren m) (kN h m m)) (ren m v) c:=by
 intro v c hx;have key:∀{id j:Nat},m[j]?=ś id->(κ.ren m) j=κ id/\(κ.ren m).row j=κ.row id:=λ{id j} h=>by simp[Kap.ren,zCb,h]
 have back:∀{id j:Nat}{ob:Ob},m[j]?=ś id->(kN h m m)[j]?=ś (ś ob)->∃ob',h[id]?=ś (ś ob')/\gZ m (ś ob')=ś ob:=by
  grind[id,oD]
 cases v<;>simp only[XX]at hx
 case ref id n=>
  simp only[ren];split
  ·rename_i j hj
   have hmj:=oU hj;grind[rep,XX,iX,zAa,U9,B8,U8]
  ·exact hx.1
 case ptr id off=>
  simp only[ren];split
  ·rename_i j hj
   have hmj:=oU hj;simp only[rep,XX];rw[(key hmj).1];refine⟨hx.1,by grind[iX,zAa],λcs hl=>?_⟩
   obtain⟨ob',h2,h3⟩:=back hmj hl;obtain⟨l',rfl,rfl⟩:=aeX h3;simp_all
  ·exact hx.1
 case eptr id n i off=>
  simp only[ren];split
  ·rename_i j hj
   have hmj:=oU hj;grind[rep,XX,iX,zAa,U9,B8]
  ·exact hx.1
 case fseq sz l=>
  simp only[ren,rep,XX];exact hx
 case mref id i n=>
  simp only[ren];split
  ·rename_i j hj
   have hmj:=oU hj;grind[rep,XX,iX,zAa,B8]
  ·exact hx.1
 case mptr id i n k off=>
  simp only[ren];split
  ·rename_i j hj
   have hmj:=oU hj;grind[rep,XX,iX,zAa,B8]
  ·exact hx.1
theorem Rel.ren(H : Rel N M0 B w0 κ M σ a w){m : List Nat}(hm : m.Nodup)(r : List (Nat×V))(hr : ∀t v,lk r t = some v -> lk σ.r t = some v) :
    Rel N M0 B w0 (κ.ren m) M { r := Rb m r,h := kN σ.h m m } a w where
  dfr := H.dfr
  jst := H.jst
  pin := H.pin
  size := H.size
  regs := λt v ht => by
    obtain⟨u,h1,rfl⟩ := aaP ht;obtain⟨g1,c,g2,g3⟩ := H.regs t u (hr t u h1);exact⟨g1,c,g2,Ii (L2 hm) g3⟩
  heap := λj ob hj => by
    obtain⟨id,ob',h1,h2,h3⟩ := oD hj;have ho := H.heap id ob' h2;have hk : (κ.ren m) j = κ id /\ (κ.ren m).row j = κ.row id /\ (κ.ren m).bl j = κ.bl id := by simp[Kap.ren,List.getD,h1]
    cases ob' with
    |box cs =>
      simp only[gZ,Option.some.injEq]at h3;subst h3;simp only[bn]at ho⊢;rw[hk.1,hk.2.2];obtain⟨b,arr,T,g1,g2,g3,g4,g5⟩ := ho;exact⟨b,arr,T,g1,g2,g3,lN (L2 hm) g4,g5⟩
    |arr e sz l =>
      simp only[gZ,Option.some.injEq]at h3;subst h3;simp only[bn]at ho⊢;rw[hk.1,hk.2.2];exact ho
    |mat e e2 sz l =>
      simp only[gZ,Option.some.injEq]at h3;subst h3;simp only[bn]at ho⊢;rw[hk.1,hk.2.1,hk.2.2];exact ho
    |mp kt l =>
      simp only[gZ,Option.some.injEq]at h3;subst h3;simp only[bn]at ho⊢;rw[hk.1,hk.2.2];exact ho
    |tok c =>
      simp only[gZ,Option.some.injEq]at h3;subst h3;simp only[bn]at ho⊢;rw[hk.1,hk.2.2];exact ho
    |itr s p =>
      simp only[gZ,Option.some.injEq]at h3;subst h3;simp only[bn]at ho⊢;rw[hk.1,hk.2.2];exact ho
    |gh l =>
      simp only[gZ,Option.some.injEq]at h3;subst h3;simp only[bn]at ho⊢;rw[hk.1,hk.2.2];exact ho
  inj := λi j oi oj g hi hj gi gj => by
    obtain⟨i',oi',h1,h2,_⟩ := oD hi;obtain⟨j',oj',h3,h4,_⟩ := oD hj;have e1 : (κ.ren m).bl i = κ.bl i' := by simp[Kap.ren,List.getD,h1]
    have e2 : (κ.ren m).bl j = κ.bl j' := by simp[Kap.ren,List.getD,h3]
    rw[e1]at gi;rw[e2]at gj;have := H.inj i' j' oi' oj' g h2 h4 gi gj;subst this;exact(List.getElem?_inj (List.getElem?_eq_some_iff.1 h1).1 hm).1 (h1.trans h3.symm)
  snd := H.snd
  sep := λp v hp j ob hj => by
    obtain⟨id,ob',h1,h2,_⟩ := oD hj;have e1 : (κ.ren m).bl j = κ.bl id := by simp[Kap.ren,List.getD,h1]
    rw[e1];exact H.sep p v hp id ob' h2
  sub := H.sub
  new := H.new
  base := H.base
  blw := H.blw
end
structure Snd (M:Mem) (w:World):Prop where
 snd:∀p v,M p=ś v->w.cell? p=ś v
 gl:XA M
structure FnE (P:Program) (f:FuncId) (us:List V) (r:V):Prop where
 call:∀args w,(callFunc f args).run P w=.ok (.enter f args) w
 does:∀(M:Mem)(w:World)(cs:Array Value),Snd M w->af M NX us cs.toList->
  Calls P f cs w λe w'=>∃(c:Value)(M':Mem),e=.returned c/\rep M' NX r c/\Below w.heap.size w w'/\(∀p v,M' p=ś v->w'.cell? p=ś v)/\
   (∀p v,M p=ś v->M' p=ś v)/\∀p v,M' p=ś v->M p=ś v\/w.heap.size<=p.block
def Fn(P:Program)(f:FuncId)(us:List V)(r:V):Prop:=
 ∀(M:Mem)(w:World)(cs:Array Value),Snd M w->af M NX us cs.toList->
   ∀(o:Oper)(a:Act)(Nx:Act->World->Prop)(Q:Exit->Act->World->Prop),(∀(c:Value)(M':Mem)(w':World),rep M' NX r c->Below w.heap.size w w'->(∀p v,M' p=ś v->w'.cell? p=ś v)->
     (∀p v,M p=ś v->M' p=ś v)->(∀p v,M' p=ś v->M p=ś v\/w.heap.size<=p.block)->Nx (a.put o.dst c) w')->o.upon P a Nx Q ((callFunc f cs).run P w)
theorem FnE.fn{P f us r}(h:FnE P f us r):Fn P f us r:=by
 intro M w cs hM hus o a Nx Q hN;rw[h.call,Oper.upon_enter];refine(h.does M w cs hM hus).mono ?_;grind
structure Heap (κ:Kap) (M:Mem) (B:Bas) (w:World) (H:List (Option Ob)):Prop where
 heap:∀id ob,H[id]?=ś (ś ob)->bn κ M (XX κ H) B w id ob
 inj:∀i j oi oj g,H[i]?=ś (ś oi)->H[j]?=ś (ś oj)->κ.bl i g->κ.bl j g->i=j
 snd:∀p v,M p=ś v->w.cell? p=ś v
 sep:∀p v,M p=ś v->∀id ob,H[id]?=ś (ś ob)->¬κ.bl id p.block
 fmS:∀p v,κ.fm p=ś v->M p=ś v
 gl:XA M
 jst:Xz B
def amf(κ:Kap)(H:List (Option Ob))(g:Nat):Prop:=∃id ob,H[id]?=ś (ś ob)/\κ.bl id g
def dR(κ:Kap)(H:List (Option Ob))(w:World)(ps:List Nat)(cs:Array Value)(J:Nat->List (V×Bool)->(Nat->Prop)->Mem->World->Prop):Bas:=⟨w.heap.size,amf κ H,ps,cs,0,J,[]⟩
def FR(ρ:Option Nat):Fence:={ Fence.wide with round:=ρ }
def noJ:Nat->List (V×Bool)->(Nat->Prop)->Mem->World->Prop:=λ_ _ _ _ _=>False
structure EnvStep (S:Nat->Prop) (w:World) (S':Nat->Prop) (M M':Mem) (w':World):Prop where
 os:w'.os=w.os
 tape:w'.tape=w.tape
 output:w'.output=w.output
 size:w.heap.size<=w'.heap.size
 block:∀g,g<w.heap.size->¬S g->w'.heap[g]?=w.heap[g]?
 siz:∀(k:Nat)(cur:Array Value)(T:TypeId)(z:Nat×Nat),w.heap[k]?=ś (Obj.cells cur T z)->∃(cur':Array Value)(T':TypeId)(z':Nat×Nat),w'.heap[k]?=ś (Obj.cells cur' T' z')/\cur'.size=cur.size
 mem:∀p v,M p=ś v->M' p=ś v
 snd:∀p v,M' p=ś v->w'.cell? p=ś v
 new:∀p v,M' p=ś v->M p=ś v\/w.heap.size<=p.block\/S p.block
 sep:∀p v,M' p=ś v->¬S' p.block
 sub:∀g,S' g->S g\/w.heap.size<=g
 lt:∀g,S' g->g<w'.heap.size
def Aw(P:Program)(M0:Mem)(B:Bas):Prop:=
 ∀(k:Nat)(us:List V)(b:Bool)(l:List (V×Bool))(S:Nat->Prop)(M:Mem)(w:World)(cs:Array Value),B.J k ((.tup us,b)::l) S M w->Snd M w->(∀p v,M p=ś v->¬S p.block)->(∀p v,M p=ś v->M0 p=ś v\/B.own p.block)->af M NX us cs.toList->
   ∀(o:Oper)(a:Act)(Nx:Act->World->Prop)(Q:Exit->Act->World->Prop)(ρ:Option Nat),(∀(M':Mem)(S':Nat->Prop)(w':World),B.J k l S' M' w'->EnvStep S w S' M M' w'->Nx (a.put o.dst (.bool b)) w')->o.uponIn (FR ρ) 0 P a Nx Q ((Instr.yield k cs).run P w)
def FnH(P:Program)(f:FuncId)(ps:List Nat)(us:List V)(H:List (Option Ob))(r:V)(H':List (Option Ob)):Prop:=
 ∀(M:Mem)(w:World)(κ:Kap)(cs:Array Value)(J:Nat->List (V×Bool)->(Nat->Prop)->Mem->World->Prop),Aw P M (dR κ H w ps cs J)->Heap κ M (dR κ H w ps cs J) w H->af M (XX κ H) us cs.toList->
   ∀(o:Oper)(a:Act)(Nx:Act->World->Prop)(Q:Exit->Act->World->Prop),(∀(c:Value)(M':Mem)(w':World)(κ':Kap),rep M' (XX κ' H') r c->Und (dR κ H w ps cs J) w w'->Heap κ' M' (dR κ H w ps cs J) w' H'->
     (∀p v,M p=ś v->M' p=ś v)->(∀p v,M' p=ś v->M p=ś v\/(dR κ H w ps cs J).own p.block)->
     (∀i,i∈ps->∀u d,us[i]?=ś u->cs[i]?=ś d->rep M' (XX κ' H') u d)->Nx (a.put o.dst c) w')->o.upon P a Nx Q ((callFunc f cs).run P w)
def AL(w:World)(M:Mem):Mem:=λp=>if w.heap.size<=p.block then M p else ń
def FnN(P:Program)(f:FuncId)(us:List V)(r:V):Prop:=
 ∀(M:Mem)(w:World)(cs:Array Value),Snd M w->af M NX us cs.toList->
   ∀(o:Oper)(a:Act)(Nx:Act->World->Prop)(Q:Exit->Act->World->Prop),(∀(c:Value)(M':Mem)(w':World),rep (AL w M') NX r c->Below w.heap.size w w'->(∀p v,M' p=ś v->w'.cell? p=ś v)->Nx (a.put o.dst c) w')->o.upon P a Nx Q ((callFunc f cs).run P w)
theorem Vk{w M p v}(h:AL w M p=ś v):w.heap.size<=p.block/\M p=ś v:=by
 grind[AL]
def Cn(P:Program):Ctr:=⟨Fn P,FnN P,FnH P⟩
theorem rI{P M0 B}(h:B.J=noJ):Aw P M0 B:=λ_ _ _ _ _ _ _ _ hj=>by rw[h]at hj;exact hj.elim
theorem Jm{B}(h:B.J=noJ):Xz B:=λk l S M M' w w' hj=>by rw[h]at hj;exact hj.elim
theorem Fn.ext{P f us r fn e}(hf:P.funcs[f]?=ś fn)(hname:(fn.name == "runtime.NumGoroutine")=ğ)(hb:fn.body.isNone=ť)
 (hn:Extern.findNext fn=ń) (he:Extern.find fn=ś e) (hr:∀(M:Mem)(w:World)(cs:Array Value),Snd M w->af M NX us cs.toList->∃c,(e cs).run P w=.ok c w/\rep M NX r c):Fn P f us r:=by
 intro M w cs hM hus o a Nx Q hN;obtain⟨c,h1,h2⟩:=hr M w cs hM hus;rw[run_callFunc_extern hf hname hb hn he,h1];exact hN c M w h2 (Below.refl _ _) hM.snd (λ_ _ h=>h) (λ_ _ h=>.inl h)
def aiE(P:Program)(name:String)(t:TypeId):Option (Nat×FuncId):=
 match P.info? t with
 |some i=>match i.methods.find? (·.name == name)with
   |some m=>match m.path.toList,m.func,P.underlying t with
     |[],ś (f,ğ),ś (.pointer _)=>ń
     |[],ś (f,ť),ś (.pointer _)=>ś (t,f)
     |[],ś (f,ğ),ś _=>ś (t,f)
     |_,_,_=>ń
   |none=>ń
 |none=>ń
def ak5(P:Program)(name:String):List (Nat×FuncId):=(zEi P.types.size).filterMap (aiE P name)
def ldOf(P : Program)(e : TypeId) : Option (Nat×Bool) := match ik P e,G4 P e with
  |some n,some g => if g = true \/ n = 1 then some (n,g)else none
  |_,_ => none
def invG(P : Program)(name : String)(t : TypeId) : Option (Nat×FuncId×Option (Nat×Bool)) :=
  match P.info? t with
  |some i => match i.methods.find? (·.name == name)with
    |some m => match m.path.toList,m.func,P.underlying t with
      |[],some (f,false),some (.pointer e) => match ldOf P e with
        |some l => some (t,f,some l)
        |none => none
      |[],some (f,true),some (.pointer _) => some (t,f,none)
      |[],some (f,false),some _ => some (t,f,none)
      |_,_,_ => none
    |none => none
  |none => none
def invU(P : Program)(name : String) : List (Nat×FuncId×Option (Nat×Bool)) := (List.range P.types.size).filterMap (invG P name)
inductive LE (P : Program) : TypeId -> Op -> Act' -> Prop
  |alloc {ty e i z v} : P.info? e = some i -> i.zero = some z -> cV P e z = some v -> nt v = true -> LE P ty (.alloc e) (.alc (cl v))
  |box {ty e x y} : cO P e x = some y -> LE P ty (.box e x) (.box y)
  |store {ty t p x p' x' n} : cO P 0 p = some p' -> cO P t x = some x' -> ik P t = some n -> LE P ty (.store t p x) (.st n p' x')
  |s2b {ty s d x y e} : cO P s x = some y -> P.underlying s = some .string -> P.underlying d = some (.slice e) -> P.underlying e = some (.int .u8) -> LE P ty (.convert s d x) (.s2b y)
  |lit {ty t len parts xs e n i z} : P.underlying t = some (.slice e) -> P.info? e = some i -> i.size = n -> 0<n -> i.zero = some z -> z.cells.size = n -> len*n <= 16777216 -> parts.toList.map (·.1) = List.range len ->
      cOs P (List.replicate len e) (parts.toList.map (·.2)) = some xs -> LE P ty (.buildSlice t len parts) (.lit e n xs)
  |ltr {ty t len parts xs e n i z} : P.underlying t = some (.slice e) -> P.info? e = some i -> i.size = n -> 0<n -> i.zero = some z -> z.cells.size = n -> len*n <= 16777216 -> parts.toList.map (·.1) = List.range len ->
      cOs P (List.replicate len e) (parts.toList.map (·.2)) = some xs -> LE P ty (.buildSlice t len parts) (.ltr e n xs)
  |app {ty t x y x' y' e i z n by'} : P.underlying t = some (.slice e) -> P.info? e = some i -> i.zero = some z -> i.size = n -> i.bytes = by' -> 0<by' -> z.cells.size = n -> 0<n -> cO P t x = some x' -> cO P t y = some y' ->
      LE P ty (.call { callee := .builtin .append,args := #[x,y],argTypes := #[t,t] }) (.app x' y' e n by')
  |mk0 {ty t k l l' e i z n by'} : P.underlying t = some (.slice e) -> P.info? e = some i -> i.zero = some z -> i.size = n -> i.bytes = by' -> 0<by' -> 0<n -> cO P 0 l = some l' ->
      LE P ty (.makeSlice t (.const (.int k 0)) l) (.mk0 e n by' l')
  |mkm {ty t l l' e i n by' e2 i2} : P.underlying t = some (.slice e) -> P.info? e = some i -> i.zero = some (.slice none 0 0) -> i.size = 1 -> i.bytes = by' -> 0<by' -> P.underlying e = some (.slice e2) -> P.info? e2 = some i2 -> i2.size = n -> 0<n -> cO P 0 l = some l' ->
      LE P ty (.makeSlice t l l) (.mkm e by' e2 n l')
  |mks {ty t l l' e i z v v' n by'} : P.underlying t = some (.slice e) -> P.info? e = some i -> i.zero = some z -> cV P e z = some v -> nt v = true -> pur [] v = some v' -> i.size = n -> i.bytes = by' -> 0<by' -> 0<n -> cO P 0 l = some l' ->
      z.cells.size = n -> LE P ty (.makeSlice t l l) (.mks e n by' v' l')
  |call {ty f args ts xs} : cOs P ts.toList args.toList = some xs -> LE P ty (.call { callee := .value (.func f),args := args,argTypes := ts }) (.call f xs)
  |callH {ty f args ts xs} : cOs P ts.toList args.toList = some xs -> LE P ty (.call { callee := .value (.func f),args := args,argTypes := ts }) (.callH f xs)
  |b2s {ty s d x u e} : cO P s x = some u -> P.underlying s = some (.slice e) -> P.underlying e = some (.int .u8) -> P.underlying d = some .string -> LE P ty (.convert s d x) (.b2s u)
  |mkp {ty t K E kt} : P.underlying t = some (.map K E) -> ktT P K = some kt -> LE P ty (.makeMap t none) (.mkp kt)
  |mup {ty t K E x k v u b c kt} : P.underlying t = some (.map K E) -> ktT P K = some kt -> cO P t x = some u -> cO P K k = some b -> cO P E v = some c -> LE P ty (.mapUpdate t x k v) (.mup kt u b c)
  |mui {ty t K E x k v u b c kt} : P.underlying t = some (.map K E) -> ktT P K = some kt -> cO P t x = some u -> cO P K k = some b -> cO P E v = some c -> LE P ty (.insert t x k v) (.mup kt u b c)
  |inv {ty r x name args ts xs tbl} : cO P 0 r = some x -> ak5 P name = tbl -> cOs P ts.toList args.toList = some xs -> LE P ty (.call { callee := .invoke r name,args := args,argTypes := ts }) (.inv tbl x xs)
  |ivp {ty r x name args ts xs tbl} : cO P 0 r = some x -> invU P name = tbl -> cOs P ts.toList args.toList = some xs -> LE P ty (.call { callee := .invoke r name,args := args,argTypes := ts }) (.ivp tbl x xs)
  |trc {ty t x hi u hi' e n} : cO P t x = some u -> cO P 0 hi = some hi' -> P.underlying t = some (.slice e) -> ik P e = some n -> LE P ty (.slice t x none (some hi) none) (.trc u hi' n)
  |yld {ty g args ts xs} : cOs P ts.toList args.toList = some xs -> LE P ty (.call { callee := .value (.tmp g),args := args,argTypes := ts }) (.yld (.t g) xs)
  |rgs {ty t x u} : cO P t x = some u -> P.underlying t = some .string -> LE P ty (.range t x) (.rgs u)
  |nxs {ty x u} : cO P 0 x = some u -> LE P ty (.next x true) (.nxs u)
  |callv {ty g args ts xs} : cOs P ts.toList args.toList = some xs -> LE P ty (.call { callee := .value (.tmp g),args := args,argTypes := ts }) (.callv (.t g) xs)
section
variable{P:Program}{N:Nat}{M0:Mem}{B:Bas}{w0:World}{κ:Kap}{M:Mem}{σ:St}{a:Act}{w w':World}
theorem dv(w)(o):Below w.heap.size w (w.alloc o):=(Below.refl _ _).alloc (zDe _) _
theorem aaR(ids)(σ:St):(σ.kill ids).r=σ.r:=(AX ids σ).1
theorem BB(H:Rel N M0 B w0 κ M σ a w){d}(hd:∀t,d=ś t->t<N/\t ∉ B.ps){f vs us K}(hW:ry (Cn P) d f vs us K σ)(hp:purs σ.h vs=ś us)
 {cs} (hcs:af M (XX κ σ.h) vs cs.toList) {Nx} (hK:∀κ' M' σ' a' w',K σ'->Rel N M0 B w0 κ' M' σ' a' w'->Nx a' w') {Q} (o:Oper) (ho:o.dst=d):
 o.upon P a Nx Q ((callFunc f cs).run P w):=by
 subst ho;obtain⟨r,⟨(⟨hr,hf|hf⟩|hr),hk⟩|⟨hr,hk⟩|⟨hr,hk⟩⟩:=hW
 ·refine hr w.cell? w cs ⟨λ_ _ h=>h,(H.sub.gl.mono H.sub.sub).mono H.snd⟩ (cz H H.snd (λ_ _ _ _ _ _=>rfl) hcs hp) o a Nx Q ?_
  intro c M' w' h1 h2 h3 h4 h5;have H':=H.grow0 h2;exact hK _ _ _ _ _ (hk (oC h1)) (H'.put' hd (rE hf h1))
 ·refine hr M w cs ⟨H.snd,H.sub.gl.mono H.sub.sub⟩ ?_ o a Nx Q ?_
  ·refine cz H (λ_ _ h=>h) (λid hid=>?_) hcs hp
   simp_all
  ·intro c M' w' h1 h2 h3 h4 h5
   have H':=H.grow h2 h4 h3 h5;exact hK _ _ _ _ _ (hk (oC h1)) (H'.put' hd (aX h1))
 ·refine hr w.cell? w cs ⟨λ_ _ h=>h,(H.sub.gl.mono H.sub.sub).mono H.snd⟩ (cz H H.snd (λ_ _ _ _ _ _=>rfl) hcs hp) o a Nx Q ?_
  intro c M' w' h1 h2 h3;have hsub:∀p v,AL w M' p=ś v->w.heap.size<=p.block/\M' p=ś v:=λp v h=>Vk h
  have H':Rel N M0 B w0 κ (λp=>(M p).or (AL w M' p)) σ a w':=by
   refine H.grow h2 (λp v hp=>by simp[hp]) (λp v hp=>?_) (λp v hp=>?_)
   ·cases hm:M p with
    |none=>simp_all
    |some u=>
      simp[hm]at hp;subst hp;rw[h2.cell (H.mem_lt hm)];exact H.snd p u hm
   ·cases hm:M p with
    |none=>simp_all
    |some u=>simp_all
  refine hK _ _ _ _ _ (hk (oC h1)) (H'.put' hd (aX (aO (λp v hp=>?_) (λ_ _ h=>h) _ _ h1)));have:=(hsub p v hp).1;cases hm:M p with
  |none=>simp[hp]
  |some u=>have:=H.mem_lt hm;omega
 ·obtain⟨H1,hM1⟩:=H.kill (ax vs) (eT hp)
  refine hr (ext M w (rm κ (ax vs))) w cs ⟨H1.snd,H1.sub.gl.mono H1.sub.sub⟩ ?_ o a Nx Q ?_
  ·refine cz H hM1 (λid hid g hg p hpb=>?_) hcs hp
   unfold ext;rw[if_pos (eC.2 ⟨id,hid,by simp_all⟩)]
  ·intro c M' w' h1 h2 h3 h4 h5
   have H':=H1.grow h2 h4 h3 h5;exact hK _ _ _ _ _ (hk (oC h1)) (H'.put' hd (aX h1))
 ·refine hr w.cell? w cs ⟨λ_ _ h=>h,(H.sub.gl.mono H.sub.sub).mono H.snd⟩ (cz H H.snd (λ_ _ _ _ _ _=>rfl) hcs hp) o a Nx Q ?_
  intro c M' w' h1 h2 h3;have hsub:∀p v,AL w M' p=ś v->w.heap.size<=p.block/\M' p=ś v:=λp v h=>Vk h
  have hMn:∀p v,AL w M' p=ś v->(λp=>(M p).or (AL w M' p)) p=ś v:=λp v hp=>by
   have:=(hsub p v hp).1;cases hm:M p with
   |none=>simp[hm,hp]
   |some u=>have:=H.mem_lt hm;omega
  have H':Rel N M0 B w0 κ (λp=>(M p).or (AL w M' p)) σ a w':=by
   refine H.grow h2 (λp v hp=>by simp[hp]) (λp v hp=>?_) (λp v hp=>?_)
   ·cases hm:M p with
    |none=>simp_all
    |some u=>
      simp[hm]at hp;subst hp;rw[h2.cell (H.mem_lt hm)];exact H.snd p u hm
   ·cases hm:M p with
    |none=>simp_all
    |some u=>simp_all
  have H'':=H'.addF (F:=AL w M') (λp v hp=>⟨hMn p v hp,by have:=(hsub p v hp).1;have:=H.sub.fbn;have:=H.blw.size;have:=H.base;omega⟩)
  refine hK _ _ _ _ _ (hk (oC h1)) (H''.put' hd (afU hMn (λsz l c hc hr=>?_) h1));simp only[XX];refine⟨hc,aO (λp v hp=>?_) (X:=NX) (λ_ _ h=>h) _ _ hr⟩;simp only[Kap.add,zDd];cases hf:κ.fm p with
  |none=>simp_all
  |some u=>have:=H.mem_lt (H.sub.fmS p u hf);grind
theorem HY{n k j x}(h:(zFh n k)[j]?=ś x):x=n+j/\j<k:=by
 grind
theorem Pb:∀(ids:List Nat)(obs h:List (Option Ob)),(wr h ids obs).length=h.length
 |[],obs,h=>by simp[wr]
 |_::_,[],h=>by simp[wr]
 |id::ids,ob::obs,h=>by simp[wr,Pb ids obs]
theorem adE:∀(ids:List Nat)(obs h:List (Option Ob)),ids.Nodup->ids.length=obs.length->∀{i:Nat}{ob:Ob},(wr h ids obs)[i]?=ś (ś ob)->
 (∃j:Nat,ids[j]?=ś i/\obs[j]?=ś (ś ob))\/(i ∉ ids/\h[i]?=ś (ś ob))
 |[],obs,h,_,_,i,ob,hi=>by grind[wr]
 |id::ids,[],h,_,hl,i,ob,hi=>by simp at hl
 |id::ids,o::obs,h,hn,hl,i,ob,hi=>by
   simp only[wr]at hi;simp only[zGb]at hn;rcases adE ids obs _ hn.2 (by simp_all) hi with⟨j,h1,h2⟩|⟨h1,h2⟩
   ·exact .inl ⟨j+1,by simp_all,by simp_all⟩
   ·rw[zBf]at h2
    split at h2
    ·rename_i he
     subst he;split at h2
     ·exact .inl ⟨0,by simp,by simp_all⟩
     ·cases h2
    grind
theorem G1{m}:∀{H:List (Option Ob)},(Up m H).length=H.length
 |[]=>rfl
 |_::H=>by simp[Up,G1 (H:=H)]
theorem Xm{m}:∀{H:List (Option Ob)}{j:Nat}{ob:Ob},(Up m H)[j]?=ś (ś ob)->∃ob',H[j]?=ś (ś ob')/\rn m (ś ob')=ś ob
 |[],j,ob,h=>by simp[Up]at h
 |o::H,0,ob,h=>by
   simp only[Up,zEa,zA]at h;cases o with
   |none=>simp[rn]at h
   |some ob'=>simp_all
 |o::H,j+1,ob,h=>by
   simp only[Up,zAj]at h⊢;exact Xm h
mutual
theorem Uo{m:List Nat}{X X':V->Value->Prop}(hX:∀v c,X v c->rep M X' (bck m v) c):∀{v:V}{c:Value},rep M X v c->rep M X' (bck m v) c
 | .int _ _,_,h=>h
 | .bool _,_,h=>h
 | .str _,_,h=>h
 | .nil _,_,h=>h
 | .seq _ _,_,h=>h
 | .sptr _ _,_,h=>h
 | .nilptr,_,h=>h
 | .nilfn,_,h=>h
 | .niliface,_,h=>h
 | .junk,_,h=>h
 | .ref _ _,_,h=>hX _ _ h
 | .ptr _ _,_,h=>hX _ _ h
 | .eptr _ _ _ _,_,h=>hX _ _ h
 | .mref _ _ _,_,h=>hX _ _ h
 | .fseq _ _,_,h=>hX _ _ h
 | .mptr _ _ _ _ _,_,h=>hX _ _ h
 | .strct cs,c,h=>by
   simp only[rep,bck]at h⊢;obtain⟨arr,h1,h2,h3⟩:=h;exact⟨arr,h1,sl hX h2,h3⟩
 | .tup cs,c,h=>by
   simp only[rep,bck]at h⊢;obtain⟨arr,h1,h2⟩:=h;exact⟨arr,h1,sl hX h2⟩
 | .fn f x y,c,h=>by
   simp only[rep,bck]at h⊢;obtain⟨a1,a2,h1,h2,h3⟩:=h;exact⟨a1,a2,h1,sl hX h2,sl hX h3⟩
 | .iface t x,c,h=>by
   simp only[rep,bck]at h⊢;obtain⟨y,h1,h2⟩:=h;exact⟨y,h1,Uo hX h2⟩
theorem sl{m:List Nat}{X X':V->Value->Prop}(hX:∀v c,X v c->rep M X' (bck m v) c):∀{vs:List V}{cs:List Value},af M X vs cs->af M X' (so m vs) cs
 |[],_,h=>h
 |v::vs,cs,h=>by
   simp only[af,so]at h⊢;obtain⟨c,cs',h1,h2,h3⟩:=h;exact⟨c,cs',h1,Uo hX h2,sl hX h3⟩
end
theorem vn:∀(l acc:List Nat),∃t,jg acc l=acc++t
 |[],acc=>⟨[],by simp[jg]⟩
 |k::ks,acc=>by
   simp only[jg];split
   ·exact vn ks acc
   ·obtain⟨t,ht⟩:=vn ks (acc++[k])
    simp_all
theorem IK:∀(l acc:List Nat){x:Nat},x∈jg acc l->x∈acc\/x∈l
 |[],acc,x,h=>.inl h
 |k::ks,acc,x,h=>by
   simp only[jg]at h;split at h
   ·rcases IK ks acc h with h|h
    ·exact .inl h
    ·exact .inr (by simp[h])
   ·rcases IK ks _ h with h|h
    ·simp at h
     rcases h with h|h
     ·exact .inl h
     ·exact .inr (by simp[h])
    ·exact .inr (by simp[h])
theorem P7{h pvs vs}:(ir h pvs vs).2.Nodup/\(ir h pvs vs).2.take (ir h pvs vs).1=jg [] (ax pvs)/\(ir h pvs vs).1=(jg [] (ax pvs)).length:=by
 unfold ir;simp only;refine⟨d3 _ _ (d3 _ _ (d3 _ _ (d3 _ _ zGe))),?_,trivial⟩;obtain⟨t1,h1⟩:=vn (ax vs) (jg [] (ax pvs));obtain⟨t2,h2⟩:=vn (yO h (jg (jg [] (ax pvs)) (ax vs))) (jg (jg [] (ax pvs)) (ax vs));generalize hb:jg (jg (jg [] (ax pvs)) (ax vs)) (yO h (jg (jg [] (ax pvs)) (ax vs)))=b at *;obtain⟨t3,h3⟩:=vn (yO h b) b;simp_all
theorem Es{vs}:∀{ps:List Nat}{v:V},v∈c9 vs ps->∃i,i∈ps/\vs[i]?=ś v
 |[],v,h=>by simp[c9]at h
 |i::is,v,h=>by
   simp only[c9]at h;split at h
   ·rename_i u hu
    rcases zD.1 h with rfl|h
    ·simp_all
    ·obtain⟨j,h1,h2⟩:=Es h;exact⟨j,by simp[h1],h2⟩
   ·obtain⟨j,h1,h2⟩:=Es h;exact⟨j,by simp[h1],h2⟩
theorem Xh:∀{vs:List V}{v:V},σ.curs vs=ť->v∈vs->σ.cur v=ť
 |[],v,_,h=>by cases h
 |u::us,v,hc,h=>by
   simp only[St.curs,zAc]at hc;rcases zD.1 h with rfl|h
   ·exact hc.1
   ·exact Xh hc.2 h
mutual
theorem Lx{σ:St}{id:Nat}:∀{u:V},σ.cur u=ť->id∈aF u->∃v,σ.cur0 v=ť/\aF v=[id]
 | .fn _ a b,h,hi=>by
   simp only[St.cur,zAc]at h;simp only[aF,zAe]at hi;rcases hi with hi|hi
   ·exact r7 h.1 hi
   ·exact r7 h.2 hi
 | .strct cs,h,hi=>by simp only[St.cur]at h;simp only[aF]at hi;exact r7 h hi
 | .tup cs,h,hi=>by simp only[St.cur]at h;simp only[aF]at hi;exact r7 h hi
 | .iface _ x,h,hi=>by simp only[St.cur]at h;simp only[aF]at hi;exact Lx h hi
 | .int _ _,h,hi=>by simp[aF]at hi
 | .bool _,h,hi=>by simp[aF]at hi
 | .str _,h,hi=>by simp[aF]at hi
 | .nil _,h,hi=>by simp[aF]at hi
 | .seq _ _,h,hi=>by simp[aF]at hi
 | .fseq _ _,h,hi=>by simp[aF]at hi
 | .sptr _ _,h,hi=>by simp[aF]at hi
 | .nilptr,h,hi=>by simp[aF]at hi
 | .nilfn,h,hi=>by simp[aF]at hi
 | .niliface,h,hi=>by simp[aF]at hi
 | .junk,h,hi=>by simp[aF]at hi
 | .mref _ _ _,h,hi=>by grind[St.cur,St.cur0,aF]
 | .mptr _ _ _ _ _,h,hi=>by grind[St.cur,St.cur0,aF]
 | .ref a n,h,hi=>by
   simp only[aF,zAi]at hi;subst hi;simp only[St.cur,aF,zBi,zCe]at h;exact⟨_,h,rfl⟩
 | .ptr a n,h,hi=>by
   simp only[aF,zAi]at hi;subst hi;simp only[St.cur,aF,zBi,zCe]at h;exact⟨_,h,rfl⟩
 | .eptr a n i o,h,hi=>by
   simp only[aF,zAi]at hi;subst hi;simp only[St.cur,aF,zBi,zCe]at h;exact⟨_,h,rfl⟩
theorem r7{σ:St}{id:Nat}:∀{u:List V},σ.curA u=ť->id∈ax u->∃v,σ.cur0 v=ť/\aF v=[id]
 |[],_,hi=>by simp[ax]at hi
 |v::vs,h,hi=>by
   simp only[St.curA,zAc]at h;simp only[ax,zAe]at hi;rcases hi with hi|hi
   ·exact Lx h.1 hi
   ·exact r7 h.2 hi
end
mutual
theorem yu{σ:St}{id:Nat}{m:List Nat}{M M':Mem}{X X':V->Value->Prop}:∀{u:V}{d:Value},σ.cur u=ť->rep M X u d->rep M' X' (ren m u) d->id∈aF u->∃v c,σ.cur0 v=ť/\aF v=[id]/\rep M X v c/\rep M' X' (ren m v) c
 | .fn _ a b,d,h,h1,h2,hi=>by
   simp only[St.cur,zAc]at h;simp only[aF,zAe]at hi;simp only[ren,rep]at h1 h2;obtain⟨a1,a2,rfl,g1,g2⟩:=h1;obtain⟨b1,b2,e,g3,g4⟩:=h2;cases e;rcases hi with hi|hi
   ·exact pp h.1 g1 g3 hi
   ·exact pp h.2 g2 g4 hi
 | .strct cs,d,h,h1,h2,hi=>by
   simp only[St.cur]at h;simp only[aF]at hi;simp only[ren,rep]at h1 h2;obtain⟨a1,rfl,g1,_⟩:=h1;obtain⟨b1,e,g3,_⟩:=h2;cases e;exact pp h g1 g3 hi
 | .tup cs,d,h,h1,h2,hi=>by
   simp only[St.cur]at h;simp only[aF]at hi;simp only[ren,rep]at h1 h2;obtain⟨a1,rfl,g1⟩:=h1;obtain⟨b1,e,g3⟩:=h2;cases e;exact pp h g1 g3 hi
 | .iface _ x,d,h,h1,h2,hi=>by
   simp only[St.cur]at h;simp only[aF]at hi;simp only[ren,rep]at h1 h2;obtain⟨y,rfl,g1⟩:=h1;obtain⟨z,e,g3⟩:=h2;cases e;exact yu h g1 g3 hi
 | .int _ _,_,h,_,_,hi=>by simp[aF]at hi
 | .bool _,_,h,_,_,hi=>by simp[aF]at hi
 | .str _,_,h,_,_,hi=>by simp[aF]at hi
 | .nil _,_,h,_,_,hi=>by simp[aF]at hi
 | .seq _ _,_,h,_,_,hi=>by simp[aF]at hi
 | .fseq _ _,_,h,_,_,hi=>by simp[aF]at hi
 | .sptr _ _,_,h,_,_,hi=>by simp[aF]at hi
 | .nilptr,_,h,_,_,hi=>by simp[aF]at hi
 | .nilfn,_,h,_,_,hi=>by simp[aF]at hi
 | .niliface,_,h,_,_,hi=>by simp[aF]at hi
 | .junk,_,h,_,_,hi=>by simp[aF]at hi
 | .mref _ _ _,_,h,_,_,hi=>by grind[St.cur,St.cur0,aF]
 | .mptr _ _ _ _ _,_,h,_,_,hi=>by grind[St.cur,St.cur0,aF]
 | .ref a n,_,h,h1,h2,hi=>by
   simp only[aF,zAi]at hi;subst hi;simp only[St.cur,aF,zBi,zCe]at h;exact⟨_,_,h,rfl,h1,h2⟩
 | .ptr a n,_,h,h1,h2,hi=>by
   simp only[aF,zAi]at hi;subst hi;simp only[St.cur,aF,zBi,zCe]at h;exact⟨_,_,h,rfl,h1,h2⟩
 | .eptr a n i o,_,h,h1,h2,hi=>by
   simp only[aF,zAi]at hi;subst hi;simp only[St.cur,aF,zBi,zCe]at h;exact⟨_,_,h,rfl,h1,h2⟩
theorem pp{σ:St}{id:Nat}{m:List Nat}{M M':Mem}{X X':V->Value->Prop}:∀{u:List V}{d:List Value},σ.curA u=ť->af M X u d->af M' X' (fq m u) d->id∈ax u->∃v c,σ.cur0 v=ť/\aF v=[id]/\rep M X v c/\rep M' X' (ren m v) c
 |[],_,_,_,_,hi=>by simp[ax]at hi
 |v::vs,d,h,h1,h2,hi=>by
   simp only[St.curA,zAc]at h;simp only[ax,zAe]at hi;simp only[fq,af]at h1 h2;obtain⟨c,cs,rfl,g1,g2⟩:=h1;obtain⟨c',cs',e,g3,g4⟩:=h2;cases e;rcases hi with hi|hi
   ·exact yu h.1 g1 g3 hi
   ·exact pp h.2 g2 g4 hi
end
theorem Pf:∀{vs:List V}{id:Nat},id∈ax vs->∃v∈vs,id∈aF v
 |[],id,h=>by simp[ax]at h
 |v::vs,id,h=>by
   simp only[ax,zAe]at h;rcases h with h|h
   ·exact⟨v,by simp,h⟩
   ·obtain⟨u,h1,h2⟩:=Pf h;exact⟨u,by simp[h1],h2⟩
theorem ta : ∀{q : Nat}{H H' : List (Option Ob)},kin q H H' = true -> ∀{j : Nat},j<q ->
    (∃cs cs',H[j]? = some (some (.box cs)) /\ H'[j]? = some (some (.box cs'))) \/ (∃e sz l l',H[j]? = some (some (.arr e sz l)) /\ H'[j]? = some (some (.arr e sz l'))) \/ ∃l l',H[j]? = some (some (.gh l)) /\ H'[j]? = some (some (.gh l'))
  |0,_,_,_,j,hj => by omega
  |q+1,[],_,hk,j,hj => by simp[kin]at hk
  |q+1,none :: _,_,hk,j,hj => by simp[kin]at hk
  |q+1,some (.box _) :: _,[],hk,j,hj => by simp[kin]at hk
  |q+1,some (.arr _ _ _) :: _,[],hk,j,hj => by simp[kin]at hk
  |q+1,some (.mat _ _ _ _) :: _,_,hk,j,hj => by simp[kin]at hk
  |q+1,some (.mp _ _) :: _,_,hk,j,hj => by simp[kin]at hk
  |q+1,some (.itr _ _) :: _,_,hk,j,hj => by simp[kin]at hk
  |q+1,some (.tok _) :: _,_,hk,j,hj => by simp[kin]at hk
  |q+1,some (.box _) :: _,some (.tok _) :: _,hk,j,hj => by simp[kin]at hk
  |q+1,some (.arr _ _ _) :: _,some (.tok _) :: _,hk,j,hj => by simp[kin]at hk
  |q+1,some (.gh _) :: _,some (.tok _) :: _,hk,j,hj => by simp[kin]at hk
  |q+1,some (.box _) :: _,some (.itr _ _) :: _,hk,j,hj => by simp[kin]at hk
  |q+1,some (.arr _ _ _) :: _,some (.itr _ _) :: _,hk,j,hj => by simp[kin]at hk
  |q+1,some (.gh _) :: _,some (.itr _ _) :: _,hk,j,hj => by simp[kin]at hk
  |q+1,some (.box _) :: _,some (.mp _ _) :: _,hk,j,hj => by simp[kin]at hk
  |q+1,some (.arr _ _ _) :: _,some (.mp _ _) :: _,hk,j,hj => by simp[kin]at hk
  |q+1,some (.box _) :: _,some (.mat _ _ _ _) :: _,hk,j,hj => by simp[kin]at hk
  |q+1,some (.arr _ _ _) :: _,some (.mat _ _ _ _) :: _,hk,j,hj => by simp[kin]at hk
  |q+1,some (.gh _) :: _,[],hk,j,hj => by simp[kin]at hk
  |q+1,some (.gh _) :: _,none :: _,hk,j,hj => by simp[kin]at hk
  |q+1,some (.gh _) :: _,some (.box _) :: _,hk,j,hj => by simp[kin]at hk
  |q+1,some (.gh _) :: _,some (.arr _ _ _) :: _,hk,j,hj => by simp[kin]at hk
  |q+1,some (.gh _) :: _,some (.mat _ _ _ _) :: _,hk,j,hj => by simp[kin]at hk
  |q+1,some (.gh _) :: _,some (.mp _ _) :: _,hk,j,hj => by simp[kin]at hk
  |q+1,some (.box _) :: _,some (.gh _) :: _,hk,j,hj => by simp[kin]at hk
  |q+1,some (.arr _ _ _) :: _,some (.gh _) :: _,hk,j,hj => by simp[kin]at hk
  |q+1,some (.gh _) :: H,some (.gh _) :: H',hk,0,hj => .inr (.inr ⟨_,_,rfl,rfl⟩)
  |q+1,some (.gh _) :: H,some (.gh _) :: H',hk,j+1,hj => by
    simp only[kin]at hk;simpa using ta hk (j := j) (by omega)
  |q+1,some (.box _) :: _,none :: _,hk,j,hj => by simp[kin]at hk
  |q+1,some (.arr _ _ _) :: _,none :: _,hk,j,hj => by simp[kin]at hk
  |q+1,some (.box _) :: _,some (.arr _ _ _) :: _,hk,j,hj => by simp[kin]at hk
  |q+1,some (.arr _ _ _) :: _,some (.box _) :: _,hk,j,hj => by simp[kin]at hk
  |q+1,some (.box _) :: H,some (.box _) :: H',hk,0,hj => .inl ⟨_,_,rfl,rfl⟩
  |q+1,some (.box _) :: H,some (.box _) :: H',hk,j+1,hj => by
    simp only[kin]at hk;simpa using ta hk (j := j) (by omega)
  |q+1,some (.arr e sz l) :: H,some (.arr e' sz' l') :: H',hk,0,hj => by
    simp only[kin,Bool.and_eq_true,decide_eq_true_eq]at hk;obtain⟨⟨rfl,rfl⟩,hk⟩ := hk;exact .inr (.inl ⟨_,_,_,_,rfl,rfl⟩)
  |q+1,some (.arr e sz l) :: H,some (.arr e' sz' l') :: H',hk,j+1,hj => by
    simp only[kin,Bool.and_eq_true,decide_eq_true_eq]at hk;simpa using ta hk.2 (j := j) (by omega)
theorem aiB:∀{q:Nat}{H H':List (Option Ob)},kin q H H'=ť->q<=H'.length:=by
 grind[zFd,ta,zAa]
theorem Iq{id}:∀{m:List Nat}{j:Nat},m.Nodup->m[j]?=ś id->idx id m=ś j
 |[],j,_,h=>by simp at h
 |k::ks,0,_,h=>by grind[idx]
 |k::ks,j+1,hn,h=>by
   simp only[zGb]at hn;simp only[zAj]at h;have:id≠k:=λe=>hn.1 (e ▸ zAf h);simp only[idx,if_neg this,Iq hn.2 h,zEb]
theorem ab7{B B' : Bas}{X : V -> Value -> Prop}{id : Nat}(hB : ∀g,κ.bl id g -> B'.own g)(hJ : B'.J = B.J) : ∀{ob : Ob},bn κ M X B w id ob -> bn κ M X B' w id ob
  | .itr s p,h => by
    simp only[bn]at h⊢;obtain⟨b,bs,h1,h2,h3,h4,h5,h6⟩ := h;exact⟨b,bs,h1,hB b ((h6 b).2 rfl),h3,h4,h5,h6⟩
  | .tok c,h => h
  | .gh l,h => by
    simp only[bn]at h⊢;obtain⟨k,h1,h2,h3⟩ := h;exact⟨k,h1,by rw[hJ];exact h2,λg hg => ⟨hB g hg,(h3 g hg).2⟩⟩
  | .box cs,h => by
    simp only[bn]at h⊢;obtain⟨b,arr,T,h1,h2,h3,h4,h5,h6⟩ := h;exact⟨b,arr,T,h1,hB b ((h6 b).2 rfl),h3,h4,h5,h6⟩
  | .arr e sz l,h => by
    simp only[bn]at h⊢;obtain⟨h1,h2,xs,h3,h4,_,h5⟩ := h;exact⟨h1,h2,xs,h3,h4,hB,h5⟩
  | .mat e e2 sz l,h => by
    simp only[bn]at h⊢;obtain⟨h1,h2,h3,h4,h5,h6,_,h7⟩ := h;exact⟨h1,h2,h3,h4,h5,h6,hB,h7⟩
  | .mp kt l,h => by
    simp only[bn]at h⊢;obtain⟨b,es,clock,h1,h2,h3,h4,h5⟩ := h;exact⟨b,es,clock,h1,hB b ((h5 b).2 rfl),h3,h4,h5⟩
theorem n5{h m}:∀{ids:List Nat}{j id:Nat}{ob:Ob},ids[j]?=ś id->h[id]?=ś (ś ob)->(kN h m ids)[j]?=ś (gZ m (ś ob))
 |[],j,id,ob,h1,_=>by simp at h1
 |i::ids,0,id,ob,h1,h2=>by grind[kN,zCb]
 |i::ids,j+1,id,ob,h1,h2=>by simp only[zAj]at h1;simp only[kN,zAj];exact n5 h1 h2
theorem I7{m}:∀{vs:List V}{i:Nat}{v:V},vs[i]?=ś v->(fq m vs)[i]?=ś (ren m v)
 |[],i,v,h=>by simp at h
 |u::us,0,v,h=>by grind[fq]
 |u::us,i+1,v,h=>by simp only[zAj]at h;simp only[fq,zAj];exact I7 h
theorem PA{M sz}:∀{l:List V}{xs:List Value},aB M sz l xs->oks l
 |[],_,_=>by simp[oks]
 |v::vs,xs,h=>by
   simp only[aB]at h;obtain⟨y,rest,_,h1,_,_,h2⟩:=h;exact⟨oC h1,PA h2⟩
theorem vR : ∀{h : List (Option Ob)},(∀(id : Nat)(ob : Ob),h[id]? = some (some ob) -> match ob with
    | .box cs => oks cs
    | .arr _ _ l => l.length <= 140737488355328 /\ oks l
    | .mat _ _ _ rows => rows.length <= 140737488355328
    | .mp _ _ => True
    | .gh _ => True
    | .itr s _ => s.length <= 4611686018427387904
    | .tok _ => True) -> okH h
  |[],_ => trivial
  |none :: h,H => by simp only[okH];exact vR λid ob hi => H (id+1) ob (by simpa using hi)
  |some (.box cs) :: h,H => by simp only[okH];exact⟨H 0 (.box cs) rfl,vR λid ob hi => H (id+1) ob (by simpa using hi)⟩
  |some (.mat e e2 sz l) :: h,H => by simp only[okH];exact⟨H 0 (.mat e e2 sz l) rfl,vR λid ob hi => H (id+1) ob (by simpa using hi)⟩
  |some (.mp kt l) :: h,H => by simp only[okH];exact vR λid ob hi => H (id+1) ob (by simpa using hi)
  |some (.gh l) :: h,H => by simp only[okH];exact vR λid ob hi => H (id+1) ob (by simpa using hi)
  |some (.tok c) :: h,H => by simp only[okH];exact vR λid ob hi => H (id+1) ob (by simpa using hi)
  |some (.itr s p) :: h,H => by simp only[okH];exact⟨H 0 (.itr s p) rfl,vR λid ob hi => H (id+1) ob (by simpa using hi)⟩
  |some (.arr e sz l) :: h,H => by simp only[okH];exact⟨H 0 (.arr e sz l) rfl,vR λid ob hi => H (id+1) ob (by simpa using hi)⟩
theorem aa0{H : List (Option Ob)}(hh : ∀id ob,H[id]? = some (some ob) -> bn κ M (XX κ H) B w id ob) : okH H := by
  refine vR λid ob hi => ?_
  have h := hh id ob hi;cases ob with
  |box cs => simp only[bn]at h;obtain⟨b,arr,T,_,_,_,h4,_⟩ := h;exact gI h4
  |arr e sz l => simp only[bn]at h;obtain⟨_,h1,xs,_,h3,_⟩ := h;exact⟨h1,PA h3⟩
  |mat e e2 sz l => simp only[bn]at h;exact h.2.1
  |mp kt l => trivial
  |gh l => trivial
  |tok c => trivial
  |itr s p => simp only[bn]at h;obtain⟨_,_,_,_,_,_,h5,_⟩ := h;exact h5
theorem Zb{σ:St}{id x}(h:σ.gh? id=ś x):σ.h[id]?=ś (ś (.gh x)):=by
 grind[St.gh?]
theorem callH0_sound(H : Rel N M0 B w0 κ M σ a w)(hJC : Aw P M0 B){d : Option Nat}(hd : ∀t,d = some t -> t<N /\ t ∉ B.ps){f : FuncId}{vs : List V}{K : St -> Prop}(hW : wcallH0 (Cn P) d f vs K σ)
    {cs : Array Value} (hcs : af M (XX κ σ.h) vs cs.toList) {Nx : Act -> World -> Prop} (hK : ∀κ' M' σ' a' w',K σ' -> Rel N M0 B w0 κ' M' σ' a' w' -> Nx a' w') {Q : Exit -> Act -> World -> Prop} (o : Oper) (ho : o.dst = d) :
    o.upon P a Nx Q ((callFunc f cs).run P w) := by
  subst ho;obtain⟨ps,hcur,r,H',hkin,hΦ,hk⟩ := hW;obtain⟨hm,hA,hq⟩ := P7 (h := σ.h) (pvs := c9 vs ps) (vs := vs);generalize hqq : (ir σ.h (c9 vs ps) vs).1 = q at *;generalize hmm : (ir σ.h (c9 vs ps) vs).2 = m at *;clear hqq hmm;have hqk := aiB hkin;have hAn : (jg [] (ax (c9 vs ps))).Nodup := d3 _ _ List.nodup_nil
  have hAlt : ∀id ∈ m.take q,∃i u,i ∈ ps /\ vs[i]? = some u /\ σ.cur u = true /\ id ∈ aF u := by
    intro id hid;rw[hA]at hid;rcases IK _ _ hid with h|h
    ·cases h
    ·obtain⟨u,h1,h2⟩ := Pf h
     obtain⟨i,h3,h4⟩ := Es h1;exact⟨i,u,h3,h4,Xh hcur h1,h2⟩
  have hAin : ∀id ∈ m.take q,∃ob,σ.h[id]? = some (some ob) := by
    intro id hid;obtain⟨i,u0,_,_,hc0,hv0⟩ := hAlt id hid;obtain⟨u,hc,hv⟩ := Lx hc0 hv0;cases u <;> simp[St.cur0]at hc <;> simp only[aF,List.cons.injEq,and_true]at hv <;> subst hv
    ·split at hc
     ·rename_i h;exact⟨_,gT h⟩
     ·obtain⟨x,hx⟩ := Option.isSome_iff_exists.1 hc;exact⟨_,Zb hx⟩
    ·obtain⟨x,hx⟩ := Option.isSome_iff_exists.1 hc;exact⟨_,tQ hx⟩
    ·split at hc
     ·rename_i h;exact⟨_,gT h⟩
     ·cases hc
  have hn : σ.h.length = σ.h.length := rfl;generalize hD : Fq q m σ.h.length H'.length = D at *
  have hDl : D.length = H'.length := by
    rw[<- hD];unfold Fq;rw[List.length_append,hA,<- hq];simp;omega
  have hDget : ∀{j id : Nat},D[j]? = some id -> (j<q /\ m[j]? = some id /\ id ∈ m.take q) \/ (q <= j /\ σ.h.length <= id /\ id<σ.h.length+(H'.length-q)) := by
    intro j id h;rw[<- hD]at h;unfold Fq at h;have hl : (m.take q).length = q := by rw[hA,<- hq]
    by_cases hj : j<q
    ·rw[List.getElem?_append_left (by omega)]at h
     refine .inl ⟨hj,?_,List.mem_of_getElem? h⟩;rwa[List.getElem?_take,if_pos hj]at h
    ·rw[List.getElem?_append_right (by omega)]at h
     have := HY h;exact .inr ⟨by omega,by omega,by omega⟩
  have hDlt : ∀{j id : Nat},D[j]? = some id -> id<σ.h.length+(H'.length-q) := by
    intro j id h;rcases hDget h with⟨_,_,h1⟩|⟨_,_,h1⟩
    ·obtain⟨ob,h2⟩ := hAin id h1;have := (List.getElem?_eq_some_iff.1 h2).1;omega
    ·exact h1
  have hDn : D.Nodup := by
    rw[<- hD];unfold Fq;rw[List.nodup_append];refine⟨by rw[hA];exact hAn,List.nodup_range',λx hx y hy => ?_⟩
    obtain⟨ob,h2⟩ := hAin x hx;have := (List.getElem?_eq_some_iff.1 h2).1;simp[List.mem_range']at hy;omega
  obtain⟨k1,k2,k3⟩ := AX m σ;have H1 := H.ren hm [] (λt v h => by simp[lk]at h)
  simp only[Rb]at H1
  
  generalize hκc : κ.ren m = κc at *;generalize hHc : kN σ.h m m = Hc at *
  have hlb : ∀g,amf κc Hc g -> ∃id ob,id ∈ m /\ σ.h[id]? = some (some ob) /\ κ.bl id g := by
    rintro g ⟨j,ob,h1,h2⟩;rw[<- hHc]at h1;obtain⟨id,ob',g1,g2,_⟩ := oD h1;refine⟨id,ob',List.mem_of_getElem? g1,g2,?_⟩;rw[<- hκc]at h2;simpa[Kap.ren,List.getD,g1]using h2
  have hown : ∀g,(dR κc Hc w ps cs B.J).own g -> B.own g := by
    rintro g (h|h)
    ·have h : w.heap.size <= g := h
     exact .inl (by rw[H.base];have := H.blw.size;omega)
    ·obtain⟨id,ob,_,h2,h3⟩ := hlb g h
     exact(H.blk_lt h2 h3).1
  have hjs : Xz (dR κc Hc w ps cs B.J) := λk l S M M' w1 w2 h1 h2 h3 h4 h5 => H.jst k l S M M' w1 w2 h1 ⟨h2.os,h2.tape,h2.output,h2.size,λg hg hgs => h2.block g (by rw[H.base]at hg;have := H.blw.size;show g<w.heap.size;omega) (λhs => (hown g (.inr hs)).elim (λh => by omega) hgs),h2.siz⟩ h3 h4 h5
  have hpre : Heap κc M (dR κc Hc w ps cs B.J) w Hc :=
    { heap := λid ob h => ab7 (B := B) (B' := dR κc Hc w ps cs B.J) (λg hg => Or.inr (show amf κc Hc g from⟨id,ob,h,hg⟩)) rfl (H1.heap id ob h),jst := hjs,inj := H1.inj,gl := H1.sub.gl.mono H1.sub.sub,snd := H1.snd,sep := H1.sep,fmS := H1.sub.fmS }
  have hus : af M (XX κc Hc) (fq m vs) cs.toList := by
    have := lN (L2 (M := M) (κ := κ) (h := σ.h) hm) hcs;rwa[hκc,hHc]at this
  refine hΦ M w κc cs B.J (λk us b l S M1 w1 cs1 h1 h2 h3 h4 => hJC k us b l S M1 w1 cs1 h1 h2 h3 λp v hp => (h4 p v hp).elim (H.new p v) λh => .inr (hown _ h)) hpre hus o a Nx Q ?_
  intro c M' w' κ' hr hu hp' hM hnew hpin
  have hback : ∀{id : Nat}{ob : Ob},(σ.back q m H')[id]? = some (some ob) -> (∃(j : Nat)(ob' : Ob),D[j]? = some id /\ H'[j]? = some (some ob') /\ rn D (some ob') = some ob) \/ (id ∉ D /\ id ∉ m /\ σ.h[id]? = some (some ob)) := by
    intro id ob h;unfold St.back at h;rw[hD]at h;rcases adE _ _ _ hDn (by rw[G1,hDl]) h with⟨j,h1,h2⟩|⟨h1,h2⟩
    ·obtain⟨ob',h3,h4⟩ := Xm h2
     exact .inl ⟨j,ob',h1,h3,h4⟩
    ·by_cases hlt : id<(σ.kill m).h.length
     ·rw[List.getElem?_append_left hlt]at h2
      obtain⟨h3,h4⟩ := k3 id ob h2;exact .inr ⟨h1,h4,h3⟩
     ·rw[List.getElem?_append_right (by omega)]at h2
      obtain⟨_,h3⟩ := List.getElem?_eq_some_iff.1 h2;simp at h3
  have hblen : (σ.back q m H').length = σ.h.length+(H'.length-q) := by
    unfold St.back;rw[Pb];simp[k2]
  generalize hB2 : σ.back q m H' = h2 at *
  
  let κ2 : Kap := ⟨λid => match idx id D with
    |some j => κ' j
    |none => κ id,λid => match idx id D with
    |some j => κ'.row j
    |none => κ.row id,λid => match idx id D with
    |some j => κ'.bl j
    |none => κ.bl id,κ.fm⟩
  have κD3 : ∀{j id : Nat},D[j]? = some id -> κ2 id = κ' j /\ κ2.row id = κ'.row j /\ κ2.bl id = κ'.bl j := by
    intro j id h;simp only[κ2,Iq hDn h,and_self]
  have κO3 : ∀{id : Nat},id ∉ D -> κ2 id = κ id /\ κ2.row id = κ.row id /\ κ2.bl id = κ.bl id := by
    intro id h;simp only[κ2];split
    ·rename_i j hj;exact(h (List.mem_of_getElem? (oU hj))).elim
    ·exact⟨rfl,rfl,rfl⟩
  have κD : ∀{j id : Nat},D[j]? = some id -> κ2 id = κ' j := λh => (κD3 h).1
  have κO : ∀{id : Nat},id ∉ D -> κ2 id = κ id := λh => (κO3 h).1
  have hturn : ∀{j id : Nat},D[j]? = some id -> id<σ.h.length -> (∀cs',H'[j]? = some (some (Ob.box cs')) -> (∃cs0,σ.h[id]? = some (some (Ob.box cs0))) /\ κ' j = κ id) /\
      (∀e sz l,H'[j]? = some (some (Ob.arr e sz l)) -> ∃l0,σ.h[id]? = some (some (Ob.arr e sz l0)) /\ l0.length <= l.length /\ (l0.length = l.length -> κ' j = κ id)) /\ ((∀e e2 sz l,H'[j]? ≠some (some (Ob.mat e e2 sz l))) /\ (∀o,H'[j]? = some (some o) -> o.nam = true -> (∃o',σ.h[id]? = some (some o') /\ o'.nam = true) /\ κ' j = κ id)) := by
    intro j id hj hlt
    refine and_assoc.1 ⟨?_,λe e2 sz l hl => by
      rcases hDget hj with⟨h1,_,_⟩|⟨_,h1,_⟩
      ·rcases ta hkin h1 with⟨_,_,_,g2⟩|⟨_,_,_,_,_,g2⟩|⟨_,_,_,g2⟩ <;> rw[hl]at g2 <;> cases g2
      ·omega,λo hl hn => by
      rcases hDget hj with⟨h1,h2,h3⟩|⟨_,h1,_⟩
      ·rcases ta hkin h1 with⟨_,_,_,g2⟩|⟨_,_,_,_,_,g2⟩|⟨l1,l2,g1,g2⟩
       ·rw[hl]at g2;cases g2;cases hn
       ·rw[hl]at g2;cases g2;cases hn
       ·obtain⟨i,u0,hi,hvi,hcu0,hvu0⟩ := hAlt id h3
        obtain⟨d0,hd1,hd02⟩ := f6 hcs hvi;have hd03 := hpin i hi _ d0 (I7 hvi) (by simpa using hd1)
        obtain⟨u,d,hcu,hvu,hd2,hd3⟩ := yu hcu0 hd02 hd03 hvu0;have hx := Iq hm h2;rw[<- hHc]at g1;obtain⟨ob0,q1⟩ := hAin id h3;have q2 := n5 (m := m) h2 q1;rw[g1]at q2;have q3 : ob0 = .gh l1 := U8 (by simpa using q2.symm) rfl
        subst q3;cases u <;> simp[St.cur0]at hcu <;> simp only[aF,List.cons.injEq,and_true]at hvu <;> subst hvu
        ·simp only[ren,hx,rep,XX]at hd2 hd3
         refine⟨⟨_,q1,rfl⟩,?_⟩;rw[<- hd3.2.2.2.2 o hl hn,<- hd2.2.2.2.2 _ q1 rfl]
        ·simp[St.box?,q1]at hcu
        ·simp[St.arr?,q1]at hcu
      ·omega⟩
    rcases hDget hj with⟨h1,h2,h3⟩|⟨_,h1,_⟩
    ·obtain⟨i,u0,hi,hvi,hcu0,hvu0⟩ := hAlt id h3
     obtain⟨d0,hd1,hd02⟩ := f6 hcs hvi;have hd03 := hpin i hi _ d0 (I7 hvi) (by simpa using hd1)
     obtain⟨u,d,hcu,hvu,hd2,hd3⟩ := yu hcu0 hd02 hd03 hvu0;have hx := Iq hm h2;have hkg := ta hkin h1;rw[<- hHc]at hkg;cases u <;> simp[St.cur0]at hcu <;> simp only[aF,List.cons.injEq,and_true]at hvu <;> subst hvu
     ·rename_i id n
      split at hcu
      ·rename_i e0 sz0 l0 har
       have ha := gT har;simp only at ha;simp at hcu;simp only[ren,hx,rep,XX]at hd2 hd3;have hg := n5 (m := m) h2 ha;refine⟨λcs' hc => ?_,λe sz l hl => ?_⟩
       ·rcases hkg with⟨_,_,g1,g2⟩|⟨_,_,_,_,g1,g2⟩|⟨_,_,g1,g2⟩
        ·rw[hg]at g1;simp[gZ]at g1
        ·rw[hc]at g2;cases g2
        ·rw[hg]at g1;simp[gZ]at g1
       ·rcases hkg with⟨_,_,g1,g2⟩|⟨_,_,_,_,g1,g2⟩|⟨_,_,g1,g2⟩
        ·rw[hl]at g2;cases g2
        ·rw[hg]at g1
         simp[gZ]at g1;rw[hl]at g2;cases g2;obtain⟨rfl,rfl,rfl⟩ := g1;refine⟨l0,ha,?_,λheq => ?_⟩
         ·have := (hd3.2.2.1 _ _ _ hl).1;omega
         ·have h5 := (hd3.2.2.1 _ _ _ hl).2 (by omega)
          have h6 := (hd2.2.2.1 _ _ _ ha).2 hcu;rw[<- h5,<- h6]
        ·rw[hg]at g1;simp[gZ]at g1
      ·obtain⟨x,hx0⟩ := Option.isSome_iff_exists.1 hcu
       have ha := Zb hx0;have hg := n5 (m := m) h2 ha;refine⟨λcs' hc => ?_,λe sz l hl => ?_⟩
       ·rcases hkg with⟨_,_,g1,g2⟩|⟨_,_,_,_,g1,g2⟩|⟨_,_,g1,g2⟩
        ·rw[hg]at g1;simp[gZ]at g1
        ·rw[hc]at g2;cases g2
        ·rw[hc]at g2;cases g2
       ·rcases hkg with⟨_,_,g1,g2⟩|⟨_,_,_,_,g1,g2⟩|⟨_,_,g1,g2⟩
        ·rw[hl]at g2;cases g2
        ·rw[hg]at g1;simp[gZ]at g1
        ·rw[hl]at g2;cases g2
     ·rename_i id off
      obtain⟨x,hx0⟩ := Option.isSome_iff_exists.1 hcu;have hb := tQ hx0;simp only[ren,hx,rep,XX]at hd2 hd3;have hg := n5 (m := m) h2 hb;refine⟨λcs' hc => ⟨⟨_,hb⟩,?_⟩,λe sz l hl => ?_⟩
      ·obtain⟨b1,e1,e2⟩ := hd2.2.2 _ hb
       obtain⟨b2,e3,e4⟩ := hd3.2.2 _ hc;rw[e2]at e4;cases e4;rw[e1,e3]
      ·rcases hkg with⟨_,_,g1,g2⟩|⟨_,_,_,_,g1,g2⟩|⟨_,_,g1,g2⟩
       ·rw[hl]at g2;cases g2
       ·rw[hg]at g1;simp[gZ]at g1
       ·rw[hg]at g1;simp[gZ]at g1
     ·rename_i id n i0 off
      split at hcu
      ·rename_i e0 sz0 l0 har
       have ha := gT har;simp only at ha;simp at hcu;simp only[ren,hx,rep,XX]at hd2 hd3;have hg := n5 (m := m) h2 ha;refine⟨λcs' hc => ?_,λe sz l hl => ?_⟩
       ·rcases hkg with⟨_,_,g1,g2⟩|⟨_,_,_,_,g1,g2⟩|⟨_,_,g1,g2⟩
        ·rw[hg]at g1;simp[gZ]at g1
        ·rw[hc]at g2;cases g2
        ·rw[hg]at g1;simp[gZ]at g1
       ·rcases hkg with⟨_,_,g1,g2⟩|⟨_,_,_,_,g1,g2⟩|⟨_,_,g1,g2⟩
        ·rw[hl]at g2;cases g2
        ·rw[hg]at g1
         simp[gZ]at g1;rw[hl]at g2;cases g2;obtain⟨rfl,rfl,rfl⟩ := g1;refine⟨l0,ha,?_,λheq => ?_⟩
         ·have := (hd3.2.2.1 _ _ _ hl).1;omega
         ·clear hg
          obtain⟨b1,cap1,q1,q2⟩ := (hd3.2.2.1 _ _ _ hl).2 (by omega) hcu.2
          obtain⟨b2,cap2,q3,q4⟩ := (hd2.2.2.1 _ _ _ ha).2 hcu.1 hcu.2;rw[q2]at q4;simp only[Value.pointer.injEq,Option.some.injEq,Addr.mk.injEq,and_true]at q4;obtain⟨rfl,_⟩ := q4;have o1 := hp'.heap j _ hl;have o2 := H.heap id _ ha;simp only[bn]at o1 o2;obtain⟨hsz0,_,_,o1,_⟩ := o1;obtain⟨_,_,_,o2,_⟩ := o2;rcases o1.2 with⟨o3,_⟩|⟨g1',cap1',cur1,o3,_,o4,_,_,o5,_⟩
          ·rw[q1]at o3;cases o3
          ·rcases o2.2 with⟨o6,_⟩|⟨g2',cap2',cur2,o6,_,o7,_,_,o8,_⟩
           ·rw[q3]at o6;cases o6
           ·rw[q1]at o3
            rw[q3]at o6;simp only[Value.slice.injEq,Option.some.injEq,Addr.mk.injEq,and_true]at o3 o6;obtain⟨rfl,_,rfl⟩ := o3;obtain⟨rfl,_,rfl⟩ := o6;obtain⟨cur',T',z',s1,s2⟩ := hu.siz _ _ _ _ o7;rw[o4]at s1;simp only[Option.some.injEq,Obj.cells.injEq]at s1;obtain⟨rfl,_,_⟩ := s1;have : cap1 = cap2 := Nat.eq_of_mul_eq_mul_right hsz0 (by rw[<- o5,<- o8,s2])
            rw[q1,q3,this]
        ·rw[hg]at g1;simp[gZ]at g1
      ·cases hcu
    ·omega
  have V1 : ∀v c,XX κ σ.h v c -> XX κ2 h2 v c := by
    intro v c hx
    have km : ∀{id : Nat}{e e2 sz : Nat}{l : List Rw},id<σ.h.length -> h2[id]? = some (some (.mat e e2 sz l)) -> κ2 id = κ id /\ κ2.row id = κ.row id /\ σ.h[id]? = some (some (.mat e e2 sz l)) := by
      intro id e e2 sz l hlt hl;rcases hback hl with⟨j,ob',h1,h3,h4⟩|⟨h1,_,h3⟩
      ·have := (hturn h1 hlt).2.2.1 e e2 sz l
       cases ob' <;> simp[rn]at h4;obtain⟨rfl,rfl,rfl,rfl⟩ := h4;exact(this h3).elim
      ·exact⟨κO h1,(κO3 h1).2.1,h3⟩
    have kp : ∀{id : Nat}{o : Ob},id<σ.h.length -> h2[id]? = some (some o) -> o.nam = true -> κ2 id = κ id /\ ∃o',σ.h[id]? = some (some o') /\ o'.nam = true := by
      intro id o hlt hl hn;rcases hback hl with⟨j,ob',h1,h3,h4⟩|⟨h1,_,h3⟩
      ·have h5 : ob' = o := by cases ob' <;> simp[rn]at h4 <;> first|exact h4|(subst h4;cases hn)
       subst h5;obtain⟨g1,g2⟩ := (hturn h1 hlt).2.2.2 _ h3 hn;exact⟨by rw[κD h1,g2],g1⟩
      ·exact⟨κO h1,_,h3,hn⟩
    cases v <;> simp only[XX]at hx⊢
    case ref id n =>
      refine⟨hx.1,by omega,λe sz l hl => ?_,λe e2 sz l hl => ?_,λo hl hn => by obtain⟨g1,o',g2,g3⟩ := kp hx.2.1 hl hn;rw[g1];exact hx.2.2.2.2 _ g2 g3⟩
      ·rcases hback hl with⟨j,ob',h1,h3,h4⟩|⟨h1,_,h3⟩
       ·cases ob' <;> simp[rn]at h4
        obtain⟨rfl,rfl,rfl⟩ := h4;obtain⟨l0,h5,h6,h7⟩ := (hturn h1 hx.2.1).2.1 _ _ _ h3;obtain⟨g1,g2⟩ := hx.2.2.1 _ _ _ h5;exact⟨by omega,λhe => by rw[κD h1,h7 (by omega)];exact g2 (by omega)⟩
       ·rw[κO h1];exact hx.2.2.1 _ _ _ h3
      ·obtain⟨g1,_,g2⟩ := km hx.2.1 hl
       rw[g1];exact hx.2.2.2.1 _ _ _ _ g2
    case ptr id off =>
      refine⟨hx.1,by omega,λcs' hl => ?_⟩
      rcases hback hl with⟨j,ob',h1,h3,h4⟩|⟨h1,_,h3⟩
      ·cases ob' <;> simp[rn]at h4
       obtain⟨⟨cs0,h5⟩,h6⟩ := (hturn h1 hx.2.1).1 _ h3;rw[κD h1,h6];exact hx.2.2 _ h5
      ·rw[κO h1];exact hx.2.2 _ h3
    case eptr id n i off =>
      refine⟨hx.1,by omega,λe sz l hl => ?_,λe e2 sz l hl => ?_⟩
      ·rcases hback hl with⟨j,ob',h1,h3,h4⟩|⟨h1,_,h3⟩
       ·cases ob' <;> simp[rn]at h4
        obtain⟨rfl,rfl,rfl⟩ := h4;obtain⟨l0,h5,h6,h7⟩ := (hturn h1 hx.2.1).2.1 _ _ _ h3;obtain⟨g1,g2⟩ := hx.2.2.1 _ _ _ h5;exact⟨by omega,λhe hi => by rw[κD h1,h7 (by omega)];exact g2 (by omega) hi⟩
       ·rw[κO h1];exact hx.2.2.1 _ _ _ h3
      ·obtain⟨g1,_,g2⟩ := km hx.2.1 hl
       rw[g1];exact hx.2.2.2 _ _ _ _ g2
    case fseq sz l => exact hx
    case mref id i n =>
      refine⟨hx.1,by omega,λe e2 sz l hl => ?_⟩
      obtain⟨_,g1,g2⟩ := km hx.2.1 hl;rw[g1];exact hx.2.2 _ _ _ _ g2
    case mptr id i n k off =>
      refine⟨hx.1,by omega,λe e2 sz l hl => ?_⟩
      obtain⟨_,g1,g2⟩ := km hx.2.1 hl;rw[g1];exact hx.2.2 _ _ _ _ g2
  have V2 : ∀v c,XX κ' H' v c -> rep M' (XX κ2 h2) (bck D v) c := by
    intro v c hx
    have key : ∀{j id : Nat}{ob : Ob},D[j]? = some id -> h2[id]? = some (some ob) -> ∃ob',H'[j]? = some (some ob') /\ rn D (some ob') = some ob := by
      intro j id ob hj hl;rcases hback hl with⟨j',ob',h1,h3,h4⟩|⟨h1,_,_⟩
      ·have : j = j' := (List.getElem?_inj (List.getElem?_eq_some_iff.1 hj).1 hDn).1 (hj.trans h1.symm)
       subst this;exact⟨ob',h3,h4⟩
      ·exact(h1 (List.mem_of_getElem? hj)).elim
    have ka : ∀{j id : Nat}{e sz : Nat}{l : List V},D[j]? = some id -> h2[id]? = some (some (.arr e sz l)) -> H'[j]? = some (some (.arr e sz l)) := by
      intro j id e sz l hj hl;obtain⟨ob',h3,h4⟩ := key hj hl;cases ob' <;> simp[rn]at h4;obtain⟨rfl,rfl,rfl⟩ := h4;exact h3
    have km : ∀{j id : Nat}{e e2 sz : Nat}{l : List Rw},D[j]? = some id -> h2[id]? = some (some (.mat e e2 sz l)) -> H'[j]? = some (some (.mat e e2 sz l)) := by
      intro j id e e2 sz l hj hl;obtain⟨ob',h3,h4⟩ := key hj hl;cases ob' <;> simp[rn]at h4;obtain⟨rfl,rfl,rfl,rfl⟩ := h4;exact h3
    have kp : ∀{j id : Nat}{o : Ob},D[j]? = some id -> h2[id]? = some (some o) -> o.nam = true -> H'[j]? = some (some o) := by
      intro j id o hj hl hn;obtain⟨ob',h3,h4⟩ := key hj hl;have h5 : ob' = o := by cases ob' <;> simp[rn]at h4 <;> first|exact h4|(subst h4;cases hn)
      rw[<- h5];exact h3
    cases v <;> simp only[XX]at hx
    case ref j n =>
      simp only[bck];split
      ·rename_i id hj
       simp only[rep,XX];rw[κD hj];exact⟨hx.1,by rw[hblen];exact hDlt hj,λe sz l hl => hx.2.2.1 _ _ _ (ka hj hl),λe e2 sz l hl => hx.2.2.2.1 _ _ _ _ (km hj hl),λo hl hn => hx.2.2.2.2 _ (kp hj hl hn) hn⟩
      ·exact hx.1
    case ptr j off =>
      simp only[bck];split
      ·rename_i id hj
       simp only[rep,XX];refine⟨hx.1,by rw[hblen];exact hDlt hj,λcs' hl => ?_⟩
       obtain⟨ob',h3,h4⟩ := key hj hl;cases ob' <;> simp[rn]at h4;rw[κD hj];exact hx.2.2 _ h3
      ·exact hx.1
    case eptr j n i off =>
      simp only[bck];split
      ·rename_i id hj
       simp only[rep,XX];rw[κD hj];exact⟨hx.1,by rw[hblen];exact hDlt hj,λe sz l hl => hx.2.2.1 _ _ _ (ka hj hl),λe e2 sz l hl => hx.2.2.2 _ _ _ _ (km hj hl)⟩
      ·exact hx.1
    case fseq sz l =>
      simp only[bck];exact aX (aO hp'.fmS (X := NX) (λ_ _ h => h) (.seq sz l) c hx.2)
    case mref j i n =>
      simp only[bck];split
      ·rename_i id hj
       simp only[rep,XX];rw[(κD3 hj).2.1];exact⟨hx.1,by rw[hblen];exact hDlt hj,λe e2 sz l hl => hx.2.2 _ _ _ _ (km hj hl)⟩
      ·exact hx.1
    case mptr j i n k off =>
      simp only[bck];split
      ·rename_i id hj
       simp only[rep,XX];rw[(κD3 hj).2.1];exact⟨hx.1,by rw[hblen];exact hDlt hj,λe e2 sz l hl => hx.2.2 _ _ _ _ (km hj hl)⟩
      ·exact hx.1
  have hold : ∀{id : Nat}{ob : Ob}{g : Nat},id ∉ m -> σ.h[id]? = some (some ob) -> κ.bl id g -> ¬ (dR κc Hc w ps cs B.J).own g := by
    rintro id ob g h1 h3 h4 (h5|h5)
    ·have h5 : w.heap.size <= g := h5
     have := (H.blk_lt h3 h4).2;omega
    ·obtain⟨id',ob',g1,g2,g3⟩ := hlb g h5
     have := H.inj id id' ob ob' g h3 g2 h4 g3;subst this;exact h1 g1
  have hnewblk : ∀{j : Nat}{ob : Ob}{g : Nat},H'[j]? = some (some ob) -> κ'.bl j g -> (dR κc Hc w ps cs B.J).own g := λ{j ob g} h1 h3 => (Vi (hp'.heap j ob h1) g h3).1
  have hfin : Rel N M0 B w0 κ2 M' ⟨σ.r,h2⟩ a w' :=
    { dfr := H.dfr,jst := H.jst,pin := H.pin,size := H.size
      regs := λt v ht => by
        obtain⟨g1,c,g2,g3⟩ := H.regs t v ht;exact⟨g1,c,g2,aO hM V1 _ _ g3⟩
      heap := λid ob hl => by
        rcases hback hl with⟨j,ob',h1,h3,h4⟩|⟨h1,h3,h4⟩
        ·have hob := hp'.heap j ob' h3
         cases ob' with
         |box cs' =>
           simp only[rn,Option.some.injEq]at h4;subst h4;simp only[bn]at hob⊢;obtain⟨b,arr,T,e1,e2,e3,e4,e5⟩ := hob;rw[κD h1,(κD3 h1).2.2];exact⟨b,arr,T,e1,hown b e2,e3,sl V2 e4,e5⟩
         |arr e sz l =>
           simp only[rn,Option.some.injEq]at h4;subst h4;simp only[bn]at hob⊢;rw[κD h1,(κD3 h1).2.2];obtain⟨e1,e2,xs,e3,e4,e5,e6⟩ := hob;exact⟨e1,e2,xs,e3,e4,λg hg => hown g (e5 g hg),e6⟩
         |mat e e2 sz l =>
           simp only[rn,Option.some.injEq]at h4;subst h4;simp only[bn]at hob⊢;rw[κD h1,(κD3 h1).2.1,(κD3 h1).2.2];obtain⟨e1,e2,e3,e4,e5,e6,e7,e8⟩ := hob;exact⟨e1,e2,e3,e4,e5,e6,λg hg => hown g (e7 g hg),e8⟩
         |mp kt l =>
           simp only[rn,Option.some.injEq]at h4;subst h4;simp only[bn]at hob⊢;rw[κD h1,(κD3 h1).2.2];obtain⟨b,es,clock,e1,e2,e3⟩ := hob;exact⟨b,es,clock,e1,hown b e2,e3⟩
         |itr s p =>
           simp only[rn,Option.some.injEq]at h4;subst h4;simp only[bn]at hob⊢;rw[κD h1,(κD3 h1).2.2];obtain⟨b,bs,e1,e2,e3⟩ := hob;exact⟨b,bs,e1,hown b e2,e3⟩
         |tok c =>
           simp only[rn,Option.some.injEq]at h4;subst h4;simp only[bn]at hob⊢;rw[κD h1,(κD3 h1).2.2];exact hob
         |gh l =>
           simp only[rn,Option.some.injEq]at h4;subst h4;simp only[bn]at hob⊢;rw[κD h1,(κD3 h1).2.2];obtain⟨k,e1,e2,e3⟩ := hob;exact⟨k,e1,e2,λg hg => ⟨hown g (e3 g hg).1,(e3 g hg).2⟩⟩
        ·refine i6 hM V1 (κO3 h1) (λg hg => ?_) H.jst ⟨hu.os,hu.tape,hu.output,hu.size,λg hg hgs => hu.block g (by rw[H.base]at hg;have := H.blw.size;show g<w.heap.size;omega) (λhs => (hown g (.inr hs)).elim (λh => by omega) hgs),hu.siz⟩ hp'.snd (H.heap id ob h4)
         refine hu.block g ?_ (λhs => hold h3 h4 hg (.inr hs))
         exact(H.blk_lt h4 hg).2
      inj := λi j oi oj g hi hj gi gj => by
        rcases hback hi with⟨i',oi',h1,h3,_⟩|⟨h1,h3,h4⟩ <;> rcases hback hj with⟨j',oj',g1,g3,_⟩|⟨g1,g3,g4⟩
        ·rw[(κD3 h1).2.2]at gi;rw[(κD3 g1).2.2]at gj
         have := hp'.inj i' j' oi' oj' g h3 g3 gi gj;subst this;rw[h1]at g1;cases g1;rfl
        ·rw[(κD3 h1).2.2]at gi;rw[(κO3 g1).2.2]at gj
         exact(hold g3 g4 gj (hnewblk h3 gi)).elim
        ·rw[(κO3 h1).2.2]at gi;rw[(κD3 g1).2.2]at gj
         exact(hold h3 h4 gi (hnewblk g3 gj)).elim
        ·rw[(κO3 h1).2.2]at gi;rw[(κO3 g1).2.2]at gj
         exact H.inj i j oi oj g h4 g4 gi gj
      snd := hp'.snd
      sep := λp v hp id ob hl => by
        rcases hback hl with⟨j,ob',h1,h3,_⟩|⟨h1,h3,h4⟩
        ·rw[(κD3 h1).2.2];exact hp'.sep p v hp j ob' h3
        ·rw[(κO3 h1).2.2]
         intro hg;rcases hnew p v hp with h|h
         ·exact H.sep p v h id ob h4 hg
         ·exact hold h3 h4 hg h
      sub := ⟨λp v h => hM p v (H.sub.sub p v h),λp v h => hM p v (H.sub.fmS p v h),H.sub.fmN,H.sub.fbn,H.sub.gl⟩
      new := λp v h => by
        rcases hnew p v h with h|h
        ·exact H.new p v h
        ·exact .inr (hown _ h)
      base := H.base
      blw := H.blw.trans ⟨hu.os,hu.tape,hu.output,hu.size,λk hk hs => by
        have hkw : k<w.heap.size := by have := H.blw.size;rw[<- H.base]at this;omega
        refine hu.block k hkw (λhb => ?_)
        rcases hown k (.inr hb)with h|h
        ·omega
        ·exact hs h,hu.siz⟩ }
  have := hk (oC hr) (aa0 hp'.heap);exact hK _ _ _ _ _ this (hfin.put' hd (Uo V2 hr))
theorem vA{M sz}:∀{us:List V}{cs:List Value},cw sz us=ť->af M NX us cs->
 ∀(i:Nat)(c:Value),cs[i]?=ś c->c.cells.size=sz/\(∀u∈c.cells.toList,aI u)
 |[],cs,_,h,i,c,hi=>by grind[af]
 |v::vs,cs,hs,h,i,c,hi=>by
   simp only[af]at h;obtain⟨c0,cs',rfl,h2,h3⟩:=h;simp only[cw,zAc,decide_eq_true_eq]at hs;cases i with
   |zero=>
     simp at hi;subst hi;have:=d5 h2 tU (sT hs.1.2);refine⟨?_,this.2⟩;have h4:=bg this.1;simp at h4;omega
   |succ i=>simp at hi;exact vA hs.2 h3 i c hi
def pW(cs:List Value):List Value:=(cs.map λc=>c.cells.toList).flatten
theorem Eo{M sz}:∀{us:List V}{cs:List Value},cw sz us=ť->af M NX us cs->aB M sz us (pW cs)
 |[],cs,_,h=>by grind[af,aB,pW]
 |v::vs,cs,hs,h=>by
   simp only[af]at h;obtain⟨c0,cs',rfl,h2,h3⟩:=h;simp only[cw,zAc,decide_eq_true_eq]at hs;have hk:=d5 h2 tU (sT hs.1.2);have h4:=bg hk.1;simp only[aB];exact⟨c0,pW cs',by simp[pW],h2,by simp at h4;omega,hk.2,Eo hs.2 h3⟩
theorem B1{t n}(hs:ik P t=ś n){b off T cur}(hg:w.heap[b]?=ś (.cells cur T (0,0))){c}(hc:c.cells.size=n)(h1:∀u∈c.cells.toList,aI u)(hle:off+n<=cur.size):
 (Instr.storeAt t (.pointer (ś ⟨b,off,ń⟩)) c).run P w=.ok () (w.setRow b (cur.toList.take off++c.cells.toList++cur.toList.drop (off+c.cells.toList.length)).toArray):=by
 have h:=run_storeCells_at P b off T c.cells.toList 0 cur w hg (by simp;omega) h1
 simp_all[Nat.add_zero,Instr.storeAt,Instr.sureAddr,storeVar,bQ]
theorem I5{M sz}:∀{l:List V}{xs:List Value}{i:Nat}{v':V}{y':Value},aB M sz l xs->i<l.length->rep M NX v' y'->y'.cells.size=sz->(∀u∈y'.cells.toList,aI u)->
 aB M sz (l.set i v') (xs.take (i*sz)++y'.cells.toList++xs.drop (i*sz+sz))
 |[],xs,i,v',y',h,hi,_,_,_=>by simp at hi
 |v::vs,xs,0,v',y',h,hi,h1,h2,h3=>by
   simp only[aB]at h;obtain⟨y,rest,rfl,g1,g2,g3,g4⟩:=h;grind[aB,zE]
 |v::vs,xs,i+1,v',y',h,hi,h1,h2,h3=>by
   simp only[aB]at h;obtain⟨y,rest,rfl,g1,g2,g3,g4⟩:=h;simp only[zFb,aB];refine⟨y,_,?_,g1,g2,g3,I5 g4 (by simpa using hi) h1 h2 h3⟩
   simp_all[zBd,List.take_append,zE,zEc,zEd]
theorem y9{M sz}:∀{l m:List V}{xs ys:List Value},aB M sz l xs->aB M sz m ys->aB M sz (l++m) (xs++ys)
 |[],m,xs,ys,h,h'=>by grind[aB]
 |v::vs,m,xs,ys,h,h'=>by
   simp only[aB]at h;obtain⟨y,rest,rfl,g1,g2,g3,g4⟩:=h;simp only[zDi,aB];exact⟨y,rest++ys,by simp,g1,g2,g3,y9 g4 h'⟩
theorem AJ{M sz}:∀{l:List V}{b off:Nat},cx M sz l b off->∃xs,aB M sz l xs/\∀j u,xs[j]?=ś u->M ⟨b,off+j,ń⟩=ś u
 |[],b,off,_=>⟨[],rfl,by simp⟩
 |v::vs,b,off,h=>by
   simp only[cx]at h;obtain⟨⟨y,h1,h2,h3,h4⟩,h5⟩:=h;obtain⟨xs,g1,g2⟩:=AJ h5;refine⟨y.cells.toList++xs,by simp only[aB];grind,λj u hj=>?_⟩
   grind
theorem sP{M sz}:∀{l:List V}{xs:List Value},aB M sz l xs->∀u∈xs,aI u
 |[],xs,h,u,hu=>by grind[aB]
 |v::vs,xs,h,u,hu=>by
   simp only[aB]at h;obtain⟨y,rest,rfl,g1,g2,g3,g4⟩:=h;rcases zAe.1 hu with hu|hu
   ·exact g3 u hu
   ·exact sP g4 u hu
theorem mE{t ty e i}(ht:P.underlying t=ś (.slice e))(hi:P.info? e=ś i)(base ad)(n cap c)(hn:n<=cap)(w):
 (Builtin.append_ #[t,t] ty #[.slice base n cap,.slice ad 0 c]).run P w=.ok (.slice base n cap) w:=by
 cases base<;>cases ad<;>simp[Builtin.append_,run_underlying ht,sizeOf,typeInfo,hi,Builtin.lenOf,hn,Builtin.firstCells,loadCells,loadCellsFrom,storeCells]
theorem tZ{t ty e i z size bytes base}(ht:P.underlying t=ś (.slice e))(hi:P.info? e=ś i)(hz:i.zero=ś z)
 (hsize:i.size=size) (hby:i.bytes=bytes) (hzs:z.cells.size=size) (hsz:0<size)
 {v} {n} {xs} (hown:w.ownsRow base e size v n xs)
 (ad) (m c) (news) (hl:news.length=m*size) (hnews:∀j u,news[j]?=ś u->w.cell? (ad.add j)=ś u) (h1:∀u∈news,u.oneCell'=ť)
 (hm:0<m) (hbytes:(n+m)*bytes<=140737488355328) (h63:n+m<=maxLen) (hbase:base<=w.heap.size):
 ∃v' w',(Builtin.append_ #[t,t] ty #[v,.slice (ś ad) m c]).run P w=.ok v' w'/\w'.ownsRow base e size v' (n+m) (xs++news)/\w.grownBy w' v.ownBlock/\(∀g,blk v'=ś g->blk v=ś g\/w.heap.size<=g)/\Siz w w':=by
 rcases hown.2 with⟨rfl,rfl⟩|⟨g,cap,cur,rfl,hbg,hg,hnc,hcm,hcs,htake⟩
 ·obtain⟨v',w',hr,h2,h3,h4⟩:=run_append_own (P:=P) w w.heap.size t ty e i z size bytes ht hi hz hsize hby hzs hsz (.slice ń 0 0) 0 [] (World.ownsRow_nil w _ e size) ad m c news hl hnews h1 h63 hbytes (zDe _)
  have hx:xs=[]:=zBg (by simpa using hown.1)
  subst hx;refine⟨v',w',hr,⟨h2.1,?_⟩,h3,λg hg=>?_,λk cur T z hc=>⟨cur,T,z,by rw[h3.block k (zAd.1 hc).1 (by simp[Value.ownBlock])];exact hc,rfl⟩⟩
  ·rcases h2.2 with h5|⟨g,cap,cur,h5,h6,h7⟩
   ·exact .inl h5
   ·exact .inr ⟨g,cap,cur,h5,by omega,h7⟩
  ·rcases h2.2 with h5|⟨g',cap,cur,h5,h6,h7⟩
   ·omega
   ·rw[h5]at hg;cases hg;exact .inr h6
 ·by_cases hroom:n+m<=cap
  ·subst hsize
   have hfit:n*i.size+news.length<=cur.size:=by rw[hl,hcs,<-zBd];simp_all[Nat.mul_le_mul_right]
   have hr:=run_append_room (P:=P) w t ty e i ht hi g n cap cur hg ad m c news hl hnews h1 hroom hfit;obtain⟨v',w',hr',h2,h3,h4⟩:=run_append_own (P:=P) w base t ty e i z i.size bytes ht hi hz rfl hby hzs hsz _ n xs hown ad m c news hl hnews h1 h63 hbytes hbase;rw[hr]at hr';injection hr' with e1 e2
   subst e1 e2;refine⟨_,_,hr,h2,h3,λg' hg'=>.inl hg',λk cur1 T z hc=>?_⟩;by_cases hk:k=g
   ·subst hk
    refine⟨_,T,z,setRow_heap w k cur1 _ T z hc,?_⟩;grind
   simp_all[setRow_other]
  ·obtain⟨v',w',hr',h2,h3,h4⟩:=run_append_own (P:=P) w base t ty e i z size bytes ht hi hz hsize hby hzs hsz _ n xs hown ad m c news hl hnews h1 h63 hbytes hbase
   subst hsize;have zo:∀j u,xs[j]?=ś u->w.cell? ((⟨g,0,ń⟩:Addr).add j)=ś u:=hown.cells (g:=g) rfl;have hr:=run_append_grow (P:=P) w t ty e i z ht hi hz ⟨g,0,ń⟩ n cap xs hown.1 zo ad m c news hl hnews (by omega) (by grind[maxLen]) (growslice_fits (by omega) (by simp_all))
   rw[hr]at hr';injection hr' with e1 e2
   subst e1 e2;exact⟨_,_,hr,h2,h3,λg' hg'=>by cases hg';exact .inr (zDe _),λk cur1 T z hc=>⟨cur1,T,z,by rw[Below.heap_alloc w.drew _ k (zAd.1 hc).1];exact hc,rfl⟩⟩
theorem KZ(size):∀(cs:List Value)(k:Nat)(ds:Array Value),(∀c∈cs,c.cells.size=size)->(k+cs.length)*size<=ds.size->
 Instr.fill (λi=>ś (i*size,size)) ds ((zFh k cs.length).zip cs)=ś (ds.toList.take (k*size)++pW cs++ds.toList.drop ((k+cs.length)*size)).toArray
 |[],k,ds,_,_=>by simp[Instr.fill,pW]
 |c::cs,k,ds,hc,hle=>by
   have h0:=hc c (by simp)
   simp only[zDj]at hle⊢;have e1:(k+(cs.length+1))*size=k*size+size+cs.length*size:=by grind
   rw[List.range'_succ,List.zip_cons_cons];simp only[Instr.fill];have hno:¬(c.cells.size≠size||k*size+c.cells.size>ds.size)=true:=by simp;omega
   rw[if_neg hno];have hf:=zt (k*size) c.cells ds (by omega)
   rw[hf];have hsz:c.cells.toList.length=size:=by simpa using h0
   rw[KZ size cs (k+1) _ (λc hc'=>hc c (by simp[hc'])) (by grind)]
   congr 2;have e2:(k+1)*size=k*size+size:=by simp[zBd]
   have e3:(k+1+cs.length)*size=k*size+size+cs.length*size:=by simp only[zBd,zDf]
   rw[e1,e2,e3];simp only[pW,zCd,zCj];have l1:(ds.toList.take (k*size)).length=k*size:=by simp;omega
   have t1:List.take (k*size+size) (ds.toList.take (k*size)++c.cells.toList++ds.toList.drop (k*size+c.cells.toList.length))=ds.toList.take (k*size)++c.cells.toList:=by
    grind
   have t2:List.drop (k*size+size+cs.length*size) (ds.toList.take (k*size)++c.cells.toList++ds.toList.drop (k*size+c.cells.toList.length))=ds.toList.drop (k*size+size+cs.length*size):=by
    rw[zE,zEd (by simp_all),zGa,zGd]
    simp_all
   rw[t1,t2];simp
theorem JO(z)(m)(hz:0<z.size):(madeCells z (m*z.size)).toList=(zBa m z.toList).flatten:=by
 unfold madeCells;rw[Array.toList_map,Array.toList_range]
 induction m with
 |zero=>simp
 |succ m ih=>
   rw[zBd,zDf,List.range_add,List.map_append,ih,List.replicate_succ',List.flatten_append];congr 1;simp only[zCj,List.flatten_nil,List.append_nil,List.map_map];apply List.ext_getElem?;grind[List.getElem?_range,Nat.mul_add_mod',Nat.mod_eq_of_lt,zDc]
theorem rF{M sz v y}(h:rep M NX v y)(hs:y.cells.size=sz)(hc:∀u∈y.cells.toList,aI u):∀m,aB M sz (zBa m v) (zBa m y.cells.toList).flatten
 |0=>by simp[aB]
 |m+1=>by
   simp only[List.replicate_succ,aB,zCj];exact⟨y,_,rfl,h,hs,hc,rF h hs hc m⟩
end
end Go.Abs
end
