/- An abstract machine of pure values beside the model's machine: values, what they stand for in memory, states. No condition. -/
import Derived.WalkKit
import Derived.Laws.AppendOwn
import Derived.Laws.MakeOwn
import Derived.Laws.BytesArg
import Derived.Laws.Tables
import Derived.Laws.Strings2
import Derived.RegionTactic
import Derived.Still
import Derived.DeepKeys3
import Derived.MapKept
import Derived.Laws.StructEq
set_option linter.all false
set_option maxHeartbeats 0
open Option.some renaming injEq→zA
open List renaming getElem?_eq_some_iff→zAa,getElem?_take→zAe,getElem?_drop→zAg,getElem?_append_left→zAi,mem_append→zBb,getElem?_append_right→zBc,getElem?_set→zBd,replicate→zBe,eq_nil_of_length_eq_zero→zBf,mem_of_getElem?→zBg,getD→zC,map_cons→zCc,take_succ_cons→zCe,length_append→zCf,mem_singleton→zCg,cons_append→zCi,length_cons→zCj,length_take→zD,take_append_drop→zDa,mapM_cons→zDb,mem_of_mem_drop→zDd,mem_of_mem_take→zDe,mem_cons→zDg,getElem?_inj→zDi,length_drop→zE
open Option renaming map_eq_some_iff→zAb,or_eq_some_iff→zDc,map_some→zEa
open Array renaming getElem?_eq_some_iff→zAc,length_toList→zBi,getElem?_eq_getElem→zBj,ext'→zDf
open Bool renaming and_eq_true→zAd,false_eq_true→zAh,eq_iff_iff→zEd
open Iff renaming rfl→zAf
open Nat renaming add_mul→zAj,add_assoc→zBh,le_trans→zEg,le_refl→zEh,one_mul→zEi
open Int renaming le_of_lt→zB,ediv_nonpos_of_nonneg_of_nonpos→zCa,mul_nonneg_of_nonpos_of_nonpos→zCb,mul_ediv_add_emod→zCd,tmod_eq_emod_of_nonneg→zCh,lt_or_gt_of_ne→zDh,tmod_nonneg→zEb,ediv_nonneg→zEc,mul_nonneg→zEe
open List.cons renaming injEq→zBa
open UInt8 renaming ofNat→zDj
open BitVec renaming ofInt→zEf
section
namespace Go.Abs
open Go.RowKit
abbrev Mem:=Addr->Option Value
def GLs:List (Nat×List Nat):=[(0,[240,240,240,240,240,240,240,240,240,240,240,240,240,240,240,240,240,240,240,240,240,240,240,240,240,240,240,240,240,240,240,240,240,240,240,240,240,240,240,240,240,240,240,240,240,240,240,240,240,240,240,240,240,240,240,240,240,240,240,240,240,240,240,240,240,240,240,240,240,240,240,240,240,240,240,240,240,240,240,240,240,240,240,240,240,240,240,240,240,240,240,240,240,240,240,240,240,240,240,240,240,240,240,240,240,240,240,240,240,240,240,240,240,240,240,240,240,240,240,240,240,240,240,240,240,240,240,240,241,241,241,241,241,241,241,241,241,241,241,241,241,241,241,241,241,241,241,241,241,241,241,241,241,241,241,241,241,241,241,241,241,241,241,241,241,241,241,241,241,241,241,241,241,241,241,241,241,241,241,241,241,241,241,241,241,241,241,241,241,241,241,241,241,241,2,2,2,2,2,2,2,2,2,2,2,2,2,2,2,2,2,2,2,2,2,2,2,2,2,2,2,2,2,2,19,3,3,3,3,3,3,3,3,3,3,3,3,35,3,3,52,4,4,4,68,241,241,241,241,241,241,241,241,241,241,241]),(1,[128,191,160,191,128,159,144,191,128,143,0,0,0,0,0,0,0,0,0,0,0,0,0,0,0,0,0,0,0,0,0,0])]
def GLm:List Nat:=[2]
def GLv(n:Nat):Value:=.int .u8 (n%256:Nat)
def GLt(g:Nat):List Nat:=match GLs.find? (fun t=>t.1 == g)with
 |some t=>t.2
 |none=>[]
def GL:Mem:=fun p=>if p=⟨p.block,p.off,none⟩then((GLt p.block)[p.off]?).map GLv else none
def Kj(M:Mem):Prop:=(∀p v,GL p=some v->M p=some v)/\∀b,b∈GLm->∃m,M ⟨b,0,none⟩=some (.int .i64 m)
theorem Kj.mono{M M':Mem}(h:Kj M)(hM:∀p v,M p=some v->M' p=some v):Kj M':=
 ⟨fun p v hp=>hM p v (h.1 p v hp),fun b hb=>by obtain⟨m,hm⟩:=h.2 b hb;exact⟨m,hM _ _ hm⟩⟩
inductive V where
 |int (k:IntKind) (n:Int)
 |bool (b:Bool)
 |str (s:List UInt8)
 |nil (sz:Nat)
 |seq (sz:Nat) (l:List V)
 |ref (id n:Nat)
 |strct (cs:List V)
 |ptr (id off:Nat)
 |eptr (id n i off:Nat)
 |mref (id i n:Nat)
 |fseq (sz:Nat) (l:List V)
 |mptr (id i n k off:Nat)
 |q (k j n i off:Nat)
 |sptr (x:V) (off:Nat)
 |nilptr
 |fn (f:Fn) (first cap:List V)
 |nilfn
 |nilmp
 |iface (t:TypeId) (x:V)
 |niliface
 |tup (vs:List V)
 |junk
 deriving Inhabited
abbrev NX:V->Value->Prop:=fun _ _=>False
def am(c:Value):Prop:=c.oneCell'=true
mutual
def rep(M:Mem):(V->Value->Prop)->V->Value->Prop
 |_,.int k n,c=>c=.int k n/\k.min<=n/\n<=k.max
 |_,.bool b,c=>c=.bool b
 |_,.str s,c=>∃bs:ByteArray,c=.string bs/\bs.data.toList=s/\s.length<=4611686018427387904
 |_,.nil sz,c=>c=.slice none 0 0/\0<sz
 |_,.seq sz l,c=>∃a cap,c=.slice a l.length cap/\l.length<=cap/\l.length<=140737488355328/\0<sz/\(l=[]\/∃b off,a=some ⟨b,off,none⟩/\bB M sz l b off)
 |X,.strct cs,c=>∃arr:Array Value,c=.agg arr/\ae M X cs arr.toList/\∀u∈arr.toList,am u
 |_,.sptr x off,c=>∃b o y,c=.pointer (some ⟨b,o+off,none⟩)/\rep M NX x y/\(∀u∈y.cells.toList,am u)/\∀j,j<y.cells.size->M ⟨b,o+j,none⟩=y.cells[j]?
 |_,.nilptr,c=>c=.pointer none
 |X,.fn f fs cs,c=>∃a1 a2:Array Value,c=.func f a1 a2/\ae M X fs a1.toList/\ae M X cs a2.toList
 |_,.nilfn,c=>c=.nilFunc
 |_,.nilmp,c=>c=.map none
 |X,.iface t x,c=>∃y,c=.iface t y/\rep M X x y
 |_,.niliface,c=>c=.nilIface
 |X,.tup vs,c=>∃arr:Array Value,c=.tuple arr/\ae M X vs arr.toList
 |_,.junk,c=>am c
 |X,.ref id n,c=>X (.ref id n) c
 |X,.ptr id n,c=>X (.ptr id n) c
 |X,.eptr id n i off,c=>X (.eptr id n i off) c
 |X,.mref id i n,c=>X (.mref id i n) c
 |X,.fseq sz l,c=>X (.fseq sz l) c
 |X,.mptr id i n k off,c=>X (.mptr id i n k off) c
 |X,.q k j n i off,c=>X (.q k j n i off) c
def ae(M:Mem):(V->Value->Prop)->List V->List Value->Prop
 |_,[],cs=>cs=[]
 |X,v::vs,cs=>∃c cs',cs=c::cs'/\rep M X v c/\ae M X vs cs'
def bB(M:Mem):Nat->List V->Nat->Nat->Prop
 |_,[],_,_=>True
 |sz,v::vs,b,off=>(∃y,rep M NX v y/\y.cells.size=sz/\(∀u∈y.cells.toList,am u)/\∀j,j<sz->M ⟨b,off+j,none⟩=y.cells[j]?)/\bB M sz vs b (off+sz)
end
section
variable{M M':Mem}(hM:∀p u,M p=some u->M' p=some u)
include hM
mutual
theorem aw:∀{X X':V->Value->Prop}(hX:∀v c,X v c->X' v c)(v:V)(c:Value),rep M X v c->rep M' X' v c
 |_,_,_,.int _ _,_,h=>h
 |_,_,_,.bool _,_,h=>h
 |_,_,_,.str _,_,h=>h
 |_,_,_,.nil _,_,h=>h
 |_,_,_,.seq sz l,c,h=>by
   simp only[rep]at h⊢;obtain⟨a,cap,h1,h1',h2,h2',h3⟩:=h;refine⟨a,cap,h1,h1',h2,h2',?_⟩;rcases h3 with h3|⟨b,off,h4,h5⟩
   ·exact .inl h3
   ·exact .inr ⟨b,off,h4,oC sz l b off h5⟩
 |_,_,hX,.strct cs,c,h=>by
   simp only[rep]at h⊢;obtain⟨arr,h1,h2,h3⟩:=h;exact⟨arr,h1,aD hX cs _ h2,h3⟩
 |_,_,_,.sptr x off,c,h=>by
   simp only[rep]at h⊢;obtain⟨b,o,y,h1,h2,h2',h3⟩:=h;refine⟨b,o,y,h1,aw (fun _ _ h=>h) x y h2,h2',fun j hj=>?_⟩;have h4:=h3 j hj;rw[zBj hj]at h4⊢;exact hM _ _ h4
 |_,_,_,.nilptr,_,h=>h
 |_,_,hX,.fn f fs cs,c,h=>by
   simp only[rep]at h⊢;obtain⟨a1,a2,h1,h2,h3⟩:=h;exact⟨a1,a2,h1,aD hX fs _ h2,aD hX cs _ h3⟩
 |_,_,_,.nilfn,_,h=>h
 |_,_,_,.nilmp,_,h=>h
 |_,_,hX,.iface t x,c,h=>by
   simp only[rep]at h⊢;obtain⟨y,h1,h2⟩:=h;exact⟨y,h1,aw hX x y h2⟩
 |_,_,_,.niliface,_,h=>h
 |_,_,hX,.tup vs,c,h=>by
   simp only[rep]at h⊢;obtain⟨arr,h1,h2⟩:=h;exact⟨arr,h1,aD hX vs _ h2⟩
 |_,_,_,.junk,_,h=>h
 |_,_,hX,.ref _ _,_,h=>hX _ _ h
 |_,_,hX,.ptr _ _,_,h=>hX _ _ h
 |_,_,hX,.eptr _ _ _ _,_,h=>hX _ _ h
 |_,_,hX,.mref _ _ _,_,h=>hX _ _ h
 |_,_,hX,.fseq _ _,_,h=>hX _ _ h
 |_,_,hX,.mptr _ _ _ _ _,_,h=>hX _ _ h
 |_,_,hX,.q _ _ _ _ _,_,h=>hX _ _ h
theorem aD:∀{X X':V->Value->Prop}(hX:∀v c,X v c->X' v c)(vs:List V)(cs:List Value),ae M X vs cs->ae M' X' vs cs
 |_,_,_,[],_,h=>h
 |_,_,hX,v::vs,cs,h=>by
   simp only[ae]at h⊢;obtain⟨c,cs',h1,h2,h3⟩:=h;exact⟨c,cs',h1,aw hX v c h2,aD hX vs cs' h3⟩
theorem oC:∀(sz:Nat)(l:List V)(b off:Nat),bB M sz l b off->bB M' sz l b off
 |_,[],_,_,_=>trivial
 |sz,v::vs,b,off,h=>by
   simp only[bB]at h⊢;obtain⟨⟨y,h1,h2,h2',h3⟩,h4⟩:=h;refine⟨⟨y,aw (fun _ _ h=>h) v y h1,h2,h2',fun j hj=>?_⟩,oC sz vs b _ h4⟩;have h5:=h3 j hj;rw[zBj (by omega)]at h5⊢
   exact hM _ _ h5
end
end
theorem DJ{M:Mem}{X X':V->Value->Prop}(hX:∀v c,X v c->X' v c){v:V}{c:Value}(h:rep M X v c):rep M X' v c:=aw (fun _ _ h=>h) hX v c h
theorem aB{M:Mem}{X:V->Value->Prop}{v:V}{c:Value}(h:rep M NX v c):rep M X v c:=DJ (fun _ _ h=>h.elim) h
theorem aC{M:Mem}{X:V->Value->Prop}:∀{vs:List V}{cs:List Value},ae M X vs cs->cs.length=vs.length
 |[],_,h=>by simp only[ae]at h;simp[h]
 |v::vs,_,h=>by
   simp only[ae]at h;obtain⟨c,cs',rfl,_,h3⟩:=h;simp[aC h3]
theorem cd{M:Mem}{X:V->Value->Prop}:∀{vs:List V}{cs:List Value},ae M X vs cs->∀{i:Nat}{v:V},vs[i]?=some v->∃c,cs[i]?=some c/\rep M X v c
 |[],_,h,i,v,hi=>by simp at hi
 |v::vs,_,h,i,u,hi=>by
   simp only[ae]at h;obtain⟨c,cs',rfl,h2,h3⟩:=h;cases i with
   |zero=>simp at hi;subst hi;exact⟨c,by simp,h2⟩
   |succ i=>simp at hi;simpa using cd h3 hi
theorem cQ{M:Mem}{X:V->Value->Prop}:∀{vs us:List V}{cs ds:List Value},ae M X vs cs->ae M X us ds->ae M X (vs++us) (cs++ds)
 |[],us,cs,ds,h,h'=>by simp only[ae]at h;simpa[h]using h'
 |v::vs,us,cs,ds,h,h'=>by
   simp only[ae]at h;obtain⟨c,cs',rfl,h2,h3⟩:=h;simp only[zCi,ae];exact⟨c,cs'++ds,rfl,h2,cQ h3 h'⟩
theorem kI{M:Mem}{X:V->Value->Prop}:∀(n:Nat){vs:List V}{cs:List Value},ae M X vs cs->ae M X (vs.take n) (cs.take n)
 |0,_,_,_=>by simp[ae]
 |n+1,[],_,h=>by simp only[ae]at h;simp[h,ae]
 |n+1,v::vs,_,h=>by
   simp only[ae]at h;obtain⟨c,cs',rfl,h2,h3⟩:=h;simp only[zCe,ae];exact⟨c,cs'.take n,rfl,h2,kI n h3⟩
theorem kJ{M:Mem}{X:V->Value->Prop}:∀(n:Nat){vs:List V}{cs:List Value},ae M X vs cs->ae M X (vs.drop n) (cs.drop n)
 |0,_,_,h=>h
 |n+1,[],_,h=>by simp only[ae]at h;simp[h,ae]
 |n+1,v::vs,_,h=>by
   simp only[ae]at h;obtain⟨c,cs',rfl,h2,h3⟩:=h;simpa using kJ n h3
theorem si{M:Mem}{X:V->Value->Prop}:∀(n:Nat){vs:List V}{cs:List Value}{v:V}{c:Value},ae M X vs cs->rep M X v c->ae M X (vs.set n v) (cs.set n c)
 |_,[],_,_,_,h,_=>by simp only[ae]at h;simp[h,ae]
 |0,v::vs,_,_,_,h,h'=>by
   simp only[ae]at h;obtain⟨c,cs',rfl,h2,h3⟩:=h;simp only[List.set_cons_zero,ae];exact⟨_,_,rfl,h',h3⟩
 |n+1,v::vs,_,_,_,h,h'=>by
   simp only[ae]at h;obtain⟨c,cs',rfl,h2,h3⟩:=h;simp only[List.set_cons_succ,ae];exact⟨_,_,rfl,h2,si n h3 h'⟩
def cl:V->List V
 | .strct cs=>cs
 |v=>[v]
def mkc:Bool->List V->Option V
 |true,cs=>some (.strct cs)
 |false,[v]=>some v
 |false,_=>none
theorem Om{M:Mem}{X:V->Value->Prop}{v:V}{c:Value}(h:rep M X v c)(hc:c.cells=#[c]\/∃cs,v=.strct cs):ae M X (cl v) c.cells.toList:=by
 cases v with
 |strct cs=>
   simp only[rep]at h;obtain⟨arr,rfl,h2,_⟩:=h;simpa[cl,Value.cells]using h2
 |_=>
   rcases hc with hc|⟨_,hc⟩
   ·rw[hc];simp only[cl,ae];exact⟨c,[],by simp,h,rfl⟩
   ·cases hc
theorem bU{c:Value}(h:am c):c.cells=#[c]:=by cases c<;>simp_all[am,Value.oneCell',Value.cells]
end Go.Abs
end
section
namespace Go.Abs
inductive KK where
 |i (k:IntKind)
 |b
 |s
 deriving DecidableEq,Inhabited
structure KT where
 agg:Bool
 ks:List KK
 deriving DecidableEq,Inhabited
def kOf:V->Option KK
 | .int k _=>some (.i k)
 | .bool _=>some .b
 | .str _=>some .s
 |_=>none
def bI:List V->List (Option KK)
 |[]=>[]
 |v::vs=>kOf v::bI vs
def aQ:List KK->List (Option KK)
 |[]=>[]
 |k::ks=>some k::aQ ks
def gk:V->Bool
 | .strct _=>true
 |_=>false
def a8(kt:KT)(v:V):Bool:=decide (gk v=kt.agg)&&decide (bI (cl v)=aQ kt.ks)
def eqC:V->V->Bool
 | .int _ a,.int _ b=>decide (a=b)
 | .bool a,.bool b=>a == b
 | .str a,.str b=>decide (a=b)
 |_,_=>false
def vT:List V->List V->Bool
 |[],[]=>true
 |u::us,v::vs=>eqC u v&&vT us vs
 |_,_=>false
def eqK(u v:V):Bool:=vT (cl u) (cl v)
def sy(k:V):List (V×V)->Option V
 |[]=>none
 |(k',v)::l=>if eqK k k'=true then some v else sy k l
def xG(k:V):List (V×V)->List (V×V)
 |[]=>[]
 |(k',v)::l=>if eqK k k'=true then l else(k',v)::xG k l
def nU(k u:V):List (V×V)->List (V×V)
 |[]=>[(k,u)]
 |(k',v)::l=>if eqK k k'=true then(k,u)::l else(k',v)::nU k u l
inductive Rw where
 |a (l:List V)
 |g (k:Nat)
 deriving Inhabited
inductive Po where
 |bx (e:Nat) (cs:List V)
 |rw(e sz:Nat) (l:List V)
 |byt (e:Nat) (s:List UInt8)
 |no
 deriving Inhabited
inductive Ob where
 |box (cs:List V)
 |arr (e sz:Nat) (l:List V)
 |mat (e e2 sz:Nat) (rows:List Rw)
 |mp (kt:KT) (l:List (V×V))
 |gh (l:List (V×Bool))
 |itr (s:List UInt8) (p:Nat)
 |tok (c:Value)
 |pool (ms:List Po)
 deriving Inhabited
structure St where
 r:List (Nat×V)
 h:List (Option Ob)
inductive AO where
 |t (n:Nat)
 |v (x:V)
 deriving Inhabited
inductive Act' where
 |mov (x:AO)
 |pick (c a b:AO)
 |fld (x:AO) (off n:Nat) (agg:Bool)
 |fa (x:AO) (off:Nat)
 |ia (x i:AO) (sz:Nat)
 |iaa (x i:AO) (len sz:Nat)
 |ld (x:AO) (n:Nat) (agg:Bool)
 |ixs (x i:AO)
 |ixa (x i:AO) (len sz:Nat) (agg:Bool)
 |bin (op:BinOp) (x y:AO)
 |un (op:UnOp) (x:AO)
 |cii (k:IntKind) (x:AO)
 |r2s (x:AO)
 |s2b (x:AO)
 |b2s (x:AO)
 |sls (x:AO) (lo hi:Option AO)
 |slq (x:AO) (lo hi:Option AO) (sz:Nat)
 |lens (x:AO)
 |lenq (x:AO)
 |beq (neg:Bool) (x y:AO)
 |ext (x:AO) (i:Nat)
 |bld (z:List V) (parts:List (Nat×Nat×AO))
 |lit (e sz:Nat) (xs:List AO)
 |ltr (e sz:Nat) (xs:List AO)
 |mkf (f:Fn) (first cap:List AO)
 |nlc (x:AO)
 |alc (z:List V)
 |box (x:AO)
 |st (n:Nat) (a x:AO)
 |app (x y:AO) (e sz by':Nat)
 |mks (e sz by':Nat) (z:V) (n:AO)
 |mk0 (e sz by':Nat) (n:AO)
 |mkm (e by' e2 sz:Nat) (n:AO)
 |call (f:FuncId) (xs:List AO)
 |callv (g:AO) (xs:List AO)
 |callH (f:FuncId) (xs:List AO)
 |mki (t:TypeId) (x:AO)
 |tya (t:TypeId) (z:V) (okk:Bool) (x:AO)
 |aeq (neg:Bool) (kt:KT) (x y:AO)
 |mkp (kt:KT)
 |lkp (kt:KT) (z:V) (ok:Bool) (x k:AO)
 |mup (kt:KT) (x k v:AO)
 |inv (tbl:List (Nat×FuncId)) (x:AO) (xs:List AO)
 |ivp (tbl:List (Nat×FuncId×Option (Nat×Bool))) (x:AO) (xs:List AO)
 |mm (mx:Bool) (x y:AO)
 |trc (x hi:AO) (sz:Nat)
 |alq (z:List V)
 |bxq (x:AO)
 |cvb (x:AO)
 |apz (y:AO) (e sz by':Nat)
 |sbq (y:AO)
 |aps (x y:AO) (e:Nat)
 |apb (x y:AO) (e:Nat)
 |alb (t e:Nat) (z:List V)
 |usd (x:AO)
 |ust (p n:AO) (e:Nat)
 |del (kt:KT) (x k:AO)
 |mkq (e sz by':Nat) (z:V) (n:AO)
 |nlq (k:Nat) (neg:Bool) (x:AO)
 |yld (g:AO) (xs:List AO)
 |rgs (x:AO)
 |nxs (x:AO)
 |bad
 deriving Inhabited
structure AOp where
 d:Option Nat
 a:Act'
 g:Option (Nat×Bool)
 deriving Inhabited
inductive OT where
 |nil
 |op (x:AOp) (t:OT)
 |both (a b:OT)
 deriving Inhabited
inductive AC where
 |skip
 |reg (ops:List AOp) (ks:List Nat)
 |regD (ops:List AOp) (ks:List Nat)
 |regE (alts:List (List AOp)) (ks:List Nat)
 |regF (t:OT) (ks:List Nat)
 |scope (l:Nat) (ks:List Nat) (a b:AC)
 |label (l:Nat)
 |goto (l:Nat)
 |bad
 |seq (a b:AC)
 |cond (c:AO) (a b:AC)
 |block (id:Nat) (c:AC)
 |loop (ks:List Nat) (c:AC)
 |exit (id:Nat)
 |ret
 deriving Inhabited
def lk:List (Nat×V)->Nat->Option V
 |[],_=>none
 |(k,v)::r,t=>if k=t then some v else lk r t
def gm:Nat->List Nat->Bool
 |_,[]=>false
 |n,k::ks=>if n=k then true else gm n ks
def pk(r:List (Nat×V)):List Nat->List (Nat×V)
 |[]=>[]
 |k::ks=>match lk r k with
   |some v=>(k,v)::pk r ks
   |none=>pk r ks
namespace St
def ev(σ:St):AO->Option V
 | .t n=>lk σ.r n
 | .v x=>some x
def evs(σ:St):List AO->Option (List V)
 |[]=>some []
 |x::xs=>match σ.ev x,σ.evs xs with
   |some v,some vs=>some (v::vs)
   |_,_=>none
def evo(σ:St)(d:V):Option AO->Option V
 |none=>some d
 |some x=>σ.ev x
def put(σ:St)(d:Option Nat)(v:V):St:=
 match d with
 |none=>σ
 |some t=>{ σ with r:=(t,v)::σ.r }
def cls(old σ:St)(ks:List Nat):St:={ σ with r:=pk σ.r ks }
end St
def cut(cs:List V)(off n:Nat):Option (List V):=if off+n<=cs.length then some ((cs.drop off).take n)else none
def iE(cs:List V)(off:Nat)(us:List V):Option (List V):=if off+us.length<=cs.length then some (cs.take off++us++cs.drop (off+us.length))else none
def St.box?(σ:St)(id:Nat):Option (List V):=
 match σ.h[id]? with
 |some (some (.box cs))=>some cs
 |_=>none
def St.arr?(σ:St)(id:Nat):Option (Nat×Nat×List V):=
 match σ.h[id]? with
 |some (some (.arr e sz l))=>some (e,sz,l)
 |_=>none
def St.rws?(σ:St)(id:Nat):Option (Nat×Nat×Nat×List Rw):=
 match σ.h[id]? with
 |some (some (.mat e e2 sz rows))=>some (e,e2,sz,rows)
 |_=>none
def St.mp?(σ:St)(id:Nat):Option (KT×List (V×V)):=
 match σ.h[id]? with
 |some (some (.mp kt l))=>some (kt,l)
 |_=>none
def St.gh?(σ:St)(id:Nat):Option (List (V×Bool)):=
 match σ.h[id]? with
 |some (some (.gh l))=>some l
 |_=>none
def St.itr?(σ:St)(id:Nat):Option (List UInt8×Nat):=
 match σ.h[id]? with
 |some (some (.itr s p))=>some (s,p)
 |_=>none
def St.pl?(σ:St):Option (List Po):=
 match σ.h with
 |some (.pool ms)::_=>some ms
 |_=>none
def St.setP(σ:St)(ms:List Po):St:={ σ with h:=σ.h.set 0 (some (Ob.pool ms)) }
mutual
def low:V->Option V
 | .q k j n i off=>some (.q k j n i off)
 | .strct cs=>(oU cs).map .strct
 | .tup vs=>none
 | .fn f a b=>match oU a,oU b with
   |some a',some b'=>some (.fn f a' b')
   |_,_=>none
 | .iface t x=>(low x).map (.iface t)
 | .ref _ _=>none
 | .ptr _ _=>none
 | .eptr _ _ _ _=>none
 | .mref _ _ _=>none
 | .fseq sz l=>some (.seq sz l)
 | .mptr _ _ _ _ _=>none
 | .int k n=>some (.int k n)
 | .bool b=>some (.bool b)
 | .str s=>some (.str s)
 | .nil sz=>some (.nil sz)
 | .seq sz l=>some (.seq sz l)
 | .sptr x off=>some (.sptr x off)
 | .nilptr=>some .nilptr
 | .nilfn=>some .nilfn
 | .nilmp=>some .nilmp
 | .niliface=>some .niliface
 | .junk=>some .junk
def oU:List V->Option (List V)
 |[]=>some []
 |v::vs=>match low v,oU vs with
   |some u,some us=>some (u::us)
   |_,_=>none
end
def uI(s:List UInt8)(p:Nat):Nat×Nat:=Utf8.decode ⟨s.toArray⟩ p
def aT(rows:List Rw)(i:Nat):Option (List V):=match rows[i]? with
 |some (.a r)=>some r
 |_=>none
def ow(rows:List Rw)(i:Nat):Option Nat:=match rows[i]? with
 |some (.a r)=>some r.length
 |some (.g k)=>some k
 |none=>none
def St.fetch(σ:St):V->Nat->Option (List V)
 | .ptr id off,n=>match σ.box? id with
   |some cs=>cut cs off n
   |none=>none
 | .eptr id m i off,n=>match σ.arr? id with
   |some (_,_,l)=>if m=l.length then(match l[i]? with
     |some v=>cut (cl v) off n
     |none=>none)else none
   |none=>match σ.rws? id with
     |some (_,_,_,rows)=>if m=rows.length/\off=0/\n=1 then(match aT rows i with
       |some r=>some [.mref id i r.length]
       |none=>none)else none
     |none=>none
 | .mptr id i m k off,n=>match σ.rws? id with
   |some (_,_,_,rows)=>match aT rows i with
     |some r=>if m=r.length then(match r[k]? with
       |some v=>cut (cl v) off n
       |none=>none)else none
     |none=>none
   |none=>none
 | .q k j m i off,n=>match σ.pl? with
   |some ms=>match ms[j]? with
     |some (.bx _ cs)=>if k=0 then cut cs off n else none
     |some (.rw _ _ l)=>if k=2/\m=l.length then(match l[i]? with
       |some v=>cut (cl v) off n
       |none=>none)else none
     |some (.byt _ l)=>if k=2/\m=l.length then(match l[i]? with
       |some b=>cut [V.int .u8 b.toNat] off n
       |none=>none)else none
     |_=>none
   |none=>none
 | .sptr x off,n=>cut (cl x) off n
 |_,_=>none
def jA(sz:Nat):List Rw->Option (List V)
 |[]=>some []
 | .a r::l=>match jA sz l with
   |some vs=>some (.seq sz r::vs)
   |none=>none
 | .g _::_=>none
def pur1(h:List (Option Ob))(id n:Nat):Option V:=
 match h[id]? with
 |some (some (.arr _ sz l))=>if n=l.length then some (.seq sz l)else none
 |some (some (.mat _ _ sz rows))=>if n=rows.length then(jA sz rows).map (.seq 1)else none
 |_=>none
def pur2(h:List (Option Ob))(id i n:Nat):Option V:=
 match h[id]? with
 |some (some (.mat _ _ sz rows))=>match aT rows i with
   |some r=>if n=r.length then some (.seq sz r)else none
   |none=>none
 |_=>none
mutual
def pur(h:List (Option Ob)):V->Option V
 | .nil sz=>some (.seq sz [])
 | .ref id n=>pur1 h id n
 | .mref id i n=>pur2 h id i n
 | .fseq sz l=>some (.seq sz l)
 | .mptr _ _ _ _ _=>none
 | .q _ _ _ _ _=>none
 | .strct cs=>(purs h cs).map .strct
 | .tup vs=>(purs h vs).map .tup
 | .fn f a b=>match purs h a,purs h b with
   |some a',some b'=>some (.fn f a' b')
   |_,_=>none
 | .iface t x=>(pur h x).map (.iface t)
 | .ptr _ _=>none
 | .eptr _ _ _ _=>none
 | .int k n=>some (.int k n)
 | .bool b=>some (.bool b)
 | .str s=>some (.str s)
 | .seq sz l=>some (.seq sz l)
 | .sptr x off=>some (.sptr x off)
 | .nilptr=>some .nilptr
 | .nilfn=>some .nilfn
 | .nilmp=>some .nilmp
 | .niliface=>some .niliface
 | .junk=>some .junk
def purs(h:List (Option Ob)):List V->Option (List V)
 |[]=>some []
 |v::vs=>match pur h v,purs h vs with
   |some u,some us=>some (u::us)
   |_,_=>none
end
def src(h:List (Option Ob)):V->Option V
 | .ref id n=>match h[id]? with
   |some (some (.arr _ sz l))=>if n=l.length then some (.seq sz l)else none
   |_=>none
 |v=>pur h v
mutual
def cI:V->Bool
 | .int _ _=>true
 | .bool _=>true
 | .str _=>true
 | .strct cs=>dB cs
 | .tup vs=>dB vs
 | .nilptr=>true
 | .nilfn=>true
 | .nilmp=>true
 | .niliface=>true
 | .junk=>true
 | .fn _ a b=>dB a&&dB b
 | .seq _ l=>l.isEmpty
 | .iface _ x=>cI x
 | .nil _=>true
 | .ref _ _=>false
 | .ptr _ _=>false
 | .eptr _ _ _ _=>false
 | .mref _ _ _=>false
 | .fseq _ _=>false
 | .mptr _ _ _ _ _=>false
 | .q _ _ _ _ _=>false
 | .sptr _ _=>false
def dB:List V->Bool
 |[]=>true
 |v::vs=>cI v&&dB vs
end
mutual
def aA:V->List Nat
 | .ref id _=>[id]
 | .ptr id _=>[id]
 | .eptr id _ _ _=>[id]
 | .mref id _ _=>[id]
 | .fseq _ _=>[]
 | .mptr id _ _ _ _=>[id]
 | .q _ _ _ _ _=>[0]
 | .strct cs=>ak cs
 | .tup vs=>ak vs
 | .fn _ a b=>ak a++ak b
 | .iface _ x=>aA x
 | .int _ _=>[]
 | .bool _=>[]
 | .str _=>[]
 | .nil _=>[]
 | .seq _ _=>[]
 | .sptr _ _=>[]
 | .nilptr=>[]
 | .nilfn=>[]
 | .nilmp=>[]
 | .niliface=>[]
 | .junk=>[]
def ak:List V->List Nat
 |[]=>[]
 |v::vs=>aA v++ak vs
end
def idx:Nat->List Nat->Option Nat
 |_,[]=>none
 |n,k::ks=>if n=k then some 0 else(idx n ks).map (· +1)
mutual
def ren(m:List Nat):V->V
 | .ref id n=>match idx id m with
   |some j=>.ref j n
   |none=>.junk
 | .ptr id off=>match idx id m with
   |some j=>.ptr j off
   |none=>.junk
 | .eptr id n i off=>match idx id m with
   |some j=>.eptr j n i off
   |none=>.junk
 | .fseq sz l=>.fseq sz l
 | .mref id i n=>match idx id m with
   |some j=>.mref j i n
   |none=>.junk
 | .mptr id i n k off=>match idx id m with
   |some j=>.mptr j i n k off
   |none=>.junk
 | .q k j n i off=>match m with
   |0::_=>.q k j n i off
   |_=>.junk
 | .strct cs=>.strct (dO m cs)
 | .tup vs=>.tup (dO m vs)
 | .fn f a b=>.fn f (dO m a) (dO m b)
 | .iface t x=>.iface t (ren m x)
 | .int k n=>.int k n
 | .bool b=>.bool b
 | .str s=>.str s
 | .nil sz=>.nil sz
 | .seq sz l=>.seq sz l
 | .sptr x off=>.sptr x off
 | .nilptr=>.nilptr
 | .nilfn=>.nilfn
 | .nilmp=>.nilmp
 | .niliface=>.niliface
 | .junk=>.junk
def dO(m:List Nat):List V->List V
 |[]=>[]
 |v::vs=>ren m v::dO m vs
end
def bY:List Nat->List Nat->List Nat
 |acc,[]=>acc
 |acc,k::ks=>if gm k acc=true then bY acc ks else bY (acc++[k]) ks
def KS:List (Nat×V)->List Nat
 |[]=>[]
 |(_,v)::r=>aA v++KS r
def obI:Option (Option Ob)->List Nat
 |some (some (.box cs))=>ak cs
 |some (some (.arr _ _ _))=>[]
 |some (some (.mat _ _ _ _))=>[]
 |some (some (.mp _ _))=>[]
 |some (some (.gh _))=>[]
 |some (some (.itr _ _))=>[]
 |some (some (.tok _))=>[]
 |some (some (.pool _))=>[]
 |some none=>[]
 |none=>[]
def nY(h:List (Option Ob)):List Nat->List Nat
 |[]=>[]
 |id::ids=>obI h[id]?++nY h ids
def Bm(m:List Nat):List (Nat×V)->List (Nat×V)
 |[]=>[]
 |(k,v)::r=>(k,ren m v)::Bm m r
def bH(m:List Nat):Option Ob->Option Ob
 |some (Ob.box cs)=>some (.box (dO m cs))
 |some (Ob.arr e sz l)=>some (Ob.arr e sz l)
 |some (Ob.mat e e2 sz rows)=>some (Ob.mat e e2 sz rows)
 |some (Ob.mp kt l)=>some (Ob.mp kt l)
 |some (Ob.gh l)=>some (Ob.gh l)
 |some (Ob.itr s p)=>some (Ob.itr s p)
 |some (Ob.tok c)=>some (Ob.tok c)
 |some (Ob.pool ms)=>some (Ob.pool ms)
 |none=>none
def fL(h:List (Option Ob))(m:List Nat):List Nat->List (Option Ob)
 |[]=>[]
 |id::ids=>bH m (h.getD id none)::fL h m ids
def di:List (Option Ob)->List Nat
 |some (.pool _)::_=>[0]
 |_=>[]
def St.nrm(σ:St)(ks:List Nat):St:=
 let r:=pk σ.r ks
 let a:=bY (di σ.h) (KS r)
 let b:=bY a (nY σ.h a)
 let c:=bY b (nY σ.h b)
 { r:=Bm c r,h:=fL σ.h c c }
inductive Mat where
 |r (t e sz:Nat)
 |b (id off e sz:Nat)
 |z (t:Nat)
 |q (t e sz:Nat)
 |qb (id off e sz:Nat)
def St.kill:St->List Nat->St
 |σ,[]=>σ
 |σ,id::ids=>St.kill { σ with h:=σ.h.set id none } ids
def St.mat(σ:St):Mat->Option St
 | .r t e sz=>match lk σ.r t with
   |some (.nil _)=>if 0<sz then some { r:=(t,.ref σ.h.length 0)::σ.r,h:=σ.h++[some (Ob.arr e sz [])] }else none
   |_=>none
 | .b id off e sz=>match σ.box? id with
   |some cs=>match cs[off]? with
     |some (.nil _)=>if 0<sz then some { σ with h:=σ.h.set id (some (.box (cs.set off (.ref σ.h.length 0))))++[some (Ob.arr e sz [])] }else none
     |_=>none
   |none=>none
 | .z t=>match lk σ.r t with
   |some v=>match pur σ.h v with
     |some u=>some { r:=(t,u)::σ.r,h:=(σ.kill (aA v)).h }
     |none=>none
   |none=>none
 | .q t e sz=>match lk σ.r t,σ.pl? with
   |some (.nil _),some ms=>if 0<sz then some { r:=(t,.q 1 ms.length 0 0 0)::σ.r,h:=σ.h.set 0 (some (Ob.pool (ms++[.rw e sz []]))) }else none
   |_,_=>none
 | .qb id off e sz=>match σ.box? id,σ.pl? with
   |some cs,some ms=>match cs[off]? with
     |some (.nil _)=>if 0<sz then some { σ with h:=(σ.h.set 0 (some (Ob.pool (ms++[.rw e sz []])))).set id (some (.box (cs.set off (.q 1 ms.length 0 0 0)))) }else none
     |_=>none
   |_,_=>none
def St.mats(σ:St):List Mat->Option St
 |[]=>some σ
 |m::ms=>match σ.mat m with
   |some σ'=>σ'.mats ms
   |none=>none
def Kx(op:BinOp)(k:IntKind)(a b:Int):Option V:=
 if b<0 then none else
 match op with
 | .shl=>some (.int k (k.wrap (a*2^(min b.toNat k.bits))))
 | .shr=>some (.int k (a.fdiv (2^(min b.toNat k.bits))))
 |_=>none
def Hq(op:BinOp)(k:IntKind)(x y:Int):Option V:=
 let a:=zEf k.bits x
 let b:=zEf k.bits y
 match op with
 | .and=>some (.int k (k.wrap (a &&& b).toNat))
 | .or=>some (.int k (k.wrap (a ||| b).toNat))
 | .xor=>some (.int k (k.wrap (a^^^b).toNat))
 | .andNot=>some (.int k (k.wrap (a &&& ~~~b).toNat))
 |_=>none
def ct(op:BinOp)(k:IntKind)(a b:Int):Option V:=
 match op with
 | .add=>some (.int k (k.wrap (a+b)))
 | .sub=>some (.int k (k.wrap (a-b)))
 | .mul=>some (.int k (k.wrap (a*b)))
 | .quo=>if b=0 then none else some (.int k (k.wrap (a.tdiv b)))
 | .rem=>if b=0 then none else some (.int k (a.tmod b))
 | .eql=>some (.bool (decide (a=b)))
 | .neq=>some (.bool (!decide (a=b)))
 | .lss=>some (.bool (decide (a<b)))
 | .leq=>some (.bool (decide (a<=b)))
 | .gtr=>some (.bool (decide (b<a)))
 | .geq=>some (.bool (decide (b<=a)))
 |_=>none
def Xp(op:BinOp)(a b:List UInt8):Option V:=
 match op with
 | .add=>if a.length+b.length<=4611686018427387904 then some (.str (a++b))else none
 | .eql=>some (.bool (decide (a=b)))
 | .neq=>some (.bool (!decide (a=b)))
 | .lss=>some (.bool (Op.bytesLess a b))
 | .leq=>some (.bool (Op.bytesLess a b||decide (a=b)))
 | .gtr=>some (.bool (!(Op.bytesLess a b||decide (a=b))))
 | .geq=>some (.bool (!Op.bytesLess a b))
 |_=>none
def Up(op:BinOp):V->V->Option V
 | .int k a,.int k' b=>match op with
   | .shl=>Kx .shl k a b
   | .shr=>Kx .shr k a b
   | .and=>if k=k' then Hq .and k a b else none
   | .or=>if k=k' then Hq .or k a b else none
   | .xor=>if k=k' then Hq .xor k a b else none
   | .andNot=>if k=k' then Hq .andNot k a b else none
   | .add=>if k=k' then ct .add k a b else none
   | .sub=>if k=k' then ct .sub k a b else none
   | .mul=>if k=k' then ct .mul k a b else none
   | .quo=>if k=k' then ct .quo k a b else none
   | .rem=>if k=k' then ct .rem k a b else none
   | .eql=>if k=k' then ct .eql k a b else none
   | .neq=>if k=k' then ct .neq k a b else none
   | .lss=>if k=k' then ct .lss k a b else none
   | .leq=>if k=k' then ct .leq k a b else none
   | .gtr=>if k=k' then ct .gtr k a b else none
   | .geq=>if k=k' then ct .geq k a b else none
 | .str a,.str b=>Xp op a b
 |_,_=>none
def Uo(n:Int):Option V:=if 0<=n/\n<128 then some (.str [zDj n.toNat])else none
def ET(k:IntKind)(n:Int):Option V:=some (.int k (k.wrap n))
def vun(op:UnOp):V->Option V
 | .int k n=>match op with
   | .neg=>some (.int k (k.wrap (0-n)))
   |_=>none
 | .bool b=>match op with
   | .not=>some (.bool !b)
   |_=>none
 |_=>none
def eU:List UInt8->List V
 |[]=>[]
 |b::s=>.int .u8 b.toNat::eU s
def ce:List V->Option (List UInt8)
 |[]=>some []
 | .int .u8 n::l=>(ce l).map (zDj n.toNat::·)
 |_::_=>none
def isS:V->Bool
 | .strct _=>true
 |_=>false
def nt:V->Bool
 | .tup _=>false
 |_=>true
def aV(sz:Nat):List V->Bool
 |[]=>true
 |v::vs=>decide ((cl v).length=sz)&&nt v&&aV sz vs
def bldV(σ:St):List V->List (Nat×Nat×AO)->Option (List V)
 |cs,[]=>some cs
 |cs,(off,n,x)::ps=>match σ.ev x with
   |some v=>if(cl v).length=n/\nt v=true then(match iE cs off (cl v)with
     |some cs'=>bldV σ cs' ps
     |none=>none)else none
   |none=>none
def vn(s:List V)(lo hi:Int):Option (List V):=if 0<=lo/\lo<=hi/\hi<=s.length then some ((s.drop lo.toNat).take (hi.toNat-lo.toNat))else none
namespace St
def live(σ:St):V->Bool
 | .ptr id _=>(σ.box? id).isSome
 | .eptr id n i _=>match σ.arr? id with
   |some (_,_,l)=>decide (n=l.length)&&decide (i<n)
   |none=>false
 | .mptr id i n k _=>match σ.rws? id with
   |some (_,_,_,rows)=>match aT rows i with
     |some r=>decide (n=r.length)&&decide (k<n)
     |none=>false
   |none=>false
 | .q k j n i _=>match σ.pl? with
   |some ms=>match ms[j]? with
     |some (.bx _ _)=>decide (k=0)
     |some (.rw _ _ l)=>decide (k=2)&&(decide (n=l.length)&&decide (i<n))
     |some (.byt _ l)=>decide (k=2)&&(decide (n=l.length)&&decide (i<n))
     |_=>false
   |none=>false
 | .sptr _ _=>true
 | .fn (.func _) _ _=>true
 |_=>false
def fwd(k:Nat):V->Option V
 | .ptr id o=>some (.ptr id (o+k))
 | .eptr id n i o=>some (.eptr id n i (o+k))
 | .mptr id i n j o=>some (.mptr id i n j (o+k))
 | .q a j n i o=>if a=1 then none else some (.q a j n i (o+k))
 | .sptr y o=>some (.sptr y (o+k))
 |_=>none
def isNil(k:Nat)(lv:Bool):V->Option Bool
 | .nilptr=>if k=0 then some true else none
 | .sptr _ _=>if k=0 then some false else none
 | .ptr _ _=>if k=0/\lv=true then some false else none
 | .eptr _ _ _ _=>if k=0/\lv=true then some false else none
 | .mptr _ _ _ _ _=>if k=0/\lv=true then some false else none
 | .q _ _ _ _ _=>if k=0/\lv=true then some false else none
 | .niliface=>if k=1 then some true else none
 | .iface _ _=>if k=1 then some false else none
 | .nilfn=>if k=2 then some true else none
 | .fn _ _ _=>if k=2 then some false else none
 |_=>none
def isNilM(σ:St):V->Option Bool
 | .nilmp=>some true
 | .ref id _=>if(σ.mp? id).isSome=true then some false else none
 |_=>none
def val(σ:St):Act'->Option V
 | .mov x=>σ.ev x
 | .pick c a b=>match σ.ev c with
   |some (.bool t)=>if t=true then σ.ev a else σ.ev b
   |_=>none
 | .fld x off n agg=>match σ.ev x with
   |some (.strct cs)=>match cut cs off n with
     |some us=>mkc agg us
     |none=>none
   |_=>none
 | .fa x off=>match σ.ev x with
   |some v=>if σ.live v=true then fwd off v else none
   |none=>none
 | .ia x i sz=>match σ.ev x,σ.ev i with
   |some (.seq sz' l),some (.int _ n)=>if sz=sz'/\0<=n then(match l[n.toNat]? with
     |some v=>some (.sptr v 0)
     |none=>none)else none
   |some (.fseq sz' l),some (.int _ n)=>if sz=sz'/\0<=n then(match l[n.toNat]? with
     |some v=>some (.sptr v 0)
     |none=>none)else none
   |some (.ref id m),some (.int _ n)=>match σ.arr? id with
     |some (_,sz',l)=>if sz=sz'/\m=l.length/\0<=n/\n<m then some (.eptr id m n.toNat 0)else none
     |none=>match σ.rws? id with
       |some (_,_,_,rows)=>if sz=1/\m=rows.length/\0<=n/\n<m then some (.eptr id m n.toNat 0)else none
       |none=>none
   |some (.mref id i m),some (.int _ n)=>match σ.rws? id with
     |some (_,_,sz',rows)=>match aT rows i with
       |some r=>if sz=sz'/\m=r.length/\0<=n/\n<m then some (.mptr id i m n.toNat 0)else none
       |none=>none
     |none=>none
   |some (.q 1 j m _ _),some (.int _ n)=>match σ.pl? with
     |some ms=>match ms[j]? with
       |some (.rw _ sz' l)=>if sz=sz'/\m=l.length/\0<=n/\n<m then some (.q 2 j m n.toNat 0)else none
       |some (.byt _ l)=>if sz=1/\m=l.length/\0<=n/\n<m then some (.q 2 j m n.toNat 0)else none
       |_=>none
     |none=>none
   |_,_=>none
 | .iaa x i len sz=>match σ.ev x,σ.ev i with
   |some v,some (.int _ n)=>if σ.live v=true/\0<=n/\n<len then fwd (n.toNat*sz) v else none
   |_,_=>none
 | .ld x n agg=>match σ.ev x with
   |some p=>match σ.fetch p n with
     |some us=>mkc agg us
     |none=>none
   |none=>none
 | .ixs x i=>match σ.ev x,σ.ev i with
   |some (.str s),some (.int _ n)=>if 0<=n then(match s[n.toNat]? with
     |some b=>some (.int .u8 b.toNat)
     |none=>none)else none
   |_,_=>none
 | .ixa x i len sz agg=>match σ.ev x,σ.ev i with
   |some (.strct cs),some (.int _ n)=>if 0<=n/\n<len then(match cut cs (n.toNat*sz) sz with
     |some us=>mkc agg us
     |none=>none)else none
   |_,_=>none
 | .bin op x y=>match σ.ev x,σ.ev y with
   |some a,some b=>Up op a b
   |_,_=>none
 | .un op x=>match σ.ev x with
   |some a=>vun op a
   |_=>none
 | .cii k x=>match σ.ev x with
   |some (.int _ n)=>ET k n
   |_=>none
 | .r2s x=>match σ.ev x with
   |some (.int _ n)=>Uo n
   |_=>none
 | .b2s x=>match σ.ev x with
   |some (.q 1 j n _ _)=>match σ.pl? with
     |some ms=>match ms[j]? with
       |some (.byt _ s)=>if n=s.length then some (.str s)else none
       |_=>none
     |none=>none
   |some v=>match pur σ.h v with
     |some (.seq 1 l)=>(ce l).map .str
     |_=>none
   |none=>none
 | .sls x lo hi=>match σ.ev x with
   |some (.str s)=>match σ.evo (.int .i64 0) lo,σ.evo (.int .i64 s.length) hi with
     |some (.int _ a),some (.int _ b)=>if 0<=a/\a<=b/\b<=s.length then some (.str ((s.drop a.toNat).take (b.toNat-a.toNat)))else none
     |_,_=>none
   |_=>none
 | .slq x lo hi sz=>match σ.ev x with
   |some (.seq sz' l)=>match σ.evo (.int .i64 0) lo,σ.evo (.int .i64 l.length) hi with
     |some (.int _ a),some (.int _ b)=>if sz=sz' then(vn l a b).map (.seq sz)else none
     |_,_=>none
   |_=>none
 | .beq neg x y=>match σ.ev x,σ.ev y with
   |some (.bool a),some (.bool b)=>if neg=true then some (.bool (!(a == b)))else some (.bool (a == b))
   |_,_=>none
 | .lens x=>match σ.ev x with
   |some (.str s)=>some (.int .i64 s.length)
   |_=>none
 | .lenq x=>match σ.ev x with
   |some (.seq _ l)=>some (.int .i64 l.length)
   |some (.fseq _ l)=>some (.int .i64 l.length)
   |some (.nil _)=>some (.int .i64 0)
   |some (.ref id n)=>match σ.arr? id with
     |some (_,_,l)=>if n=l.length then some (.int .i64 n)else none
     |none=>match σ.rws? id with
       |some (_,_,_,rows)=>if n=rows.length then some (.int .i64 n)else none
       |none=>none
   |some (.mref id i n)=>match σ.rws? id with
     |some (_,_,_,rows)=>match aT rows i with
       |some r=>if n=r.length then some (.int .i64 n)else none
       |none=>none
     |none=>none
   |some (.q 1 j n _ _)=>match σ.pl? with
     |some ms=>match ms[j]? with
       |some (.rw _ _ l)=>if n=l.length then some (.int .i64 n)else none
       |some (.byt _ l)=>if n=l.length then some (.int .i64 n)else none
       |_=>none
     |none=>none
   |_=>none
 | .ext x i=>match σ.ev x with
   |some (.tup vs)=>vs[i]?
   |_=>none
 | .bld z ps=>(bldV σ z ps).map .strct
 | .mkf f a b=>match σ.evs a,σ.evs b with
   |some a',some b'=>some (.fn f a' b')
   |_,_=>none
 | .nlc x=>match σ.ev x with
   |some v=>if σ.live v=true then some v else none
   |none=>none
 | .mki t x=>match σ.ev x with
   |some v=>if nt v=true then some (.iface t v)else none
   |none=>none
 | .tya t z okk x=>match σ.ev x with
   |some (.iface t' v)=>if t'=t then some (if okk=true then .tup [v,.bool true]else v)else if okk=true then some (.tup [z,.bool false])else none
   |_=>none
 | .aeq neg kt x y=>match σ.ev x,σ.ev y with
   |some u,some v=>if a8 kt u=true/\a8 kt v=true then some (.bool (xor neg (eqK u v)))else none
   |_,_=>none
 | .lkp kt z okk x k=>match σ.ev x,σ.ev k with
   |some (.ref id _),some kv=>match σ.mp? id with
     |some (kt',l)=>if kt'=kt/\a8 kt kv=true then(match sy kv l with
       |some v=>some (if okk=true then .tup [v,.bool true]else v)
       |none=>some (if okk=true then .tup [z,.bool false]else z))else none
     |none=>none
   |some .nilmp,some kv=>if a8 kt kv=true then some (if okk=true then .tup [z,.bool false]else z)else none
   |_,_=>none
 | .mm mx x y=>match σ.ev x,σ.ev y with
   |some (.int k a),some (.int k' b)=>if k=k' then some (.int k (if mx=true then(if b>a then b else a)else(if b<a then b else a)))else none
   |_,_=>none
 | .nlq k neg x=>match σ.ev x with
   |some v=>match(if k=3 then isNilM σ v else isNil k (σ.live v) v)with
     |some b=>some (.bool (xor neg b))
     |none=>none
   |none=>none
 |_=>none
def storM(σ:St)(n id m i off:Nat):List V->Option St
 |[.ref id2 n2]=>match σ.rws? id,σ.arr? id2 with
   |some (e,e2,sz,rows),some (e2',sz',l)=>match ow rows i with
     |some k=>if n=1/\off=0/\m=rows.length/\e2'=e2/\sz'=sz/\n2=l.length/\k<l.length then some { σ with h:=(σ.h.set id2 none).set id (some (Ob.mat e e2 sz (rows.set i (.a l)))) }else none
     |none=>none
   |_,_=>none
 |_=>none
def stor(σ:St)(n:Nat):V->List V->Option St
 | .ptr id off,us=>match σ.box? id with
   |some cs=>if us.length=n then(match iE cs off us with
     |some cs'=>some { σ with h:=σ.h.set id (some (Ob.box cs')) }
     |none=>none)else none
   |none=>none
 | .eptr id m i off,us=>match purs σ.h us with
   |some us'=>match(σ.kill (ak us)).arr? id with
     |some (e,sz,l)=>if us.length=n/\m=l.length then(match l[i]? with
       |some v=>match iE (cl v) off us' with
         |some cs'=>match mkc (isS v) cs' with
           |some v'=>some { (σ.kill (ak us))with h:=(σ.kill (ak us)).h.set id (some (Ob.arr e sz (l.set i v'))) }
           |none=>none
         |none=>none
       |none=>none)else none
     |none=>σ.storM n id m i off us
   |none=>none
 | .mptr id i m k off,us=>match purs σ.h us with
   |some us'=>match(σ.kill (ak us)).rws? id with
     |some (e,e2,sz,rows)=>match aT rows i with
       |some r=>if us.length=n/\m=r.length then(match r[k]? with
         |some v=>match iE (cl v) off us' with
           |some cs'=>match mkc (isS v) cs' with
             |some v'=>some { (σ.kill (ak us))with h:=(σ.kill (ak us)).h.set id (some (Ob.mat e e2 sz (rows.set i (.a (r.set k v'))))) }
             |none=>none
           |none=>none
         |none=>none)else none
       |none=>none
     |none=>none
   |none=>none
 | .q k j m i off,us=>match σ.pl?,oU us with
   |some ms,some us'=>match ms[j]? with
     |some (.bx e cs)=>if k=0/\us.length=n then(match iE cs off us' with
       |some cs'=>some (σ.setP (ms.set j (.bx e cs')))
       |none=>none)else none
     |some (.rw e sz l)=>if k=2/\us.length=n/\m=l.length then(match l[i]? with
       |some v=>match iE (cl v) off us' with
         |some cs'=>match mkc (isS v) cs' with
           |some v'=>some (σ.setP (ms.set j (.rw e sz (l.set i v'))))
           |none=>none
         |none=>none
       |none=>none)else none
     |some (.byt e l)=>if k=2/\us.length=n/\m=l.length/\off=0/\i<m then(match us' with
       |[.int .u8 v]=>some (σ.setP (ms.set j (.byt e (l.set i (zDj v.toNat)))))
       |_=>none)else none
     |_=>none
   |_,_=>none
 |_,_=>none
end St
mutual
def ok:V->Prop
 | .int k n=>k.min<=n/\n<=k.max
 | .str s=>s.length<=4611686018427387904
 | .seq _ l=>l.length<=140737488355328/\oks l
 | .strct cs=>oks cs
 | .tup vs=>oks vs
 | .sptr x _=>ok x
 | .iface _ x=>ok x
 | .fn _ a b=>oks a/\oks b
 | .bool _=>True
 | .nil _=>True
 | .ref _ _=>True
 | .ptr _ _=>True
 | .eptr _ _ _ _=>True
 | .mref _ _ _=>True
 | .fseq _ _=>True
 | .mptr _ _ _ _ _=>True
 | .q _ _ _ _ _=>True
 | .nilptr=>True
 | .nilfn=>True
 | .nilmp=>True
 | .niliface=>True
 | .junk=>True
def oks:List V->Prop
 |[]=>True
 |v::vs=>ok v/\oks vs
end
structure Ctr where
 p:FuncId->List V->V->Prop
 n:FuncId->List V->V->Prop
 e:FuncId->List Nat->List V->List (Option Ob)->V->List (Option Ob)->Prop
 x:FuncId->List Nat->List V->List (Option Ob)->(V->List (Option Ob)->Prop)->Prop
def bk(vs:List V):List Nat->List V
 |[]=>[]
 |i::is=>match vs[i]? with
   |some v=>v::bk vs is
   |none=>bk vs is
def St.cur0(σ:St):V->Bool
 | .ptr id _=>(σ.box? id).isSome
 | .ref id n=>match σ.arr? id with
   |some (_,_,l)=>decide (n=l.length)
   |none=>(σ.gh? id).isSome
 | .eptr id n i _=>match σ.arr? id with
   |some (_,_,l)=>decide (n=l.length)&&decide (i<n)
   |none=>false
 | .q _ _ _ _ _=>σ.pl?.isSome
 |_=>false
mutual
def St.cur(σ:St):V->Bool
 | .fn _ a b=>σ.curA a&&σ.curA b
 | .strct cs=>σ.curA cs
 | .tup cs=>σ.curA cs
 | .iface _ x=>σ.cur x
 |v=>σ.cur0 v||(aA v).isEmpty
def St.curA(σ:St):List V->Bool
 |[]=>true
 |v::vs=>σ.cur v&&σ.curA vs
end
def St.curs(σ:St):List V->Bool
 |[]=>true
 |v::vs=>σ.cur v&&σ.curs vs
def cU(h:List (Option Ob))(pvs vs:List V):Nat×List Nat:=
 let a:=bY (di h) (ak pvs)
 let b:=bY a (ak vs)
 let c:=bY b (nY h b)
 (a.length,bY c (nY h c))
mutual
def bck(m:List Nat):V->V
 | .ref j n=>match m[j]? with
   |some id=>.ref id n
   |none=>.junk
 | .ptr j off=>match m[j]? with
   |some id=>.ptr id off
   |none=>.junk
 | .eptr j n i off=>match m[j]? with
   |some id=>.eptr id n i off
   |none=>.junk
 | .fseq sz l=>.seq sz l
 | .mref j i n=>match m[j]? with
   |some id=>.mref id i n
   |none=>.junk
 | .mptr j i n k off=>match m[j]? with
   |some id=>.mptr id i n k off
   |none=>.junk
 | .q k j n i off=>match m with
   |0::_=>.q k j n i off
   |_=>.junk
 | .strct cs=>.strct (lI m cs)
 | .tup vs=>.tup (lI m vs)
 | .fn f a b=>.fn f (lI m a) (lI m b)
 | .iface t x=>.iface t (bck m x)
 | .int k n=>.int k n
 | .bool b=>.bool b
 | .str s=>.str s
 | .nil sz=>.nil sz
 | .seq sz l=>.seq sz l
 | .sptr x off=>.sptr x off
 | .nilptr=>.nilptr
 | .nilfn=>.nilfn
 | .nilmp=>.nilmp
 | .niliface=>.niliface
 | .junk=>.junk
def lI(m:List Nat):List V->List V
 |[]=>[]
 |v::vs=>bck m v::lI m vs
end
def cW(m:List Nat):Option Ob->Option Ob
 |some (Ob.box cs)=>some (.box (lI m cs))
 |some (Ob.arr e sz l)=>some (Ob.arr e sz l)
 |some (Ob.mat e e2 sz rows)=>some (Ob.mat e e2 sz rows)
 |some (Ob.mp kt l)=>some (Ob.mp kt l)
 |some (Ob.gh l)=>some (Ob.gh l)
 |some (Ob.itr s p)=>some (Ob.itr s p)
 |some (Ob.tok c)=>some (Ob.tok c)
 |some (Ob.pool ms)=>some (Ob.pool ms)
 |none=>none
def G0(m:List Nat):List (Option Ob)->List (Option Ob)
 |[]=>[]
 |ob::obs=>cW m ob::G0 m obs
def wr(h:List (Option Ob)):List Nat->List (Option Ob)->List (Option Ob)
 |[],_=>h
 |_,[]=>h
 |id::ids,ob::obs=>wr (h.set id ob) ids obs
def vV(q:Nat)(m:List Nat)(n k:Nat):List Nat:=m.take q++List.range' n (k-q)
def St.back(σ:St)(q:Nat)(m:List Nat)(H':List (Option Ob)):List (Option Ob):=
 wr ((σ.kill m).h++zBe (H'.length-q) none) (vV q m σ.h.length H'.length) (G0 (vV q m σ.h.length H'.length) H')
def okH:List (Option Ob)->Prop
 |[]=>True
 |some (.box cs)::h=>oks cs/\okH h
 |some (.arr _ _ l)::h=>(l.length<=140737488355328/\oks l)/\okH h
 |some (.mat _ _ _ rows)::h=>rows.length<=140737488355328/\okH h
 |some (.mp _ _)::h=>okH h
 |some (.gh _)::h=>okH h
 |some (.itr s _)::h=>s.length<=4611686018427387904/\okH h
 |some (.tok _)::h=>okH h
 |some (.pool _)::h=>okH h
 |none::h=>okH h
def lP:List (Option Ob)->Bool
 |[]=>true
 |some (.pool _)::_=>false
 |none::h=>lP h
 |some (.box _)::h=>lP h
 |some (.arr _ _ _)::h=>lP h
 |some (.mat _ _ _ _)::h=>lP h
 |some (.mp _ _)::h=>lP h
 |some (.gh _)::h=>lP h
 |some (.itr _ _)::h=>lP h
 |some (.tok _)::h=>lP h
def kin:Nat->List (Option Ob)->List (Option Ob)->Bool
 |0,_,H'=>lP H'
 |q+1,some (.box _)::H,some (.box _)::H'=>kin q H H'
 |q+1,some (.arr e sz _)::H,some (.arr e' sz' _)::H'=>decide (e=e')&&decide (sz=sz')&&kin q H H'
 |q+1,some (.gh _)::H,some (.gh _)::H'=>kin q H H'
 |q+1,some (.pool _)::H,some (.pool _)::H'=>kin q H H'
 |_,_,_=>false
def Uk(Φ:Ctr)(d:Option Nat)(f:FuncId)(vs:List V)(ps:List Nat)(K:St->Prop)(σ:St)(q:Nat)(m:List Nat):Prop:=
 ∃r H',kin q (fL σ.h m m) H'=true/\Φ.e f ps (dO m vs) (fL σ.h m m) r H'/\(ok r->okH H'->K (St.put ⟨σ.r,σ.back q m H'⟩ d (bck (vV q m σ.h.length H'.length) r)))
def EQ(Φ:Ctr)(d:Option Nat)(f:FuncId)(vs:List V)(K:St->Prop)(σ:St):Prop:=
 ∃ps,σ.curs (bk vs ps)=true/\Uk Φ d f vs ps K σ (cU σ.h (bk vs ps) vs).1 (cU σ.h (bk vs ps) vs).2
def Qw(Φ:Ctr)(d:Option Nat)(f:FuncId)(vs:List V)(K:St->Prop)(σ:St):Prop:=
 ∃ps Z,σ.curs (bk vs ps)=true/\Φ.x f ps (dO (cU σ.h (bk vs ps) vs).2 vs) (fL σ.h (cU σ.h (bk vs ps) vs).2 (cU σ.h (bk vs ps) vs).2) Z/\
   ∀r H',Z r H'->kin (cU σ.h (bk vs ps) vs).1 (fL σ.h (cU σ.h (bk vs ps) vs).2 (cU σ.h (bk vs ps) vs).2) H'=true/\
     (ok r->okH H'->K (St.put ⟨σ.r,σ.back (cU σ.h (bk vs ps) vs).1 (cU σ.h (bk vs ps) vs).2 H'⟩ d (bck (vV (cU σ.h (bk vs ps) vs).1 (cU σ.h (bk vs ps) vs).2 σ.h.length H'.length) r)))
def St.nowR(σ:St)(a n:Nat):Bool:=
 match σ.h[a]? with
 |some (some (.arr _ _ l))=>decide (n=l.length)
 |some (some (.mat _ _ _ rows))=>decide (n=rows.length)
 |_=>false
def St.hide(σ:St)(id off:Nat)(cs:List V)(c:Value):St:={ σ with h:=(σ.h++[some (Ob.tok c)]).set id (some (Ob.box (cs.set off (.ref σ.h.length 0)))) }
def ML(t id off:Nat)(v:V)(c:Value)(K:St->Prop)(σ:St):Prop:=
 ∃cs j,lk σ.r t=some v/\σ.box? id=some cs/\cs[off]?=some (.ref j 0)/\σ.h[j]?=some (some (.tok c))/\K { σ with h:=σ.h.set id (some (Ob.box (cs.set off v))) }
def MH(Φ:Ctr)(d:Option Nat)(f:FuncId)(vs:List V)(K:St->Prop)(σ:St):Prop:=
 ∃t id off a n cs,lk σ.r t=some (.ref a n)/\d≠some t/\σ.nowR a n=true/\σ.box? id=some cs/\cs[off]?=some (.ref a n)/\∀c,EQ Φ d f vs (ML t id off (.ref a n) c K) (σ.hide id off cs c)
def fY(g:V->Option V):List V->Option (List V)
 |[]=>some []
 |v::vs=>match g v,fY g vs with
   |some u,some us=>some (u::us)
   |_,_=>none
def frz(ms:List Po):Nat->V->Option V
 |0,_=>none
 |f+1,.q k j n _ _=>if k=1 then(match ms[j]? with
   |some (.rw _ sz l)=>if n=l.length then(fY (frz ms f) l).map (.seq sz)else none
   |some (.byt _ s)=>if n=s.length then some (.seq 1 (eU s))else none
   |_=>none)else none
 |f+1,.strct cs=>(fY (frz ms f) cs).map .strct
 |_+1,.int k n=>some (.int k n)
 |_+1,.bool b=>some (.bool b)
 |_+1,.str s=>some (.str s)
 |_+1,.nil sz=>some (.seq sz [])
 |_+1,.seq sz l=>some (.seq sz l)
 |_+1,.nilptr=>some .nilptr
 |_+1,.niliface=>some .niliface
 |_,_=>none
def Kt(Φ:Ctr)(f:FuncId)(vs:List V)(σ:St)(r:V):Prop:=
 ∃F ms us,σ.pl?=some ms/\fY (frz ms F) vs=some us/\((Φ.p f us r/\cI r=true)\/Φ.n f us r)
def dL(Φ:Ctr)(d:Option Nat)(f:FuncId)(vs:List V)(K:St->Prop)(σ:St):Prop:=EQ Φ d f vs K σ\/MH Φ d f vs K σ\/(∃r,Kt Φ f vs σ r/\(ok r->K (σ.put d r)))\/Qw Φ d f vs K σ
def wret(Φ:Ctr)(f:FuncId)(vs us:List V)(r:V):Prop:=(Φ.p f us r/\(cI r=true\/ak vs=[]))\/Φ.n f us r
mutual
def fz:V->V
 | .seq sz l=>.fseq sz l
 | .strct cs=>.strct (fzs cs)
 | .tup vs=>.tup (fzs vs)
 |v=>v
def fzs:List V->List V
 |[]=>[]
 |v::vs=>fz v::fzs vs
end
def kB(Φ:Ctr)(d:Option Nat)(f:FuncId)(vs us:List V)(K:St->Prop)(σ:St):Prop:=
 ∃r,(wret Φ f vs us r/\(ok r->K (σ.put d r)))\/(Φ.p f us r/\(ok r->K ((σ.kill (ak vs)).put d r)))\/(Φ.n f us r/\(ok r->K (σ.put d (fz r))))
def lkF:List (Nat×FuncId)->Nat->Option FuncId
 |[],_=>none
 |(t,f)::l,u=>if t=u then some f else lkF l u
def lkG:List (Nat×FuncId×Option (Nat×Bool))->Nat->Option (FuncId×Option (Nat×Bool))
 |[],_=>none
 |(t,f)::l,u=>if t=u then some f else lkG l u
def St.recv(σ:St)(v:V):Option (Nat×Bool)->Option V
 |none=>some v
 |some (n,g)=>match σ.fetch v n with
   |some us=>mkc g us
   |none=>none
def St.ivpV(σ:St)(tbl:List (Nat×FuncId×Option (Nat×Bool)))(x:AO)(xs:List AO):Option (FuncId×List V):=match σ.ev x,σ.evs xs with
 |some (.iface t v),some vs=>match lkG tbl t with
   |some (f,l)=>match σ.recv v l with
     |some u=>some (f,u::vs)
     |none=>none
   |none=>none
 |_,_=>none
def Vp(Φ:Ctr)(d:Option Nat)(f:FuncId)(vs:List V)(K:St->Prop)(σ:St):Prop:=match purs σ.h vs with
 |some us=>kB Φ d f vs us K σ\/dL Φ d f vs K σ
 |none=>dL Φ d f vs K σ
def HG(σ:St)(v:V):Option (List UInt8):=match src σ.h v with
 |some (.seq 1 l)=>ce l
 |_=>none
def vd(σ:St)(d:Option Nat)(e k j n:Nat)(s:List UInt8)(K:St->Prop):Prop:=match σ.pl? with
 |some ms=>match ms[j]? with
   |some (.byt e0 s0)=>k=1/\(e0=0\/e0=e)/\n=s0.length/\n+s.length<=140737488355328/\K ((σ.setP (ms.set j (.byt e0 (s0++s)))).put d (.q 1 j (n+s.length) 0 0))
   |_=>False
 |none=>False
def BV(σ:St)(d:Option Nat)(e sz:Nat)(vs:List V)(K:St->Prop):Prop:=match σ.pl?,oU vs with
 |some ms,some us=>aV sz us=true/\us.length<=16777216/\0<sz/\K ((σ.setP (ms++[.rw e sz us])).put d (.q 1 ms.length us.length 0 0))
 |_,_=>False
def QT(σ:St)(sz:Nat)(v:V):Option (List V):=match src σ.h v with
 |some (.seq sz' l)=>if sz'=sz then some l else none
 |_=>none
def Bg(σ:St)(ms:List Po)(sz:Nat):V->Option (List V)
 | .q k j n _ _=>if k=1 then(match ms[j]? with
   |some (.rw _ sz' l)=>if sz'=sz/\n=l.length then some l else none
   |_=>none)else none
 |v=>QT σ sz v
def G2(σ:St)(d:Option Nat)(e sz by' k j n:Nat)(v:V)(K:St->Prop):Prop:=match σ.pl? with
 |some ms=>match ms[j]?,Bg σ ms sz v with
   |some (.rw e' sz' l0),some l=>k=1/\e'=e/\sz'=sz/\n=l0.length/\(n+l.length)*by'<=140737488355328/\
     K ((σ.setP (ms.set j (.rw e sz (l0++l)))).put d (.q 1 j (n+l.length) 0 0))
   |_,_=>False
 |none=>False
def G3(σ:St)(d:Option Nat)(e sz by' k j n:Nat)(K:St->Prop):Prop:=match σ.pl? with
 |some ms=>match ms[j]? with
   |some (.rw _ sz' l)=>k=1/\sz'=sz/\n=l.length/\n*by'<=140737488355328/\
     K ((σ.setP (ms++[.rw e sz l])).put d (.q 1 ms.length n 0 0))
   |_=>False
 |none=>False
def Di(σ:St)(x:AO):Option (St×V):=match σ.ev x,σ.pl? with
 |some v,some ms=>if nt v=true then(match oU (cl v)with
   |some z'=>some (σ.setP (ms++[.bx 0 z']),.q 0 ms.length 0 0 0)
   |none=>none)else none
 |_,_=>none
def af(Φ:Ctr)(d:Option Nat)(a:Act')(K:St->Prop)(σ:St):Prop:=
 match a with
 | .alc z=>K ({ σ with h:=σ.h++[some (Ob.box z)] }.put d (.ptr σ.h.length 0))
 | .box x=>match σ.ev x with
   |some v=>if nt v=true then K ({ σ with h:=σ.h++[some (Ob.box (cl v))] }.put d (.ptr σ.h.length 0))else False
   |none=>False
 | .st n p x=>match σ.ev p,σ.ev x with
   |some a,some v=>if nt v=true then(match σ.stor n a (cl v)with
     |some σ'=>K (σ'.put d (.tup []))
     |none=>False)else False
   |_,_=>False
 | .s2b x=>match σ.ev x with
   |some (.str s)=>s.length<=140737488355328/\K (σ.put d (.seq 1 (eU s)))
   |_=>False
 | .lit _ sz xs=>match σ.evs xs with
   |some vs=>match purs σ.h vs with
     |some us=>aV sz us=true/\us.length<=16777216/\K ((σ.kill (ak vs)).put d (.seq sz us))
     |none=>False
   |none=>False
 | .app x y e sz by'=>match σ.ev x,σ.ev y with
   |some (.q k j n i o),some v=>G2 σ d e sz by' k j n v K
   |some (.nil _),some (.q k j n i o)=>G3 σ d e sz by' k j n K
   |some u,some v=>match src σ.h v with
     |some (.seq sz' l)=>sz'=sz/\
       (match u with
       | .nil _=>l.length*by'<=140737488355328/\K ({ σ with h:=σ.h++[some (Ob.arr e sz l)] }.put d (.ref σ.h.length l.length))
       | .ref id n=>match σ.arr? id with
         |some (e',sz',l0)=>e'=e/\sz'=sz/\n=l0.length/\(n+l.length)*by'<=140737488355328/\
           K ({ σ with h:=σ.h.set id (some (Ob.arr e sz (l0++l))) }.put d (.ref id (n+l.length)))
         |none=>False
       | .mref id i n=>match σ.rws? id with
         |some (e1,e2,sz2,rows)=>match aT rows i with
           |some r=>e2=e/\sz2=sz/\n=r.length/\(n+l.length)*by'<=140737488355328/\
             K ({ σ with h:=σ.h.set id (some (Ob.mat e1 e2 sz2 (rows.set i (.g r.length))))++[some (Ob.arr e sz (r++l))] }.put d (.ref σ.h.length (n+l.length)))
           |none=>False
         |none=>False
       |_=>False)
     |_=>False
   |_,_=>False
 | .mks e sz by' z n=>match σ.ev n with
   |some (.int _ m)=>0<=m/\m*by'<=140737488355328/\
     K ({ σ with h:=σ.h++[some (Ob.arr e sz (zBe m.toNat z))] }.put d (.ref σ.h.length m.toNat))
   |_=>False
 | .mk0 e sz by' n=>match σ.ev n with
   |some (.int _ m)=>0<=m/\m*by'<=140737488355328/\
     K ({ σ with h:=σ.h++[some (Ob.arr e sz [])] }.put d (.ref σ.h.length 0))
   |_=>False
 | .mkm e by' e2 sz n=>match σ.ev n with
   |some (.int _ m)=>0<=m/\m*by'<=140737488355328/\
     K ({ σ with h:=σ.h++[some (Ob.mat e e2 sz (zBe m.toNat (.a [])))] }.put d (.ref σ.h.length m.toNat))
   |_=>False
 | .call f xs=>match σ.evs xs with
   |some vs=>match purs σ.h vs with
     |some us=>kB Φ d f vs us K σ
     |none=>dL Φ d f vs K σ
   |none=>False
 | .callv g xs=>match σ.ev g,σ.evs xs with
   |some (.fn (.func f) a b),some vs=>match purs σ.h (a++vs++b)with
     |some us=>kB Φ d f (a++vs++b) us K σ
     |none=>dL Φ d f (a++vs++b) K σ
   |_,_=>False
 | .callH f xs=>match σ.evs xs with
   |some vs=>dL Φ d f vs K σ
   |none=>False
 | .mkp kt=>K ({ σ with h:=σ.h++[some (Ob.mp kt [])] }.put d (.ref σ.h.length 0))
 | .mup kt x k v=>match σ.ev x,σ.ev k,σ.ev v with
   |some (.ref id _),some kv,some u=>match σ.mp? id,pur σ.h u with
     |some (kt',l),some u'=>kt'=kt/\a8 kt kv=true/\aA u=[]/\nt u'=true/\K ({ σ with h:=σ.h.set id (some (Ob.mp kt (nU kv u' l))) }.put d (.tup []))
     |_,_=>False
   |_,_,_=>False
 | .inv tbl x xs=>match σ.ev x,σ.evs xs with
   |some (.iface t v),some vs=>match lkF tbl t with
     |some f=>(match purs σ.h (v::vs)with
       |some us=>kB Φ d f (v::vs) us K σ
       |none=>dL Φ d f (v::vs) K σ)
     |none=>False
   |_,_=>False
 | .ivp tbl x xs=>match σ.ivpV tbl x xs with
   |some (f,vs)=>Vp Φ d f vs K σ
   |none=>False
 | .ltr e sz xs=>match σ.evs xs with
   |some vs=>match purs σ.h vs with
     |some us=>aV sz us=true/\us.length<=16777216/\K (St.put ⟨(σ.kill (ak vs)).r,(σ.kill (ak vs)).h++[some (Ob.arr e sz us)]⟩ d (.ref (σ.kill (ak vs)).h.length us.length))
     |none=>BV σ d e sz vs K
   |none=>False
 | .alq z=>match σ.pl?,oU z with
   |some ms,some z'=>K ((σ.setP (ms++[.bx 0 z'])).put d (.q 0 ms.length 0 0 0))
   |_,_=>False
 | .cvb x=>match σ.ev x with
   |some (.ref id n)=>match σ.arr? id with
     |some (_,sz,l)=>sz=1/\n=l.length/\l≠[]/\K ({ σ with h:=σ.h.set id none }.put d (.seq 1 l))
     |none=>False
   |_=>False
 | .bxq x=>match Di σ x with
   |some p=>K (p.1.put d p.2)
   |none=>False
 | .apz y e sz by'=>match σ.ev y with
   |some v=>match src σ.h v with
     |some (.seq sz' l)=>sz'=sz/\l.length*by'<=140737488355328/\K (σ.put d (.seq sz l))
     |_=>False
   |none=>False
 | .sbq y=>match σ.ev y,σ.pl? with
   |some (.str s),some ms=>(s≠[]/\s.length<=140737488355328)/\K ((σ.setP (ms++[.byt 0 s])).put d (.q 1 ms.length s.length 0 0))
   |_,_=>False
 | .aps x y e=>match σ.ev x,σ.ev y with
   |some (.q k j n _ _),some (.str s)=>vd σ d e k j n s K
   |_,_=>False
 | .apb x y e=>match σ.ev x,σ.ev y with
   |some (.q k j n _ _),some v=>match HG σ v with
     |some s=>vd σ d e k j n s K
     |none=>False
   |_,_=>False
 | .alb t e z=>match σ.pl? with
   |some ms=>z=[.nilptr,.nil 1]/\K ((σ.setP (ms++[.byt e [],.bx t [.nilptr,.q 1 ms.length 0 0 0]])).put d (.q 0 (ms.length+1) 0 0 0))
   |none=>False
 | .usd x=>match σ.ev x,σ.pl? with
   |some (.q k j n _ _),some ms=>match ms[j]? with
     |some (.byt _ s)=>k=1/\n=s.length/\K (σ.put d (if s=[]then .nilptr else .q 2 j n 0 0))
     |_=>False
   |_,_=>False
 | .ust p n e=>match σ.ev p,σ.ev n with
   |some .nilptr,some (.int .i64 m)=>m=0/\K (σ.put d (.str []))
   |some (.q k j m i o),some (.int .i64 q)=>match σ.pl? with
     |some ms=>match ms[j]? with
       |some (.byt e0 s)=>k=2/\i=0/\o=0/\e≠0/\e0=e/\m=s.length/\q=s.length/\s≠[]/\K ((σ.setP (ms.set j .no)).put d (.str s))
       |_=>False
     |none=>False
   |_,_=>False
 | .del kt x k=>match σ.ev x,σ.ev k with
   |some (.ref id _),some kv=>match σ.mp? id with
     |some (kt',l)=>kt'=kt/\a8 kt kv=true/\K ({ σ with h:=σ.h.set id (some (Ob.mp kt (xG kv l))) }.put d (.tup []))
     |none=>False
   |_,_=>False
 | .mkq e sz by' z n=>match σ.ev n,σ.pl?,low z with
   |some (.int _ m),some ms,some z'=>0<=m/\m*by'<=140737488355328/\K ((σ.setP (ms++[.rw e sz (zBe m.toNat z')])).put d (.q 1 ms.length m.toNat 0 0))
   |_,_,_=>False
 | .trc x hi sz=>match σ.ev x,σ.ev hi with
   |some (.q k j n _ _),some (.int _ b)=>match σ.pl? with
     |some ms=>match ms[j]? with
       |some (.rw e sz' l)=>k=1/\sz'=sz/\n=l.length/\0<=b/\b<=n/\K ((σ.setP (ms.set j .no++[.rw e sz (l.take b.toNat)])).put d (.q 1 ms.length b.toNat 0 0))
       |_=>False
     |none=>False
   |some (.ref id n),some (.int _ b)=>match σ.arr? id with
     |some (e,sz',l)=>sz'=sz/\n=l.length/\0<=b/\b<=n/\K ({ σ with h:=σ.h.set id none++[some (Ob.arr e sz (l.take b.toNat))] }.put d (.ref σ.h.length b.toNat))
     |none=>False
   |_,_=>False
 | .yld g xs=>match σ.ev g,σ.evs xs with
   |some (.ref id _),some vs=>match σ.gh? id,purs σ.h vs with
     |some ((v,b)::l),some us=>v=.tup us/\ak vs=[]/\K ({ σ with h:=σ.h.set id (some (Ob.gh l)) }.put d (.bool b))
     |_,_=>False
   |_,_=>False
 | .rgs x=>match σ.ev x with
   |some (.str s)=>K ({ σ with h:=σ.h++[some (Ob.itr s 0)] }.put d (.ref σ.h.length 0))
   |_=>False
 | .nxs x=>match σ.ev x with
   |some (.ref id _)=>match σ.itr? id with
     |some (s,p)=>if p<s.length then K ({ σ with h:=σ.h.set id (some (Ob.itr s (p+(uI s p).2))) }.put d (.tup [.bool true,.int .i64 p,.int .i32 (uI s p).1]))else K (σ.put d (.tup [.bool false]))
     |none=>False
   |_=>False
 |a=>match σ.val a with
   |some v=>K (σ.put d v)
   |none=>False
def Br(t:Bool)(A B:Prop):Prop:=(t=true->A)/\(t=false->B)
def wop(Φ:Ctr)(o:AOp)(K:St->Prop)(σ:St):Prop:=
 match o.g with
 |none=>af Φ o.d o.a K σ
 |some (t,b)=>match lk σ.r t with
   |some (.bool y)=>if b=true then Br y (af Φ o.d o.a K σ) (K (σ.put o.d (.tup [])))else Br y (K (σ.put o.d (.tup []))) (af Φ o.d o.a K σ)
   |some (.tup [])=>K (σ.put o.d (.tup []))
   |_=>False
def vj(Φ:Ctr):List AOp->(St->Prop)->St->Prop
 |[],K,σ=>K σ
 |o::os,K,σ=>wop Φ o (vj Φ os K) σ
def x8(Φ:Ctr)(d:Option Nat)(f:FuncId)(vs:List V)(K:St->Prop)(σ:St):Prop:=
 (∃ps,σ.curs (bk vs ps)=true/\∃r H',kin (cU σ.h (bk vs ps) vs).1 (fL σ.h (cU σ.h (bk vs ps) vs).2 (cU σ.h (bk vs ps) vs).2) H'=true/\
   Φ.e f ps (dO (cU σ.h (bk vs ps) vs).2 vs) (fL σ.h (cU σ.h (bk vs ps) vs).2 (cU σ.h (bk vs ps) vs).2) r H'/\
   K (St.put ⟨σ.r,σ.back (cU σ.h (bk vs ps) vs).1 (cU σ.h (bk vs ps) vs).2 H'⟩ d (bck (vV (cU σ.h (bk vs ps) vs).1 (cU σ.h (bk vs ps) vs).2 σ.h.length H'.length) r)))\/∃r,Kt Φ f vs σ r/\K (σ.put d r)
def mj(Φ:Ctr)(d:Option Nat)(f:FuncId)(vs us:List V)(K:St->Prop)(σ:St):Prop:=∃r,wret Φ f vs us r/\K (σ.put d r)
def qf:AO->V->Bool
 | .v (.nil _),.q _ _ _ _ _=>true
 |_,_=>false
def ai(Φ:Ctr)(d:Option Nat)(a:Act')(K:St->Prop)(σ:St):Prop:=
 match a with
 | .lit _ sz xs=>match σ.evs xs with
   |some vs=>match purs [] vs with
     |some us=>aV sz us=true/\us.length<=16777216/\K (σ.put d (.seq sz us))
     |none=>False
   |none=>False
 | .call f xs=>match σ.evs xs with
   |some vs=>match purs σ.h vs with
     |some us=>mj Φ d f vs us K σ
     |none=>False
   |none=>False
 | .callv g xs=>match σ.ev g,σ.evs xs with
   |some (.fn (.func f) a b),some vs=>match purs σ.h (a++vs++b)with
     |some us=>mj Φ d f (a++vs++b) us K σ
     |none=>False
   |_,_=>False
 | .callH f xs=>match σ.evs xs with
   |some vs=>x8 Φ d f vs K σ
   |none=>False
 | .inv tbl x xs=>match σ.ev x,σ.evs xs with
   |some (.iface t v),some vs=>match lkF tbl t with
     |some f=>match purs σ.h (v::vs)with
       |some us=>mj Φ d f (v::vs) us K σ
       |none=>False
     |none=>False
   |_,_=>False
 | .ivp _ _ _=>False
 | .trc _ _ _=>False
 | .app x y e sz by'=>match σ.ev y with
   |some v=>if qf x v=true then False else af Φ d (.app x y e sz by') K σ
   |none=>False
 |a=>af Φ d a K σ
def aK(Φ:Ctr)(o:AOp)(K:St->Prop)(σ:St):Prop:=
 match o.g with
 |none=>ai Φ o.d o.a K σ
 |some (t,b)=>match lk σ.r t with
   |some (.bool y)=>if b=true then Br y (ai Φ o.d o.a K σ) (K (σ.put o.d (.tup [])))else Br y (K (σ.put o.d (.tup []))) (ai Φ o.d o.a K σ)
   |some (.tup [])=>K (σ.put o.d (.tup []))
   |_=>False
def te(Φ:Ctr):List AOp->(St->Prop)->St->Prop
 |[],K,σ=>K σ
 |o::os,K,σ=>aK Φ o (te Φ os K) σ
def Kv(Φ:Ctr):List (List AOp)->(St->Prop)->St->Prop
 |[],K,σ=>True
 |os::l,K,σ=>vj Φ os K σ/\Kv Φ l K σ
def gW(Φ:Ctr):OT->(St->Prop)->St->Prop
 | .nil,K,σ=>K σ
 | .op x t,K,σ=>aK Φ x (gW Φ t K) σ
 | .both a b,K,σ=>gW Φ a K σ/\gW Φ b K σ
inductive Ex where
 |norm
 |exit (id:Nat)
 |goto (l:Nat)
 |ret
def Ex.then(N:St->Prop)(Q:Ex->St->Prop):Ex->St->Prop
 | .norm,σ=>N σ
 |e,σ=>Q e σ
def Ex.inBlock(id:Nat)(Q:Ex->St->Prop):Ex->St->Prop
 | .exit id',σ=>if id'=id then Q .norm σ else Q (.exit id') σ
 |e,σ=>Q e σ
def Ex.jump(l:Nat)(J:St->Prop)(Q:Ex->St->Prop):Ex->St->Prop
 | .goto l',σ=>l'=l/\J σ
 |e,σ=>Q e σ
def W(Φ:Ctr):AC->(Ex->St->Prop)->St->Prop
 | .skip,Q,σ=>Q .norm σ
 | .reg ops ks,Q,σ=>vj Φ ops (fun σ'=>Q .norm (σ.cls σ' ks)) σ
 | .regD ops ks,Q,σ=>te Φ ops (fun σ'=>Q .norm (σ.cls σ' ks)) σ
 | .regE alts ks,Q,σ=>Kv Φ alts (fun σ'=>Q .norm (σ.cls σ' ks)) σ
 | .regF t ks,Q,σ=>gW Φ t (fun σ'=>Q .norm (σ'.nrm ks)) σ
 | .scope l ks a b,Q,σ=>∃I:Nat->St->Prop,W Φ a (Ex.jump l (fun τ'=>∃n ms τ'',τ'.mats ms=some τ''/\I n (τ''.nrm ks)) Q) σ/\
    ∀n τ,I n τ->W Φ b (Ex.jump l (fun τ'=>∃m ms τ'',τ'.mats ms=some τ''/\I m (τ''.nrm ks)/\m<n) Q) τ
 | .label l,Q,σ=>Q .norm σ
 | .goto l,Q,σ=>Q (.goto l) σ
 | .bad,_,_=>False
 | .seq a b,Q,σ=>W Φ a (Ex.then (W Φ b Q) Q) σ
 | .cond c a b,Q,σ=>match σ.ev c with
   |some (.bool t)=>Br t (W Φ a Q σ) (W Φ b Q σ)
   |_=>False
 | .block id c,Q,σ=>W Φ c (Ex.inBlock id Q) σ
 | .loop ks c,Q,σ=>∃I:Nat->St->Prop,(∃n ms σ',σ.mats ms=some σ'/\I n (σ'.nrm ks))/\
    ∀n τ,I n τ->W Φ c (Ex.then (fun τ'=>∃m ms τ'',τ'.mats ms=some τ''/\I m (τ''.nrm ks)/\m<n) Q) τ
 | .exit id,Q,σ=>Q (.exit id) σ
 | .ret,Q,σ=>Q .ret σ
section rules
variable{Φ:Ctr}{Q:Ex->St->Prop}{σ:St}
theorem ZX:W Φ .skip Q σ=Q .norm σ:=propext zAf
theorem Wb{l}:W Φ (.label l) Q σ=Q .norm σ:=propext zAf
theorem Z0{l}:W Φ (.goto l) Q σ=Q (.goto l) σ:=propext zAf
theorem NW{N:St->Prop}{l}:Ex.then N Q (.goto l) σ=Q (.goto l) σ:=propext zAf
theorem FF{id l}:Ex.inBlock id Q (.goto l) σ=Q (.goto l) σ:=propext zAf
theorem OW{l}{J:St->Prop}:Ex.jump l J Q .norm σ=Q .norm σ:=propext zAf
theorem RR{l}{J:St->Prop}:Ex.jump l J Q .ret σ=Q .ret σ:=propext zAf
theorem OY{l id}{J:St->Prop}:Ex.jump l J Q (.exit id) σ=Q (.exit id) σ:=propext zAf
theorem OX{l l'}{J:St->Prop}:Ex.jump l J Q (.goto l') σ=(l'=l/\J σ):=propext zAf
theorem NA{id c}:W Φ (.block id c) Q σ=W Φ c (Ex.inBlock id Q) σ:=propext zAf
theorem Z1{id}:W Φ (.exit id) Q σ=Q (.exit id) σ:=propext zAf
theorem W_ret:W Φ .ret Q σ=Q .ret σ:=propext zAf
theorem Z2{c a b}:W Φ (.cond c a b) Q σ=match σ.ev c with
 |some (.bool t)=>Br t (W Φ a Q σ) (W Φ b Q σ)
 |_=>False:=propext zAf
theorem Dv{N:St->Prop}:Ex.then N Q .norm σ=N σ:=propext zAf
theorem NY{N:St->Prop}{id}:Ex.then N Q (.exit id) σ=Q (.exit id) σ:=propext zAf
theorem QD{N:St->Prop}:Ex.then N Q .ret σ=Q .ret σ:=propext zAf
theorem FE{id}:Ex.inBlock id Q .norm σ=Q .norm σ:=propext zAf
theorem IM{id}:Ex.inBlock id Q .ret σ=Q .ret σ:=propext zAf
theorem tY{id id'}:Ex.inBlock id Q (.exit id') σ=if id'=id then Q .norm σ else Q (.exit id') σ:=propext zAf
def Nx{ι:Type}(st:ι->St)(inv:ι->Prop)(μ:ι->Nat)(ks:List Nat)(n:Nat)(τ:St):Prop:=
 ∃ms τ' j,τ.mats ms=some τ'/\τ'.nrm ks=st j/\inv j/\μ j<n
theorem Nx.mk{ι:Type}{st:ι->St}{inv:ι->Prop}{μ:ι->Nat}{ks:List Nat}{n:Nat}{τ:St}(j:ι)(h:τ.nrm ks=st j)(hi:inv j)(hm:μ j<n):Nx st inv μ ks n τ:=
 ⟨[],τ,j,rfl,h,hi,hm⟩
def Kept(p:Prop):Prop:=p
theorem Kept.out{p:Prop}(h:Kept p):p:=h
theorem au{ks:List Nat}{c:AC}{ι:Type}(st:ι->St)(inv:ι->Prop)(μ:ι->Nat)(ms:List Mat)(σ':St)(i0:ι)(hms:σ.mats ms=some σ')(h0:σ'.nrm ks=st i0)(hi:inv i0)
 (round:∀i,inv i->∀N:St->Prop,Kept (∀τ,Nx st inv μ ks (μ i) τ->N τ)->W Φ c (Ex.then N Q) (st i)):W Φ (.loop ks c) Q σ:=by
 refine⟨fun n τ=>∃i,inv i/\μ i=n/\τ=st i,⟨μ i0,ms,σ',hms,i0,hi,rfl,h0⟩,?_⟩;rintro n τ ⟨i,hi,rfl,rfl⟩
 have e:Ex.then (Nx st inv μ ks (μ i)) Q=Ex.then (fun τ'=>∃m ms τ'',τ'.mats ms=some τ''/\(∃j,inv j/\μ j=m/\τ''.nrm ks=st j)/\m<μ i) Q:=by
  funext x τ';cases x with
  |norm=>
    simp only[Dv,eq_iff_iff];constructor
    ·rintro⟨ms,τ',j,h1,h2,h3,h4⟩;exact⟨μ j,ms,τ',h1,⟨j,h3,rfl,h2⟩,h4⟩
    ·rintro⟨_,ms,τ',h1,⟨j,h3,rfl,h2⟩,h4⟩;exact⟨ms,τ',j,h1,h2,h3,h4⟩
  |_=>rfl
 rw[<-e];exact round i hi _ (fun _ h=>h)
theorem aI{d f vs us}{K:St->Prop}{r:V}(h:Φ.p f us r)(hf:cI r=true)(k:K (σ.put d r)):mj Φ d f vs us K σ:=⟨r,.inl ⟨h,.inl hf⟩,k⟩
theorem fh{d f vs us}{K:St->Prop}{r:V}(h:Φ.p f us r)(hf:ak vs=[])(k:K (σ.put d r)):mj Φ d f vs us K σ:=⟨r,.inl ⟨h,.inr hf⟩,k⟩
theorem Ku{d f vs us}{K:St->Prop}{r:V}(h:Φ.n f us r)(k:K (σ.put d r)):mj Φ d f vs us K σ:=⟨r,.inr h,k⟩
theorem Do{d f vs us}{K:St->Prop}{r:V}(h:Φ.n f us r)(k:ok r->K (σ.put d r)):kB Φ d f vs us K σ:=⟨r,.inl ⟨.inr h,k⟩⟩
theorem ay{d f vs us}{K:St->Prop}{r:V}(h:Φ.p f us r)(hf:ak vs=[])(k:ok r->K (σ.put d r)):kB Φ d f vs us K σ:=⟨r,.inl ⟨.inl ⟨h,.inr hf⟩,k⟩⟩
theorem ah{d f vs us}{K:St->Prop}{r:V}(h:Φ.p f us r)(hf:cI r=true)(k:ok r->K (σ.put d r)):kB Φ d f vs us K σ:=⟨r,.inl ⟨.inl ⟨h,.inl hf⟩,k⟩⟩
theorem Ks{d f vs us}{K:St->Prop}{r:V}(h:Φ.p f us r)(k:ok r->K ((σ.kill (ak vs)).put d r)):kB Φ d f vs us K σ:=⟨r,.inr (.inl ⟨h,k⟩)⟩
end rules
end Go.Abs
end
section
namespace Go.Abs
open Go.RowKit
structure Kap where
 v:Nat->Value
 row:Nat->Nat->Value
 bl:Nat->Nat->Prop
 fm:Mem
instance:CoeFun Kap fun _=>Nat->Value:=⟨Kap.v⟩
def blk:Value->Option Nat
 | .pointer (some a)=>some a.block
 | .slice (some a) _ _=>some a.block
 |_=>none
def Ob.nam:Ob->Bool
 | .mp _ _=>true
 | .gh _=>true
 | .itr _ _=>true
 | .tok _=>true
 |_=>false
def qAt(κ:Kap)(ms:List Po)(k j n i off:Nat)(c:Value):Prop:=match ms[j]? with
 |some (.bx _ _)=>k=0->∃b,κ.row 0 j=.pointer (some ⟨b,0,none⟩)/\c=.pointer (some ⟨b,off,none⟩)
 |some (.rw _ sz l)=>(k=1->n<=l.length/\(n=l.length->c=κ.row 0 j))/\(k=2->n<=l.length/\(n=l.length->i<n->∃b cap,κ.row 0 j=.slice (some ⟨b,0,none⟩) n cap/\c=.pointer (some ⟨b,i*sz+off,none⟩)))
 |some (.byt _ s)=>(k=1->n<=s.length/\(n=s.length->c=κ.row 0 j))/\(k=2->n<=s.length/\(n=s.length->i<n->∃b cap,κ.row 0 j=.slice (some ⟨b,0,none⟩) n cap/\c=.pointer (some ⟨b,i+off,none⟩)))
 |some .no=>True
 |none=>False
def XX(κ:Kap)(h:List (Option Ob)):V->Value->Prop
 | .ref id n,c=>am c/\id<h.length/\(∀e sz l,h[id]?=some (some (.arr e sz l))->n<=l.length/\(n=l.length->c=κ id))/\(∀e e2 sz rows,h[id]?=some (some (.mat e e2 sz rows))->n<=rows.length/\(n=rows.length->c=κ id))/\(∀o,h[id]?=some (some o)->o.nam=true->c=κ id)
 | .ptr id off,c=>am c/\id<h.length/\∀cs,h[id]?=some (some (.box cs))->∃b,κ id=.pointer (some ⟨b,0,none⟩)/\c=.pointer (some ⟨b,off,none⟩)
 | .eptr id n i off,c=>am c/\id<h.length/\(∀e sz l,h[id]?=some (some (.arr e sz l))->n<=l.length/\(n=l.length->i<n->∃b cap,κ id=.slice (some ⟨b,0,none⟩) n cap/\c=.pointer (some ⟨b,i*sz+off,none⟩)))/\(∀e e2 sz rows,h[id]?=some (some (.mat e e2 sz rows))->n<=rows.length/\(n=rows.length->i<n->∃b cap,κ id=.slice (some ⟨b,0,none⟩) n cap/\c=.pointer (some ⟨b,i+off,none⟩)))
 | .fseq sz l,c=>am c/\rep κ.fm NX (.seq sz l) c
 | .mref id i n,c=>am c/\id<h.length/\∀e e2 sz rows,h[id]?=some (some (.mat e e2 sz rows))->(∀r,aT rows i=some r->n<=r.length/\(n=r.length->c=κ.row id i))/\∀k,rows[i]?=some (.g k)->n<=k
 | .q k j n i off,c=>am c/\0<h.length/\∀ms,h[0]?=some (some (.pool ms))->qAt κ ms k j n i off c
 | .mptr id i n k off,c=>am c/\id<h.length/\∀e e2 sz rows,h[id]?=some (some (.mat e e2 sz rows))->(∀r,aT rows i=some r->n<=r.length/\(n=r.length->k<n->∃b cap,κ.row id i=.slice (some ⟨b,0,none⟩) n cap/\c=.pointer (some ⟨b,k*sz+off,none⟩)))/\∀q,rows[i]?=some (.g q)->n<=q
 |_,_=>False
def ap(M:Mem)(sz:Nat):List V->List Value->Prop
 |[],xs=>xs=[]
 |v::vs,xs=>∃(y:Value)(rest:List Value),xs=y.cells.toList++rest/\rep M NX v y/\y.cells.size=sz/\(∀u∈y.cells.toList,am u)/\ap M sz vs rest
structure Bas where
 n:Nat
 S:Nat->Prop
 ps:List Nat
 cs:Array Value
 fb:Nat
 J:Nat->List (V×Bool)->(Nat->Prop)->Mem->World->Prop
 df:List Deferred
 gq:Nat->Nat->Nat->Nat->Nat->Value->Prop
def Bas.own(B:Bas)(g:Nat):Prop:=B.n<=g\/B.S g
def Siz(w w':World):Prop:=∀(k:Nat)(cur:Array Value)(T:TypeId)(z:Nat×Nat),w.heap[k]?=some (Obj.cells cur T z)->∃(cur':Array Value)(T':TypeId)(z':Nat×Nat),w'.heap[k]?=some (Obj.cells cur' T' z')/\cur'.size=cur.size
structure Und (B:Bas) (w w':World):Prop where
 os:w'.os=w.os
 tape:w'.tape=w.tape
 output:w'.output=w.output
 size:w.heap.size<=w'.heap.size
 block:∀k,k<B.n->¬B.S k->w'.heap[k]?=w.heap[k]?
 siz:∀(k:Nat)(cur:Array Value)(T:TypeId)(z:Nat×Nat),w.heap[k]?=some (Obj.cells cur T z)->∃(cur':Array Value)(T':TypeId)(z':Nat×Nat),w'.heap[k]?=some (Obj.cells cur' T' z')/\cur'.size=cur.size
theorem Und.refl(B:Bas)(w:World):Und B w w:=⟨rfl,rfl,rfl,zEh _,fun _ _ _=>rfl,fun _ cur T z h=>⟨cur,T,z,h,rfl⟩⟩
theorem Und.trans{B:Bas}{a b c:World}(h:Und B a b)(k:Und B b c):Und B a c:=
 ⟨k.os.trans h.os,k.tape.trans h.tape,k.output.trans h.output,zEg h.size k.size,fun i hi hs=>(k.block i hi hs).trans (h.block i hi hs),fun i cur T z hc=>by
   obtain⟨c1,T1,z1,h1,e1⟩:=h.siz i cur T z hc;obtain⟨c2,T2,z2,h2,e2⟩:=k.siz i c1 T1 z1 h1;exact⟨c2,T2,z2,h2,e2.trans e1⟩⟩
theorem Und.of_below{B:Bas}{w w':World}(h:Below w.heap.size w w')(hB:B.n<=w.heap.size):Und B w w':=⟨h.os,h.tape,h.output,h.size,fun k hk _=>h.block k (by omega),fun k cur T z hc=>⟨cur,T,z,by rw[h.block k (zAc.1 hc).1];exact hc,rfl⟩⟩
def gD(M:Mem)(kt:KT):List (V×V)->List MapEntry->Prop
 |[],es=>es=[]
 |(k,v)::l,es=>∃(e:MapEntry)(rest:List MapEntry),es=e::rest/\a8 kt k=true/\rep M NX k e.key/\rep M NX v e.val/\gD M kt l rest
def PX(X:V->Value->Prop):V->Value->Prop
 | .q k j n i off,c=>X (.q k j n i off) c
 |_,_=>False
def az(M:Mem)(X:V->Value->Prop)(sz:Nat):List V->List Value->Prop
 |[],xs=>xs=[]
 |v::vs,xs=>∃(y:Value)(rest:List Value),xs=y.cells.toList++rest/\rep M X v y/\y.cells.size=sz/\(∀u∈y.cells.toList,am u)/\az M X sz vs rest
def Po.is:Po->Bool
 | .no=>false
 |_=>true
def fc(κ:Kap)(M:Mem)(X:V->Value->Prop)(B:Bas)(w:World)(j:Nat):Po->Prop
 | .bx e cs=>∃(b:Nat)(arr:Array Value)(T:TypeId),κ.row 0 j=.pointer (some ⟨b,0,none⟩)/\w.heap[b]?=some (.cells arr T (0,0))/\ae M (PX X) cs arr.toList/\(∀u∈arr.toList,am u)/\(e=0\/T=e)
 | .rw e sz l=>0<sz/\l.length<=140737488355328/\∃xs,w.ownsRow 0 e sz (κ.row 0 j) l.length xs/\az M (PX X) sz l xs
 | .byt e s=>s.length<=140737488355328/\((s=[]/\κ.row 0 j=.slice none 0 0)\/(s≠[]/\∃(g cap:Nat)(cur:Array Value)(T:TypeId)(fz:Nat×Nat),κ.row 0 j=.slice (some ⟨g,0,none⟩) s.length cap/\w.heap[g]?=some (.cells cur T fz)/\(e=0\/T=e)/\(∀o,o<cur.size->¬(fz.1<=o/\o<fz.2))/\s.length<=cap/\cap<=maxLen/\cur.size=cap/\cur.toList.take s.length=s.map fun b=>Value.int .u8 b.toNat))
 | .no=>True
def aE(κ:Kap)(M:Mem)(X:V->Value->Prop)(B:Bas)(w:World)(id:Nat):Ob->Prop
 | .box cs=>∃(b:Nat)(arr:Array Value)(T:TypeId),κ id=.pointer (some ⟨b,0,none⟩)/\B.own b/\w.heap[b]?=some (.cells arr T (0,0))/\ae M X cs arr.toList/\(∀u∈arr.toList,am u)/\∀g,κ.bl id g↔g=b
 | .arr e sz l=>0<sz/\l.length<=140737488355328/\∃xs,w.ownsRow 0 e sz (κ id) l.length xs/\ap M sz l xs/\(∀g,κ.bl id g->B.own g)/\∀g,κ.bl id g↔blk (κ id)=some g
 | .mat e e2 sz rows=>0<sz/\rows.length<=140737488355328/\(∃xs,w.ownsRow 0 e 1 (κ id) rows.length xs/\(∀u∈xs,am u)/\∀i r,aT rows i=some r->xs[i]?=some (κ.row id i))/\
   (∀i r,aT rows i=some r->r.length<=140737488355328/\∃ys,w.ownsRow 0 e2 sz (κ.row id i) r.length ys/\ap M sz r ys)/\
   (∀i j r s g,aT rows i=some r->aT rows j=some s->blk (κ.row id i)=some g->blk (κ.row id j)=some g->i=j)/\(∀i r g,aT rows i=some r->blk (κ.row id i)=some g->blk (κ id)≠some g)/\
   (∀g,κ.bl id g->B.own g)/\∀g,κ.bl id g↔(blk (κ id)=some g\/∃i r,aT rows i=some r/\blk (κ.row id i)=some g)
 | .mp kt l=>∃(b:Nat)(es:Array MapEntry)(clock:Nat),κ id=.map (some b)/\B.own b/\w.heap[b]?=some (.map es clock)/\gD M kt l es.toList/\∀g,κ.bl id g↔g=b
 | .itr s p=>∃(b:Nat)(bs:ByteArray),κ id=.pointer (some ⟨b,0,none⟩)/\B.own b/\w.heap[b]?=some (.stringIter bs p)/\bs.data.toList=s/\s.length<=4611686018427387904/\∀g,κ.bl id g↔g=b
 | .tok c=>κ id=c/\∀g,¬κ.bl id g
 | .pool ms=>id=0/\(∀j m,ms[j]?=some m->fc κ M X B w j m)/\(∀i j m m' g,ms[i]?=some m->ms[j]?=some m'->m.is=true->m'.is=true->blk (κ.row 0 i)=some g->blk (κ.row 0 j)=some g->i=j)/\
   (∀g,κ.bl id g->B.own g)/\(∀g,κ.bl id g↔∃j m,ms[j]?=some m/\m.is=true/\blk (κ.row 0 j)=some g)/\
   ∀k j n i off c,B.gq k j n i off c->am c/\qAt κ ms k j n i off c
 | .gh l=>∃k,κ id=.func (.yield k) #[] #[]/\B.J k l (κ.bl id) M w/\∀g,κ.bl id g->B.own g/\g<w.heap.size
def Be(B:Bas):Prop:=∀(k:Nat)(l:List (V×Bool))(S:Nat->Prop)(M M':Mem)(w w':World),B.J k l S M w->Und B w w'->(∀g,S g->w'.heap[g]?=w.heap[g]?)->
 (∀p v,M p=some v->M' p=some v)->(∀p v,M' p=some v->w'.cell? p=some v)->B.J k l S M' w'
structure Sub (M0:Mem) (B:Bas) (fm M:Mem):Prop where
 sub:∀p v,M0 p=some v->M p=some v
 fmS:∀p v,fm p=some v->M p=some v
 fmN:∀p v,fm p=some v->B.fb<=p.block
 fbn:B.fb<=B.n
 gl:Kj M0
structure Rel (N:Nat) (M0:Mem) (B:Bas) (w0:World) (κ:Kap) (M:Mem) (σ:St) (a:Act) (w:World):Prop where
 dfr:a.defers=B.df
 jst:Be B
 pin:∀i,i∈B.ps->a.tmps[i]?=B.cs[i]?
 size:a.tmps.size=N
 regs:∀t v,lk σ.r t=some v->t<N/\∃c,a.tmps[t]?=some c/\rep M (XX κ σ.h) v c
 heap:∀id ob,σ.h[id]?=some (some ob)->aE κ M (XX κ σ.h) B w id ob
 inj:∀i j oi oj g,σ.h[i]?=some (some oi)->σ.h[j]?=some (some oj)->κ.bl i g->κ.bl j g->i=j
 snd:∀p v,M p=some v->w.cell? p=some v
 sep:∀p v,M p=some v->∀id ob,σ.h[id]?=some (some ob)->¬κ.bl id p.block
 sub:Sub M0 B κ.fm M
 new:∀p v,M p=some v->M0 p=some v\/B.own p.block
 base:B.n=w0.heap.size
 blw:Und B w0 w
theorem SF{M X k n c}(h:rep M X (.int k n) c):am c:=by simp only[rep]at h;rw[h.1];rfl
theorem aX{M:Mem}{X:V->Value->Prop}{v:V}{c:Value}(h:rep M X v c)(hX:∀v c,X v c->am c)(hv:∀vs,v≠.tup vs):
 ae M X (cl v) c.cells.toList/\∀u∈c.cells.toList,am u:=by
 have one:am c->cl v=[v]->ae M X (cl v) c.cells.toList/\∀u∈c.cells.toList,am u:=by
  intro hc hcl;rw[bU hc,hcl];simp only[ae];exact⟨⟨c,[],by simp,h,rfl⟩,by simpa using hc⟩
 cases v with
 |strct cs=>
   simp only[rep]at h;obtain⟨arr,rfl,h2,h3⟩:=h;exact⟨by simpa[cl,Value.cells]using h2,by simpa[Value.cells]using h3⟩
 |tup vs=>exact(hv vs rfl).elim
 |int k n=>exact one (SF h) rfl
 |bool b=>simp only[rep]at h;exact one (by rw[h];rfl) rfl
 |str s=>simp only[rep]at h;obtain⟨bs,rfl,_⟩:=h;exact one rfl rfl
 |nil sz=>simp only[rep]at h;exact one (by rw[h.1];rfl) rfl
 |seq sz l=>simp only[rep]at h;obtain⟨a,cap,rfl,_⟩:=h;exact one rfl rfl
 |ref id n=>exact one (hX _ _ h) rfl
 |ptr id n=>exact one (hX _ _ h) rfl
 |eptr id n i off=>exact one (hX _ _ h) rfl
 |mref id i n=>exact one (hX _ _ h) rfl
 |fseq sz l=>exact one (hX _ _ h) rfl
 |mptr id i n k off=>exact one (hX _ _ h) rfl
 |q k j n i off=>exact one (hX _ _ h) rfl
 |sptr x off=>simp only[rep]at h;obtain⟨b,o,y,rfl,_⟩:=h;exact one rfl rfl
 |nilptr=>simp only[rep]at h;exact one (by rw[h];rfl) rfl
 |fn f a b=>simp only[rep]at h;obtain⟨a1,a2,rfl,_⟩:=h;exact one rfl rfl
 |nilfn=>simp only[rep]at h;exact one (by rw[h];rfl) rfl
 |nilmp=>simp only[rep]at h;exact one (by rw[h];rfl) rfl
 |iface t x=>simp only[rep]at h;obtain⟨y,rfl,_⟩:=h;exact one rfl rfl
 |niliface=>simp only[rep]at h;exact one (by rw[h];rfl) rfl
 |junk=>exact one h rfl
theorem gU{κ h}:∀v c,XX κ h v c->am c:=by
 intro v c hx;cases v<;>simp only[XX]at hx<;>first|exact hx.1|exact hx.elim
theorem lh:∀v c,NX v c->am c:=fun _ _ h=>h.elim
theorem qu{M:Mem}{X:V->Value->Prop}{agg:Bool}{us:List V}{v:V}(h:mkc agg us=some v){cs:List Value}(hr:ae M X us cs)(hc:∀u∈cs,am u):
 (agg=true/\rep M X v (.agg cs.toArray))\/(agg=false/\∃c,cs=[c]/\rep M X v c):=by
 cases agg with
 |true=>
   simp only[mkc,zA]at h;subst h;exact .inl ⟨rfl,by simp only[rep];exact⟨cs.toArray,rfl,hr,hc⟩⟩
 |false=>
   match us,h with
   |[u],h=>
     simp only[mkc,zA]at h;subst h;simp only[ae]at hr;obtain⟨c,cs',rfl,h1,h2⟩:=hr;exact .inr ⟨rfl,c,by rw[h2],h1⟩
theorem m3{M:Mem}{X:V->Value->Prop}{cs us:List V}{off n:Nat}(h:cut cs off n=some us){ds:List Value}(hr:ae M X cs ds)(hc:∀u∈ds,am u):
 off+n<=ds.length/\ae M X us ((ds.drop off).take n)/\(∀u∈(ds.drop off).take n,am u)/\((ds.drop off).take n).length=n:=by
 unfold cut at h;split at h
 ·rename_i hle
  cases h;have hl:=aC hr;refine⟨by omega,kI n (kJ off hr),fun u hu=>hc u (zDd (zDe hu)),by simp;omega⟩
 ·cases h
theorem jJ{M:Mem}{X:V->Value->Prop}{cs us cs':List V}{off:Nat}(h:iE cs off us=some cs'){ds es:List Value}(hr:ae M X cs ds)(hu:ae M X us es):
 off+es.length<=ds.length/\ae M X cs' (ds.take off++es++ds.drop (off+es.length)):=by
 unfold iE at h;split at h
 ·rename_i hle
  cases h;have hl:=aC hr;have hl':=aC hu;refine⟨by omega,?_⟩
  rw[hl'];exact cQ (cQ (kI off hr) hu) (kJ _ hr)
 ·cases h
section
variable{N:Nat}{M0:Mem}{B:Bas}{w0:World}{κ:Kap}{M:Mem}{σ:St}{a:Act}{w:World}
theorem Rel.put(H:Rel N M0 B w0 κ M σ a w){d:Nat}(hd:d<N/\d ∉ B.ps){v:V}{c:Value}(hv:rep M (XX κ σ.h) v c):Rel N M0 B w0 κ M (σ.put (some d) v) (a.put (some d) c) w:=by
 refine{ dfr:=H.dfr,jst:=H.jst,pin:=fun i hi=>by rw[<-H.pin i hi];simp only[Act.put];rw[Array.getElem?_setIfInBounds_ne (fun e=>hd.2 (by rw[e];exact hi))],size:=by simpa[Act.put]using H.size,regs:=?_,heap:=H.heap,inj:=H.inj,snd:=H.snd,sep:=H.sep,sub:=H.sub,new:=H.new,base:=H.base,blw:=H.blw }
 intro t u ht;simp only[St.put,lk]at ht;split at ht
 ·rename_i he
  subst he;cases ht;exact⟨hd.1,c,by simp[Act.put,H.size,hd.1],hv⟩
 ·rename_i he
  obtain⟨h1,c',h2,h3⟩:=H.regs t u ht;exact⟨h1,c',by simp[Act.put,Array.getElem?_setIfInBounds,he,h2],h3⟩
theorem Rel.put'(H:Rel N M0 B w0 κ M σ a w){d:Option Nat}(hd:∀t,d=some t->t<N/\t ∉ B.ps){v:V}{c:Value}(hv:rep M (XX κ σ.h) v c):Rel N M0 B w0 κ M (σ.put d v) (a.put d c) w:=by
 cases d with
 |none=>exact H
 |some t=>exact H.put (hd t rfl) hv
theorem Rel.undef(H:Rel N M0 B w0 κ M σ a w){d:Option Nat}(hd:∀t,d=some t->t<N/\t ∉ B.ps):Rel N M0 B w0 κ M (σ.put d (.tup [])) (a.put d undef) w:=
 H.put' hd (by simp only[rep];exact⟨#[],rfl,by simp[ae]⟩)
theorem Rel.forget(H:Rel N M0 B w0 κ M σ a w)(r:List (Nat×V))(hr:∀t v,lk r t=some v->lk σ.r t=some v):Rel N M0 B w0 κ M { σ with r:=r } a w:=
 { dfr:=H.dfr,jst:=H.jst,pin:=H.pin,size:=H.size,regs:=fun t v ht=>H.regs t v (hr t v ht),heap:=H.heap,inj:=H.inj,snd:=H.snd,sep:=H.sep,sub:=H.sub,new:=H.new,base:=H.base,blw:=H.blw }
theorem II{r:List (Nat×V)}:∀{ks:List Nat}{t:Nat}{v:V},lk (pk r ks) t=some v->lk r t=some v
 |[],_,_,h=>by simp[pk,lk]at h
 |k::ks,t,v,h=>by
   simp only[pk]at h;split at h
   ·rename_i u hu
    simp only[lk]at h;split at h
    ·rename_i he;subst he;rw[hu];exact h
    ·exact II h
   ·exact II h
theorem ij{n:Nat}:∀{ks:List Nat},gm n ks=true↔n∈ks
 |[]=>by simp[gm]
 |k::ks=>by
   simp only[gm];split
   ·rename_i h;simp[h]
   ·rename_i h;rw[ij];simp[h]
theorem Rel.ev(H:Rel N M0 B w0 κ M σ a w){t:Nat}{v:V}(h:lk σ.r t=some v):rep M (XX κ σ.h) v (a.eval (.tmp t)):=by
 obtain⟨_,c,h1,h2⟩:=H.regs t v h;simpa[Act.eval,h1]using h2
theorem gS{σ:St}{id:Nat}{cs:List V}(h:σ.box? id=some cs):σ.h[id]?=some (some (.box cs)):=by
 unfold St.box? at h;split at h<;>simp_all
theorem dT{σ:St}{id:Nat}{x:Nat×Nat×List V}(h:σ.arr? id=some x):σ.h[id]?=some (some (.arr x.1 x.2.1 x.2.2)):=by
 unfold St.arr? at h;split at h
 ·cases h;assumption
 ·cases h
theorem bP{sz:Nat}:∀{l:List V}{xs:List Value},ap M sz l xs->xs.length=l.length*sz
 |[],_,h=>by simp only[ap]at h;simp[h]
 |v::vs,xs,h=>by
   simp only[ap]at h;obtain⟨y,rest,rfl,_,h2,_,h3⟩:=h;have:=bP h3;simp only[zCf,zBi,h2,this,zCj,zAj,zEi];omega
theorem sg{sz:Nat}:∀{l:List V}{xs:List Value},ap M sz l xs->∀{i:Nat}{v:V},l[i]?=some v->
 ∃y,rep M NX v y/\y.cells.size=sz/\(∀u∈y.cells.toList,am u)/\∀j,j<sz->xs[i*sz+j]?=y.cells[j]?
 |[],_,h,i,v,hi=>by simp at hi
 |v::vs,xs,h,i,u,hi=>by
   simp only[ap]at h;obtain⟨y,rest,rfl,h1,h2,h2',h3⟩:=h;cases i with
   |zero=>
     simp at hi;subst hi;refine⟨y,h1,h2,h2',fun j hj=>?_⟩;rw[zAi (by simp;omega)]
     simp
   |succ i=>
     simp at hi;obtain⟨y',g1,g2,g2',g3⟩:=sg h3 hi;refine⟨y',g1,g2,g2',fun j hj=>?_⟩;rw[zBc (by simp[zAj,h2];omega),<-g3 j hj]
     congr 1;simp[zAj,h2];omega
theorem mC{sz:Nat}:∀{l:List V}{b off:Nat},bB M sz l b off->∀{i:Nat}{v:V},l[i]?=some v->
 ∃y,rep M NX v y/\y.cells.size=sz/\(∀u∈y.cells.toList,am u)/\∀j,j<sz->M ⟨b,off+i*sz+j,none⟩=y.cells[j]?
 |[],_,_,_,i,v,hi=>by simp at hi
 |v::vs,b,off,h,i,u,hi=>by
   simp only[bB]at h;obtain⟨⟨y,h1,h2,h2',h3⟩,h4⟩:=h;cases i with
   |zero=>
     simp at hi;subst hi;exact⟨y,h1,h2,h2',fun j hj=>by simpa using h3 j hj⟩
   |succ i=>
     simp at hi;obtain⟨y',g1,g2,g2',g3⟩:=mC h4 hi;refine⟨y',g1,g2,g2',fun j hj=>?_⟩;rw[<-g3 j hj];congr 2;simp only[zAj];omega
theorem vD{σ:St}{id:Nat}{x:KT×List (V×V)}(h:σ.mp? id=some x):σ.h[id]?=some (some (.mp x.1 x.2)):=by
 unfold St.mp? at h;split at h
 ·cases h;assumption
 ·cases h
theorem eY{σ:St}{id:Nat}{x:Nat×Nat×Nat×List Rw}(h:σ.rws? id=some x):σ.h[id]?=some (some (.mat x.1 x.2.1 x.2.2.1 x.2.2.2)):=by
 unfold St.rws? at h;split at h
 ·cases h;assumption
 ·cases h
theorem ox{rows:List Rw}{i:Nat}{r:List V}(h:aT rows i=some r):rows[i]?=some (.a r)/\i<rows.length:=by
 unfold aT at h;split at h
 ·rename_i r' hr
  cases h;exact⟨hr,(zAa.1 hr).1⟩
 ·cases h
theorem DF{e sz:Nat}{val:Value}{l:List V}{xs:List Value}(ho:w.ownsRow 0 e sz val l.length xs)(hrow:ap M sz l xs){b cap m:Nat}(g1:val=.slice (some ⟨b,0,none⟩) m cap){i:Nat}{v:V}(hv:l[i]?=some v)
 {off n:Nat} {us:List V} (h:cut (cl v) off n=some us) {X:V->Value->Prop}:
 ∃cs:List Value,ae M X us cs/\(∀u∈cs,am u)/\cs.length=n/\∀j u,cs[j]?=some u->w.cell? ((⟨b,i*sz+off,none⟩:Addr).add j)=some u:=by
 have hi:i<l.length:=(zAa.1 hv).1;obtain⟨y,k1,k2,k2',k3⟩:=sg hrow hv
 have hnt:∀vs,v≠.tup vs:=by
  rintro vs rfl;simp only[rep]at k1;obtain⟨arr,rfl,_⟩:=k1;have:=k2' (.tuple arr) (by simp[Value.cells])
  simp[am,Value.oneCell']at this
 have kc:=aX k1 lh hnt;obtain⟨c1,c2,c3,c4⟩:=m3 h kc.1 kc.2;refine⟨_,aD (fun _ _ h=>h) (fun _ _ h=>h.elim) _ _ c2,c3,c4,fun j u hj=>?_⟩
 have hjn:j<n:=by
  have:=(zAa.1 hj).1;rw[c4]at this;exact this
 rw[zAe,if_pos hjn,zAg]at hj;have hj':y.cells[off+j]?=some u:=by simpa using hj
 have hlt:off+j<sz:=by rw[<-k2];exact(zAc.1 hj').1
 have hx:=k3 (off+j) hlt;rw[hj']at hx;have:=ho.cells (g:=b) (by rw[g1];rfl) (i*sz+(off+j)) u hx
 rw[Addr.add_lit]at this⊢;rw[<-this];congr 2;omega
mutual
theorem E3{fm:Mem}{X:V->Value->Prop}(hf:∀sz l c,X (.fseq sz l) c->rep fm NX (.seq sz l) c)(hM:∀p u,fm p=some u->M p=some u):∀(v:V)(c:Value)(u:V),low v=some u->rep M X v c->rep M (PX X) u c
 | .int _ _,_,_,hl,h=>by simp only[low,zA]at hl;subst hl;simpa only[rep]using h
 | .bool _,_,_,hl,h=>by simp only[low,zA]at hl;subst hl;simpa only[rep]using h
 | .str _,_,_,hl,h=>by simp only[low,zA]at hl;subst hl;simpa only[rep]using h
 | .nil _,_,_,hl,h=>by simp only[low,zA]at hl;subst hl;simpa only[rep]using h
 | .nilptr,_,_,hl,h=>by simp only[low,zA]at hl;subst hl;simpa only[rep]using h
 | .nilfn,_,_,hl,h=>by simp only[low,zA]at hl;subst hl;simpa only[rep]using h
 | .nilmp,_,_,hl,h=>by simp only[low,zA]at hl;subst hl;simpa only[rep]using h
 | .niliface,_,_,hl,h=>by simp only[low,zA]at hl;subst hl;simpa only[rep]using h
 | .junk,_,_,hl,h=>by simp only[low,zA]at hl;subst hl;simpa only[rep]using h
 | .seq _ _,_,_,hl,h=>by simp only[low,zA]at hl;subst hl;simpa only[rep]using h
 | .sptr _ _,_,_,hl,h=>by simp only[low,zA]at hl;subst hl;simpa only[rep]using h
 | .ref _ _,_,_,hl,h=>by simp[low]at hl
 | .ptr _ _,_,_,hl,h=>by simp[low]at hl
 | .eptr _ _ _ _,_,_,hl,h=>by simp[low]at hl
 | .mref _ _ _,_,_,hl,h=>by simp[low]at hl
 | .mptr _ _ _ _ _,_,_,hl,h=>by simp[low]at hl
 | .fseq sz l,c,_,hl,h=>by
   simp only[low,zA]at hl;subst hl;simp only[rep]at h;exact aw hM (fun _ _ h=>h.elim) _ _ (hf _ _ _ h)
 | .q k j n i off,c,_,hl,h=>by simp only[low,zA]at hl;subst hl;simpa only[rep,PX]using h
 | .strct cs,c,u,hl,h=>by
   simp only[low,zAb]at hl;obtain⟨us,hu,rfl⟩:=hl;simp only[rep]at h⊢;obtain⟨arr,h1,h2,h3⟩:=h;exact⟨arr,h1,dZ hf hM cs _ _ hu h2,h3⟩
 | .tup vs,c,_,hl,h=>by simp[low]at hl
 | .fn f fs cs,c,u,hl,h=>by
   simp only[low]at hl;split at hl
   ·rename_i a b ha hb
    cases hl;simp only[rep]at h⊢;obtain⟨a1,a2,h1,h2,h3⟩:=h;exact⟨a1,a2,h1,dZ hf hM fs _ _ ha h2,dZ hf hM cs _ _ hb h3⟩
   ·cases hl
 | .iface t x,c,u,hl,h=>by
   simp only[low,zAb]at hl;obtain⟨u',hu,rfl⟩:=hl;simp only[rep]at h⊢;obtain⟨y,h1,h2⟩:=h;exact⟨y,h1,E3 hf hM x y _ hu h2⟩
theorem dZ{fm:Mem}{X:V->Value->Prop}(hf:∀sz l c,X (.fseq sz l) c->rep fm NX (.seq sz l) c)(hM:∀p u,fm p=some u->M p=some u):∀(vs:List V)(cs:List Value)(us:List V),oU vs=some us->ae M X vs cs->ae M (PX X) us cs
 |[],_,_,hl,h=>by simp only[oU,zA]at hl;subst hl;simpa only[ae]using h
 |v::vs,cs,us,hl,h=>by
   simp only[oU]at hl;split at hl
   ·rename_i u us' hu hus
    cases hl;simp only[ae]at h⊢;obtain⟨c,cs',h1,h2,h3⟩:=h;exact⟨c,cs',h1,E3 hf hM v c u hu h2,dZ hf hM vs cs' us' hus h3⟩
   ·cases hl
end
theorem vh{κ:Kap}{h:List (Option Ob)}:∀sz l c,XX κ h (.fseq sz l) c->rep κ.fm NX (.seq sz l) c:=fun _ _ _ h=>h.2
theorem yr{X:V->Value->Prop}(hX:∀v c,X v c->am c):∀v c,PX X v c->am c:=by
 intro v c h;cases v<;>simp only[PX]at h<;>first|exact hX _ _ h|exact h.elim
theorem NB{X X':V->Value->Prop}(hX:∀v c,X v c->X' v c):∀v c,PX X v c->PX X' v c:=by
 intro v c h;cases v<;>simp only[PX]at h⊢<;>first|exact hX _ _ h|exact h
theorem Tf{X:V->Value->Prop}:∀v c,PX X v c->X v c:=by
 intro v c h;cases v<;>simp only[PX]at h<;>first|exact h|exact h.elim
theorem bJ{σ:St}{ms:List Po}(h:σ.pl?=some ms):σ.h[0]?=some (some (.pool ms)):=by
 unfold St.pl? at h;split at h
 ·rename_i e;rw[e];cases h;rfl
 ·cases h
theorem c7{X:V->Value->Prop}{sz:Nat}:∀{l:List V}{xs:List Value},az M X sz l xs->xs.length=l.length*sz
 |[],_,h=>by simp only[az]at h;simp[h]
 |v::vs,xs,h=>by
   simp only[az]at h;obtain⟨y,rest,rfl,_,h2,_,h3⟩:=h;have:=c7 h3;simp only[zCf,zBi,h2,this,zCj,zAj,zEi];omega
theorem oA{X:V->Value->Prop}{sz:Nat}:∀{l:List V}{xs:List Value},az M X sz l xs->∀{i:Nat}{v:V},l[i]?=some v->
 ∃y,rep M X v y/\y.cells.size=sz/\(∀u∈y.cells.toList,am u)/\∀j,j<sz->xs[i*sz+j]?=y.cells[j]?
 |[],_,h,i,v,hi=>by simp at hi
 |v::vs,xs,h,i,u,hi=>by
   simp only[az]at h;obtain⟨y,rest,rfl,h1,h2,h2',h3⟩:=h;cases i with
   |zero=>
     simp at hi;subst hi;refine⟨y,h1,h2,h2',fun j hj=>?_⟩;rw[zAi (by simp;omega)]
     simp
   |succ i=>
     simp at hi;obtain⟨y',g1,g2,g2',g3⟩:=oA h3 hi;refine⟨y',g1,g2,g2',fun j hj=>?_⟩;rw[zBc (by simp[zAj,h2];omega),<-g3 j hj]
     congr 1;simp[zAj,h2];omega
theorem cz{M':Mem}(hM:∀p u,M p=some u->M' p=some u){X X':V->Value->Prop}(hX:∀v c,X v c->X' v c){sz:Nat}:∀{l:List V}{xs:List Value},az M X sz l xs->az M' X' sz l xs
 |[],_,h=>h
 |v::vs,xs,h=>by
   simp only[az]at h⊢;obtain⟨y,rest,h1,h2,h3,h4,h5⟩:=h;exact⟨y,rest,h1,aw hM hX _ _ h2,h3,h4,cz hM hX h5⟩
theorem yR{X:V->Value->Prop}{sz:Nat}:∀{l:List V}{xs:List Value},ap M sz l xs->az M X sz l xs
 |[],_,h=>h
 |v::vs,xs,h=>by
   simp only[ap,az]at h⊢;obtain⟨y,rest,h1,h2,h3,h4,h5⟩:=h;exact⟨y,rest,h1,aB h2,h3,h4,yR h5⟩
theorem oB{X:V->Value->Prop}{sz:Nat}:∀{l l':List V}{xs ys:List Value},az M X sz l xs->az M X sz l' ys->az M X sz (l++l') (xs++ys)
 |[],l',xs,ys,h,h'=>by simp only[az]at h;subst h;simpa using h'
 |v::vs,l',xs,ys,h,h'=>by
   simp only[az,zCi]at h⊢;obtain⟨y,rest,rfl,h2,h3,h4,h5⟩:=h;exact⟨y,rest++ys,by simp,h2,h3,h4,oB h5 h'⟩
theorem tF{X:V->Value->Prop}{sz:Nat}:∀(n:Nat){l:List V}{xs:List Value},az M X sz l xs->az M X sz (l.take n) (xs.take (n*sz))
 |0,_,_,_=>by simp[az]
 |n+1,[],_,h=>by simp only[az]at h;simp[h,az]
 |n+1,v::vs,_,h=>by
   simp only[az,zCe]at h⊢;obtain⟨y,rest,rfl,h2,h3,h4,h5⟩:=h;refine⟨y,rest.take (n*sz),?_,h2,h3,h4,tF n h5⟩;rw[List.take_append,List.take_of_length_le (by simp[h3,zAj])]
   congr 2;simp[h3,zAj]
theorem KR{e sz:Nat}{val:Value}{l:List V}{xs:List Value}{X:V->Value->Prop}(hX:∀v c,X v c->am c)(ho:w.ownsRow 0 e sz val l.length xs)(hrow:az M X sz l xs){b cap m:Nat}(g1:val=.slice (some ⟨b,0,none⟩) m cap){i:Nat}{v:V}(hv:l[i]?=some v)
 {off n:Nat} {us:List V} (h:cut (cl v) off n=some us):
 ∃cs:List Value,ae M X us cs/\(∀u∈cs,am u)/\cs.length=n/\∀j u,cs[j]?=some u->w.cell? ((⟨b,i*sz+off,none⟩:Addr).add j)=some u:=by
 have hi:i<l.length:=(zAa.1 hv).1;obtain⟨y,k1,k2,k2',k3⟩:=oA hrow hv
 have hnt:∀vs,v≠.tup vs:=by
  rintro vs rfl;simp only[rep]at k1;obtain⟨arr,rfl,_⟩:=k1;have:=k2' (.tuple arr) (by simp[Value.cells])
  simp[am,Value.oneCell']at this
 have kc:=aX k1 hX hnt;obtain⟨c1,c2,c3,c4⟩:=m3 h kc.1 kc.2;refine⟨_,c2,c3,c4,fun j u hj=>?_⟩
 have hjn:j<n:=by
  have:=(zAa.1 hj).1;rw[c4]at this;exact this
 rw[zAe,if_pos hjn,zAg]at hj;have hj':y.cells[off+j]?=some u:=by simpa using hj
 have hlt:off+j<sz:=by rw[<-k2];exact(zAc.1 hj').1
 have hx:=k3 (off+j) hlt;rw[hj']at hx;have:=ho.cells (g:=b) (by rw[g1];rfl) (i*sz+(off+j)) u hx
 rw[Addr.add_lit]at this⊢;rw[<-this];congr 2;omega
theorem pA(H:Rel N M0 B w0 κ M σ a w){p:V}{c:Value}(hp:rep M (XX κ σ.h) p c){n:Nat}{us:List V}(h:σ.fetch p n=some us):
 ∃(b o:Nat)(cs:List Value),c=.pointer (some ⟨b,o,none⟩)/\ae M (XX κ σ.h) us cs/\(∀u∈cs,am u)/\cs.length=n/\∀j v,cs[j]?=some v->w.cell? ((⟨b,o,none⟩:Addr).add j)=some v:=by
 cases p<;>simp only[St.fetch]at h<;>try (cases h;done)
 case ptr id off=>
  split at h
  ·rename_i cs hcs
   have hb:=gS hcs;obtain⟨b,arr,T,h1,h2,h3,h4,h5,_⟩:=H.heap id _ hb;simp only[rep,XX]at hp;obtain⟨b',g1,g2⟩:=hp.2.2 cs hb;rw[h1]at g1;cases g1;obtain⟨k1,k2,k3,k4⟩:=m3 h h4 h5;refine⟨b,off,_,g2,k2,k3,k4,fun j v hj=>?_⟩;rw[Addr.add_lit,cell_of_row w b _ arr T (0,0) h3];rw[zAe]at hj;split at hj
   ·rw[zAg]at hj;simpa using hj
   ·cases hj
  ·cases h
 case eptr id m i off=>
  split at h
  ·rename_i e sz l hl
   have ha:=dT hl;simp only at ha;obtain⟨hsz,hlen,xs,ho,hrow,_⟩:=H.heap id _ ha;split at h
   ·rename_i hm
    split at h
    ·rename_i v hv
     have hi:i<l.length:=(zAa.1 hv).1;simp only[rep,XX]at hp;obtain⟨b,cap,g1,g2⟩:=(hp.2.2.1 e sz l ha).2 hm (by omega)
     obtain⟨cs,k1,k2,k3,k4⟩:=DF ho hrow g1 hv h (X:=XX κ σ.h);exact⟨b,i*sz+off,cs,g2,k1,k2,k3,k4⟩
    ·cases h
   ·cases h
  ·split at h
   ·rename_i e e2 sz rows hr
    have hr':=eY hr;simp only at hr';split at h
    ·rename_i hc
     obtain⟨hm,rfl,rfl⟩:=hc;split at h
     ·rename_i r hrow
      cases h;obtain⟨h1,h2,⟨xs,ho,hcx,hxs⟩,_⟩:=H.heap id _ hr';have hlt:=ox hrow;simp only[rep,XX]at hp;obtain⟨b,cap,g1,g2⟩:=(hp.2.2.2 e e2 sz rows hr').2 hm (by omega)
      refine⟨b,i+0,[κ.row id i],g2,?_,?_,rfl,fun j v hj=>?_⟩
      ·simp only[ae,rep,XX]
       refine⟨_,[],rfl,⟨hcx _ (zBg (hxs i r hrow)),(zAa.1 hr').1,fun e' e2' sz' rows' h'=>?_⟩,rfl⟩;rw[hr']at h';cases h';refine⟨fun r' hr2=>?_,fun k hk=>?_⟩
       ·rw[hrow]at hr2
        cases hr2;exact⟨zEh _,fun _=>rfl⟩
       ·rw[hlt.1]at hk;cases hk
      ·intro u hu
       simp only[zCg]at hu;subst hu;exact hcx _ (zBg (hxs i r hrow))
      ·have hj0:j=0:=by
        have:=(zAa.1 hj).1;simpa using this
       subst hj0;simp at hj;subst hj;have:=ho.cells (g:=b) (by rw[g1];rfl) i _ (hxs i r hrow)
       rw[Addr.add_lit]at this⊢;rw[<-this];congr 2;omega
     ·cases h
    ·cases h
   ·cases h
 case mptr id i m k off=>
  split at h
  ·rename_i e e2 sz rows hr
   have hr':=eY hr;simp only at hr';split at h
   ·rename_i r hrow
    split at h
    ·rename_i hm
     split at h
     ·rename_i v hv
      have hk:k<r.length:=(zAa.1 hv).1;obtain⟨h1,h2,_,h3,_⟩:=H.heap id _ hr';obtain⟨hrl,ys,ho,hys⟩:=h3 i r hrow;simp only[rep,XX]at hp;obtain⟨b,cap,g1,g2⟩:=((hp.2.2 e e2 sz rows hr').1 r hrow).2 hm (by omega)
      obtain⟨cs,k1,k2,k3,k4⟩:=DF ho hys g1 hv h (X:=XX κ σ.h);exact⟨b,k*sz+off,cs,g2,k1,k2,k3,k4⟩
     ·cases h
    ·cases h
   ·cases h
  ·cases h
 case q k j m i off=>
  split at h
  ·rename_i ms hms
   have hb:=bJ hms;obtain⟨_,hpo,_⟩:=H.heap 0 _ hb;simp only[rep,XX]at hp;have hq:=hp.2.2 ms hb;split at h
   ·rename_i cs hj
    split at h
    ·rename_i hk
     obtain⟨b,arr,T,h1,h3,h4,h5⟩:=hpo j _ hj;simp only[qAt,hj]at hq;obtain⟨b',g1,g2⟩:=hq hk;rw[h1]at g1;cases g1;obtain⟨k1,k2,k3,k4⟩:=m3 h h4 h5.1;refine⟨b,off,_,g2,aD (fun _ _ h=>h) Tf _ _ k2,k3,k4,fun j v hj=>?_⟩;rw[Addr.add_lit,cell_of_row w b _ arr T (0,0) h3];rw[zAe]at hj;split at hj
     ·rw[zAg]at hj;simpa using hj
     ·cases hj
    ·cases h
   ·rename_i e sz l hj
    split at h
    ·rename_i hc
     obtain⟨hk,hm⟩:=hc;split at h
     ·rename_i v hv
      obtain⟨hsz,hlen,xs,ho,hrow⟩:=hpo j _ hj;have hi:i<l.length:=(zAa.1 hv).1;simp only[qAt,hj]at hq;obtain⟨b,cap,g1,g2⟩:=(hq.2 hk).2 hm (by omega)
      obtain⟨cs,k1,k2,k3,k4⟩:=KR (yr gU) ho hrow g1 hv h;exact⟨b,i*sz+off,cs,g2,aD (fun _ _ h=>h) Tf _ _ k1,k2,k3,k4⟩
     ·cases h
    ·cases h
   ·rename_i e l hj
    split at h
    ·rename_i hc
     obtain⟨hk,hm⟩:=hc;split at h
     ·rename_i v hv
      obtain⟨hlen,hcase⟩:=hpo j _ hj;have hi:i<l.length:=(zAa.1 hv).1;simp only[qAt,hj]at hq;obtain⟨b,cap,g1,g2⟩:=(hq.2 hk).2 hm (by omega)
      rcases hcase with⟨h0,_⟩|⟨_,g,cap',cur,T,fz,h1,h2,h3,h4,h5,h6,h7,h8⟩
      ·subst h0;simp at hi
      ·rw[h1]at g1
       simp only[Value.slice.injEq,zA,Addr.mk.injEq,and_true]at g1;obtain⟨rfl,_,_⟩:=g1
       have hone:ae M (XX κ σ.h) [V.int .u8 v.toNat] [Value.int .u8 v.toNat]:=by
        simp only[ae];refine⟨_,_,rfl,?_,rfl⟩;simp only[rep];have:=v.toNat_lt;exact⟨trivial,by simp[IntKind.min,IntKind.signed],by simp[IntKind.max,IntKind.signed,IntKind.bits];omega⟩
       obtain⟨k1,k2,k3,k4⟩:=m3 h hone (by intro u hu;simp at hu;subst hu;rfl)
       refine⟨g,i+off,_,g2,k2,k3,k4,fun j' v' hj'=>?_⟩;rw[zAe]at hj';split at hj'
       ·rw[zAg]at hj'
        have hz:off+j'=0:=by
         have:=(zAa.1 hj').1;simp at this;omega
        rw[hz]at hj';simp at hj';subst hj';rw[Addr.add_lit,cell_of_row w g _ cur T fz h2,show i+off+j'=i by omega]
        have h9:(cur.toList.take l.length)[i]?=some (Value.int .u8 v.toNat):=by rw[h8];simp[hv]
        rw[zAe,if_pos hi]at h9;simpa using h9
       ·cases hj'
     ·cases h
    ·cases h
   ·cases h
  ·cases h
 case sptr x off=>
  simp only[rep]at hp;obtain⟨b,o,y,rfl,h2,h2',h3⟩:=hp
  have hnt:∀vs,x=.tup vs->False:=by
   rintro vs rfl;simp only[rep]at h2;obtain⟨arr,rfl,_⟩:=h2;have:=h2' (.tuple arr) (by simp[Value.cells])
   simp[am,Value.oneCell']at this
  have kc:=aX h2 lh (fun vs h=>hnt vs h);obtain⟨c1,c2,c3,c4⟩:=m3 h kc.1 kc.2;refine⟨b,o+off,_,rfl,aD (fun _ _ h=>h) (fun _ _ h=>h.elim) _ _ c2,c3,c4,fun j u hj=>?_⟩
  have hjn:j<n:=by
   have:=(zAa.1 hj).1;rw[c4]at this;exact this
  rw[zAe,if_pos hjn,zAg]at hj;have hj':y.cells[off+j]?=some u:=by simpa using hj
  have hlt:off+j<y.cells.size:=(zAc.1 hj').1;have hx:=h3 (off+j) hlt;rw[hj']at hx;have:=H.snd _ _ hx;rw[Addr.add_lit,<-this];congr 2;omega
end
def Jz(P:Program):Nat->TypeId->Option (List TypeId)
 |0,_=>none
 |d+1,t=>match P.underlying t with
   |some (.struct fs)=>fs.toList.foldr (fun f acc=>match Jz P d f.type,acc with
     |some l,some r=>some (l++r)
     |_,_=>none) (some [])
   |some (.array n e)=>(Jz P d e).map fun l=>(zBe n l).flatten
   |some _=>some [t]
   |none=>none
def dM(P:Program)(t:TypeId):Option Nat:=(P.info? t).map (·.size)
def r7(P:Program)(t:TypeId):Option Bool:=(P.underlying t).map fun
 | .struct _| .array _ _=>true
 |_=>false
def cS(P:Program)(t:TypeId):Value->Option V
 | .int k n=>if k.min<=n/\n<=k.max then some (.int k n)else none
 | .bool b=>some (.bool b)
 | .string bs=>if bs.data.toList.length<=4611686018427387904 then some (.str bs.data.toList)else none
 | .slice none 0 0=>match P.underlying t with
   |some (.slice e)=>match dM P e with
     |some n=>if 0<n then some (.nil n)else none
     |none=>none
   |_=>none
 | .pointer none=>some .nilptr
 | .nilFunc=>some .nilfn
 | .nilIface=>some .niliface
 | .map none=>some .nilmp
 |_=>none
def cSs(P:Program):List TypeId->List Value->Option (List V)
 |[],[]=>some []
 |t::ts,c::cs=>match cS P t c,cSs P ts cs with
   |some v,some vs=>some (v::vs)
   |_,_=>none
 |_,_=>none
def cV(P:Program)(t:TypeId):Value->Option V
 | .agg cs=>match Jz P 20 t with
   |some ts=>(cSs P ts cs.toList).map .strct
   |none=>none
 |c=>cS P t c
def cO(P:Program)(t:TypeId):Operand->Option AO
 | .tmp n=>some (.t n)
 | .const c=>(cV P t c).map .v
 | .func f=>some (.v (.fn (.func f) [] []))
 | .global g=>if 0<(GLt g).length then some (.v (.sptr (.strct ((GLt g).map fun n=>.int .u8 (n%256:Nat))) 0))else none
def cOs(P:Program):List TypeId->List Operand->Option (List AO)
 |[],[]=>some []
 |t::ts,x::xs=>match cO P t x,cOs P ts xs with
   |some v,some vs=>some (v::vs)
   |_,_=>none
 |_,_=>none
theorem SI{P:Program}{t:TypeId}{c:Value}{v:V}(h:cS P t c=some v){M:Mem}{X:V->Value->Prop}:rep M X v c/\am c:=by
 unfold cS at h;split at h
 ·split at h
  ·cases h;exact⟨by simp only[rep];exact⟨trivial,‹_›⟩,rfl⟩
  ·cases h
 ·cases h;exact⟨rfl,rfl⟩
 ·split at h
  ·cases h;exact⟨by simp only[rep];exact⟨_,rfl,rfl,‹_›⟩,rfl⟩
  ·cases h
 ·split at h
  ·split at h
   ·split at h
    ·rename_i h0;cases h;exact⟨⟨rfl,h0⟩,rfl⟩
    ·cases h
   ·cases h
  ·cases h
 ·cases h;exact⟨rfl,rfl⟩
 ·cases h;exact⟨rfl,rfl⟩
 ·cases h;exact⟨rfl,rfl⟩
 ·cases h;exact⟨rfl,rfl⟩
 ·cases h
theorem GY{P:Program}{M:Mem}{X:V->Value->Prop}:∀{ts:List TypeId}{cs:List Value}{vs:List V},cSs P ts cs=some vs->ae M X vs cs/\∀u∈cs,am u
 |[],[],vs,h=>by simp only[cSs,zA]at h;subst h;simp[ae]
 |t::ts,c::cs,vs,h=>by
   simp only[cSs]at h;split at h
   ·rename_i v us hv hus
    cases h;have h1:=SI hv (M:=M) (X:=X);have h2:=GY (M:=M) (X:=X) hus;refine⟨by simp only[ae];exact⟨c,cs,rfl,h1.1,h2.1⟩,fun u hu=>?_⟩
    rcases zDg.1 hu with rfl|hu
    ·exact h1.2
    ·exact h2.2 u hu
   ·cases h
 |[],_::_,_,h=>by simp[cSs]at h
 |_::_,[],_,h=>by simp[cSs]at h
theorem ko{P:Program}{t:TypeId}{c:Value}{v:V}(h:cV P t c=some v){M:Mem}{X:V->Value->Prop}:rep M X v c:=by
 unfold cV at h;split at h
 ·split at h
  ·rename_i ts _
   obtain⟨vs,hc,rfl⟩:=zAb.1 h;have:=GY hc (M:=M) (X:=X);simp only[rep];exact⟨_,rfl,this.1,this.2⟩
  ·cases h
 ·exact(SI h).1
section
variable{P:Program}{N:Nat}{M0:Mem}{B:Bas}{w0:World}{κ:Kap}{M:Mem}{σ:St}{a:Act}{w:World}
theorem ND{M:Mem}{X:V->Value->Prop}:∀l:List Nat,ae M X (l.map fun n=>.int .u8 (n%256:Nat)) (l.map GLv)/\∀u∈l.map GLv,am u
 |[]=>by simp[ae]
 |n::l=>by
   obtain⟨h1,h2⟩:=ND (M:=M) (X:=X) l;refine⟨?_,?_⟩
   ·simp only[zCc,ae]
    refine⟨_,_,rfl,?_,h1⟩;simp only[rep,GLv];refine⟨trivial,?_⟩;simp[IntKind.min,IntKind.max,IntKind.signed,IntKind.bits];omega
   ·intro u hu
    simp only[zCc,zDg]at hu;rcases hu with rfl|hu
    ·rfl
    ·exact h2 u hu
theorem aap{M:Mem}{X:V->Value->Prop}(hM:Kj M){g:Nat}:rep M X (.sptr (.strct ((GLt g).map fun n=>.int .u8 (n%256:Nat))) 0) (.pointer (some ⟨g,0,none⟩)):=by
 simp only[rep];obtain⟨h1,h2⟩:=ND (M:=M) (X:=NX) (GLt g);refine⟨g,0,.agg ((GLt g).map GLv).toArray,rfl,⟨_,rfl,h1,h2⟩,h2,fun j hj=>?_⟩;have hj:j<(GLt g).length:=by simpa[Value.cells]using hj
 have e:(Value.agg ((GLt g).map GLv).toArray).cells[j]?=some (GLv (GLt g)[j]):=by simp[Value.cells,hj]
 rw[e];refine hM.1 _ _ ?_;simp[GL,hj]
theorem Rel.op(H:Rel N M0 B w0 κ M σ a w){t:TypeId}{o:Operand}{x:AO}{v:V}(hc:cO P t o=some x)(hv:σ.ev x=some v):rep M (XX κ σ.h) v (a.eval o):=by
 cases o with
 |tmp n=>simp only[cO,zA]at hc;subst hc;exact H.ev hv
 |const c=>
   simp only[cO]at hc;cases h:cV P t c with
   |none=>simp[h]at hc
   |some u=>
     simp only[h,zEa,zA]at hc;subst hc;simp only[St.ev,zA]at hv;subst hv;exact ko h
 |global g=>
   simp only[cO]at hc;split at hc
   ·rename_i hg
    cases hc;simp only[St.ev,zA]at hv;subst hv;exact aap (H.sub.gl.mono H.sub.sub)
   ·cases hc
 |func f=>
   simp only[cO,zA]at hc;subst hc;simp only[St.ev,zA]at hv;subst hv;simp only[rep,Act.eval];exact⟨#[],#[],rfl,by simp[ae],by simp[ae]⟩
theorem Rel.ops(H:Rel N M0 B w0 κ M σ a w):∀{ts:List TypeId}{os:List Operand}{xs:List AO}{vs:List V},cOs P ts os=some xs->σ.evs xs=some vs->ae M (XX κ σ.h) vs (os.map a.eval)
 |[],[],xs,vs,h,h'=>by
   simp only[cOs,zA]at h;subst h;simp only[St.evs,zA]at h';subst h';simp[ae]
 |t::ts,o::os,xs,vs,h,h'=>by
   simp only[cOs]at h;split at h
   ·rename_i x ys hx hys
    cases h;simp only[St.evs]at h';split at h'
    ·rename_i u us hu hus
     cases h';simp only[zCc,ae];exact⟨_,_,rfl,H.op hx hu,H.ops hys hus⟩
    ·cases h'
   ·cases h
 |[],_::_,_,_,h,_=>by simp[cOs]at h
 |_::_,[],_,_,h,_=>by simp[cOs]at h
theorem aZ{X k n c}(h:rep M X (.int k n) c):c=.int k n/\k.min<=n/\n<=k.max:=by simpa only[rep]using h
theorem gZ{X b c}(h:rep M X (.bool b) c):c=.bool b:=by simpa only[rep]using h
theorem jp{X s c}(h:rep M X (.str s) c):∃bs:ByteArray,c=.string bs/\bs.data.toList=s/\s.length<=4611686018427387904:=h
theorem fI(bs:ByteArray):bs.size=bs.data.toList.length:=by rw[ByteArray.size,zBi]
theorem Tm(k:IntKind)(n:Int):k.min<=k.wrap n/\k.wrap n<=k.max:=by
 cases k<;>simp[IntKind.wrap,IntKind.min,IntKind.max,IntKind.signed,IntKind.bits]<;>(try split)<;>omega
theorem d8{X}(k:IntKind)(n:Int):rep M X (.int k (k.wrap n)) (.int k (k.wrap n)):=by simp only[rep];exact⟨trivial,Tm k n⟩
theorem eF{X}(b:Bool):rep M X (.bool b) (.bool b):=rfl
theorem wK(k:IntKind):k.min<=0/\0<=k.max:=by cases k<;>decide
theorem Uv{k:IntKind}{m n:Int}(h:k.min<=m/\m<=k.max):k.min<=m.tmod n/\m.tmod n<=k.max:=by
 have:=wK k;by_cases hm:0<=m
 ·have h1:=zEb n hm
  have h2:m.tmod n<=m:=by
   rw[zCh hm];by_cases hn:n=0
   ·subst hn;simp
   ·have h3:=zCd m n
    have h4:0<=n*(m/n):=by
     rcases zDh hn with h5|h5
     ·have:=zCa hm (zB h5)
      exact zCb (zB h5) this
     ·exact zEe (zB h5) (zEc hm (zB h5))
    omega
  omega
 ·have e:m.tmod n=-((-m).tmod n):=by rw[Int.neg_tmod];omega
  have h1:=zEb n (show 0<=-m by omega)
  have h2:(-m).tmod n<=-m:=by
   rw[zCh (show 0<=-m by omega)]
   by_cases hn:n=0
   ·subst hn;simp
   ·have h3:=zCd (-m) n
    have h4:0<=n*(-m/n):=by
     rcases zDh hn with h5|h5
     ·have:=zCa (show 0<=-m by omega) (zB h5)
      exact zCb (zB h5) this
     ·exact zEe (zB h5) (zEc (show 0<=-m by omega) (zB h5))
    omega
  omega
theorem Vz{k:IntKind}{m:Int}{n:Nat}(h:k.min<=m/\m<=k.max):k.min<=m.fdiv (2^n)/\m.fdiv (2^n)<=k.max:=by
 have hz:=wK k;have hp:(0:Int)<2^n:=Int.pow_pos (by decide)
 rw[Int.fdiv_eq_ediv_of_nonneg _ (zB hp)];have h3:=zCd m (2^n);have h4:=Int.emod_nonneg m (Int.ne_of_gt hp);have h5:=Int.emod_lt_of_pos m hp;generalize m/2^n=q at *;generalize(2:Int)^n=p at *;generalize m%p=r at *;by_cases hm:0<=q
 ·have:q<=p*q:=by
   have:1*q<=p*q:=Int.mul_le_mul_of_nonneg_right (by omega) hm
   omega
  omega
 ·have h6:(p-1)*1<=(p-1)*(-q):=Int.mul_le_mul_of_nonneg_left (by omega) (by omega)
  have h7:(p-1)*(-q)=q-p*q:=by rw[Int.sub_mul,Int.mul_neg,Int.one_mul];omega
  omega
theorem qF(a b:List UInt8):(a == b)=decide (a=b):=by
 by_cases h:a=b<;>simp[h]
theorem qm(op:BinOp)(xt:TypeId)(x y:Operand)(c d:Value)(h1:∀cs,c≠.agg cs)(h2:c≠.nilIface):(eqGuard op xt x y c d).run P w=.ok () w:=by
 cases op<;>first|rfl|(unfold eqGuard;simp;split<;>first|exact(h2 rfl).elim|exact(h1 _ rfl).elim|rfl)
theorem Kz{op:BinOp}{u v r:V}(h:Up op u v=some r){X:V->Value->Prop}{c d:Value}(hu:rep M X u c)(hv:rep M X v d)(xt:TypeId)(x y:Operand):
 ∃e,((do eqGuard op xt x y c d;binOp op xt c d:Sem Value)).run P w=.ok e w/\rep M X r e:=by
 cases u<;>cases v<;>simp only[Up]at h<;>try (cases h;done)
 case int.int k m k' n=>
  obtain⟨rfl,hm⟩:=aZ hu;obtain⟨rfl,hn⟩:=aZ hv;simp only[Sem.run_bind,qm op xt x y (.int k m) (.int k' n) (by simp) (by simp),Result.andThen_ok]
  cases op<;>simp only[ct,Hq,Kx]at h
  case shl=>
   split at h
   ·cases h
   ·rename_i hb
    cases h;exact⟨_,by simp[binOp,Op.shift,hb],d8 _ _⟩
  case shr=>
   split at h
   ·cases h
   ·rename_i hb
    cases h;exact⟨.int k (m.fdiv (2^min n.toNat k.bits)),by simp[binOp,Op.shift,hb],by simp only[rep];exact⟨trivial,Vz hm⟩⟩
  all_goals (split at h<;>try (cases h;done));rename_i hk;subst hk
  case quo=>
   split at h
   ·cases h
   ·rename_i hb;cases h;exact⟨_,by simp[binOp,Op.intDiv,hb],d8 _ _⟩
  case rem=>
   split at h
   ·cases h
   ·rename_i hb;cases h;exact⟨.int k (m.tmod n),by simp[binOp,Op.intDiv,hb],by simp only[rep];exact⟨trivial,Uv hm⟩⟩
  case add=>cases h;exact⟨_,by simp[binOp,Op.intArith],d8 _ _⟩
  case sub=>cases h;exact⟨_,by simp[binOp,Op.intArith],d8 _ _⟩
  case mul=>cases h;exact⟨_,by simp[binOp,Op.intArith],d8 _ _⟩
  case and=>cases h;exact⟨_,by simp[binOp,Op.intBits],d8 _ _⟩
  case or=>cases h;exact⟨_,by simp[binOp,Op.intBits],d8 _ _⟩
  case xor=>cases h;exact⟨_,by simp[binOp,Op.intBits],d8 _ _⟩
  case andNot=>cases h;exact⟨_,by simp[binOp,Op.intBits],d8 _ _⟩
  case eql=>cases h;exact⟨_,by simp only[binOp,Op.intCmp,ne_eq,not_true_eq_false,if_false];rfl,eF _⟩
  case neq=>cases h;exact⟨_,by simp only[binOp,Op.intCmp,ne_eq,not_true_eq_false,if_false];rfl,eF _⟩
  case lss=>cases h;exact⟨_,by simp only[binOp,Op.intCmp,ne_eq,not_true_eq_false,if_false];rfl,eF _⟩
  case leq=>cases h;exact⟨_,by simp only[binOp,Op.intCmp,ne_eq,not_true_eq_false,if_false];rfl,eF _⟩
  case gtr=>cases h;exact⟨_,by simp only[binOp,Op.intCmp,ne_eq,not_true_eq_false,if_false];rfl,eF _⟩
  case geq=>cases h;exact⟨_,by simp only[binOp,Op.intCmp,ne_eq,not_true_eq_false,if_false];rfl,eF _⟩
 case str.str s t=>
  obtain⟨bs,rfl,rfl,hl⟩:=jp hu;obtain⟨bt,rfl,rfl,hl'⟩:=jp hv;simp only[Sem.run_bind,qm op xt x y (.string bs) (.string bt) (by simp) (by simp),Result.andThen_ok]
  have e1:=ByteArray.toList_eq bs;have e2:=ByteArray.toList_eq bt;cases op<;>simp only[Xp]at h<;>try (cases h;done)
  case add=>
   split at h
   ·rename_i hb
    cases h;have hs:=fI bs;have ht:=fI bt;refine⟨.string (bs++bt),?_,?_⟩
    ·have:¬(((bs.size+bt.size:Nat):Int)>IntKind.i64.max):=by
      simp only[IntKind.max,IntKind.signed,IntKind.bits];simp;omega
     simp only[binOp,Op.stringOp];rw[if_neg this];rfl
    ·simp only[rep]
     exact⟨_,rfl,by simp[ByteArray.data_append],by simpa using hb⟩
   ·cases h
  case eql=>cases h;exact⟨_,by simp only[binOp,Op.stringOp,e1,e2,qF];rfl,eF _⟩
  case neq=>cases h;exact⟨_,by simp only[binOp,Op.stringOp,e1,e2,qF];rfl,eF _⟩
  case lss=>cases h;exact⟨_,by simp only[binOp,Op.stringOp,e1,e2,qF];rfl,eF _⟩
  case leq=>cases h;exact⟨_,by simp only[binOp,Op.stringOp,e1,e2,qF];rfl,eF _⟩
  case gtr=>cases h;exact⟨_,by simp only[binOp,Op.stringOp,e1,e2,qF];rfl,eF _⟩
  case geq=>cases h;exact⟨_,by simp only[binOp,Op.stringOp,e1,e2,qF];rfl,eF _⟩
end
end Go.Abs
end
section
namespace Go.Abs
open Go.RowKit Go.WideShapes
section
variable{P:Program}
def lT(f:TypeId->Option (List KK)):Nat->List (Nat×TypeId)->Option (List KK)
 |_,[]=>some []
 |o,(off,t)::ps=>match f t with
   |some ks=>if off=o/\P.cellsOf t=ks.length then(match lT f (o+ks.length) ps with
     |some r=>some (ks++r)
     |none=>none)else none
   |none=>none
def vH(P:Program):Nat->TypeId->Option (List KK)
 |0,_=>none
 |d+1,t=>match P.underlying t with
   |some .bool=>some [.b]
   |some (.int k)=>some [.i k]
   |some .string=>some [.s]
   |some (.array n e)=>match lT (P:=P) (vH P d) 0 ((List.range n).map fun i=>(i*P.cellsOf e,e))with
     |some ks=>if P.cellsOf t=ks.length then some ks else none
     |none=>none
   |some (.struct fs)=>match lT (P:=P) (vH P d) 0 (fs.toList.map fun f=>(f.offset,f.type))with
     |some ks=>if P.cellsOf t=ks.length/\fs.all (·.name != "_")=true then some ks else none
     |none=>none
   |_=>none
def Li:V->Lit
 | .int k n=>.int k n
 | .bool b=>.bool b
 | .str s=>.string s
 |_=>.bool false
def fQ:List V->List Lit
 |[]=>[]
 |v::vs=>Li v::fQ vs
theorem tV:∀{a b:List V},fQ (a++b)=fQ a++fQ b
 |[],b=>rfl
 |v::a,b=>by simp[fQ,tV (a:=a)]
theorem ik:∀{us:List V}{ks:List KK},bI us=aQ ks->us.length=ks.length
 |[],[],_=>rfl
 |[],_::_,h=>by simp[bI,aQ]at h
 |_::_,[],h=>by simp[bI,aQ]at h
 |u::us,k::ks,h=>by
   simp only[bI,aQ,zBa]at h;simp[ik h.2]
theorem wN:∀{a b:List V},bI (a++b)=bI a++bI b
 |[],b=>rfl
 |v::a,b=>by simp[bI,wN (a:=a)]
theorem tA:∀{a b:List KK},aQ (a++b)=aQ a++aQ b
 |[],b=>rfl
 |v::a,b=>by simp[aQ,tA (a:=a)]
theorem Lp{us:List V}{a b:List KK}(h:bI us=aQ (a++b)):bI (us.take a.length)=aQ a/\bI (us.drop a.length)=aQ b:=by
 have hl:=ik h;rw[zCf]at hl;have h2:us=us.take a.length++us.drop a.length:=(zDa _ _).symm;rw[h2,wN,tA]at h
 have hlen:(bI (us.take a.length)).length=(aQ a).length:=by
  have l1:∀(l:List V),(bI l).length=l.length:=fun l=>by induction l<;>simp[bI, *]
  have l2:∀(l:List KK),(aQ l).length=l.length:=fun l=>by induction l<;>simp[aQ, *]
  rw[l1,l2,zD];omega
 exact List.append_inj h hlen
theorem oV{f:TypeId->Option (List KK)}{d:Nat}{M:Mem}{X:V->Value->Prop}(hf:∀(t:TypeId)(ks:List KK)(us:List V)(cs:List Value),f t=some ks->ae M X us cs->bI us=aQ ks->P.keyLits d t cs=some (fQ us)):
 ∀(ps:List (Nat×TypeId))(o:Nat)(ks:List KK)(us:List V)(cs:List Value),lT (P:=P) f o ps=some ks->ae M X us (cs.drop o)->bI us=aQ ks->
   ∃ls,ps.mapM (fun p=>P.keyLits d p.2 ((cs.drop p.1).take (P.cellsOf p.2)))=some ls/\ls.flatten=fQ us
 |[],o,ks,us,cs,h,hr,hk=>by
   simp only[lT,zA]at h;subst h;have:=ik hk;have:us=[]:=zBf (by simpa using this)
   subst this;exact⟨[],rfl,rfl⟩
 |(off,t)::ps,o,ks,us,cs,h,hr,hk=>by
   simp only[lT]at h;split at h
   ·rename_i k1 h1
    split at h
    ·rename_i hc
     obtain⟨rfl,hcell⟩:=hc;split at h
     ·rename_i k2 h2
      simp only[zA]at h;subst h;obtain⟨g1,g2⟩:=Lp hk;have r1:=kI k1.length hr;have r2:=kJ k1.length hr;rw[List.drop_drop]at r2;have e1:=hf t k1 _ _ h1 r1 g1;obtain⟨ls,e2,e3⟩:=oV hf ps (off+k1.length) k2 _ cs h2 r2 g2;refine⟨fQ (us.take k1.length)::ls,?_,?_⟩
      ·rw[zDb,e2]
       simp only[hcell];rw[e1];rfl
      ·rw[List.flatten_cons,e3,<-tV,zDa]
     ·cases h
    ·cases h
   ·cases h
theorem zr{α β γ:Type}(f:β->Option γ)(g:α->β):∀l:List α,(l.map g).mapM f=l.mapM (fun x=>f (g x))
 |[]=>rfl
 |x::l=>by rw[zCc,zDb,zDb,zr f g l]
theorem Ne:∀(d:Nat)(t:TypeId)(ks:List KK){M:Mem}{X:V->Value->Prop}(us:List V)(cs:List Value),vH P d t=some ks->ae M X us cs->bI us=aQ ks->P.keyLits d t cs=some (fQ us):=by
 intro d
 induction d with
 |zero=>intro t ks M X us cs h;simp[vH]at h
 |succ d ih=>
   intro t ks M X us cs h hr hk;have hlen:=ik hk;have hlc:=aC hr;unfold vH at h
   have one:∀k:KK,ks=[k]->∃u,us=[u]/\kOf u=some k:=by
    intro k hks;subst hks
    match us,hk with
    |[u],hk=>simp only[bI,aQ,zBa,and_true]at hk;exact⟨u,rfl,hk⟩
    |[],hk=>simp[bI,aQ]at hk
    |_::_::_,hk=>simp[bI,aQ]at hk
   split at h
   ·rename_i hu
    simp only[zA]at h;obtain⟨u,rfl,h2⟩:=one _ h.symm;cases u<;>simp[kOf]at h2;simp only[ae,rep]at hr;obtain⟨c,cs',rfl,rfl,rfl⟩:=hr;simp[Program.keyLits,hu,fQ,Li]
   ·rename_i k hu
    simp only[zA]at h;obtain⟨u,rfl,h2⟩:=one _ h.symm;cases u<;>simp[kOf]at h2;subst h2;simp only[ae,rep]at hr;obtain⟨c,cs',rfl,⟨rfl,h3,h4⟩,rfl⟩:=hr;simp[Program.keyLits,hu,fQ,Li,Lit.wf,h3,h4]
   ·rename_i hu
    simp only[zA]at h;obtain⟨u,rfl,h2⟩:=one _ h.symm;cases u<;>simp[kOf]at h2;simp only[ae,rep]at hr;obtain⟨c,cs',rfl,⟨bs,rfl,rfl,h3⟩,rfl⟩:=hr
    have:bs.size<=maxLen:=by
     have e:bs.data.toList.length=bs.size:=zBi;rw[e]at h3;exact zEg h3 (by decide)
    unfold Program.keyLits;rw[hu];simp only[this,if_true,fQ,Li]
   ·rename_i n e hu
    split at h
    ·rename_i k1 h1
     split at h
     ·rename_i hc
      cases h;obtain⟨ls,e1,e2⟩:=oV (fun t ks us cs h1 h2 h3=>ih t ks us cs h1 h2 h3) _ 0 ks us cs h1 (by simpa using hr) hk
      rw[zr]at e1;unfold Program.keyLits;rw[hu];simp only;rw[if_pos (by omega),e1]
      simp[e2]
     ·cases h
    ·cases h
   ·rename_i fs hu
    split at h
    ·rename_i k1 h1
     split at h
     ·rename_i hc
      cases h;obtain⟨ls,e1,e2⟩:=oV (fun t ks us cs h1 h2 h3=>ih t ks us cs h1 h2 h3) _ 0 ks us cs h1 (by simpa using hr) hk
      rw[zr]at e1;unfold Program.keyLits;rw[hu];simp only;rw[if_pos ⟨by omega,hc.2⟩,e1]
      simp[e2]
     ·cases h
    ·cases h
   ·cases h
theorem Vk:∀{u v:V}{k:KK},kOf u=some k->kOf v=some k->(Li u=Li v↔eqC u v=true):=by
 intro u v k h1 h2;cases u<;>simp[kOf]at h1<;>cases v<;>simp[kOf]at h2<;>subst h1<;>simp_all[Li,eqC]
theorem D5:∀{us vs:List V}{ks:List KK},bI us=aQ ks->bI vs=aQ ks->(fQ us=fQ vs↔vT us vs=true)
 |[],[],_,_,_=>by simp[fQ,vT]
 |u::us,v::vs,k::ks,h1,h2=>by
   simp only[bI,aQ,zBa]at h1 h2;simp only[fQ,vT,zBa,zAd,Vk h1.1 h2.1,D5 h1.2 h2.2]
 |[],_::_,[],_,h2=>by simp[bI,aQ]at h2
 |[],_::_,_::_,h1,_=>by simp[bI,aQ]at h1
 |_::_,[],[],h1,_=>by simp[bI,aQ]at h1
 |_::_,[],_::_,_,h2=>by simp[bI,aQ]at h2
 |_::_,_::_,[],h1,_=>by simp[bI,aQ]at h1
def ktT(P:Program)(t:TypeId):Option KT:=
 match P.underlying t,vH P 20 t with
 |some (.struct _),some ks=>if P.keyTypeAt 20 t=true/\P.eqGuardType P.depth t=false then some ⟨true,ks⟩else none
 |some (.array _ _),some ks=>if P.keyTypeAt 20 t=true/\P.eqGuardType P.depth t=false then some ⟨true,ks⟩else none
 |some .bool,some ks=>if P.keyTypeAt 20 t=true then some ⟨false,ks⟩else none
 |some (.int _),some ks=>if P.keyTypeAt 20 t=true then some ⟨false,ks⟩else none
 |some .string,some ks=>if P.keyTypeAt 20 t=true then some ⟨false,ks⟩else none
 |_,_=>none
theorem Ln{d:Nat}{t:TypeId}{ks:List KK}(h:vH P d t=some ks)(hagg:(∃fs,P.underlying t=some (.struct fs))\/∃n e,P.underlying t=some (.array n e)):P.cellsOf t=ks.length:=by
 cases d with
 |zero=>simp[vH]at h
 |succ d=>
   unfold vH at h;rcases hagg with⟨fs,hu⟩|⟨n,e,hu⟩
   ·rw[hu]at h
    simp only at h;split at h
    ·split at h
     ·rename_i hc;cases h;exact hc.1
     ·cases h
    ·cases h
   ·rw[hu]at h
    simp only at h;split at h
    ·split at h
     ·rename_i hc;cases h;exact hc
     ·cases h
    ·cases h
theorem jv{t:TypeId}{kt:KT}(hk:ktT P t=some kt){M:Mem}{X:V->Value->Prop}{u:V}{c:Value}(hf:a8 kt u=true)(hr:rep M X u c):
 c.formed P t=true/\P.keyLits 20 t c.cells.toList=some (fQ (cl u))/\P.keyTypeAt 20 t=true/\bI (cl u)=aQ kt.ks/\
  ((kt.agg=true/\(∃cs,c=.agg cs)/\P.eqGuardType P.depth t=false/\∀k,P.underlying t≠some (.int k))\/(kt.agg=false/\(P.plainKey t=true)/\∀cs,c≠.agg cs)):=by
 simp only[a8,zAd,decide_eq_true_eq]at hf;obtain⟨ha,hks⟩:=hf
 have scal:kt.agg=false->P.plainKey t=true->vH P 20 t=some kt.ks->P.keyTypeAt 20 t=true->c.formed P t=true/\P.keyLits 20 t c.cells.toList=some (fQ (cl u))/\(∀cs,c≠.agg cs):=by
  intro hg hp ho _
  have hu:c.cells=#[c]/\(∀cs,c≠.agg cs)/\cl u=[u]/\(∀x,c≠.tuple x):=by
   rw[hg]at ha;cases u<;>simp[gk]at ha<;>simp[cl,bI,kOf]at hks<;>simp only[rep]at hr<;>(try (cases hq:kt.ks<;>simp[hq,aQ]at hks;done))
   ·obtain⟨rfl,_⟩:=hr;simp[Value.cells,cl]
   ·subst hr;simp[Value.cells,cl]
   ·obtain⟨bs,rfl,_⟩:=hr;simp[Value.cells,cl]
  refine⟨?_,?_,hu.2.1⟩
  ·have h2:=hu.2.1
   have h3:=hu.2.2.2;unfold Value.formed;unfold Program.plainKey at hp;cases c<;>simp_all<;>split at hp<;>simp_all
  ·refine Ne 20 t kt.ks (M:=M) (X:=X) (cl u) _ ho ?_ hks
   rw[hu.1,hu.2.2.1];simp only[ae];exact⟨c,[],by simp,hr,rfl⟩
 have agg:kt.agg=true->((∃fs,P.underlying t=some (.struct fs))\/∃n e,P.underlying t=some (.array n e))->vH P 20 t=some kt.ks->c.formed P t=true/\P.keyLits 20 t c.cells.toList=some (fQ (cl u))/\∃cs,c=.agg cs:=by
  intro hg hu ho;rw[hg]at ha;cases u<;>simp[gk]at ha;rename_i us;simp only[rep]at hr;obtain⟨arr,rfl,h2,_⟩:=hr;have hlen:=ik hks;have hl2:=aC h2;simp only[cl]at hlen hks⊢;refine⟨?_,?_,⟨arr,rfl⟩⟩
  ·have hc:=Ln ho hu
   have:arr.size=P.cellsOf t:=by rw[hc,<-hlen];simpa using hl2
   unfold Value.formed;rcases hu with⟨fs,hu⟩|⟨n,e,hu⟩<;>simp[hu,this]
  ·exact Ne 20 t kt.ks (M:=M) (X:=X) us _ ho (by simpa[Value.cells]using h2) hks
 unfold ktT at hk;split at hk
 ·rename_i fs ks hu ho
  split at hk
  ·rename_i hc;cases hk
   obtain⟨g1,g2,g3⟩:=agg rfl (.inl ⟨fs,hu⟩) ho;exact⟨g1,g2,hc.1,hks,.inl ⟨rfl,g3,hc.2,by simp[hu]⟩⟩
  ·cases hk
 ·rename_i n e ks hu ho
  split at hk
  ·rename_i hc;cases hk
   obtain⟨g1,g2,g3⟩:=agg rfl (.inr ⟨n,e,hu⟩) ho;exact⟨g1,g2,hc.1,hks,.inl ⟨rfl,g3,hc.2,by simp[hu]⟩⟩
  ·cases hk
 ·rename_i ks hu ho
  split at hk
  ·rename_i hc;cases hk
   have hp:P.plainKey t=true:=by simp[Program.plainKey,hu]
   obtain⟨g1,g2,g3⟩:=scal rfl hp ho hc;exact⟨g1,g2,hc,hks,.inr ⟨rfl,hp,g3⟩⟩
  ·cases hk
 ·rename_i ks hu ho
  split at hk
  ·rename_i hc;cases hk
   have hp:P.plainKey t=true:=by simp[Program.plainKey,hu]
   obtain⟨g1,g2,g3⟩:=scal rfl hp ho hc;exact⟨g1,g2,hc,hks,.inr ⟨rfl,hp,g3⟩⟩
  ·cases hk
 ·rename_i ks hu ho
  split at hk
  ·rename_i hc;cases hk
   have hp:P.plainKey t=true:=by simp[Program.plainKey,hu]
   obtain⟨g1,g2,g3⟩:=scal rfl hp ho hc;exact⟨g1,g2,hc,hks,.inr ⟨rfl,hp,g3⟩⟩
  ·cases hk
 ·cases hk
theorem vr{t:TypeId}{kt:KT}(hk:ktT P t=some kt){M M':Mem}{X X':V->Value->Prop}{u v:V}{c d:Value}(hu:a8 kt u=true)(hv:a8 kt v=true)(hc:rep M X u c)(hd:rep M' X' v d)(w:World):
 (Op.equalIn 10000 t c d).run P w=.ok (eqK u v) w:=by
 obtain⟨f1,l1,k1,s1,_⟩:=jv hk hu hc;obtain⟨f2,l2,_,s2,_⟩:=jv hk hv hd;obtain⟨r,hr,hiff⟩:=run_equalIn_deep 9980 20 t k1 w 20 20 c d _ _ f1 f2 l1 l2;rw[D5 s1 s2]at hiff
 have:r=eqK u v:=by
  unfold eqK;cases r<;>cases h:vT (cl u) (cl v)<;>simp_all
 rw[<-this];exact hr
end
end Go.Abs
namespace Go.Abs
open Go.RowKit Go.WideShapes
section
variable{P:Program}
theorem Mu(a b:ByteArray):(a == b)=decide (a.data.toList=b.data.toList):=by
 have e:(a == b)=(a.data == b.data):=rfl;rw[e,zEd,beq_iff_eq,decide_eq_true_eq];exact⟨fun h=>by rw[h],fun h=>zDf h⟩
def Bf(M:Mem)(kt:KT)(u:V)(l:List (V×V))(es:List MapEntry)(i:Nat)(r:Option (Nat×Value)):Prop:=
 (r=none/\sy u l=none/\(∀(ne:MapEntry)(x:V),a8 kt u=true->rep M NX u ne.key->rep M NX x ne.val->gD M kt (nU u x l) (es++[ne]))/\gD M kt (xG u l) es)\/
 ∃(j:Nat)(e:MapEntry)(k v:V),r=some (i+j,e.val)/\es[j]?=some e/\sy u l=some v/\rep M NX v e.val/\a8 kt k=true/\rep M NX k e.key/\eqK u k=true/\
   (∀(f:MapEntry->MapEntry)(x:V),a8 kt u=true->(∀e,rep M NX u (f e).key/\rep M NX x (f e).val)->gD M kt (nU u x l) (es.modify j f))/\gD M kt (xG u l) (es.eraseIdx j)
theorem Bf.nil{M:Mem}{kt:KT}{u:V}{i:Nat}:Bf M kt u [] [] i none:=
 .inl ⟨rfl,rfl,fun ne x hf h1 h2=>by simp only[nU,List.nil_append,gD];exact⟨ne,[],rfl,hf,h1,h2,rfl⟩,rfl⟩
theorem Bf.hit{M:Mem}{kt:KT}{u k v:V}{l:List (V×V)}{e:MapEntry}{es:List MapEntry}{i:Nat}(h1:a8 kt k=true)(h2:rep M NX k e.key)(h3:rep M NX v e.val)(h4:gD M kt l es)(h:eqK u k=true):
 Bf M kt u ((k,v)::l) (e::es) i (some (i,e.val)):=
 .inr ⟨0,e,k,v,rfl,rfl,by simp[sy,h],h3,h1,h2,h,fun f x hf hx=>by
  simp only[nU,h,if_true,List.modify_zero_cons,gD];exact⟨f e,es,rfl,hf,(hx e).1,(hx e).2,h4⟩,by simpa[xG,h]using h4⟩
theorem Bf.miss{M:Mem}{kt:KT}{u k v:V}{l:List (V×V)}{e:MapEntry}{es:List MapEntry}{i:Nat}{r:Option (Nat×Value)}(h1:a8 kt k=true)(h2:rep M NX k e.key)(h3:rep M NX v e.val)(h:eqK u k=false)
 (hr:Bf M kt u l es (i+1) r):Bf M kt u ((k,v)::l) (e::es) i r:=by
 rcases hr with⟨rfl,g1,g2,gd⟩|⟨j,e',k',v',rfl,g1,g2,g3,g4,g5,g6,g7,gd⟩
 ·refine .inl ⟨rfl,by simp[sy,h,g1],fun ne x hf n1 n2=>?_,by simp only[xG,h,zAh,if_false,gD];exact⟨e,_,rfl,h1,h2,h3,gd⟩⟩
  simp only[nU,h,zAh,if_false,zCi,gD];exact⟨e,_,rfl,h1,h2,h3,g2 ne x hf n1 n2⟩
 ·refine .inr ⟨j+1,e',k',v',by simp;omega,by simpa using g1,by simp[sy,h,g2],g3,g4,g5,g6,fun f x hf hx=>?_,by simp only[xG,h,zAh,if_false,gD,List.eraseIdx_cons_succ];exact⟨e,_,rfl,h1,h2,h3,gd⟩⟩
  simp only[nU,h,zAh,if_false,List.modify_succ_cons,gD];exact⟨e,_,rfl,h1,h2,h3,g7 f x hf hx⟩
theorem yN{t:TypeId}{kt:KT}(hk:ktT P t=some kt){M M':Mem}{X:V->Value->Prop}{u:V}{c:Value}(hu:a8 kt u=true)(hc:rep M X u c)(w:World):
 ∀(l:List (V×V))(es:List MapEntry)(i:Nat),gD M' kt l es->∃r,(Instr.findAsking t c es i).run P w=.ok r w/\Bf M' kt u l es i r
 |[],es,i,h=>by
   simp only[gD]at h;subst h;exact⟨none,rfl,.nil⟩
 |(k,v)::l,es,i,h=>by
   simp only[gD]at h;obtain⟨e,rest,rfl,h1,h2,h3,h4⟩:=h;have he:=vr (P:=P) hk hu h1 hc h2 w;have heq:(Op.equal t c e.key).run P w=.ok (eqK u k) w:=he;cases hq:eqK u k
   ·obtain⟨r,g1,g2⟩:=yN hk hu hc w l rest (i+1) h4
    refine⟨r,?_,.miss h1 h2 h3 hq g2⟩;simp only[Instr.findAsking,Sem.run_bind,heq,hq,Result.andThen_ok,zAh,if_false];exact g1
   ·refine⟨_,?_,.hit h1 h2 h3 h4 hq⟩
    simp only[Instr.findAsking,Sem.run_bind,heq,hq,Result.andThen_ok,if_true];rfl
theorem Yz{t:TypeId}{kt:KT}(hk:ktT P t=some kt)(hg:kt.agg=false){d:TypeDesc}(hd:P.underlying t=some d){M M':Mem}{X X':V->Value->Prop}{u k:V}{c e:Value}(hu:a8 kt u=true)(hc:rep M X u c)(hv:a8 kt k=true)(he:rep M' X' k e):
 Instr.sameNow d c e=some (eqK u k):=by
 simp only[a8,zAd,decide_eq_true_eq]at hu hv;obtain⟨a1,b1⟩:=hu;obtain⟨a2,b2⟩:=hv
 have one:∀kk:KK,kt.ks=[kk]->(∃x,cl u=[x]/\x=u/\kOf u=some kk)/\∃x,cl k=[x]/\x=k/\kOf k=some kk:=by
  intro kk hq;rw[hq]at b1 b2;rw[hg]at a1 a2;constructor
  ·cases u<;>simp[gk]at a1<;>simp[cl,bI,aQ]at b1⊢<;>exact b1
  ·cases k<;>simp[gk]at a2<;>simp[cl,bI,aQ]at b2⊢<;>exact b2
 have hks:(d=.bool/\kt.ks=[.b])\/(∃q,d=.int q/\kt.ks=[.i q])\/(d=.string/\kt.ks=[.s]):=by
  unfold ktT at hk;rw[hd]at hk;cases ho:vH P 20 t with
  |none=>rw[ho]at hk;cases d<;>simp at hk
  |some ks=>
    rw[ho]at hk;have ho':=ho;rw[vH,hd]at ho';cases d<;>simp only at hk<;>first|(cases hk;done)|(split at hk<;>cases hk)
    all_goals first|(simp at hg;done)|skip
    all_goals (simp only[zA]at ho';subst ho';simp)
 rcases hks with⟨rfl,hq⟩|⟨q,rfl,hq⟩|⟨rfl,hq⟩<;>obtain⟨⟨_,_,_,k1⟩,⟨_,_,_,k2⟩⟩:=one _ hq
 ·cases u<;>simp[kOf]at k1
  cases k<;>simp[kOf]at k2;simp only[rep]at hc he;subst hc;subst he;simp[Instr.sameNow,eqK,cl,vT,eqC]
 ·cases u<;>simp[kOf]at k1
  cases k<;>simp[kOf]at k2;subst k1;subst k2;simp only[rep]at hc he;rw[hc.1,he.1];simp[Instr.sameNow,eqK,cl,vT,eqC];rw[zEd];simp
 ·cases u<;>simp[kOf]at k1
  cases k<;>simp[kOf]at k2;simp only[rep]at hc he;obtain⟨bs,rfl,rfl,_⟩:=hc;obtain⟨bs',rfl,rfl,_⟩:=he;simp only[Instr.sameNow,eqK,cl,vT,eqC,Bool.and_true,Mu]
theorem MX{t:TypeId}{kt:KT}(hk:ktT P t=some kt)(hg:kt.agg=false){d:TypeDesc}(hd:P.underlying t=some d){M M':Mem}{X:V->Value->Prop}{u:V}{c:Value}(hu:a8 kt u=true)(hc:rep M X u c):
 ∀(l:List (V×V))(es:List MapEntry)(i:Nat),gD M' kt l es->∃r,Instr.findNow d c es i=some r/\Bf M' kt u l es i r
 |[],es,i,h=>by
   simp only[gD]at h;subst h;exact⟨none,rfl,.nil⟩
 |(k,v)::l,es,i,h=>by
   simp only[gD]at h;obtain⟨e,rest,rfl,h1,h2,h3,h4⟩:=h;have he:=Yz hk hg hd hu hc h1 h2;cases hq:eqK u k
   ·obtain⟨r,g1,g2⟩:=MX hk hg hd hu hc l rest (i+1) h4
    refine⟨r,?_,.miss h1 h2 h3 hq g2⟩;simp only[Instr.findNow,he,hq];exact g1
   ·refine⟨_,?_,.hit h1 h2 h3 h4 hq⟩
    simp only[Instr.findNow,he,hq]
theorem tD{t:TypeId}{kt:KT}(hk:ktT P t=some kt){M M':Mem}{X:V->Value->Prop}{u:V}{c:Value}(hu:a8 kt u=true)(hc:rep M X u c)(w:World)(l:List (V×V))(es:List MapEntry)(h:gD M' kt l es):
 ∃r,(Instr.findKey t c es).run P w=.ok r w/\Bf M' kt u l es 0 r:=by
 obtain⟨f1,l1,k1,s1,hcase⟩:=jv hk hu hc
 have hd:∃d,P.underlying t=some d:=by
  unfold ktT at hk;split at hk<;>first|(rename_i h _;exact⟨_,h⟩)|cases hk
 obtain⟨d,hd⟩:=hd;rcases hcase with⟨hg,⟨cs,rfl⟩,_,hni⟩|⟨hg,_,_⟩
 ·cases es with
  |nil=>
    cases l with
    |nil=>exact⟨none,by simp only[Instr.findKey,Sem.run_bind,run_underlying hd w,Result.andThen_ok,Instr.findNow];rfl,.nil⟩
    |cons p l=>obtain⟨k,v⟩:=p;simp[gD]at h
  |cons e es=>
    obtain⟨r,g1,g2⟩:=yN hk hu hc w l (e::es) 0 h;refine⟨r,?_,g2⟩
    have hn:Instr.sameNow d (.agg cs) e.key=none:=by
     cases d<;>simp[Instr.sameNow]
    simp only[Instr.findKey,Sem.run_bind,run_underlying hd w,Result.andThen_ok,Instr.findNow,hn];exact g1
 ·obtain⟨r,g1,g2⟩:=MX hk hg hd hu hc l es 0 h
  refine⟨r,?_,g2⟩;simp only[Instr.findKey,Sem.run_bind,run_underlying hd w,Result.andThen_ok,g1];rfl
theorem qn{t:TypeId}{kt:KT}(hk:ktT P t=some kt){M:Mem}{X:V->Value->Prop}{u:V}{c:Value}(hu:a8 kt u=true)(hc:rep M X u c)(em:Bool)(w:World):(Instr.checkKey em 10000 t c).run P w=.ok () w:=by
 obtain⟨f1,l1,k1,s1,_⟩:=jv hk hu hc;exact run_checkKey_deep em 9980 20 t k1 w 20 c _ f1 l1
theorem AW{M M':Mem}{X X':V->Value->Prop}:∀{us vs:List V}{ks:List KK}{cs ds:List Value},bI us=aQ ks->bI vs=aQ ks->vT us vs=true->ae M X us cs->ae M' X' vs ds->cs=ds
 |[],[],_,cs,ds,_,_,_,h1,h2=>by simp only[ae]at h1 h2;rw[h1,h2]
 |u::us,v::vs,k::ks,cs,ds,h1,h2,he,r1,r2=>by
   simp only[bI,aQ,zBa]at h1 h2;simp only[vT,zAd]at he;simp only[ae]at r1 r2;obtain⟨c,cs',rfl,q1,q2⟩:=r1;obtain⟨d,ds',rfl,q3,q4⟩:=r2;rw[AW h1.2 h2.2 he.2 q2 q4];congr 1;have e1:=h1.1;have e2:=h2.1;have e3:=he.1;cases u<;>simp[kOf]at e1<;>cases v<;>simp[kOf]at e2<;>subst e1<;>simp[eqC]at e3<;>simp only[rep]at q1 q3
   ·obtain⟨rfl,_⟩:=q1;obtain⟨rfl,_⟩:=q3;simp_all
   ·subst q1;subst q3;simp_all
   ·obtain⟨bs,rfl,h0,_⟩:=q1
    obtain⟨bs',rfl,h,_⟩:=q3;rw[<-e3,<-h0]at h;congr 1;cases bs;cases bs';simp only at h;rw[zDf h]
 |[],_::_,[],_,_,_,h2,_,_,_=>by simp[bI,aQ]at h2
 |[],_::_,_::_,_,_,h1,_,_,_,_=>by simp[bI,aQ]at h1
 |_::_,[],[],_,_,h1,_,_,_,_=>by simp[bI,aQ]at h1
 |_::_,[],_::_,_,_,_,h2,_,_,_=>by simp[bI,aQ]at h2
 |_::_,_::_,[],_,_,h1,_,_,_,_=>by simp[bI,aQ]at h1
theorem RQ{kt:KT}{M M':Mem}{X X':V->Value->Prop}{u v:V}{c d:Value}(hu:a8 kt u=true)(hv:a8 kt v=true)(he:eqK u v=true)(hc:rep M X u c)(hd:rep M' X' v d):c=d:=by
 simp only[a8,zAd,decide_eq_true_eq]at hu hv
 have r1:ae M X (cl u) c.cells.toList/\(gk u=true->∃cs,c=.agg cs)/\(gk u=false->c.cells=#[c]):=by
  cases hg:gk u
  ·refine⟨?_,by simp,?_⟩
   all_goals
    cases u<;>simp[gk]at hg<;>simp[cl,bI,kOf]at hu<;>simp only[rep]at hc<;>(try (cases h:kt.ks<;>simp[h,aQ]at hu;done))
   ·obtain⟨rfl,h⟩:=hc;simp[Value.cells,cl,ae,rep,h]
   ·subst hc;simp[Value.cells,cl,ae,rep]
   ·obtain⟨bs,rfl,h⟩:=hc;simp only[Value.cells,cl,ae,rep];exact⟨_,[],rfl,⟨bs,rfl,h⟩,rfl⟩
   ·obtain⟨rfl,h⟩:=hc;exact fun _=>rfl
   ·subst hc;exact fun _=>rfl
   ·obtain⟨bs,rfl,h⟩:=hc;exact fun _=>rfl
  ·cases u<;>simp[gk]at hg
   simp only[rep]at hc;obtain⟨arr,rfl,h,_⟩:=hc;exact⟨by simpa[Value.cells,cl]using h,fun _=>⟨arr,rfl⟩,by simp[gk]⟩
 have r2:ae M' X' (cl v) d.cells.toList/\(gk v=true->∃cs,d=.agg cs)/\(gk v=false->d.cells=#[d]):=by
  cases hg:gk v
  ·refine⟨?_,by simp,?_⟩
   all_goals
    cases v<;>simp[gk]at hg<;>simp[cl,bI,kOf]at hv<;>simp only[rep]at hd<;>(try (cases h:kt.ks<;>simp[h,aQ]at hv;done))
   ·obtain⟨rfl,h⟩:=hd;simp[Value.cells,cl,ae,rep,h]
   ·subst hd;simp[Value.cells,cl,ae,rep]
   ·obtain⟨bs,rfl,h⟩:=hd;simp only[Value.cells,cl,ae,rep];exact⟨_,[],rfl,⟨bs,rfl,h⟩,rfl⟩
   ·obtain⟨rfl,h⟩:=hd;exact fun _=>rfl
   ·subst hd;exact fun _=>rfl
   ·obtain⟨bs,rfl,h⟩:=hd;exact fun _=>rfl
  ·cases v<;>simp[gk]at hg
   simp only[rep]at hd;obtain⟨arr,rfl,h,_⟩:=hd;exact⟨by simpa[Value.cells,cl]using h,fun _=>⟨arr,rfl⟩,by simp[gk]⟩
 have hcs:=AW hu.2 hv.2 he r1.1 r2.1;cases hg:kt.agg
 ·have e1:=r1.2.2 (by rw[hu.1,hg])
  have e2:=r2.2.2 (by rw[hv.1,hg])
  rw[e1,e2]at hcs;simpa using hcs
 ·obtain⟨a1,rfl⟩:=r1.2.1 (by rw[hu.1,hg])
  obtain⟨a2,rfl⟩:=r2.2.1 (by rw[hv.1,hg])
  simp only[Value.cells]at hcs;congr 1;cases a1;cases a2;simpa using hcs
theorem A6{M:Mem}{X:V->Value->Prop}:∀{us:List V}{ks:List KK}{cs:List Value},bI us=aQ ks->ae M X us cs->∀n,∀c∈cs,Instr.sameBits n c c=true
 |[],_,cs,_,h,n,c,hc=>by simp only[ae]at h;subst h;cases hc
 |u::us,k::ks,cs,h1,h,n,c,hc=>by
   simp only[bI,aQ,zBa]at h1;simp only[ae]at h;obtain⟨c0,cs',rfl,q1,q2⟩:=h;rcases zDg.1 hc with rfl|hc
   ·have e1:=h1.1
    cases u<;>simp[kOf]at e1<;>simp only[rep]at q1
    ·obtain⟨rfl,_⟩:=q1;cases n<;>simp[Instr.sameBits]
    ·subst q1;cases n<;>simp[Instr.sameBits]
    ·obtain⟨bs,rfl,_⟩:=q1;cases n<;>simp[Instr.sameBits,Mu]
   ·exact A6 h1.2 q2 n c hc
 |_::_,[],_,h1,_,_,_,_=>by simp[bI,aQ]at h1
theorem PE{kt:KT}{M:Mem}{X:V->Value->Prop}{u:V}{c:Value}(hu:a8 kt u=true)(hc:rep M X u c):Instr.sameBits 10000 c c=true:=by
 simp only[a8,zAd,decide_eq_true_eq]at hu;cases hg:gk u
 ·cases u<;>simp[gk]at hg<;>simp[cl,bI,kOf]at hu<;>simp only[rep]at hc<;>(try (cases h:kt.ks<;>simp[h,aQ]at hu;done))
  ·obtain⟨rfl,_⟩:=hc;simp[Instr.sameBits]
  ·subst hc;simp[Instr.sameBits]
  ·obtain⟨bs,rfl,_⟩:=hc;simp[Instr.sameBits,Mu]
 ·cases u<;>simp[gk]at hg
  simp only[rep]at hc;obtain⟨arr,rfl,h,_⟩:=hc;have hb:=A6 hu.2 h 9999;simp only[Instr.sameBits,beq_self_eq_true,Bool.true_and,List.all_eq_true];intro p hp
  have:p.1=p.2/\p.1∈arr.toList:=by
   obtain⟨a,b⟩:=p;have:=List.of_mem_zip hp;obtain⟨i,hi⟩:=List.mem_iff_getElem?.1 hp;rw[List.getElem?_zip_eq_some]at hi;have:a=b:=Option.some.inj (hi.1.symm.trans hi.2);exact⟨this,zBg hi.1⟩
  rw[<-this.1];exact hb _ this.2
theorem Nj{M:Mem}{X:V->Value->Prop}:∀{us:List V}{ks:List KK}{cs:List Value},bI us=aQ ks->ae M X us cs->ae M NX us cs
 |[],_,_,_,h=>h
 |u::us,k::ks,cs,h1,h=>by
   simp only[bI,aQ,zBa]at h1;simp only[ae]at h⊢;obtain⟨c,cs',rfl,q1,q2⟩:=h;refine⟨c,cs',rfl,?_,Nj h1.2 q2⟩;have e1:=h1.1;cases u<;>simp[kOf]at e1<;>exact q1
 |_::_,[],_,h1,_=>by simp[bI,aQ]at h1
theorem YK{kt:KT}{M:Mem}{X:V->Value->Prop}{u:V}{c:Value}(hu:a8 kt u=true)(hc:rep M X u c):rep M NX u c:=by
 simp only[a8,zAd,decide_eq_true_eq]at hu;cases hg:gk u
 ·cases u<;>simp[gk]at hg<;>simp[cl,bI,kOf]at hu<;>first|exact hc|(cases h:kt.ks<;>simp[h,aQ]at hu)
 ·cases u<;>simp[gk]at hg
  simp only[rep]at hc⊢;obtain⟨arr,rfl,h,h2⟩:=hc;exact⟨arr,rfl,Nj hu.2 h,h2⟩
end
end Go.Abs
end
section
namespace Go.Abs
open Go.RowKit
def cOo(P:Program)(t:TypeId):Option Operand->Option (Option AO)
 |none=>some none
 |some x=>(cO P t x).map some
def yf(P:Program)(t:TypeId)(i:Nat):Option (Nat×Nat×TypeId):=
 match P.underlying t with
 |some (.struct fs)=>match fs[i]? with
   |some f=>match dM P f.type with
     |some n=>some (f.offset,n,f.type)
     |none=>none
   |none=>none
 |some (.array m e)=>match dM P e with
   |some n=>if i<m then some (i*n,n,e)else none
   |none=>none
 |_=>none
def wb(P:Program)(t:TypeId):List (Nat×Operand)->Option (List (Nat×Nat×AO))
 |[]=>some []
 |(i,x)::ps=>match yf P t i with
   |some (off,n,ft)=>match cO P ft x,wb P t ps with
     |some y,some qs=>some ((off,n,y)::qs)
     |_,_=>none
   |none=>none
def E7(P:Program)(t:TypeId)(c:Value):Option Nat:=match P.underlying t,c with
 |some (.pointer _),.pointer none=>some 0
 |some (.interface _),.nilIface=>some 1
 |some (.func _ _ _),.nilFunc=>some 2
 |some (.map _ _),.map none=>some 3
 |_,_=>none
inductive LV (P:Program):TypeId->Op->Act'->Prop
 |move {ty x y}:cO P ty x=some y->LV P ty (.move x) (.mov y)
 |assign {ty x y}:cO P ty x=some y->LV P ty (.assign x) (.mov y)
 |pick {ty c a b c' a' b'}:cO P ty c=some c'->cO P ty a=some a'->cO P ty b=some b'->LV P ty (.pick c a b) (.pick c' a' b')
 |field {ty t x i y fs f n g}:cO P t x=some y->P.underlying t=some (.struct fs)->fs[i]?=some f->dM P f.type=some n->r7 P f.type=some g->(g=false->n=1)->LV P ty (.field t x i) (.fld y f.offset n g)
 |fieldAddr {ty t x i y fs f n}:cO P 0 x=some y->P.underlying t=some (.struct fs)->fs[i]?=some f->dM P f.type=some n->n≠0->LV P ty (.fieldAddr t x i) (.fa y f.offset)
 |indexAddr {ty t x i y j e n}:cO P t x=some y->cO P 0 i=some j->P.underlying t=some (.slice e)->dM P e=some n->LV P ty (.indexAddr t x i) (.ia y j n)
 |indexAddrA {ty t x i y j e m n}:cO P 0 x=some y->cO P 0 i=some j->P.underlying t=some (.array m e)->dM P e=some n->LV P ty (.indexAddr t x i) (.iaa y j m n)
 |load {ty t x y n g}:cO P 0 x=some y->dM P t=some n->r7 P t=some g->(g=false->n=1)->LV P ty (.load t x) (.ld y n g)
 |indexS {ty t x i y j}:cO P t x=some y->cO P 0 i=some j->P.underlying t=some .string->LV P ty (.index t x i) (.ixs y j)
 |indexA {ty t x i y j m e n g}:cO P t x=some y->cO P 0 i=some j->P.underlying t=some (.array m e)->dM P e=some n->r7 P e=some g->(g=false->n=1)->LV P ty (.index t x i) (.ixa y j m n g)
 |bin {ty op xt x y yt u v}:cO P xt x=some u->cO P yt y=some v->LV P ty (.binOp op xt x y yt) (.bin op u v)
 |beq {ty xt x y yt u v}:P.underlying xt=some .bool->cO P xt x=some u->cO P yt y=some v->LV P ty (.binOp .eql xt x y yt) (.beq false u v)
 |bne {ty xt x y yt u v}:P.underlying xt=some .bool->cO P xt x=some u->cO P yt y=some v->LV P ty (.binOp .neq xt x y yt) (.beq true u v)
 |un {ty op t x u}:cO P t x=some u->LV P ty (.unOp op t x) (.un op u)
 |r2s {ty s d x u k}:cO P s x=some u->P.underlying s=some (.int k)->P.underlying d=some .string->LV P ty (.convert s d x) (.r2s u)
 |cii {ty s d x u k ds}:cO P s x=some u->P.underlying d=some (.int k)->P.underlying s=some ds->LV P ty (.convert s d x) (.cii k u)
 |sls {ty t x lo hi u lo' hi'}:cO P t x=some u->cOo P 0 lo=some lo'->cOo P 0 hi=some hi'->P.underlying t=some .string->LV P ty (.slice t x lo hi none) (.sls u lo' hi')
 |slq {ty t x lo hi u lo' hi' e n}:cO P t x=some u->cOo P 0 lo=some lo'->cOo P 0 hi=some hi'->P.underlying t=some (.slice e)->dM P e=some n->LV P ty (.slice t x lo hi none) (.slq u lo' hi' n)
 |lens {ty t x u}:cO P t x=some u->P.underlying t=some .string->LV P ty (.call { callee:=.builtin .len,args:=#[x],argTypes:=#[t] }) (.lens u)
 |lenq {ty t x u e}:cO P t x=some u->P.underlying t=some (.slice e)->LV P ty (.call { callee:=.builtin .len,args:=#[x],argTypes:=#[t] }) (.lenq u)
 |mmx {ty x y t t' u v}:cO P t x=some u->cO P t' y=some v->LV P ty (.call { callee:=.builtin .max,args:=#[x,y],argTypes:=#[t,t'] }) (.mm true u v)
 |mmn {ty x y t t' u v}:cO P t x=some u->cO P t' y=some v->LV P ty (.call { callee:=.builtin .min,args:=#[x,y],argTypes:=#[t,t'] }) (.mm false u v)
 |nlq {ty t x yt u neg op k c}:E7 P t c=some k->((op=.eql/\neg=false)\/(op=.neq/\neg=true))->cO P t x=some u->LV P ty (.binOp op t x (.const c) yt) (.nlq k neg u)
 |ext {ty x i u}:cO P 0 x=some u->LV P ty (.extract x i) (.ext u i)
 |bld {ty t parts z zc zs ps i z'}:P.built t []=some z'->P.info? t=some i->i.zero=some (.agg z)->Jz P 20 t=some zc->cSs P zc z.toList=some zs->wb P t parts.toList=some ps->LV P ty (.build t parts) (.bld zs ps)
 |mkf {ty f a b a' b'}:cOs P (zBe a.size 0) a.toList=some a'->cOs P (zBe b.size 0) b.toList=some b'->LV P ty (.makeFunc f a b) (.mkf f a' b')
 |nlc {ty x u}:cO P 0 x=some u->LV P ty (.nilCheck x) (.nlc u)
 |mki {ty t x u ds}:cO P t x=some u->P.underlying t=some ds->(∀ms,ds≠.interface ms)->LV P ty (.makeInterface t x) (.mki t u)
 |tya {ty t x xt okk u i z zv ds}:P.underlying t=some ds->(∀ms,ds≠.interface ms)->cO P xt x=some u->P.info? t=some i->i.zero=some z->cV P t z=some zv->LV P ty (.typeAssert x xt t okk) (.tya t zv okk u)
 |aeq {ty t x y yt u v kt}:ktT P t=some kt->kt.agg=true->cO P t x=some u->cO P yt y=some v->LV P ty (.binOp .eql t x y yt) (.aeq false kt u v)
 |ane {ty t x y yt u v kt}:ktT P t=some kt->kt.agg=true->cO P t x=some u->cO P yt y=some v->LV P ty (.binOp .neq t x y yt) (.aeq true kt u v)
 |lkp {ty t K E x k u v kt i z zv okk}:P.underlying t=some (.map K E)->ktT P K=some kt->cO P t x=some u->cO P K k=some v->P.info? E=some i->i.zero=some z->cV P E z=some zv->LV P ty (.lookup t x k okk) (.lkp kt zv okk u v)
section
variable{P:Program}{N:Nat}{M0:Mem}{B:Bas}{w0:World}{κ:Kap}{M:Mem}{σ:St}{a:Act}{w:World}
theorem aM{t:TypeId}{n:Nat}(h:dM P t=some n)(w:World):(sizeOf t).run P w=.ok n w:=by
 unfold dM at h;obtain⟨i,hi,rfl⟩:=zAb.1 h;simp[sizeOf,typeInfo,hi]
theorem fj{t:TypeId}{g:Bool}(h:r7 P t=some g)(w:World):(isAgg t).run P w=.ok g w:=by
 unfold r7 at h;obtain⟨d,hd,rfl⟩:=zAb.1 h;unfold isAgg;rw[Sem.run_bind,run_underlying hd w,Result.andThen_ok];cases d<;>rfl
theorem HQ{t:TypeId}{cs:Array Value}{off n:Nat}{g:Bool}(hs:dM P t=some n)(hg:r7 P t=some g)(h1:g=false->n=1){X:V->Value->Prop}{vs us:List V}{v:V}
 (hr:ae M X vs cs.toList) (hc:∀u∈cs.toList,am u) (hcut:cut vs off n=some us) (hm:mkc g us=some v) (w:World):∃c,(part t cs off).run P w=.ok c w/\rep M X v c:=by
 obtain⟨k1,k2,k3,k4⟩:=m3 hcut hr hc;have hk:=qu hm k2 k3;rcases hk with⟨rfl,hk⟩|⟨rfl,c,hk1,hk2⟩
 ·refine⟨_,?_,hk⟩
  simp only[part,Sem.run_bind,fj hg,aM hs,Result.andThen_ok,if_true,Sem.run_pure];congr 2;apply zDf;simp[List.take_drop]
 ·have hn:=h1 rfl
  subst hn;refine⟨c,?_,hk2⟩
  have:cs[off]?=some c:=by
   have:((cs.toList.drop off).take 1)[0]?=some c:=by rw[hk1];rfl
   simpa[zAe,zAg]using this
  simp only[part,Sem.run_bind,fj hg,Result.andThen_ok,zAh,if_false,this,Sem.run_pure]
theorem Rel.opo(H:Rel N M0 B w0 κ M σ a w){t:TypeId}{o:Option Operand}{x:Option AO}(hc:cOo P t o=some x){d v:V}(hv:σ.evo d x=some v){c:Value}(hd:rep M (XX κ σ.h) d c):
 rep M (XX κ σ.h) v ((o.map a.eval).getD c):=by
 cases o with
 |none=>simp only[cOo,zA]at hc;subst hc;simp only[St.evo,zA]at hv;subst hv;exact hd
 |some o=>
   simp only[cOo]at hc;obtain⟨y,hy,rfl⟩:=zAb.1 hc;exact H.op hy hv
theorem ut(off:Nat):∀(l:List Value)(k:Nat)(ds:Array Value),off+k+l.length<=ds.size->
 ((l.zipIdx k).foldl (fun cs (x:Value×Nat)=>cs.setIfInBounds (off+x.2) x.1) ds).toList=ds.toList.take (off+k)++l++ds.toList.drop (off+k+l.length)
 |[],k,ds,h=>by simp
 |v::l,k,ds,h=>by
   simp only[zCj]at h;simp only[List.zipIdx_cons,List.foldl_cons];rw[ut off l (k+1) _ (by simp;omega)]
   simp only[Array.toList_setIfInBounds]
   have e1:(ds.toList.set (off+k) v).take (off+(k+1))=ds.toList.take (off+k)++[v]:=by
    rw[<-zBh,List.take_add_one,List.take_set_of_le (by omega)]
    simp[zBd];omega
   have e2:(ds.toList.set (off+k) v).drop (off+(k+1)+l.length)=ds.toList.drop (off+k+(v::l).length):=by
    rw[List.drop_set_of_lt (by omega)]
    congr 1;simp;omega
   rw[e1,e2];simp
theorem ry(off:Nat)(l ds:Array Value)(h:off+l.size<=ds.size):
 l.zipIdx.foldl (fun cs (x:Value×Nat)=>cs.setIfInBounds (off+x.2) x.1) ds=(ds.toList.take off++l.toList++ds.toList.drop (off+l.toList.length)).toArray:=by
 rw[<-Array.foldl_toList,Array.toList_zipIdx];apply zDf;have:=ut off l.toList 0 ds (by simpa using h)
 simpa using this
theorem eA{v:V}(h:nt v=true):∀vs,v≠.tup vs:=by rintro vs rfl;simp[nt]at h
theorem sP{t:TypeId}{place:Nat->Option (Nat×Nat)}(hpl:∀i off n ft,yf P t i=some (off,n,ft)->place i=some (off,n))(H:Rel N M0 B w0 κ M σ a w):
 ∀{parts:List (Nat×Operand)}{ps:List (Nat×Nat×AO)},wb P t parts=some ps->∀{cs us:List V}{ds:Array Value},bldV σ cs ps=some us->ae M (XX κ σ.h) cs ds.toList->(∀u∈ds.toList,am u)->
 ∃es:Array Value,Instr.fill place ds (parts.map fun x=>(x.1,a.eval x.2))=some es/\ae M (XX κ σ.h) us es.toList/\∀u∈es.toList,am u
 |[],ps,h,cs,us,ds,hb,hr,hc=>by
   simp only[wb,zA]at h;subst h;simp only[bldV,zA]at hb;subst hb;exact⟨ds,rfl,hr,hc⟩
 |(i,x)::parts,ps,h,cs,us,ds,hb,hr,hc=>by
   simp only[wb]at h;split at h
   ·rename_i off n ft hp
    split at h
    ·rename_i y qs hy hqs
     cases h;simp only[bldV]at hb;split at hb
     ·rename_i v hv
      split at hb
      ·rename_i hn
       split at hb
       ·rename_i cs' hcs'
        have hrv:=H.op hy hv;have hk:=aX hrv gU (eA hn.2);have hsp:=jJ hcs' hr hk.1
        have hlen:(a.eval x).cells.size=n:=by
         have:=aC hk.1;simp at this;omega
        have hle:off+(a.eval x).cells.size<=ds.size:=by simpa using hsp.1
        obtain⟨es,h1,h2,h3⟩:=sP hpl H hqs hb (ds:=(ds.toList.take off++(a.eval x).cells.toList++ds.toList.drop (off+(a.eval x).cells.toList.length)).toArray) (by simpa using hsp.2) (by
         intro u hu;simp only[zBb]at hu;rcases hu with(hu|hu)|hu
         ·exact hc u (zDe hu)
         ·exact hk.2 u hu
         ·exact hc u (zDd hu))
        refine⟨es,?_,h2,h3⟩;simp only[zCc,Instr.fill,hpl i off n ft hp]
        have hno:¬((a.eval x).cells.size≠n||off+(a.eval x).cells.size>ds.size)=true:=by
         simp;omega
        rw[if_neg hno];have:=ry off (a.eval x).cells ds hle;rw[<-this]at h1;exact h1
       ·cases hb
      ·cases hb
     ·cases hb
    ·cases h
   ·cases h
theorem dJ(H:Rel N M0 B w0 κ M σ a w){v:V}{c:Value}(hv:rep M (XX κ σ.h) v c)(hl:σ.live v=true){k:Nat}{u:V}(hf:St.fwd k v=some u):
 ∃b o,c=.pointer (some ⟨b,o,none⟩)/\rep M (XX κ σ.h) u (.pointer (some ⟨b,o+k,none⟩)):=by
 cases v<;>simp only[St.fwd]at hf<;>try (cases hf;done)
 case ptr id off=>
  cases hf;simp only[St.live]at hl;obtain⟨cs,hcs⟩:=Option.isSome_iff_exists.1 hl;have hb:=gS hcs;simp only[rep,XX]at hv⊢;obtain⟨b,g1,g2⟩:=hv.2.2 cs hb;refine⟨b,off,g2,rfl,hv.2.1,fun cs' _=>⟨b,g1,rfl⟩⟩
 case eptr id n i off=>
  cases hf;simp only[St.live]at hl;split at hl
  ·rename_i e sz l hal
   have ha:=dT hal;simp only at ha;simp at hl;simp only[rep,XX]at hv⊢;obtain⟨b,cap,g1,g2⟩:=(hv.2.2.1 e sz l ha).2 hl.1 hl.2;refine⟨b,i*sz+off,g2,rfl,hv.2.1,fun e' sz' l' hl'=>?_,fun e' e2' sz' rows' hl'=>?_⟩
   ·rw[ha]at hl'
    cases hl';exact⟨(hv.2.2.1 e sz l ha).1,fun hn hi=>⟨b,cap,g1,by rw[zBh]⟩⟩
   ·rw[ha]at hl';cases hl'
  ·cases hl
 case mptr id i n j off=>
  cases hf;simp only[St.live]at hl;split at hl
  ·rename_i e e2 sz rows hal
   have ha:=eY hal;simp only at ha;split at hl
   ·rename_i r hrow
    simp at hl;simp only[rep,XX]at hv⊢;obtain⟨b,cap,g1,g2⟩:=((hv.2.2 e e2 sz rows ha).1 r hrow).2 hl.1 hl.2;refine⟨b,j*sz+off,g2,rfl,hv.2.1,fun e' e2' sz' rows' hl'=>?_⟩;rw[ha]at hl';cases hl';refine⟨fun r' hr'=>?_,(hv.2.2 e e2 sz rows ha).2⟩;rw[hrow]at hr';cases hr';exact⟨((hv.2.2 e e2 sz rows ha).1 r hrow).1,fun hn hi=>⟨b,cap,g1,by rw[zBh]⟩⟩
   ·cases hl
  ·cases hl
 case q a j n i off=>
  simp only[St.live]at hl;split at hl
  ·rename_i ms hms
   have hb:=bJ hms;simp only[rep,XX]at hv;have hq:=hv.2.2 ms hb;split at hl
   ·rename_i cs hj
    have ha:a=0:=of_decide_eq_true hl;subst ha;cases hf;simp only[qAt,hj]at hq;obtain⟨b,g1,g2⟩:=hq trivial;refine⟨b,off,g2,?_⟩;simp only[rep,XX];refine⟨rfl,hv.2.1,fun ms' h'=>?_⟩;rw[hb]at h';cases h';simp only[qAt,hj];exact fun _=>⟨b,g1,rfl⟩
   ·rename_i e sz l hj
    simp at hl;obtain⟨rfl,h1,h2⟩:=hl;simp at hf;subst hf;simp only[qAt,hj]at hq;obtain⟨b,cap,g1,g2⟩:=(hq.2 trivial).2 h1 h2;refine⟨b,i*sz+off,g2,?_⟩;simp only[rep,XX];refine⟨rfl,hv.2.1,fun ms' h'=>?_⟩;rw[hb]at h';cases h';simp only[qAt,hj];exact⟨fun h=>by simp at h,fun _=>⟨by omega,fun _ _=>⟨b,cap,g1,by rw[zBh]⟩⟩⟩
   ·rename_i e l hj
    simp at hl;obtain⟨rfl,h1,h2⟩:=hl;simp at hf;subst hf;simp only[qAt,hj]at hq;obtain⟨b,cap,g1,g2⟩:=(hq.2 trivial).2 h1 h2;refine⟨b,i+off,g2,?_⟩;simp only[rep,XX];refine⟨rfl,hv.2.1,fun ms' h'=>?_⟩;rw[hb]at h';cases h';simp only[qAt,hj];exact⟨fun h=>by simp at h,fun _=>⟨by omega,fun _ _=>⟨b,cap,g1,by rw[zBh]⟩⟩⟩
   ·cases hl
  ·cases hl
 case sptr y off=>
  cases hf;simp only[rep]at hv⊢;obtain⟨b,o,z,rfl,h2,h3,h4⟩:=hv;exact⟨b,o+off,rfl,b,o,z,by rw[zBh],h2,h3,h4⟩
theorem IJ(H:Rel N M0 B w0 κ M σ a w){v:V}{c:Value}(hv:rep M (XX κ σ.h) v c)(hl:σ.live v=true):(∃p,c=.pointer (some p))\/∃f x y,c=.func (.func f) x y:=by
 cases v<;>simp only[St.live]at hl<;>try (cases hl;done)
 case ptr id off=>obtain⟨b,o,h,_⟩:=dJ H hv (by simpa only[St.live]using hl) (k:=0) rfl;exact .inl ⟨_,h⟩
 case eptr id n i off=>obtain⟨b,o,h,_⟩:=dJ H hv (by simpa only[St.live]using hl) (k:=0) rfl;exact .inl ⟨_,h⟩
 case mptr id i n j off=>obtain⟨b,o,h,_⟩:=dJ H hv (by simpa only[St.live]using hl) (k:=0) rfl;exact .inl ⟨_,h⟩
 case q a j n i off=>
  have h1:¬a=1:=fun e=>by
   subst e;split at hl
   ·split at hl<;>simp at hl
   ·cases hl
  obtain⟨b,o,h,_⟩:=dJ H hv (by simpa only[St.live]using hl) (k:=0) (u:=.q a j n i (off+0)) (by simp only[St.fwd,if_neg h1]);exact .inl ⟨_,h⟩
 case sptr y off=>obtain⟨b,o,h,_⟩:=dJ H hv rfl (k:=0) rfl;exact .inl ⟨_,h⟩
 case fn f x y=>
  cases f with
  |func f=>simp only[rep]at hv;obtain⟨a1,a2,h,_⟩:=hv;exact .inr ⟨f,a1,a2,h⟩
  |_=>cases hl
theorem wE{sz:Nat}:∀{l:List V}{b off:Nat}(n:Nat),bB M sz l b off->bB M sz (l.drop n) b (off+n*sz)
 |l,b,off,0,h=>by simpa using h
 |[],b,off,n+1,h=>by simp[bB]
 |v::vs,b,off,n+1,h=>by
   simp only[bB]at h;have:=wE n h.2;simp only[List.drop_succ_cons];rw[show off+(n+1)*sz=off+sz+n*sz by simp[zAj];omega]
   exact this
theorem wD{sz:Nat}:∀{l:List V}{b off:Nat}(n:Nat),bB M sz l b off->bB M sz (l.take n) b off
 |l,b,off,0,h=>by simp[bB]
 |[],b,off,n+1,h=>by simp[bB]
 |v::vs,b,off,n+1,h=>by
   simp only[bB]at h;simp only[zCe,bB];exact⟨h.1,wD n h.2⟩
theorem qo{k:IntKind}{n:Int}{y:Nat}{code:BoundsCode}(h:0<=n/\n<=y)(w:World):(Instr.sliceBound (.int k n) y code).run P w=.ok n.toNat w:=by
 simp[Instr.sliceBound,asIntOf,h]
theorem mz{s:Bool}{len cap p q:Nat}{lo hi:Option Value}(h1:(hi=none/\q=len)\/∃k n,hi=some (.int k n)/\0<=n/\n<=cap/\q=n.toNat)
 (h2:(lo=none/\p=0)\/∃k n,lo=some (.int k n)/\0<=n/\n<=q/\p=n.toNat) (w:World):(Instr.sliceBounds s len cap lo hi none).run P w=.ok (p,q,cap) w:=by
 rcases h1 with⟨rfl,rfl⟩|⟨k,n,rfl,h3,h4,rfl⟩<;>rcases h2 with⟨rfl,rfl⟩|⟨k',n',rfl,h5,h6,rfl⟩
 ·simp[Instr.sliceBounds]
 ·simp[Instr.sliceBounds,qo (P:=P) (k:=k') ⟨h5,h6⟩]
 ·simp[Instr.sliceBounds,qo (P:=P) (k:=k) ⟨h3,h4⟩]
 ·simp[Instr.sliceBounds,qo (P:=P) (k:=k) ⟨h3,h4⟩,qo (P:=P) (k:=k') ⟨h5,h6⟩]
theorem OZ(H:Rel N M0 B w0 κ M σ a w){v:V}{c:Value}{b:Bool}(hv:rep M (XX κ σ.h) v c)(h:St.isNil 0 (σ.live v) v=some b):(b=true/\c=.pointer none)\/(b=false/\∃p,c=.pointer (some p)):=by
 cases v<;>simp[St.isNil]at h
 case nilptr=>subst h;exact .inl ⟨rfl,by simpa only[rep]using hv⟩
 case sptr=>subst h;simp only[rep]at hv;obtain⟨b,o,y,rfl,_⟩:=hv;exact .inr ⟨rfl,_,rfl⟩
 case ptr=>obtain⟨h1,rfl⟩:=h;obtain⟨b,o,e,_⟩:=dJ H hv h1 (k:=0) rfl;exact .inr ⟨rfl,_,e⟩
 case eptr=>obtain⟨h1,rfl⟩:=h;obtain⟨b,o,e,_⟩:=dJ H hv h1 (k:=0) rfl;exact .inr ⟨rfl,_,e⟩
 case mptr=>obtain⟨h1,rfl⟩:=h;obtain⟨b,o,e,_⟩:=dJ H hv h1 (k:=0) rfl;exact .inr ⟨rfl,_,e⟩
 case q a j n i off=>
  obtain⟨h1,rfl⟩:=h;rcases IJ H hv h1 with⟨p,e⟩|⟨f,x,y,e⟩
  ·exact .inr ⟨rfl,_,e⟩
  ·subst e
   simp only[rep,XX]at hv;have:=hv.1;simp only[St.live]at h1;split at h1
   ·rename_i ms hms
    have hq:=hv.2.2 ms (bJ hms);split at h1
    ·rename_i cs hj
     simp only[qAt,hj]at hq;obtain⟨b,_,g⟩:=hq (of_decide_eq_true h1);cases g
    ·rename_i e sz l hj
     simp at h1;simp only[qAt,hj]at hq;obtain⟨b,cap,_,g⟩:=(hq.2 h1.1).2 h1.2.1 h1.2.2;cases g
    ·rename_i e l hj
     simp at h1;simp only[qAt,hj]at hq;obtain⟨b,cap,_,g⟩:=(hq.2 h1.1).2 h1.2.1 h1.2.2;cases g
    ·cases h1
   ·cases h1
theorem IL{X:V->Value->Prop}{v:V}{c:Value}{b lv:Bool}(hv:rep M X v c)(h:St.isNil 1 lv v=some b):(b=true/\c=.nilIface)\/(b=false/\∃t y,c=.iface t y):=by
 cases v<;>simp[St.isNil]at h
 case niliface=>subst h;exact .inl ⟨rfl,by simpa only[rep]using hv⟩
 case iface=>subst h;simp only[rep]at hv;obtain⟨y,rfl,_⟩:=hv;exact .inr ⟨rfl,_,_,rfl⟩
theorem RU{X:V->Value->Prop}{v:V}{c:Value}{b lv:Bool}(hv:rep M X v c)(h:St.isNil 2 lv v=some b):(b=true/\c=.nilFunc)\/(b=false/\∃f x y,c=.func f x y):=by
 cases v<;>simp[St.isNil]at h
 case nilfn=>subst h;exact .inl ⟨rfl,by simpa only[rep]using hv⟩
 case fn=>subst h;simp only[rep]at hv;obtain⟨a1,a2,rfl,_⟩:=hv;exact .inr ⟨rfl,_,_,_,rfl⟩
theorem RT(H:Rel N M0 B w0 κ M σ a w){v:V}{c:Value}{b:Bool}(hv:rep M (XX κ σ.h) v c)(h:σ.isNilM v=some b):(b=true/\c=.map none)\/(b=false/\∃r,c=.map (some r)):=by
 cases v<;>simp[St.isNilM]at h
 case nilmp=>subst h;exact .inl ⟨rfl,by simpa only[rep]using hv⟩
 case ref id n=>
  obtain⟨h1,rfl⟩:=h;cases hm:σ.mp? id with
  |none=>simp[hm]at h1
  |some q=>
    obtain⟨kt,l⟩:=q;have hmp:=vD hm;simp only[rep,XX]at hv;have ex:=hv.2.2.2.2 _ hmp rfl;obtain⟨b,es,clock,e1,_⟩:=H.heap id _ hmp;rw[e1]at ex;exact .inr ⟨rfl,b,ex⟩
theorem YS{t:TypeId}{c d:Value}(h:(∃p,c=.pointer p)\/c=.nilIface\/(∃u y,c=.iface u y)\/c=.nilFunc\/(∃f x y,c=.func f x y)\/∃r,c=.map r)(h':d=.pointer none\/d=.nilIface\/d=.nilFunc\/d=.map none):
 binOp .eql t c d=(do pure (.bool (<-Op.equal t c d)))/\binOp .neq t c d=(do pure (.bool (!(<-Op.equal t c d)))):=by
 rcases h with⟨p,rfl⟩|rfl|⟨u,y,rfl⟩|rfl|⟨f,x,y,rfl⟩|⟨r,rfl⟩<;>rcases h' with rfl|rfl|rfl|rfl<;>exact⟨by simp only[binOp],by simp only[binOp]⟩
theorem Bj{t:TypeId}{c d:Value}{b:Bool}(h:(Op.equalIn (9999+1) t c d).run P w=.ok b w):(Op.equal t c d).run P w=.ok b w:=h
theorem Q6{t:TypeId}{c d:Value}{k:Nat}{b:Bool}(hk:E7 P t d=some k)(h:(k=0/\((b=true/\c=.pointer none)\/(b=false/\∃p,c=.pointer (some p))))\/(k=1/\((b=true/\c=.nilIface)\/(b=false/\∃t y,c=.iface t y)))\/(k=2/\((b=true/\c=.nilFunc)\/(b=false/\∃f x y,c=.func f x y)))\/(k=3/\((b=true/\c=.map none)\/(b=false/\∃r,c=.map (some r))))):
 (Op.equal t c d).run P w=.ok b w:=by
 apply Bj;unfold E7 at hk;split at hk
 all_goals (try cases hk)
 all_goals
  rename_i hu;unfold Op.equalIn;rw[Sem.run_bind,run_underlying hu,Result.andThen_ok];rcases h with⟨hk,h⟩|⟨hk,h⟩|⟨hk,h⟩|⟨hk,h⟩<;>first|(cases hk;done)|skip
 ·rcases h with⟨rfl,rfl⟩|⟨rfl,p,rfl⟩<;>rfl
 ·rcases h with⟨rfl,rfl⟩|⟨rfl,p,y,rfl⟩<;>rfl
 ·rcases h with⟨rfl,rfl⟩|⟨rfl,p,x,y,rfl⟩<;>rfl
 ·rcases h with⟨rfl,rfl⟩|⟨rfl,p,rfl⟩<;>rfl
theorem tC{op:BinOp}{t:TypeId}{x:Operand}{c d:Value}(h':d=.pointer none\/d=.nilIface\/d=.nilFunc\/d=.map none)(ho:op=.eql\/op=.neq):(eqGuard op t x (.const d) c d).run P w=.ok () w:=by
 rcases h' with rfl|rfl|rfl|rfl<;>rcases ho with rfl|rfl<;>cases c<;>first|rfl|(cases x<;>rfl)
theorem UP(H:Rel N M0 B w0 κ M σ a w){t:TypeId}{x:Operand}{v:V}{c d:Value}{k:Nat}{b neg:Bool}{op:BinOp}(hk:E7 P t d=some k)(ho:(op=.eql/\neg=false)\/(op=.neq/\neg=true))(hv:rep M (XX κ σ.h) v c)(h:(if k=3 then σ.isNilM v else St.isNil k (σ.live v) v)=some b):
 ((do eqGuard op t x (.const d) c d;binOp op t c d:Sem Value)).run P w=.ok (.bool (xor neg b)) w:=by
 have hd:d=.pointer none\/d=.nilIface\/d=.nilFunc\/d=.map none:=by
  unfold E7 at hk;split at hk
  ·exact .inl rfl
  ·exact .inr (.inl rfl)
  ·exact .inr (.inr (.inl rfl))
  ·exact .inr (.inr (.inr rfl))
  ·cases hk
 have hc:(k=0/\((b=true/\c=.pointer none)\/(b=false/\∃p,c=.pointer (some p))))\/(k=1/\((b=true/\c=.nilIface)\/(b=false/\∃t y,c=.iface t y)))\/(k=2/\((b=true/\c=.nilFunc)\/(b=false/\∃f x y,c=.func f x y)))\/(k=3/\((b=true/\c=.map none)\/(b=false/\∃r,c=.map (some r)))):=by
  unfold E7 at hk;split at hk<;>cases hk
  ·exact .inl ⟨rfl,OZ H hv h⟩
  ·exact .inr (.inl ⟨rfl,IL hv h⟩)
  ·exact .inr (.inr (.inl ⟨rfl,RU hv h⟩))
  ·exact .inr (.inr (.inr ⟨rfl,RT H hv h⟩))
 have k1:=Q6 (w:=w) hk hc
 have hf:(∃p,c=.pointer p)\/c=.nilIface\/(∃u y,c=.iface u y)\/c=.nilFunc\/(∃f x y,c=.func f x y)\/∃r,c=.map r:=by
  rcases hc with⟨_,⟨_,h⟩|⟨_,p,h⟩⟩|⟨_,⟨_,h⟩|⟨_,p,y,h⟩⟩|⟨_,⟨_,h⟩|⟨_,p,x,y,h⟩⟩|⟨_,⟨_,h⟩|⟨_,p,h⟩⟩
  ·exact .inl ⟨_,h⟩
  ·exact .inl ⟨_,h⟩
  ·exact .inr (.inl h)
  ·exact .inr (.inr (.inl ⟨_,_,h⟩))
  ·exact .inr (.inr (.inr (.inl h)))
  ·exact .inr (.inr (.inr (.inr (.inl ⟨_,_,_,h⟩))))
  ·exact .inr (.inr (.inr (.inr (.inr ⟨_,h⟩))))
  ·exact .inr (.inr (.inr (.inr (.inr ⟨_,h⟩))))
 obtain⟨e1,e2⟩:=YS (t:=t) hf hd;rcases ho with⟨rfl,rfl⟩|⟨rfl,rfl⟩
 ·rw[Sem.run_bind,tC hd (.inl rfl),Result.andThen_ok,e1,Sem.run_bind,k1,Result.andThen_ok]
  cases b<;>rfl
 ·rw[Sem.run_bind,tC hd (.inr rfl),Result.andThen_ok,e2,Sem.run_bind,k1,Result.andThen_ok]
  cases b<;>rfl
theorem Jv(H:Rel N M0 B w0 κ M σ a w){sz:Nat}{l:List V}{c:Value}(h:rep M (XX κ σ.h) (.fseq sz l) c):rep M (XX κ σ.h) (.seq sz l) c:=by
 simp only[rep,XX]at h;have:=aw (fun p v hp=>H.sub.fmS p v hp) (X:=NX) (fun _ _ h=>h) (.seq sz l) c (by simp only[rep];exact h.2)
 simpa only[rep]using this
theorem NS (H:Rel N M0 B w0 κ M σ a w) {ty:TypeId} {op:Op} {act:Act'} (hl:LV P ty op act) {v:V} (hv:σ.val act=some v) (o:Oper) (ho:o.op=op) (hty:o.type=ty):
 ∃ c,(execOp a.eval o).run P w=.ok (.value c) w∧rep M (XX κ σ.h) v c:=by
 unfold execOp
 cases hl<;>simp only [St.val] at hv<;>rw [ho]<;>dsimp only
 case move x y hc=>exact ⟨_,rfl,H.op hc hv⟩
 case assign x y hc=>exact ⟨_,rfl,H.op hc hv⟩
 case pick c x y c' x' y' hc hx hy=>
  split at hv
  · rename_i t ht
    have h1:=gZ (H.op hc ht)
    cases t
    · simp at hv; exact ⟨_,by simp [h1,asBool],H.op hy hv⟩
    · simp at hv; exact ⟨_,by simp [h1,asBool],H.op hx hv⟩
  · cases hv
 case field t x i y fs f n g hx ht hf hs hg h1=>
  split at hv
  · rename_i cs hcs
    split at hv
    · rename_i us hus
      have hr:=H.op hx hcs
      simp only [rep] at hr
      obtain ⟨arr,e,k1,k2⟩:=hr
      obtain ⟨c,hrun,hc⟩:=HQ hs hg h1 k1 k2 hus hv w
      refine ⟨c,?_,hc⟩
      simp [Instr.field,run_underlying ht,hf,e,asAgg,hrun]
    · cases hv
  · cases hv
 case fieldAddr t x i y fs f n hx ht hf hs hn=>
  split at hv
  · rename_i u he
    split at hv
    · rename_i hlv
      obtain ⟨b,o',e,hr⟩:=dJ H (H.op hx he) hlv hv
      exact ⟨_,by simp [Instr.fieldAt,run_underlying ht,hf,e,Instr.sureAddr,fieldPlace,aM hs,hn,Addr.add_lit],hr⟩
    · cases hv
  · cases hv
 case indexAddr t x i y j e n hx hi ht hs=>
  split at hv
  · rename_i sz' l k m he hj
    obtain ⟨ei,_⟩:=aZ (H.op hi hj)
    split at hv
    · rename_i hc
      split at hv
      · rename_i u hu
        cases hv
        have hr:=H.op hx he
        simp only [rep] at hr
        obtain ⟨ad,cap,ex,_,hlen,hsz,hmem⟩:=hr
        have hlt:m.toNat < l.length:=(zAa.1 hu).1
        rcases hmem with rfl | ⟨b,off,rfl,hmem⟩
        · simp at hlt
        · obtain ⟨y',k1,k2,k3,k4⟩:=mC hmem hu
          have hm:0≤m∧m < l.length:=by omega
          refine ⟨.pointer (some ⟨b,off + m.toNat * n,none⟩),?_,?_⟩
          · simp [Instr.indexAt,ei,ex,asIntOf,run_underlying ht,hm,aM hs,Addr.add_lit]
          · simp only [rep]
            refine ⟨b,off + m.toNat * n,y',by simp,k1,k3,fun q hq=>?_⟩
            rw [k2] at hq
            rw [←k4 q hq,hc.1]
      · cases hv
    · cases hv
  · rename_i sz' l k m he hj
    obtain ⟨ei,_⟩:=aZ (H.op hi hj)
    split at hv
    · rename_i hc
      split at hv
      · rename_i u hu
        cases hv
        have hr:=Jv H (H.op hx he)
        simp only [rep] at hr
        obtain ⟨ad,cap,ex,_,hlen,hsz,hmem⟩:=hr
        have hlt:m.toNat < l.length:=(zAa.1 hu).1
        rcases hmem with rfl | ⟨b,off,rfl,hmem⟩
        · simp at hlt
        · obtain ⟨y',k1,k2,k3,k4⟩:=mC hmem hu
          have hm:0≤m∧m < l.length:=by omega
          refine ⟨.pointer (some ⟨b,off + m.toNat * n,none⟩),?_,?_⟩
          · simp [Instr.indexAt,ei,ex,asIntOf,run_underlying ht,hm,aM hs,Addr.add_lit]
          · simp only [rep]
            refine ⟨b,off + m.toNat * n,y',by simp,k1,k3,fun q hq=>?_⟩
            rw [k2] at hq
            rw [←k4 q hq,hc.1]
      · cases hv
    · cases hv
  · rename_i id m k q he hj
    obtain ⟨ei,_⟩:=aZ (H.op hi hj)
    split at hv
    · rename_i e' sz' l hal
      split at hv
      · rename_i hc
        cases hv
        have ha:=dT hal
        simp only at ha
        have hr:=H.op hx he
        simp only [rep,XX] at hr
        have hck:=(hr.2.2.1 _ _ _ ha).2 hc.2.1
        obtain ⟨hsz,hlen,xs,ho,hrow,_⟩:=H.heap id _ ha
        rcases ho.2 with ⟨hv0,h0⟩ | ⟨g,cap,cur,hv0,_⟩
        · omega
        · have hq:0≤q∧q < (l.length:Int):=by omega
          rw [hv0] at hck
          refine ⟨.pointer (some ⟨g,q.toNat * n,none⟩),?_,?_⟩
          · simp [Instr.indexAt,ei,hck,asIntOf,run_underlying ht,hq,aM hs,Addr.add_lit]
          · simp only [rep,XX]
            refine ⟨rfl,hr.2.1,fun e2 sz2 l2 h2=>?_,fun e1 e2 sz2 l2 h2=>?_⟩
            · rw [ha] at h2
              cases h2
              exact ⟨(hr.2.2.1 _ _ _ ha).1,fun hn2 hi2=>⟨g,cap,by rw [hv0,hn2],by rw [hc.1]; simp⟩⟩
            · rw [ha] at h2; cases h2
      · cases hv
    · split at hv
      · rename_i e1 e2 sz' rows hal
        split at hv
        · rename_i hc
          cases hv
          have ha:=eY hal
          simp only at ha
          have hr:=H.op hx he
          simp only [rep,XX] at hr
          have hck:=(hr.2.2.2.1 _ _ _ _ ha).2 hc.2.1
          obtain ⟨hsz,hlen,⟨xs,ho,_⟩,_⟩:=H.heap id _ ha
          rcases ho.2 with ⟨hv0,h0⟩ | ⟨g,cap,cur,hv0,_⟩
          · omega
          · have hq:0≤q∧q < (rows.length:Int):=by omega
            rw [hv0] at hck
            refine ⟨.pointer (some ⟨g,q.toNat * n,none⟩),?_,?_⟩
            · simp [Instr.indexAt,ei,hck,asIntOf,run_underlying ht,hq,aM hs,Addr.add_lit]
            · simp only [rep,XX]
              refine ⟨rfl,hr.2.1,fun e2 sz2 l2 h2=>?_,fun e1 e2 sz2 l2 h2=>?_⟩
              · rw [ha] at h2; cases h2
              · rw [ha] at h2
                cases h2
                exact ⟨(hr.2.2.2.1 _ _ _ _ ha).1,fun hn2 hi2=>⟨g,cap,by rw [hv0,hn2],by rw [hc.1]; simp⟩⟩
        · cases hv
      · cases hv
  · rename_i id i' m k q he hj
    obtain ⟨ei,_⟩:=aZ (H.op hi hj)
    split at hv
    · rename_i e1 e2 sz' rows hal
      split at hv
      · rename_i r hrow
        split at hv
        · rename_i hc
          cases hv
          have ha:=eY hal
          simp only at ha
          have hr:=H.op hx he
          simp only [rep,XX] at hr
          have hck:=((hr.2.2 _ _ _ _ ha).1 r hrow).2 hc.2.1
          obtain ⟨hsz,hlen,_,hrs,_⟩:=H.heap id _ ha
          obtain ⟨hrl,ys,ho,_⟩:=hrs i' r hrow
          rcases ho.2 with ⟨hv0,h0⟩ | ⟨g,cap,cur,hv0,_⟩
          · omega
          · have hq:0≤q∧q < (r.length:Int):=by omega
            rw [hv0] at hck
            refine ⟨.pointer (some ⟨g,q.toNat * n,none⟩),?_,?_⟩
            · simp [Instr.indexAt,ei,hck,asIntOf,run_underlying ht,hq,aM hs,Addr.add_lit]
            · simp only [rep,XX]
              refine ⟨rfl,hr.2.1,fun e1 e2 sz2 l2 h2=>?_⟩
              rw [ha] at h2
              cases h2
              refine ⟨fun r2 hr2=>?_,(hr.2.2 _ _ _ _ ha).2⟩
              rw [hrow] at hr2
              cases hr2
              exact ⟨((hr.2.2 _ _ _ _ ha).1 r hrow).1,fun hn2 hi2=>⟨g,cap,by rw [hv0,hn2],by rw [hc.1]; simp⟩⟩
        · cases hv
      · cases hv
    · cases hv
  · rename_i jj m i0 o0 k q he hj
    obtain ⟨ei,_⟩:=aZ (H.op hi hj)
    split at hv
    · rename_i ms hms
      have hb:=bJ hms
      split at hv
      · rename_i e1 sz' l hjj
        split at hv
        · rename_i hc
          cases hv
          have hr:=H.op hx he
          simp only [rep,XX] at hr
          have hqa:=hr.2.2 ms hb
          simp only [qAt,hjj] at hqa
          have hck:=(hqa.1 trivial).2 hc.2.1
          obtain ⟨hsz,hlen,xs,ho,_⟩:=(H.heap 0 _ hb).2.1 jj _ hjj
          rcases ho.2 with ⟨hv0,h0⟩ | ⟨g,cap,cur,hv0,_⟩
          · omega
          · have hq:0≤q∧q < (l.length:Int):=by omega
            rw [hv0] at hck
            refine ⟨.pointer (some ⟨g,q.toNat * n,none⟩),?_,?_⟩
            · simp [Instr.indexAt,ei,hck,asIntOf,run_underlying ht,hq,aM hs,Addr.add_lit]
            · simp only [rep,XX]
              refine ⟨rfl,hr.2.1,fun ms2 h2=>?_⟩
              rw [hb] at h2
              cases h2
              simp only [qAt,hjj]
              exact ⟨fun h=>by simp at h,fun _=>⟨by omega,fun hn2 hi2=>⟨g,cap,by rw [hv0,hn2],by rw [hc.1]; simp⟩⟩⟩
        · cases hv
      · rename_i e1 l hjj
        split at hv
        · rename_i hc
          cases hv
          have hr:=H.op hx he
          simp only [rep,XX] at hr
          have hqa:=hr.2.2 ms hb
          simp only [qAt,hjj] at hqa
          have hck:=(hqa.1 trivial).2 hc.2.1
          obtain ⟨hlen,hcase⟩:=(H.heap 0 _ hb).2.1 jj _ hjj
          rcases hcase with ⟨h0,_⟩ | ⟨_,g,cap,cur,T,fz,hv0,_⟩
          · subst h0; simp at hc; omega
          · have hq:0≤q∧q < (l.length:Int):=by omega
            rw [hv0] at hck
            refine ⟨.pointer (some ⟨g,q.toNat * n,none⟩),?_,?_⟩
            · simp [Instr.indexAt,ei,hck,asIntOf,run_underlying ht,hq,aM hs,Addr.add_lit]
            · simp only [rep,XX]
              refine ⟨rfl,hr.2.1,fun ms2 h2=>?_⟩
              rw [hb] at h2
              cases h2
              simp only [qAt,hjj]
              exact ⟨fun h=>by simp at h,fun _=>⟨by omega,fun hn2 hi2=>⟨g,cap,by rw [hv0,hn2],by rw [hc.1]; simp⟩⟩⟩
        · cases hv
      · cases hv
    · cases hv
  · cases hv
 case indexAddrA t x i y j e m n hx hi ht hs=>
  split at hv
  · rename_i u k q he hj
    obtain ⟨ei,_⟩:=aZ (H.op hi hj)
    split at hv
    · rename_i hc
      obtain ⟨b,o',e',hr⟩:=dJ H (H.op hx he) hc.1 hv
      exact ⟨_,by simp [Instr.indexAt,ei,e',asIntOf,run_underlying ht,hc.2,aM hs,Addr.add_lit,Instr.sureAddr],hr⟩
    · cases hv
  · cases hv
 case load t x y n g hx hs hg h1=>
  split at hv
  · rename_i p he
    split at hv
    · rename_i us hus
      obtain ⟨b,o',cs,e,k1,k2,k3,k4⟩:=pA H (H.op hx he) hus
      rcases qu hv k1 k2 with ⟨rfl,hk⟩ | ⟨rfl,c,hk1,hk2⟩
      · refine ⟨_,?_,hk⟩
        have:=run_loadCells_list (P:=P) w ⟨b,o',none⟩ cs k4
        rw [k3] at this
        simp [Instr.loadAt,e,Instr.sureAddr,loadVar,fj hg,aM hs,this]
      · refine ⟨c,?_,hk2⟩
        have:=k4 0 c (by simp [hk1])
        rw [Addr.add_lit] at this
        simp at this
        simp [Instr.loadAt,e,Instr.sureAddr,loadVar,fj hg,this]
    · cases hv
  · cases hv
 case indexS t x i y j hx hi ht=>
  split at hv
  · rename_i s k q he hj
    obtain ⟨ei,_⟩:=aZ (H.op hi hj)
    obtain ⟨bs,ex,hs,hl⟩:=jp (H.op hx he)
    split at hv
    · rename_i hc
      split at hv
      · rename_i b hb
        cases hv
        subst hs
        have hlt:q.toNat < bs.size:=by rw [fI]; exact (zAa.1 hb).1
        have hbq:bs[q.toNat]?=some b:=by
         rw [ByteArray.getElem?_lt' bs _ hlt]
         congr 1
         have:=(zAa.1 hb).2
         rw [←this]
         rfl
        refine ⟨.int .u8 b.toNat,by simp [Instr.index,ei,ex,asIntOf,run_underlying ht,hc,hbq],?_⟩
        simp only [rep]
        have:=b.toNat_lt
        exact ⟨trivial,by simp [IntKind.min,IntKind.signed],by simp [IntKind.max,IntKind.signed,IntKind.bits]; omega⟩
      · cases hv
    · cases hv
  · cases hv
 case indexA t x i y j m e n g hx hi ht hs hg h1=>
  split at hv
  · rename_i cs k q he hj
    obtain ⟨ei,_⟩:=aZ (H.op hi hj)
    split at hv
    · rename_i hc
      split at hv
      · rename_i us hus
        have hr:=H.op hx he
        simp only [rep] at hr
        obtain ⟨arr,ex,k1,k2⟩:=hr
        obtain ⟨c,hrun,hcr⟩:=HQ hs hg h1 k1 k2 hus hv w
        exact ⟨c,by simp [Instr.index,ei,ex,asIntOf,run_underlying ht,hc,aM hs,hrun],hcr⟩
      · cases hv
    · cases hv
  · cases hv
 case bin op xt x y yt u v' hx hy=>
  split at hv
  · rename_i c d hc hd
    obtain ⟨e,h1,h2⟩:=Kz (P:=P) (w:=w) hv (H.op hx hc) (H.op hy hd) xt x y
    refine ⟨e,?_,h2⟩
    simp only [Sem.run_bind] at h1 ⊢
    rw [h1]; rfl
  · cases hv
 case beq xt x y yt u v' hu hx hy=>
  split at hv
  · rename_i c d hc hd
    have h1:=gZ (H.op hx hc)
    have h2:=gZ (H.op hy hd)
    simp at hv
    subst hv
    refine ⟨.bool (c == d),?_,rfl⟩
    simp only [h1,h2,Sem.run_bind,qm .eql xt x y (.bool c) (.bool d) (by simp) (by simp),Result.andThen_ok,run_eql_bool w xt c d hu]
    rfl
  · cases hv
 case bne xt x y yt u v' hu hx hy=>
  split at hv
  · rename_i c d hc hd
    have h1:=gZ (H.op hx hc)
    have h2:=gZ (H.op hy hd)
    simp at hv
    subst hv
    refine ⟨.bool (!(c == d)),?_,rfl⟩
    simp only [h1,h2,Sem.run_bind,qm .neq xt x y (.bool c) (.bool d) (by simp) (by simp),Result.andThen_ok,run_neq_bool w xt c d hu]
    rfl
  · cases hv
 case un op t x u hx=>
  split at hv
  · rename_i c hc
    have hr:=H.op hx hc
    cases c<;>simp only [vun] at hv<;>try (cases hv; done)
    case int k n=>
     obtain ⟨e,_⟩:=aZ hr
     cases op<;>simp only at hv<;>try (cases hv; done)
     cases hv
     exact ⟨_,by simp [Op.unary,e,Op.intArith],d8 _ _⟩
    case bool b=>
     have e:=gZ hr
     cases op<;>simp only at hv<;>try (cases hv; done)
     cases hv
     exact ⟨_,by simp [Op.unary,e],eF _⟩
  · cases hv
 case r2s s d x u k hx hs hd=>
  split at hv
  · rename_i k' n hc
    obtain ⟨e,_⟩:=aZ (H.op hx hc)
    unfold Uo at hv
    split at hv
    · rename_i hn
      cases hv
      refine ⟨.string (Utf8.encode n),by simp [convert,run_underlying hd,run_underlying hs,e,Conv.intToString],?_⟩
      simp only [rep]
      refine ⟨_,rfl,?_,by simp⟩
      have h1:n.toNat < 128:=by omega
      have h2:Utf8.valid n=true:=by simp [Utf8.valid]; omega
      simp [Utf8.encode,h1,h2]
    · cases hv
  · cases hv
 case cii s d x u k ds hx hd hs=>
  split at hv
  · rename_i k' n hc
    obtain ⟨e,_⟩:=aZ (H.op hx hc)
    cases hv
    exact ⟨_,by simp [convert,run_underlying hd,run_underlying hs,e,Conv.intToInt],d8 _ _⟩
  · cases hv
 case sls t x lo hi u lo' hi' hx hlo hhi ht=>
  split at hv
  · rename_i s he
    obtain ⟨bs,ex,hs,hl⟩:=jp (H.op hx he)
    split at hv
    · rename_i k p k' q hp hq
      split at hv
      · rename_i hc
        cases hv
        subst hs
        have hsz:=fI bs
        obtain ⟨e1,_⟩:=aZ (H.opo hlo hp (c:=.int .i64 0) (by simp only [rep]; exact ⟨trivial,by decide,by decide⟩))
        obtain ⟨e2,_⟩:=aZ (H.opo hhi hq (c:=.int .i64 (bs.data.toList.length:Int)) (by
         simp only [rep]; refine ⟨trivial,?_,?_⟩
         · simp [IntKind.min,IntKind.signed,IntKind.bits]<;>omega
         · simp [IntKind.max,IntKind.signed,IntKind.bits]; simp at hl; omega))
        refine ⟨.string (bs.extract p.toNat q.toNat),?_,?_⟩
        · have b3:(Instr.sliceBounds false bs.size bs.size (lo.map a.eval) (hi.map a.eval) none).run P w=.ok (p.toNat,q.toNat,bs.size) w:=by
           refine mz ?_ ?_ w
           · cases hi with
             | none=>simp at e2 ⊢; rw [hsz]; simp; omega
             | some o'=>simp at e2; exact .inr ⟨k',q,by simp [e2],by omega,by omega,rfl⟩
           · cases lo with
             | none=>simp at e1 ⊢; omega
             | some o'=>simp at e1; exact .inr ⟨k,p,by simp [e1],by omega,by omega,rfl⟩
          simp [Instr.sliceAt,run_underlying ht,Instr.slice,ex,b3]
        · simp only [rep]
          refine ⟨_,rfl,?_,?_⟩
          · rw [ByteArray.data_extract,Array.toList_extract,List.extract_eq_take_drop]
          · simp only [zD,zE]; omega
      · cases hv
    · cases hv
  · cases hv
 case slq t x lo hi u lo' hi' e n hx hlo hhi ht hsz=>
  split at hv
  · rename_i sz' l he
    have hr:=H.op hx he
    simp only [rep] at hr
    obtain ⟨ad,cap,ex,hcap,hlen,hsz',hmem⟩:=hr
    split at hv
    · rename_i k p k' q hp hq
      split at hv
      · rename_i hc
        subst hc
        obtain ⟨us,hus,rfl⟩:=zAb.1 hv
        unfold vn at hus
        split at hus
        · rename_i hc
          cases hus
          obtain ⟨e1,_⟩:=aZ (H.opo hlo hp (c:=.int .i64 0) (by simp only [rep]; exact ⟨trivial,by decide,by decide⟩))
          obtain ⟨e2,_⟩:=aZ (H.opo hhi hq (c:=.int .i64 (l.length:Int)) (by
           simp only [rep]; refine ⟨trivial,?_,?_⟩
           · simp [IntKind.min,IntKind.signed,IntKind.bits]<;>omega
           · simp [IntKind.max,IntKind.signed,IntKind.bits]; omega))
          have b3:(Instr.sliceBounds true l.length cap (lo.map a.eval) (hi.map a.eval) none).run P w=.ok (p.toNat,q.toNat,cap) w:=by
           refine mz ?_ ?_ w
           · cases hi with
             | none=>simp at e2 ⊢; omega
             | some o'=>simp at e2; exact .inr ⟨k',q,by simp [e2],by omega,by omega,rfl⟩
           · cases lo with
             | none=>simp at e1 ⊢; omega
             | some o'=>simp at e1; exact .inr ⟨k,p,by simp [e1],by omega,by omega,rfl⟩
          refine ⟨.slice (if cap=p.toNat then ad else ad.map (·.add (p.toNat * n))) (q.toNat - p.toNat) (cap - p.toNat),?_,?_⟩
          · simp [Instr.sliceAt,run_underlying ht,Instr.slice,ex,b3,aM hsz]
          · have hl2:((l.drop p.toNat).take (q.toNat - p.toNat)).length=q.toNat - p.toNat:=by
             simp only [zD,zE]; omega
            simp only [rep]
            refine ⟨_,_,by rw [hl2],by rw [hl2]; omega,by rw [hl2]; omega,hsz',?_⟩
            by_cases h0:(l.drop p.toNat).take (q.toNat - p.toNat)=[]
            · exact .inl h0
            · have hpq:¬cap=p.toNat:=by
               intro hcp
               apply h0
               rw [←List.length_eq_zero_iff,hl2]; omega
              rcases hmem with rfl | ⟨b,off,rfl,hmem⟩
              · simp at h0
              · refine .inr ⟨b,off + p.toNat * n,by simp [hpq,Addr.add_lit],wD _ (wE _ hmem)⟩
        · cases hus
      · cases hv
    · cases hv
  · cases hv
 case lens t x u hx ht=>
  split at hv
  · rename_i s he
    obtain ⟨bs,ex,hs,hl⟩:=jp (H.op hx he)
    cases hv
    subst hs
    refine ⟨.int .i64 (bs.data.toList.length:Int),?_,?_⟩
    · rw [←fI]
      simp [resolve,invoke,builtin,Builtin.len_,ex,run_underlying ht,goInt]
    · simp only [rep]; refine ⟨trivial,?_,?_⟩
      · simp [IntKind.min,IntKind.signed,IntKind.bits]<;>omega
      · simp [IntKind.max,IntKind.signed,IntKind.bits]; simp at hl; omega
  · cases hv
 case lenq t x u e hx ht=>
  have hlenI:∀ n:Nat,n≤140737488355328→rep M (XX κ σ.h) (.int .i64 (n:Int)) (.int .i64 (n:Int)):=by
   intro n hn
   simp only [rep]; refine ⟨trivial,?_,?_⟩
   · simp [IntKind.min,IntKind.signed,IntKind.bits]<;>omega
   · simp [IntKind.max,IntKind.signed,IntKind.bits]; omega
  split at hv
  · rename_i sz' l he
    have hr:=H.op hx he
    simp only [rep] at hr
    obtain ⟨ad,cap,ex,_,hlen,_,hmem⟩:=hr
    cases hv
    exact ⟨_,by simp [resolve,invoke,builtin,Builtin.len_,ex,run_underlying ht,goInt],hlenI _ hlen⟩
  · rename_i sz' l he
    have hr:=Jv H (H.op hx he)
    simp only [rep] at hr
    obtain ⟨ad,cap,ex,_,hlen,_,hmem⟩:=hr
    cases hv
    exact ⟨_,by simp [resolve,invoke,builtin,Builtin.len_,ex,run_underlying ht,goInt],hlenI _ hlen⟩
  · rename_i sz' he
    have hr:=H.op hx he
    simp only [rep] at hr
    cases hv
    exact ⟨_,by simp [resolve,invoke,builtin,Builtin.len_,hr.1,run_underlying ht,goInt],hlenI 0 (by omega)⟩
  · rename_i id n he
    split at hv
    · rename_i e' sz' l hal
      split at hv
      · rename_i hn
        cases hv
        have ha:=dT hal
        simp only at ha
        have hr:=H.op hx he
        simp only [rep,XX] at hr
        have hck:=(hr.2.2.1 _ _ _ ha).2 hn
        obtain ⟨hsz,hlen,xs,ho,hrow,_⟩:=H.heap id _ ha
        subst hn
        rcases ho.2 with ⟨hv0,h0⟩ | ⟨g,cap,cur,hv0,_⟩
        · rw [hv0] at hck
          exact ⟨.int .i64 (l.length:Int),by simp [resolve,invoke,builtin,Builtin.len_,hck,run_underlying ht,goInt,h0],hlenI _ hlen⟩
        · rw [hv0] at hck
          exact ⟨.int .i64 (l.length:Int),by simp [resolve,invoke,builtin,Builtin.len_,hck,run_underlying ht,goInt],hlenI _ hlen⟩
      · cases hv
    · split at hv
      · rename_i e1 e2 sz' rows hal
        split at hv
        · rename_i hn
          cases hv
          have ha:=eY hal
          simp only at ha
          have hr:=H.op hx he
          simp only [rep,XX] at hr
          have hck:=(hr.2.2.2.1 _ _ _ _ ha).2 hn
          obtain ⟨hsz,hlen,⟨xs,ho,_⟩,_⟩:=H.heap id _ ha
          subst hn
          rcases ho.2 with ⟨hv0,h0⟩ | ⟨g,cap,cur,hv0,_⟩
          · rw [hv0] at hck
            exact ⟨.int .i64 (rows.length:Int),by simp [resolve,invoke,builtin,Builtin.len_,hck,run_underlying ht,goInt,h0],hlenI _ hlen⟩
          · rw [hv0] at hck
            exact ⟨.int .i64 (rows.length:Int),by simp [resolve,invoke,builtin,Builtin.len_,hck,run_underlying ht,goInt],hlenI _ hlen⟩
        · cases hv
      · cases hv
  · rename_i id i' n he
    split at hv
    · rename_i e1 e2 sz' rows hal
      split at hv
      · rename_i r hrow
        split at hv
        · rename_i hn
          cases hv
          have ha:=eY hal
          simp only at ha
          have hr:=H.op hx he
          simp only [rep,XX] at hr
          have hck:=((hr.2.2 _ _ _ _ ha).1 r hrow).2 hn
          obtain ⟨hsz,hlen,_,hrs,_⟩:=H.heap id _ ha
          obtain ⟨hrl,ys,ho,_⟩:=hrs i' r hrow
          subst hn
          rcases ho.2 with ⟨hv0,h0⟩ | ⟨g,cap,cur,hv0,_⟩
          · rw [hv0] at hck
            exact ⟨.int .i64 (r.length:Int),by simp [resolve,invoke,builtin,Builtin.len_,hck,run_underlying ht,goInt,h0],hlenI _ hrl⟩
          · rw [hv0] at hck
            exact ⟨.int .i64 (r.length:Int),by simp [resolve,invoke,builtin,Builtin.len_,hck,run_underlying ht,goInt],hlenI _ hrl⟩
        · cases hv
      · cases hv
    · cases hv
  · rename_i jj n i0 o0 he
    split at hv
    · rename_i ms hms
      have hb:=bJ hms
      split at hv
      · rename_i e1 sz' l hjj
        split at hv
        · rename_i hn
          cases hv
          have hr:=H.op hx he
          simp only [rep,XX] at hr
          have hqa:=hr.2.2 ms hb
          simp only [qAt,hjj] at hqa
          have hck:=(hqa.1 trivial).2 hn
          obtain ⟨hsz,hrl,xs,ho,_⟩:=(H.heap 0 _ hb).2.1 jj _ hjj
          subst hn
          rcases ho.2 with ⟨hv0,h0⟩ | ⟨g,cap,cur,hv0,_⟩
          · rw [hv0] at hck
            exact ⟨.int .i64 (l.length:Int),by simp [resolve,invoke,builtin,Builtin.len_,hck,run_underlying ht,goInt,h0],hlenI _ hrl⟩
          · rw [hv0] at hck
            exact ⟨.int .i64 (l.length:Int),by simp [resolve,invoke,builtin,Builtin.len_,hck,run_underlying ht,goInt],hlenI _ hrl⟩
        · cases hv
      · rename_i e1 l hjj
        split at hv
        · rename_i hn
          cases hv
          have hr:=H.op hx he
          simp only [rep,XX] at hr
          have hqa:=hr.2.2 ms hb
          simp only [qAt,hjj] at hqa
          have hck:=(hqa.1 trivial).2 hn
          obtain ⟨hrl,hcase⟩:=(H.heap 0 _ hb).2.1 jj _ hjj
          subst hn
          rcases hcase with ⟨h0,hv0⟩ | ⟨_,g,cap,cur,T,fz,hv0,_⟩
          · rw [hv0] at hck
            exact ⟨.int .i64 (l.length:Int),by simp [resolve,invoke,builtin,Builtin.len_,hck,run_underlying ht,goInt,h0],hlenI _ hrl⟩
          · rw [hv0] at hck
            exact ⟨.int .i64 (l.length:Int),by simp [resolve,invoke,builtin,Builtin.len_,hck,run_underlying ht,goInt],hlenI _ hrl⟩
        · cases hv
      · cases hv
    · cases hv
  · cases hv
 case mmx x y t t' u v' hx hy=>
  split at hv
  · rename_i k p k' q he hf
    split at hv
    · rename_i hk
      subst hk
      cases hv
      obtain ⟨e1,h1⟩:=aZ (H.op hx he)
      obtain ⟨e2,h2⟩:=aZ (H.op hy hf)
      refine ⟨.int k (if q > p then q else p),by simp [resolve,invoke,builtin,Builtin.max_,Builtin.max2,e1,e2],?_⟩
      simp only [rep,if_true]
      refine ⟨trivial,?_⟩
      split<;>assumption
    · cases hv
  · cases hv
 case mmn x y t t' u v' hx hy=>
  split at hv
  · rename_i k p k' q he hf
    split at hv
    · rename_i hk
      subst hk
      cases hv
      obtain ⟨e1,h1⟩:=aZ (H.op hx he)
      obtain ⟨e2,h2⟩:=aZ (H.op hy hf)
      refine ⟨.int k (if q < p then q else p),by simp [resolve,invoke,builtin,Builtin.min_,Builtin.min2,e1,e2],?_⟩
      simp only [rep,zAh,if_false]
      refine ⟨trivial,?_⟩
      split<;>assumption
    · cases hv
  · cases hv
 case nlq t x yt u neg op k c hk ho' hx=>
  split at hv
  · rename_i v' he
    split at hv
    · rename_i b hb
      cases hv
      have:=UP (P:=P) H (x:=x) hk ho' (H.op hx he) hb
      refine ⟨.bool (xor neg b),?_,by simp [rep]⟩
      simp only [Act.eval,Sem.run_bind,Sem.run_pure] at this ⊢
      rw [this]
      rfl
    · cases hv
  · cases hv
 case ext x i u hx=>
  split at hv
  · rename_i vs he
    have hr:=H.op hx he
    simp only [rep] at hr
    obtain ⟨arr,ex,k1⟩:=hr
    obtain ⟨c,k2,k3⟩:=cd k1 hv
    exact ⟨c,by simp at k2; simp [Instr.extract,ex,k2],k3⟩
  · cases hv
 case bld t parts z zc zs ps i z' hbt hi hz hzc hzs hps=>
  obtain ⟨us,hus,rfl⟩:=zAb.1 hv
  have hz0:=GY hzs (M:=M) (X:=XX κ σ.h)
  have hb:∃ es:Array Value,P.built t (parts.toList.map fun x=>(x.1,a.eval x.2))=some es∧ae M (XX κ σ.h) us es.toList∧∀ u∈es.toList,am u:=by
   unfold Program.built at hbt ⊢
   rw [hi] at hbt ⊢
   cases hu:P.underlying t with
   | none=>rw [hu] at hbt; simp at hbt
   | some d=>
     rw [hu] at hbt
     cases d<;>simp only at hbt<;>try (cases hbt; done)
     case struct fs=>
      rw [hz] at hbt
      simp only [hz]
      cases hpl:fs.toList.mapM (fun f=>(P.info? f.type).map fun i=>(f.offset,i.size)) with
      | none=>rw [hpl] at hbt; simp at hbt
      | some places=>
        refine sP (t:=t) (place:=(places.toArray[·]?)) ?_ H hps hus hz0.1 hz0.2
        intro j off n ft hj
        unfold yf at hj
        rw [hu] at hj
        simp only at hj
        split at hj
        · rename_i f hf
          split at hj
          · rename_i n' hn'
            cases hj
            have h5:=mapM_some_get hpl j f (by simpa using hf)
            unfold dM at hn'
            obtain ⟨i',hi',rfl⟩:=zAb.1 hn'
            rw [hi'] at h5
            simpa using h5.symm
          · cases hj
        · cases hj
     case array m e=>
      rw [hz] at hbt
      simp only [hz]
      cases hie:P.info? e with
      | none=>rw [hie] at hbt; simp at hbt
      | some ie=>
        refine sP (t:=t) (place:=fun i=>some (i * ie.size,ie.size)) ?_ H hps hus hz0.1 hz0.2
        intro j off n ft hj
        unfold yf at hj
        rw [hu] at hj
        simp only [dM,hie,zEa] at hj
        split at hj
        · cases hj; rfl
        · cases hj
  obtain ⟨es,k1,k2,k3⟩:=hb
  refine ⟨.agg es,?_,by simp only [rep]; exact ⟨es,rfl,k2,k3⟩⟩
  have:=run_build (P:=P) w t (parts.map fun x=>(x.1,a.eval x.2)) es (by simpa using k1)
  simp [this]
 case mkf f x y x' y' hx hy=>
  split at hv
  · rename_i vs us hvs hus
    cases hv
    refine ⟨.func f (x.map a.eval) (y.map a.eval),by simp [Instr.makeFunc],?_⟩
    simp only [rep]
    exact ⟨_,_,rfl,by simpa using H.ops hx hvs,by simpa using H.ops hy hus⟩
  · cases hv
 case mki t x u ds hx hd hne=>
  split at hv
  · rename_i v' he
    split at hv
    · cases hv
      have hr:(Instr.makeInterface t (a.eval x)).run P w=.ok (.iface t (a.eval x)) w:=by
       simp only [Instr.makeInterface,Sem.run_bind,run_underlying hd w,Result.andThen_ok]
       first
        | rfl
        | (split
           · exact absurd rfl (hne _)
           · rfl)
      exact ⟨.iface t (a.eval x),by simp [hr],by simp only [rep]; exact ⟨_,rfl,H.op hx he⟩⟩
    · cases hv
  · cases hv
 case tya t x xt okk u i z zv ds ht hne hx hi hz hzv=>
  split at hv
  · rename_i t' v' he
    have r1:=H.op hx he
    simp only [rep] at r1
    obtain ⟨y,e1,e2⟩:=r1
    have hzr:(zeroValue t).run P w=.ok z w:=by simp [zeroValue,typeInfo,hi,hz]
    have hrun:(Instr.typeAssert (a.eval x) xt t okk).run P w=(if t'=t then .ok (if okk=true then .tuple #[y,.bool true] else y) w else if okk=true then .ok (.tuple #[z,.bool false]) w else (Instr.typeAssert (a.eval x) xt t okk).run P w):=by
     by_cases h1:t'=t
     · rw [if_pos h1,e1]
       subst h1
       cases ds<;>first | exact absurd rfl (hne _) | (cases okk<;>simp [Instr.typeAssert,run_underlying ht])
     · rw [if_neg h1]
       cases okk with
       | false=>simp
       | true=>
         rw [e1]
         cases ds<;>first | exact absurd rfl (hne _) | simp [Instr.typeAssert,run_underlying ht,h1,hzr]
    split at hv
    · rename_i h1
      cases hv
      rw [if_pos h1] at hrun
      refine ⟨if okk=true then .tuple #[y,.bool true] else y,by simp [hrun],?_⟩
      cases okk
      · simpa using e2
      · simp only [if_true,rep,ae]
        exact ⟨_,rfl,y,_,rfl,e2,.bool true,[],rfl,rfl,rfl⟩
    · rename_i h1
      split at hv
      · rename_i h2
        cases hv
        rw [if_neg h1,if_pos h2] at hrun
        refine ⟨.tuple #[z,.bool false],by simp [hrun],?_⟩
        simp only [rep,ae]
        exact ⟨_,rfl,z,_,rfl,ko hzv,.bool false,[],rfl,rfl,rfl⟩
      · cases hv
  · cases hv
 case aeq t x y yt u v' kt hk hg hx hy=>
  split at hv
  · rename_i u1 v1 h1 h2
    split at hv
    · rename_i hf
      cases hv
      have r1:=H.op hx h1
      have r2:=H.op hy h2
      have e:=vr hk hf.1 hf.2 r1 r2 w
      obtain ⟨_,_,_,_,hc⟩:=jv hk hf.1 r1
      obtain ⟨_,_,_,_,hc2⟩:=jv hk hf.2 r2
      rcases hc with ⟨_,⟨cs,ec⟩,hq,_⟩ | ⟨hn,_⟩
      · rcases hc2 with ⟨_,⟨ds,ed⟩,_,_⟩ | ⟨hn,_⟩
        · rw [ec,ed] at e ⊢
          refine ⟨.bool (eqK u1 v1),?_,by simp [rep]⟩
          simp only [Sem.run_bind,run_eqGuard_agg w .eql t x y cs ds hq,Result.andThen_ok,run_eql_struct,e]
          rfl
        · rw [hg] at hn; cases hn
      · rw [hg] at hn; cases hn
    · cases hv
  · cases hv
 case ane t x y yt u v' kt hk hg hx hy=>
  split at hv
  · rename_i u1 v1 h1 h2
    split at hv
    · rename_i hf
      cases hv
      have r1:=H.op hx h1
      have r2:=H.op hy h2
      have e:=vr hk hf.1 hf.2 r1 r2 w
      obtain ⟨_,_,_,_,hc⟩:=jv hk hf.1 r1
      obtain ⟨_,_,_,_,hc2⟩:=jv hk hf.2 r2
      rcases hc with ⟨_,⟨cs,ec⟩,hq,_⟩ | ⟨hn,_⟩
      · rcases hc2 with ⟨_,⟨ds,ed⟩,_,_⟩ | ⟨hn,_⟩
        · rw [ec,ed] at e ⊢
          refine ⟨.bool (!eqK u1 v1),?_,by simp [rep]⟩
          simp only [Sem.run_bind,run_eqGuard_agg w .neq t x y cs ds hq,Result.andThen_ok,run_neq_struct,e]
          rfl
        · rw [hg] at hn; cases hn
      · rw [hg] at hn; cases hn
    · cases hv
  · cases hv
 case lkp t K E x k u v' kt i z zv okk ht hkt hx hk2 hi hz hzv=>
  split at hv
  · rename_i id n kv h1 h2
    split at hv
    · rename_i kt' l hm
      split at hv
      · rename_i hf
        obtain ⟨rfl,hf⟩:=hf
        have hmp:=vD hm
        have r1:=H.op hx h1
        simp only [rep,XX] at r1
        have ex:=r1.2.2.2.2 _ hmp rfl
        obtain ⟨b,es,clock,e1,e2,e3,e4,e5⟩:=H.heap id _ hmp
        rw [e1] at ex
        have r2:=H.op hk2 h2
        obtain ⟨r,g1,g2⟩:=tD hkt hf r2 w l es.toList e4
        have gc:=qn hkt hf r2 es.isEmpty w
        have hzr:(zeroValue E).run P w=.ok z w:=by simp [zeroValue,typeInfo,hi,hz]
        have hobj:=Go.MapKept.run_getObj_map (P:=P) e3
        rcases g2 with ⟨rfl,g3,_⟩ | ⟨j,e,k',v2,rfl,_,g3,g4,_⟩
        · rw [g3] at hv
          simp only [zA] at hv
          subst hv
          have hrun:(Instr.lookup t (a.eval x) (a.eval k) okk).run P w=.ok (if okk then .tuple #[z,.bool false] else z) w:=by
           unfold Instr.lookup
           simp [run_underlying ht,ex,hobj,gc,g1,hzr]
          refine ⟨if okk then .tuple #[z,.bool false] else z,by simp [hrun],?_⟩
          cases okk
          · simpa using ko hzv
          · simp only [if_true,rep,ae]
            exact ⟨_,rfl,z,_,rfl,ko hzv,.bool false,[],rfl,rfl,rfl⟩
        · rw [g3] at hv
          simp only [zA] at hv
          subst hv
          have hrun:(Instr.lookup t (a.eval x) (a.eval k) okk).run P w=.ok (if okk then .tuple #[e.val,.bool true] else e.val) w:=by
           unfold Instr.lookup
           simp [run_underlying ht,ex,hobj,gc,g1]
          refine ⟨if okk then .tuple #[e.val,.bool true] else e.val,by simp [hrun],?_⟩
          cases okk
          · simpa using aB g4
          · simp only [if_true,rep,ae]
            exact ⟨_,rfl,e.val,_,rfl,aB g4,.bool true,[],rfl,rfl,rfl⟩
      · cases hv
    · cases hv
  · rename_i kv h1 h2
    split at hv
    · rename_i hf
      cases hv
      have ex:=H.op hx h1
      simp only [rep] at ex
      have r2:=H.op hk2 h2
      obtain ⟨r,g1,g2⟩:=tD hkt hf r2 w [] [] (show gD M kt [] [] from rfl)
      have hrn:r=none:=by
       rcases g2 with ⟨h,_⟩ | ⟨j,e,k',v2,_,_,g3,_⟩
       · exact h
       · simp [sy] at g3
      subst hrn
      have gc:=qn hkt hf r2 true w
      have hzr:(zeroValue E).run P w=.ok z w:=by simp [zeroValue,typeInfo,hi,hz]
      have hrun:(Instr.lookup t (a.eval x) (a.eval k) okk).run P w=.ok (if okk then .tuple #[z,.bool false] else z) w:=by
       unfold Instr.lookup
       simp [run_underlying ht,ex,gc,g1,hzr]
      refine ⟨if okk then .tuple #[z,.bool false] else z,by simp [hrun],?_⟩
      cases okk
      · simpa using ko hzv
      · simp only [if_true,rep,ae]
        exact ⟨_,rfl,z,_,rfl,ko hzv,.bool false,[],rfl,rfl,rfl⟩
    · cases hv
  · cases hv
 case nlc x u hx=>
  split at hv
  · rename_i v' he
    split at hv
    · rename_i hlv
      cases hv
      have hr:=H.op hx he
      rcases IJ H hr hlv with ⟨p,e⟩ | ⟨f,x1,y1,e⟩
      · exact ⟨_,by rw [e]; rfl,hr⟩
      · exact ⟨_,by rw [e]; rfl,hr⟩
    · cases hv
  · cases hv
end
def bW(κ:Kap)(id:Nat)(v:Value)(rw':Nat->Value)(bl:Nat->Prop):Kap:=⟨fun i=>if i=id then v else κ i,fun i=>if i=id then rw' else κ.row i,fun i=>if i=id then bl else κ.bl i,κ.fm⟩
abbrev upd(κ:Kap)(id:Nat)(v:Value):Kap:=bW κ id v (fun _=>undef) (fun g=>blk v=some g)
section
variable{κ:Kap}{id:Nat}{v:Value}{rw':Nat->Value}{bl:Nat->Prop}
theorem be:(bW κ id v rw' bl) id=v:=by simp[bW]
theorem dV:(bW κ id v rw' bl).row id=rw':=by simp[bW]
theorem aJ:(bW κ id v rw' bl).bl id=bl:=by simp[bW]
theorem bz{i:Nat}(h:i≠id):(bW κ id v rw' bl) i=κ i/\(bW κ id v rw' bl).row i=κ.row i/\(bW κ id v rw' bl).bl i=κ.bl i:=by simp[bW,h]
theorem cu:upd κ id v id=v:=be
theorem QA{i:Nat}(h:i≠id):upd κ id v i=κ i:=(bz h).1
end
theorem ew{κ κ':Kap}(h:κ'.row 0=κ.row 0){ms:List Po}{k j n i off:Nat}{c:Value}:qAt κ' ms k j n i off c=qAt κ ms k j n i off c:=by
 unfold qAt;rw[h]
theorem Kg{κ h v c}(hx:XX κ h v c){κ':Kap}{h':List (Option Ob)}(hl:h.length<=h'.length)(hk:∀i,i<h.length->κ' i=κ i)(hr:∀i,i<h.length->κ'.row i=κ.row i)(hh:∀i ob,i<h.length->h'[i]?=some (some ob)->h[i]?=some (some ob))(hf:κ'.fm=κ.fm:=by rfl):XX κ' h' v c:=by
 cases v<;>simp only[XX]at hx⊢
 case ref id n=>exact⟨hx.1,by omega,fun e sz l hl'=>by rw[hk id hx.2.1];exact hx.2.2.1 e sz l (hh id _ hx.2.1 hl'),fun e e2 sz l hl'=>by rw[hk id hx.2.1];exact hx.2.2.2.1 e e2 sz l (hh id _ hx.2.1 hl'),fun o hl' hn=>by rw[hk id hx.2.1];exact hx.2.2.2.2 o (hh id _ hx.2.1 hl') hn⟩
 case ptr id off=>exact⟨hx.1,by omega,fun cs hl'=>by rw[hk id hx.2.1];exact hx.2.2 cs (hh id _ hx.2.1 hl')⟩
 case eptr id n i off=>exact⟨hx.1,by omega,fun e sz l hl'=>by rw[hk id hx.2.1];exact hx.2.2.1 e sz l (hh id _ hx.2.1 hl'),fun e e2 sz l hl'=>by rw[hk id hx.2.1];exact hx.2.2.2 e e2 sz l (hh id _ hx.2.1 hl')⟩
 case fseq sz l=>rw[hf];exact hx
 case mref id i n=>exact⟨hx.1,by omega,fun e e2 sz l hl'=>by rw[hr id hx.2.1];exact hx.2.2 e e2 sz l (hh id _ hx.2.1 hl')⟩
 case mptr id i n k off=>exact⟨hx.1,by omega,fun e e2 sz l hl'=>by rw[hr id hx.2.1];exact hx.2.2 e e2 sz l (hh id _ hx.2.1 hl')⟩
 case q k j n i off=>exact⟨hx.1,by omega,fun ms hl'=>by rw[ew (hr 0 hx.2.1)];exact hx.2.2 ms (hh 0 _ hx.2.1 hl')⟩
theorem oy{M M':Mem}(hM:∀p v,M p=some v->M' p=some v){sz:Nat}:∀{l:List V}{xs:List Value},ap M sz l xs->ap M' sz l xs
 |[],_,h=>h
 |v::vs,xs,h=>by
   simp only[ap]at h⊢;obtain⟨y,rest,g1,g2,g3,g4,g5⟩:=h;exact⟨y,rest,g1,aw hM (fun _ _ h=>h) _ _ g2,g3,g4,oy hM g5⟩
theorem cA{w w':World}{n e sz len:Nat}{v:Value}{xs:List Value}(h:w.ownsRow n e sz v len xs)(hw:∀g,blk v=some g->w'.heap[g]?=w.heap[g]?):w'.ownsRow n e sz v len xs:=by
 refine⟨h.1,?_⟩;rcases h.2 with h4|⟨g,cap,cur,h4,h5,h6,h7⟩
 ·exact .inl h4
 ·exact .inr ⟨g,cap,cur,h4,h5,by rw[hw g (by rw[h4];rfl),h6],h7⟩
theorem kL{w:World}{n e sz len:Nat}{v:Value}{xs:List Value}(h:w.ownsRow n e sz v len xs){g:Nat}(hg:blk v=some g):g<w.heap.size:=by
 rcases h.2 with⟨h4,_⟩|⟨g',cap,cur,h4,h5,h6,_⟩
 ·rw[h4]at hg;cases hg
 ·rw[h4]at hg
  cases hg;exact(zAc.1 h6).1
section
variable{P:Program}{N:Nat}{M0:Mem}{B:Bas}{w0:World}{κ:Kap}{M:Mem}{σ:St}{a:Act}{w w':World}
theorem DZ{M M':Mem}(hM:∀p v,M p=some v->M' p=some v){kt:KT}:∀{l:List (V×V)}{es:List MapEntry},gD M kt l es->gD M' kt l es
 |[],_,h=>h
 |(k,v)::l,_,h=>by
   simp only[gD]at h⊢;obtain⟨e,rest,h1,h2,h3,h4,h5⟩:=h;exact⟨e,rest,h1,h2,aw hM (fun _ _ h=>h) _ _ h3,aw hM (fun _ _ h=>h) _ _ h4,DZ hM h5⟩
theorem jE{X X':V->Value->Prop}{M':Mem}(hM:∀p v,M p=some v->M' p=some v){κ':Kap}(hX2:∀v c,PX X v c->PX X' v c){j:Nat}(hk:κ'.row 0 j=κ.row 0 j)(hw:∀g,blk (κ.row 0 j)=some g->w'.heap[g]?=w.heap[g]?):∀{m:Po},fc κ M X B w j m->fc κ' M' X' B w' j m
 | .no,_=>trivial
 | .bx e cs,h=>by
   simp only[fc]at h⊢;obtain⟨b,arr,T,h1,h3,h4,h5⟩:=h;exact⟨b,arr,T,by rw[hk,h1],by rw[hw b (by rw[h1];rfl),h3],aD hM hX2 _ _ h4,h5⟩
 | .rw e sz l,h=>by
   simp only[fc]at h⊢;obtain⟨h0,h1,xs,h2,h3⟩:=h;rw[hk];exact⟨h0,h1,xs,cA h2 hw,cz hM hX2 h3⟩
 | .byt e s,h=>by
   simp only[fc]at h⊢;refine⟨h.1,h.2.imp (fun h=>⟨h.1,by rw[hk];exact h.2⟩) fun⟨hne,g,cap,cur,T,fz,h1,h2,h3⟩=>?_⟩
   exact⟨hne,g,cap,cur,T,fz,by rw[hk,h1],by rw[hw g (by rw[h1];rfl),h2],h3⟩
theorem If{X:V->Value->Prop}{j:Nat}:∀{m:Po},fc κ M X B w j m->m.is=true->∀g,blk (κ.row 0 j)=some g->g<w.heap.size
 | .no,_,h,_,_=>by simp[Po.is]at h
 | .bx e cs,h,_,g,hg=>by
   simp only[fc]at h;obtain⟨b,arr,T,h1,h3,_⟩:=h;rw[h1]at hg;cases hg;exact(zAc.1 h3).1
 | .byt e s,h,_,g,hg=>by
   simp only[fc]at h;rcases h.2 with⟨_,h1⟩|⟨_,g',cap,cur,T,fz,h1,h2,h3⟩
   ·rw[h1]at hg;cases hg
   ·rw[h1]at hg
    cases hg;exact(zAc.1 h2).1
 | .rw e sz l,h,_,g,hg=>by
   simp only[fc]at h;obtain⟨_,_,xs,h2,_⟩:=h;exact kL h2 hg
theorem c9{X X':V->Value->Prop}{M':Mem}(hM:∀p v,M p=some v->M' p=some v)(hX:∀v c,X v c->X' v c){κ':Kap}{id:Nat}(hk:κ' id=κ id/\κ'.row id=κ.row id/\κ'.bl id=κ.bl id)(hw:∀g,κ.bl id g->w'.heap[g]?=w.heap[g]?)(hj:Be B)(hu:Und B w w')(hs:∀p v,M' p=some v->w'.cell? p=some v):∀{ob:Ob},aE κ M X B w id ob->aE κ' M' X' B w' id ob
 | .pool ms,h=>by
   simp only[aE]at h⊢;obtain⟨rfl,h1,h2,h3,h4,h5⟩:=h;rw[hk.2.1,hk.2.2];refine⟨rfl,fun j m hm=>?_,h2,h3,h4,fun k j n i off c hg=>by rw[ew hk.2.1];exact h5 k j n i off c hg⟩
   cases hi:m.is
   ·cases m<;>simp[Po.is]at hi
    trivial
   ·exact jE hM (NB hX) (by rw[hk.2.1]) (fun g hg=>hw g ((h4 g).2 ⟨j,m,hm,hi,hg⟩)) (h1 j m hm)
 | .itr s p,h=>by
   simp only[aE]at h⊢;obtain⟨b,bs,h1,h2,h3,h4,h5,h6⟩:=h;exact⟨b,bs,by rw[hk.1,h1],h2,by rw[hw b ((h6 b).2 rfl),h3],h4,h5,by rw[hk.2.2];exact h6⟩
 | .tok c,h=>by
   simp only[aE]at h⊢;rw[hk.1,hk.2.2];exact h
 | .gh l,h=>by
   simp only[aE]at h⊢;obtain⟨k,h1,h2,h3⟩:=h;rw[hk.1,hk.2.2];exact⟨k,h1,hj _ _ _ _ _ _ _ h2 hu hw hM hs,fun g hg=>⟨(h3 g hg).1,Nat.lt_of_lt_of_le (h3 g hg).2 hu.size⟩⟩
 | .box cs,h=>by
   simp only[aE]at h⊢;obtain⟨b,arr,T,h1,h2,h3,h4,h5,h6⟩:=h;exact⟨b,arr,T,by rw[hk.1,h1],h2,by rw[hw b ((h6 b).2 rfl),h3],aD hM hX _ _ h4,h5,by rw[hk.2.2];exact h6⟩
 | .arr e sz l,h=>by
   simp only[aE]at h⊢;obtain⟨h0,h1,xs,h2,h3,hown,hbl⟩:=h;rw[hk.1,hk.2.2];exact⟨h0,h1,xs,cA h2 fun g hg=>hw g ((hbl g).2 hg),oy hM h3,hown,hbl⟩
 | .mat e e2 sz rows,h=>by
   simp only[aE]at h⊢;obtain⟨h0,h1,⟨xs,h2,h3,h4⟩,h5,h6,h7,hown,hbl⟩:=h;rw[hk.1,hk.2.1,hk.2.2];exact⟨h0,h1,⟨xs,cA h2 fun g hg=>hw g ((hbl g).2 (.inl hg)),h3,h4⟩,fun i r hr=>let ⟨k1,ys,k2,k3⟩:=h5 i r hr;⟨k1,ys,cA k2 fun g hg=>hw g ((hbl g).2 (.inr ⟨i,r,hr,hg⟩)),oy hM k3⟩,h6,h7,hown,hbl⟩
 | .mp kt l,h=>by
   simp only[aE]at h⊢;obtain⟨b,es,clock,h1,h2,h3,h4,h5⟩:=h;exact⟨b,es,clock,by rw[hk.1,h1],h2,by rw[hw b ((h5 b).2 rfl),h3],DZ hM h4,by rw[hk.2.2];exact h5⟩
theorem Ii{X:V->Value->Prop}{id:Nat}:∀{ob:Ob},aE κ M X B w id ob->∀g,κ.bl id g->B.own g/\g<w.heap.size
 | .tok c,h,g,hg=>by
   simp only[aE]at h;exact(h.2 g hg).elim
 | .pool ms,h,g,hg=>by
   simp only[aE]at h;obtain⟨_,h1,h2,h3,h4,_⟩:=h;obtain⟨j,m,hm,hi,hb⟩:=(h4 g).1 hg;exact⟨h3 g hg,If (h1 j m hm) hi g hb⟩
 | .itr s p,h,g,hg=>by
   simp only[aE]at h;obtain⟨b,bs,h1,h2,h3,_,_,h6⟩:=h;have:=(h6 g).1 hg;subst this;exact⟨h2,(zAc.1 h3).1⟩
 | .gh l,h,g,hg=>by
   simp only[aE]at h;obtain⟨k,_,_,h3⟩:=h;exact h3 g hg
 | .box cs,h,g,hg=>by
   simp only[aE]at h;obtain⟨b,arr,T,h1,h2,h3,_,_,h6⟩:=h;have:=(h6 g).1 hg;subst this;exact⟨h2,(zAc.1 h3).1⟩
 | .arr e sz l,h,g,hg=>by
   simp only[aE]at h;obtain⟨_,_,xs,h2,_,hown,hbl⟩:=h;exact⟨hown g hg,kL h2 ((hbl g).1 hg)⟩
 | .mat e e2 sz rows,h,g,hg=>by
   simp only[aE]at h;obtain⟨_,_,⟨xs,h2,_⟩,h5,_,_,hown,hbl⟩:=h;refine⟨hown g hg,?_⟩;rcases(hbl g).1 hg with h|⟨i,r,hr,h⟩
   ·exact kL h2 h
   ·obtain⟨_,ys,k2,_⟩:=h5 i r hr
    exact kL k2 h
 | .mp kt l,h,g,hg=>by
   simp only[aE]at h;obtain⟨b,es,clock,h1,h2,h3,_,h5⟩:=h;have:=(h5 g).1 hg;subst this;exact⟨h2,(zAc.1 h3).1⟩
theorem Rel.blk_lt(H:Rel N M0 B w0 κ M σ a w){id:Nat}{ob:Ob}(h:σ.h[id]?=some (some ob)){g:Nat}(hg:κ.bl id g):B.own g/\g<w.heap.size:=Ii (H.heap id ob h) g hg
theorem Rel.mem_lt(H:Rel N M0 B w0 κ M σ a w){p:Addr}{v:Value}(h:M p=some v):p.block<w.heap.size:=World.block_lt_of_cell? w p (H.snd p v h)
theorem Rel.grow(H:Rel N M0 B w0 κ M σ a w)(hb:Below w.heap.size w w'){M':Mem}(hM:∀p v,M p=some v->M' p=some v)(hs:∀p v,M' p=some v->w'.cell? p=some v)
 (hn:∀p v,M' p=some v->M p=some v\/w.heap.size<=p.block):Rel N M0 B w0 κ M' σ a w' where
 dfr:=H.dfr
 jst:=H.jst
 pin:=H.pin
 size:=H.size
 regs:=fun t v ht=>let ⟨h1,c,h2,h3⟩:=H.regs t v ht;⟨h1,c,h2,aw hM (fun _ _ h=>h) _ _ h3⟩
 heap:=fun id ob h=>c9 hM (fun _ _ h=>h) ⟨rfl,rfl,rfl⟩ (fun g hg=>hb.block g (H.blk_lt h hg).2) H.jst (.of_below hb (by rw[H.base];exact H.blw.size)) hs (H.heap id ob h)
 inj:=H.inj
 snd:=hs
 sep:=fun p v hp id ob h=>by
  rcases hn p v hp with h1|h1
  ·exact H.sep p v h1 id ob h
  ·intro hg
   have:=(H.blk_lt h hg).2;omega
 sub:=⟨fun p v h=>hM p v (H.sub.sub p v h),fun p v h=>hM p v (H.sub.fmS p v h),H.sub.fmN,H.sub.fbn,H.sub.gl⟩
 new:=fun p v h=>by
  rcases hn p v h with h1|h1
  ·exact H.new p v h1
  ·have:=H.blw.size
   exact .inr (.inl (by rw[H.base];omega))
 base:=H.base
 blw:=H.blw.trans (.of_below hb (by rw[H.base];exact H.blw.size))
theorem Rel.grow0(H:Rel N M0 B w0 κ M σ a w)(hb:Below w.heap.size w w'):Rel N M0 B w0 κ M σ a w':=
 H.grow hb (fun _ _ h=>h) (fun p v h=>by rw[hb.cell (H.mem_lt h)];exact H.snd p v h) (fun _ _ h=>.inl h)
theorem cX{α}{l:List α}{x y:α}{i:Nat}(h:(l++[x])[i]?=some y):(i<l.length/\l[i]?=some y)\/(i=l.length/\x=y):=by
 by_cases hi:i<l.length
 ·rw[zAi hi]at h;exact .inl ⟨hi,h⟩
 ·rw[zBc (by omega)]at h
  have:i-l.length=0:=by
   rcases Nat.eq_zero_or_pos (i-l.length)with h0|h0
   ·exact h0
   ·rw[List.getElem?_eq_none (by simp;omega)]at h;cases h
  rw[this]at h;simp at h;exact .inr ⟨by omega,h⟩
theorem Rel.newOb'(H:Rel N M0 B w0 κ M σ a w)(hb:Below w.heap.size w w'){ob:Ob}{kv:Value}{kr:Nat->Value}{kb:Nat->Prop}(hkI:∀g,kb g->∀j oj,σ.h[j]?=some (some oj)->¬κ.bl j g)(hkS:∀p v,M p=some v->¬kb p.block)
 (ho:aE (bW κ σ.h.length kv kr kb) M (XX (bW κ σ.h.length kv kr kb) (σ.h++[some ob])) B w' σ.h.length ob):Rel N M0 B w0 (bW κ σ.h.length kv kr kb) M { σ with h:=σ.h++[some ob] } a w':=by
 have H':=H.grow0 hb;have hX:∀v c,XX κ σ.h v c->XX (bW κ σ.h.length kv kr kb) (σ.h++[some ob]) v c:=fun v c hx=>Kg hx (by simp) (fun i hi=>(bz (by omega)).1) (fun i hi=>(bz (by omega)).2.1) (fun i ob' hi h=>by rwa[zAi hi]at h)
 have hne:∀{i},i<σ.h.length->(bW κ σ.h.length kv kr kb).bl i=κ.bl i:=fun hi=>(bz (by omega)).2.2
 have hse:(bW κ σ.h.length kv kr kb).bl σ.h.length=kb:=aJ;refine{ dfr:=H'.dfr,jst:=H'.jst,pin:=H'.pin,size:=H'.size,regs:=?_,heap:=?_,inj:=?_,snd:=H'.snd,sep:=?_,sub:=H'.sub,new:=H'.new,base:=H'.base,blw:=H'.blw }
 ·intro t v ht
  obtain⟨h1,c,h2,h3⟩:=H'.regs t v ht;exact⟨h1,c,h2,DJ hX h3⟩
 ·intro id ob' h
  rcases cX h with⟨hi,h⟩|⟨rfl,h⟩
  ·exact c9 (fun _ _ h=>h) hX (bz (by omega)) (fun _ _=>rfl) H'.jst (Und.refl _ _) H'.snd (H'.heap id ob' h)
  ·rename_i h'
   simp only[zA]at h';rw[<-h'];exact ho
 ·intro i j oi oj g hi hj gi gj
  rcases cX hi with⟨hi',hi⟩|⟨rfl,hi⟩<;>rcases cX hj with⟨hj',hj⟩|⟨rfl,hj⟩
  ·rw[hne hi']at gi;rw[hne hj']at gj;exact H.inj i j oi oj g hi hj gi gj
  ·rw[hne hi']at gi;rw[hse]at gj
   exact(hkI g gj _ _ hi gi).elim
  ·rw[hne hj']at gj;rw[hse]at gi
   exact(hkI g gi _ _ hj gj).elim
  ·rfl
 ·intro p v hp id ob' h
  rcases cX h with⟨hi,h⟩|⟨rfl,h⟩
  ·rw[hne hi];exact H'.sep p v hp id ob' h
  ·rw[hse]
   exact hkS p v hp
theorem Rel.newOb(H:Rel N M0 B w0 κ M σ a w)(hb:Below w.heap.size w w'){ob:Ob}{kv:Value}{kr:Nat->Value}{kb:Nat->Prop}(hk:∀g,kb g->w.heap.size<=g)
 (ho:aE (bW κ σ.h.length kv kr kb) M (XX (bW κ σ.h.length kv kr kb) (σ.h++[some ob])) B w' σ.h.length ob):Rel N M0 B w0 (bW κ σ.h.length kv kr kb) M { σ with h:=σ.h++[some ob] } a w':=
 H.newOb' hb (fun g hg j oj hj hg'=>by have:=(H.blk_lt hj hg').2;have:=hk g hg;omega) (fun p v hp hg=>by have:=H.mem_lt hp;have:=hk _ hg;omega) ho
theorem Rel.setOb'(H:Rel N M0 B w0 κ M σ a w){id:Nat}{old ob:Ob}(hid:σ.h[id]?=some (some old)){kv:Value}{kr:Nat->Value}{kb:Nat->Prop}(hb:Und B w w')
 (hother:∀k,k<w.heap.size->¬κ.bl id k->w'.heap[k]?=w.heap[k]?) (hkI:∀g,kb g->∀j oj,σ.h[j]?=some (some oj)->κ.bl j g->id=j) (hkS:∀p v,M p=some v->¬kb p.block)
 (hX:∀v c,XX κ σ.h v c->XX (bW κ id kv kr kb) (σ.h.set id (some ob)) v c)
 (ho:aE (bW κ id kv kr kb) M (XX (bW κ id kv kr kb) (σ.h.set id (some ob))) B w' id ob):Rel N M0 B w0 (bW κ id kv kr kb) M { σ with h:=σ.h.set id (some ob) } a w':=by
 have hlt:id<σ.h.length:=(zAa.1 hid).1;have hne:∀{i},¬id=i->(bW κ id kv kr kb).bl i=κ.bl i:=fun hi=>(bz (fun e=>hi e.symm)).2.2;have hse:(bW κ id kv kr kb).bl id=kb:=aJ
 have hsnd:∀p v,M p=some v->w'.cell? p=some v:=fun p v hp=>by
  rw[World.cell?_of_block (hother p.block (H.mem_lt hp) (H.sep p v hp id old hid))];exact H.snd p v hp
 refine{ dfr:=H.dfr,jst:=H.jst,pin:=H.pin,size:=H.size,regs:=?_,heap:=?_,inj:=?_,snd:=?_,sep:=?_,sub:=H.sub,new:=H.new,base:=H.base,blw:=H.blw.trans hb }
 ·intro t v ht
  obtain⟨h1,c,h2,h3⟩:=H.regs t v ht;exact⟨h1,c,h2,DJ hX h3⟩
 ·intro i ob' h
  rw[zBd]at h;split at h
  ·rename_i he
   subst he;simp only[hlt,if_true,zA]at h;rw[<-h];exact ho
  ·rename_i he
   refine c9 (fun _ _ h=>h) hX (bz (fun e=>he e.symm)) (fun g hg=>?_) H.jst hb hsnd (H.heap i ob' h);exact hother g (H.blk_lt h hg).2 (fun hg'=>he (H.inj id i old ob' g hid h hg' hg))
 ·intro i j oi oj g hi hj gi gj
  rw[zBd]at hi hj;split at hi<;>split at hj
  ·rename_i h1 h2;rw[<-h1,<-h2]
  ·rename_i h1 h2
   subst h1;rw[hse]at gi;rw[hne h2]at gj;exact hkI g gi j oj hj gj
  ·rename_i h1 h2
   subst h2;rw[hse]at gj;rw[hne h1]at gi;exact(hkI g gj i oi hi gi).symm
  ·rename_i h1 h2
   rw[hne h1]at gi;rw[hne h2]at gj;exact H.inj i j oi oj g hi hj gi gj
 ·intro p v hp
  have h1:=H.snd p v hp;have h2:=hother p.block (H.mem_lt hp) (H.sep p v hp id old hid);rw[World.cell?_of_block h2];exact h1
 ·intro p v hp i ob' h
  rw[zBd]at h;split at h
  ·rename_i he
   subst he;rw[hse];exact hkS p v hp
  ·rename_i he
   rw[hne he];exact H.sep p v hp i ob' h
theorem Rel.setOb(H:Rel N M0 B w0 κ M σ a w){id:Nat}{old ob:Ob}(hid:σ.h[id]?=some (some old)){kv:Value}{kr:Nat->Value}{kb:Nat->Prop}(hb:Und B w w')
 (hother:∀k,k<w.heap.size->¬κ.bl id k->w'.heap[k]?=w.heap[k]?) (hk:∀g,kb g->κ.bl id g\/w.heap.size<=g)
 (hX:∀v c,XX κ σ.h v c->XX (bW κ id kv kr kb) (σ.h.set id (some ob)) v c)
 (ho:aE (bW κ id kv kr kb) M (XX (bW κ id kv kr kb) (σ.h.set id (some ob))) B w' id ob):Rel N M0 B w0 (bW κ id kv kr kb) M { σ with h:=σ.h.set id (some ob) } a w':=
 H.setOb' hid hb hother (fun g hg j oj hj gj=>by
  rcases hk g hg with h3|h3
  ·exact H.inj id j old oj g hid hj h3 gj
  ·have:=(H.blk_lt hj gj).2;omega) (fun p v hp hg=>by
  rcases hk _ hg with h3|h3
  ·exact H.sep p v hp id old hid h3
  ·have:=H.mem_lt hp;omega) hX ho
theorem Rel.drop (H:Rel N M0 B w0 κ M σ a w) (id:Nat):Rel N M0 B w0 κ M { σ with h:=σ.h.set id none } a w:=by
 have k3:∀ {i:Nat} {ob:Ob},(σ.h.set id none)[i]?=some (some ob)→σ.h[i]?=some (some ob):=by
  intro i ob h
  rw [zBd] at h
  split at h
  · split at h<;>cases h
  · exact h
 have hX:∀ v c,XX κ σ.h v c→XX κ (σ.h.set id none) v c:=fun v c hx=>Kg hx (by simp) (fun _ _=>rfl) (fun _ _=>rfl) (fun i ob hi h=>k3 h)
 exact { dfr:=H.dfr,jst:=H.jst,pin:=H.pin,size:=H.size
         regs:=fun t v ht=>let ⟨h1,c,h2,h3⟩:=H.regs t v ht; ⟨h1,c,h2,DJ hX h3⟩
         heap:=fun i ob h=>c9 (fun _ _ h=>h) hX ⟨rfl,rfl,rfl⟩ (fun _ _=>rfl) H.jst (Und.refl _ _) H.snd (H.heap i ob (k3 h))
         inj:=fun i j oi oj g hi hj=>H.inj i j oi oj g (k3 hi) (k3 hj)
         snd:=H.snd
         sep:=fun p v hp i ob h=>H.sep p v hp i ob (k3 h)
         sub:=H.sub,new:=H.new,base:=H.base,blw:=H.blw }
def Kap.add(κ:Kap)(F:Mem):Kap:=⟨κ.v,κ.row,κ.bl,fun p=>(κ.fm p).or (F p)⟩
theorem S8{κ:Kap}{F:Mem}{h:List (Option Ob)}:∀v c,XX κ h v c->XX (κ.add F) h v c:=by
 intro v c hx;cases v<;>simp only[XX]at hx⊢<;>try exact hx
 exact⟨hx.1,aw (M':=(κ.add F).fm) (fun p v hp=>by simp[Kap.add,hp]) (X:=NX) (fun _ _ h=>h) _ _ hx.2⟩
theorem Rel.addF(H:Rel N M0 B w0 κ M σ a w){F:Mem}(hF:∀p v,F p=some v->M p=some v/\B.fb<=p.block):Rel N M0 B w0 (κ.add F) M σ a w:=
 { dfr:=H.dfr,jst:=H.jst,pin:=H.pin,size:=H.size
   regs:=fun t v ht=>let ⟨h1,c,h2,h3⟩:=H.regs t v ht;⟨h1,c,h2,DJ S8 h3⟩
   heap:=fun i ob h=>c9 (κ':=κ.add F) (fun _ _ h=>h) S8 ⟨rfl,rfl,rfl⟩ (fun _ _=>rfl) H.jst (Und.refl _ _) H.snd (H.heap i ob h)
   inj:=H.inj,snd:=H.snd,sep:=H.sep
   sub:=⟨H.sub.sub,fun p v hp=>by
       simp only[Kap.add,zDc]at hp;rcases hp with hp|hp
       ·exact H.sub.fmS p v hp
       ·exact(hF p v hp.2).1,fun p v hp=>by
       simp only[Kap.add,zDc]at hp;rcases hp with hp|hp
       ·exact H.sub.fmN p v hp
       ·exact(hF p v hp.2).2,H.sub.fbn,H.sub.gl⟩
   new:=H.new,base:=H.base,blw:=H.blw }
mutual
theorem R8{Mn M:Mem}{X:V->Value->Prop}(hM:∀p v,Mn p=some v->M p=some v)(hX:∀sz l c,am c->rep Mn NX (.seq sz l) c->X (.fseq sz l) c):∀{v:V}{c:Value},rep Mn NX v c->rep M X (fz v) c
 | .seq sz l,c,h=>by
   simp only[fz,rep];refine hX sz l c ?_ h;simp only[rep]at h;obtain⟨a,cap,rfl,_⟩:=h;rfl
 | .strct cs,c,h=>by
   simp only[rep,fz]at h⊢;obtain⟨arr,h1,h2,h3⟩:=h;exact⟨arr,h1,Gy hM hX h2,h3⟩
 | .tup cs,c,h=>by
   simp only[rep,fz]at h⊢;obtain⟨arr,h1,h2⟩:=h;exact⟨arr,h1,Gy hM hX h2⟩
 | .int k n,c,h=>aB (aw hM (fun _ _ h=>h) (.int k n) c h)
 | .bool b,c,h=>aB (aw hM (fun _ _ h=>h) (.bool b) c h)
 | .str s,c,h=>aB (aw hM (fun _ _ h=>h) (.str s) c h)
 | .nil sz,c,h=>aB (aw hM (fun _ _ h=>h) (.nil sz) c h)
 | .sptr x o,c,h=>aB (aw hM (fun _ _ h=>h) (.sptr x o) c h)
 | .nilptr,c,h=>aB (aw hM (fun _ _ h=>h) .nilptr c h)
 | .fn f x y,c,h=>aB (aw hM (fun _ _ h=>h) (.fn f x y) c h)
 | .nilfn,c,h=>aB (aw hM (fun _ _ h=>h) .nilfn c h)
 | .nilmp,c,h=>aB (aw hM (fun _ _ h=>h) .nilmp c h)
 | .iface t x,c,h=>aB (aw hM (fun _ _ h=>h) (.iface t x) c h)
 | .niliface,c,h=>aB (aw hM (fun _ _ h=>h) .niliface c h)
 | .junk,c,h=>aB (aw hM (fun _ _ h=>h) .junk c h)
 | .ref _ _,_,h=>h.elim
 | .ptr _ _,_,h=>h.elim
 | .eptr _ _ _ _,_,h=>h.elim
 | .mref _ _ _,_,h=>h.elim
 | .mptr _ _ _ _ _,_,h=>h.elim
 | .q _ _ _ _ _,_,h=>h.elim
 | .fseq _ _,_,h=>h.elim
theorem Gy{Mn M:Mem}{X:V->Value->Prop}(hM:∀p v,Mn p=some v->M p=some v)(hX:∀sz l c,am c->rep Mn NX (.seq sz l) c->X (.fseq sz l) c):∀{vs:List V}{cs:List Value},ae Mn NX vs cs->ae M X (fzs vs) cs
 |[],cs,h=>h
 |v::vs,cs,h=>by
   simp only[ae,fzs]at h⊢;obtain⟨c,cs',h1,h2,h3⟩:=h;exact⟨c,cs',h1,R8 hM hX h2,Gy hM hX h3⟩
end
open Classical in
noncomputable def ext(M:Mem)(w:World)(bs:Nat->Prop):Mem:=fun p=>if bs p.block then w.cell? p else M p
theorem jN{M':Mem}{sz g:Nat}(hM:∀p v,M p=some v->M' p=some v):∀{l:List V}{xs:List Value}(off:Nat),ap M sz l xs->(∀j u,xs[j]?=some u->M' ⟨g,off+j,none⟩=some u)->bB M' sz l g off
 |[],_,_,_,_=>by simp[bB]
 |v::vs,xs,off,h,hx=>by
   simp only[ap]at h;obtain⟨y,rest,rfl,g1,g2,g3,g4⟩:=h;simp only[bB];refine⟨⟨y,aw hM (fun _ _ h=>h) _ _ g1,g2,g3,fun j hj=>?_⟩,jN hM (off+sz) g4 fun j u hu=>?_⟩
   ·have h1:(y.cells.toList++rest)[j]?=y.cells[j]?:=by
     rw[zAi (by simp;omega)];simp
    rw[zBj (by omega)]at h1⊢
    exact hx j _ h1
   ·have:=hx (sz+j) u (by rw[zBc (by simp;omega)];simp[g2,hu])
    rw[<-this];congr 2;omega
theorem tE{Mr Mn:Mem}(hM:∀p v,Mr p=some v->Mn p=some v){e sz:Nat}{val:Value}{l:List V}{xs:List Value}(h2:w.ownsRow 0 e sz val l.length xs)(h3:ap Mr sz l xs)(h0:0<sz)(h1:l.length<=140737488355328)
 (hown:∀g,blk val=some g->∀p:Addr,p.block=g->Mn p=w.cell? p) {X:V->Value->Prop}:rep Mn X (.seq sz l) val:=by
 simp only[rep];rcases h2.2 with⟨h4,h5⟩|⟨g,cap,cur,h4,h5,h6,h7,h8,h9⟩
 ·have:l=[]:=zBf h5
  subst this;exact⟨none,0,by rw[h4];rfl,by simp,by simp,h0,by simp⟩
 ·refine⟨some ⟨g,0,none⟩,cap,by rw[h4],h7,h1,h0,.inr ⟨g,0,rfl,?_⟩⟩
  refine jN hM 0 h3 fun j u hu=>?_;rw[hown g (by rw[h4];rfl) _ rfl]
  have:=h2.cells (g:=g) (by rw[h4];rfl) j u hu
  rwa[Addr.add_lit]at this
theorem xu{sz:Nat}:∀{rows:List Rw}{vs:List V},jA sz rows=some vs->vs.length=rows.length/\∀(i:Nat)(v:V),vs[i]?=some v->∃r,aT rows i=some r/\v=.seq sz r
 |[],vs,h=>by simp only[jA]at h;cases h;simp
 | .a r::rows,vs,h=>by
   simp only[jA]at h;split at h
   ·rename_i us hus
    cases h;obtain⟨k1,k2⟩:=xu hus;refine⟨by simp[k1],fun i v hi=>?_⟩
    cases i with
    |zero=>simp at hi;exact⟨r,by simp[aT],hi.symm⟩
    |succ i=>
      simp at hi;obtain⟨r',k3,k4⟩:=k2 i v hi;exact⟨r',by simpa[aT]using k3,k4⟩
   ·cases h
 | .g _::rows,vs,h=>by simp[jA]at h
theorem DL{Mr:Mem}:∀{vs:List V}{xs:List Value},vs.length=xs.length->(∀(i:Nat)(v:V),vs[i]?=some v->∃c:Value,xs[i]?=some c/\am c/\rep Mr NX v c)->ap Mr 1 vs xs
 |[],xs,h,_=>by
   simp only[ap];exact zBf (by simpa using h.symm)
 |v::vs,[],h,_=>by simp at h
 |v::vs,x::xs,h,hx=>by
   simp only[ap];obtain⟨c,h1,h2,h3⟩:=hx 0 v (by simp)
   simp at h1;subst h1;exact⟨x,xs,by simp[bU h2],h3,by simp[bU h2],by simp[bU h2,h2],DL (by simpa using h) fun i u hi=>hx (i+1) u (by simpa using hi)⟩
theorem M9{Mr Mn:Mem}(hM:∀p v,Mr p=some v->Mn p=some v){id e e2 sz:Nat}{rows:List Rw}{X Y:V->Value->Prop}(h:aE κ M Y B w id (.mat e e2 sz rows))(hr:∀i r xs,aT rows i=some r->ap M sz r xs->ap Mr sz r xs)
 {vs:List V} (hv:jA sz rows=some vs) (hown:∀g,κ.bl id g->∀p:Addr,p.block=g->Mn p=w.cell? p):rep Mn X (.seq 1 vs) (κ id):=by
 obtain⟨h0,h1,⟨xs,h2,h3,h4⟩,h5,h6,h7,_,hbl⟩:=h;obtain⟨k1,k2⟩:=xu hv;have hxl:xs.length=rows.length:=by have:=h2.1;simpa using this
 rw[<-k1]at h2 h1;refine tE (Mr:=Mn) (fun _ _ h=>h) h2 (DL (by omega) fun i v hi=>?_) (by omega) h1 (fun g hg=>hown g ((hbl g).2 (.inl hg)))
 obtain⟨r,k3,rfl⟩:=k2 i v hi;obtain⟨k4,ys,k5,k6⟩:=h5 i r k3;exact⟨_,h4 i r k3,h3 _ (zBg (h4 i r k3)),tE hM k5 (hr i r ys k3 k6) h0 k4 fun g hg=>hown g ((hbl g).2 (.inr ⟨i,r,k3,hg⟩))⟩
theorem RB{Mr Mn:Mem}(hM:∀p v,Mr p=some v->Mn p=some v){id e e2 sz i:Nat}{rows:List Rw}{r:List V}{X Y:V->Value->Prop}(h:aE κ M Y B w id (.mat e e2 sz rows))(k3:aT rows i=some r)(hr:∀xs,ap M sz r xs->ap Mr sz r xs)
 (hown:∀g,κ.bl id g->∀p:Addr,p.block=g->Mn p=w.cell? p):rep Mn X (.seq sz r) (κ.row id i):=by
 obtain⟨h0,h1,⟨xs,h2,h3,h4⟩,h5,h6,h7,_,hbl⟩:=h;obtain⟨k4,ys,k5,k6⟩:=h5 i r k3;exact tE hM k5 (hr ys k6) h0 k4 fun g hg=>hown g ((hbl g).2 (.inr ⟨i,r,k3,hg⟩))
mutual
theorem mD(H:Rel N M0 B w0 κ M σ a w){M':Mem}(hM:∀p v,M p=some v->M' p=some v):∀{v u:V}{c:Value}(hown:∀id∈aA v,∀g,κ.bl id g->∀p,p.block=g->M' p=w.cell? p),rep M (XX κ σ.h) v c->pur σ.h v=some u->rep M' NX u c
 | .int _ _,u,c,_,h,hp=>by simp only[pur]at hp;cases hp;exact h
 | .bool _,u,c,_,h,hp=>by simp only[pur]at hp;cases hp;exact h
 | .str _,u,c,_,h,hp=>by simp only[pur]at hp;cases hp;exact h
 | .nil sz,u,c,_,h,hp=>by
   simp only[pur]at hp;cases hp;simp only[rep]at h⊢;exact⟨none,0,by simpa using h.1,by simp,by simp,h.2,by simp⟩
 | .seq sz l,u,c,_,h,hp=>by simp only[pur]at hp;cases hp;exact aw hM (X:=NX) (fun _ _ h=>h) (.seq sz l) c h
 | .ref id n,u,c,hown,h,hp=>by
   simp only[pur,pur1]at hp;split at hp
   ·rename_i e sz l hh
    split at hp
    ·rename_i hn
     cases hp;simp only[rep,XX]at h;have hc:=(h.2.2.1 e sz l hh).2 hn;obtain⟨h0,h1,xs,h2,h3,_,hbl⟩:=H.heap id _ hh;rw[hc];exact tE hM h2 h3 h0 h1 fun g hg=>hown id (by simp[aA]) g ((hbl g).2 hg)
    ·cases hp
   ·rename_i e e2 sz rows hh
    split at hp
    ·rename_i hn
     obtain⟨vs,hvs,rfl⟩:=zAb.1 hp;simp only[rep,XX]at h;have hc:=(h.2.2.2.1 e e2 sz rows hh).2 hn;rw[hc];exact M9 hM (H.heap id _ hh) (fun _ _ _ _ h=>h) hvs (hown id (by simp[aA]))
    ·cases hp
   ·cases hp
 | .fseq sz l,u,c,_,h,hp=>by
   simp only[pur]at hp;cases hp;simp only[rep,XX]at h;exact aw (fun p v hp=>hM p v (H.sub.fmS p v hp)) (X:=NX) (fun _ _ h=>h) (.seq sz l) c (by simp only[rep];exact h.2)
 | .mref id i n,u,c,hown,h,hp=>by
   simp only[pur,pur2]at hp;split at hp
   ·rename_i e e2 sz rows hh
    split at hp
    ·rename_i r hr
     split at hp
     ·rename_i hn
      cases hp;simp only[rep,XX]at h;have hc:=((h.2.2 e e2 sz rows hh).1 r hr).2 hn;rw[hc];exact RB hM (H.heap id _ hh) hr (fun _ h=>h) (hown id (by simp[aA]))
     ·cases hp
    ·cases hp
   ·cases hp
 | .mptr _ _ _ _ _,u,c,_,h,hp=>by simp[pur]at hp
 | .q _ _ _ _ _,u,c,_,h,hp=>by simp[pur]at hp
 | .strct cs,u,c,hown,h,hp=>by
   simp only[pur]at hp;obtain⟨us,hus,rfl⟩:=zAb.1 hp;simp only[rep]at h⊢;obtain⟨arr,h1,h2,h3⟩:=h;exact⟨arr,h1,bo H hM (by simpa only[aA]using hown) h2 hus,h3⟩
 | .ptr _ _,u,c,_,h,hp=>by simp[pur]at hp
 | .eptr _ _ _ _,u,c,_,h,hp=>by simp[pur]at hp
 | .sptr x off,u,c,_,h,hp=>by simp only[pur]at hp;cases hp;exact aw hM (X:=NX) (fun _ _ h=>h) (.sptr x off) c h
 | .nilptr,u,c,_,h,hp=>by simp only[pur]at hp;cases hp;exact h
 | .fn f x y,u,c,hown,h,hp=>by
   simp only[pur]at hp;split at hp
   ·rename_i x' y' hx hy
    cases hp;simp only[rep]at h⊢;obtain⟨a1,a2,h1,h2,h3⟩:=h;simp only[aA,zBb]at hown;exact⟨a1,a2,h1,bo H hM (fun id hi=>hown id (.inl hi)) h2 hx,bo H hM (fun id hi=>hown id (.inr hi)) h3 hy⟩
   ·cases hp
 | .nilfn,u,c,_,h,hp=>by simp only[pur]at hp;cases hp;exact h
 | .nilmp,u,c,_,h,hp=>by simp only[pur]at hp;cases hp;exact h
 | .iface t x,u,c,hown,h,hp=>by
   simp only[pur]at hp;obtain⟨x',hx,rfl⟩:=zAb.1 hp;simp only[rep]at h⊢;obtain⟨y,h1,h2⟩:=h;exact⟨y,h1,mD H hM (by simpa only[aA]using hown) h2 hx⟩
 | .niliface,u,c,_,h,hp=>by simp only[pur]at hp;cases hp;exact h
 | .tup vs,u,c,hown,h,hp=>by
   simp only[pur]at hp;obtain⟨us,hus,rfl⟩:=zAb.1 hp;simp only[rep]at h⊢;obtain⟨arr,h1,h2⟩:=h;exact⟨arr,h1,bo H hM (by simpa only[aA]using hown) h2 hus⟩
 | .junk,u,c,_,h,hp=>by simp only[pur]at hp;cases hp;exact h
theorem bo(H:Rel N M0 B w0 κ M σ a w){M':Mem}(hM:∀p v,M p=some v->M' p=some v):∀{vs us:List V}{cs:List Value}(hown:∀id∈ak vs,∀g,κ.bl id g->∀p,p.block=g->M' p=w.cell? p),ae M (XX κ σ.h) vs cs->purs σ.h vs=some us->ae M' NX us cs
 |[],us,cs,_,h,hp=>by simp only[purs]at hp;cases hp;exact h
 |v::vs,us,cs,hown,h,hp=>by
   simp only[purs]at hp;split at hp
   ·rename_i u us' hu hus
    cases hp;simp only[ae]at h⊢;obtain⟨c,cs',h1,h2,h3⟩:=h;simp only[ak,zBb]at hown;exact⟨c,cs',h1,mD H hM (fun id hi=>hown id (.inl hi)) h2 hu,bo H hM (fun id hi=>hown id (.inr hi)) h3 hus⟩
   ·cases hp
end
mutual
theorem lN{M M':Mem}{X X':V->Value->Prop}:∀{v:V}{c:Value},cI v=true->rep M X v c->rep M' X' v c
 | .int _ _,_,_,h=>h
 | .bool _,_,_,h=>h
 | .str _,_,_,h=>h
 | .nil _,_,_,h=>h
 | .seq sz l,_,hf,h=>by
   simp only[cI]at hf;have:l=[]:=by simpa using hf
   subst this;simp only[rep]at h⊢;obtain⟨a,cap,h1,h1',h2,h3,_⟩:=h;exact⟨a,cap,h1,h1',h2,h3,by simp⟩
 | .strct cs,c,hf,h=>by
   simp only[cI]at hf;simp only[rep]at h⊢;obtain⟨arr,h1,h2,h3⟩:=h;exact⟨arr,h1,hO hf h2,h3⟩
 | .ref _ _,_,hf,_=>by simp[cI]at hf
 | .ptr _ _,_,hf,_=>by simp[cI]at hf
 | .eptr _ _ _ _,_,hf,_=>by simp[cI]at hf
 | .mref _ _ _,_,hf,_=>by simp[cI]at hf
 | .fseq _ _,_,hf,_=>by simp[cI]at hf
 | .mptr _ _ _ _ _,_,hf,_=>by simp[cI]at hf
 | .q _ _ _ _ _,_,hf,_=>by simp[cI]at hf
 | .sptr _ _,_,hf,_=>by simp[cI]at hf
 | .nilptr,_,_,h=>h
 | .fn f x y,c,hf,h=>by
   simp only[cI,zAd]at hf;simp only[rep]at h⊢;obtain⟨a1,a2,h1,h2,h3⟩:=h;exact⟨a1,a2,h1,hO hf.1 h2,hO hf.2 h3⟩
 | .nilfn,_,_,h=>h
 | .nilmp,_,_,h=>h
 | .iface t x,c,hf,h=>by
   simp only[cI]at hf;simp only[rep]at h⊢;obtain⟨y,h1,h2⟩:=h;exact⟨y,h1,lN hf h2⟩
 | .niliface,_,_,h=>h
 | .tup vs,c,hf,h=>by
   simp only[cI]at hf;simp only[rep]at h⊢;obtain⟨arr,h1,h2⟩:=h;exact⟨arr,h1,hO hf h2⟩
 | .junk,_,_,h=>h
theorem hO{M M':Mem}{X X':V->Value->Prop}:∀{vs:List V}{cs:List Value},dB vs=true->ae M X vs cs->ae M' X' vs cs
 |[],_,_,h=>h
 |v::vs,cs,hf,h=>by
   simp only[dB,zAd]at hf;simp only[ae]at h⊢;obtain⟨c,cs',h1,h2,h3⟩:=h;exact⟨c,cs',h1,lN hf.1 h2,hO hf.2 h3⟩
end
mutual
theorem jM{M:Mem}{X:V->Value->Prop}:∀{v:V}{c:Value},rep M X v c->ok v
 | .int _ _,_,h=>by simp only[rep]at h;exact h.2
 | .bool _,_,_=>trivial
 | .str _,_,h=>by simp only[rep]at h;obtain⟨_,_,_,h⟩:=h;exact h
 | .nil _,_,_=>trivial
 | .seq sz l,_,h=>by
   simp only[rep]at h;obtain⟨a,cap,_,_,h2,_,h3⟩:=h;simp only[ok];refine⟨h2,?_⟩;rcases h3 with rfl|⟨b,off,_,h4⟩
   ·trivial
   ·exact DM h4
 | .strct cs,c,h=>by
   simp only[rep]at h;obtain⟨arr,_,h2,_⟩:=h;simp only[ok];exact c8 h2
 | .ref _ _,_,_=>trivial
 | .ptr _ _,_,_=>trivial
 | .eptr _ _ _ _,_,_=>trivial
 | .mref _ _ _,_,_=>trivial
 | .fseq _ _,_,_=>trivial
 | .mptr _ _ _ _ _,_,_=>trivial
 | .q _ _ _ _ _,_,_=>trivial
 | .sptr x _,_,h=>by
   simp only[rep]at h;obtain⟨_,_,y,_,h2,_⟩:=h;simp only[ok];exact jM h2
 | .nilptr,_,_=>trivial
 | .fn f x y,c,h=>by
   simp only[rep]at h;obtain⟨a1,a2,h1,h2,h3⟩:=h;exact⟨c8 h2,c8 h3⟩
 | .nilfn,_,_=>trivial
 | .nilmp,_,_=>trivial
 | .iface t x,c,h=>by
   simp only[rep]at h;obtain⟨y,h1,h2⟩:=h;simp only[ok];exact jM h2
 | .niliface,_,_=>trivial
 | .tup vs,c,h=>by
   simp only[rep]at h;obtain⟨arr,h1,h2⟩:=h;simp only[ok];exact c8 h2
 | .junk,_,_=>trivial
theorem c8{M:Mem}{X:V->Value->Prop}:∀{vs:List V}{cs:List Value},ae M X vs cs->oks vs
 |[],_,_=>trivial
 |v::vs,cs,h=>by
   simp only[ae]at h;obtain⟨c,cs',h1,h2,h3⟩:=h;exact⟨jM h2,c8 h3⟩
theorem DM{M:Mem}:∀{sz:Nat}{l:List V}{b off:Nat},bB M sz l b off->oks l
 |_,[],_,_,_=>trivial
 |sz,v::vs,b,off,h=>by
   simp only[bB]at h;obtain⟨⟨y,h1,_⟩,h2⟩:=h;exact⟨jM h1,DM h2⟩
end
def gp(κ:Kap)(ids:List Nat):Nat->Prop:=fun g=>∃id∈ids,κ.bl id g
theorem cf{g:Nat}{ids:List Nat}:gp κ ids g↔∃id∈ids,κ.bl id g:=zAf
theorem oW:∀(ids:List Nat)(σ:St),(σ.kill ids).r=σ.r/\(σ.kill ids).h.length=σ.h.length/\∀i ob,(σ.kill ids).h[i]?=some (some ob)->σ.h[i]?=some (some ob)/\i ∉ ids
 |[],σ=>⟨rfl,rfl,fun i ob h=>⟨h,by simp⟩⟩
 |id::ids,σ=>by
   simp only[St.kill];obtain⟨h1,h2,h3⟩:=oW ids { σ with h:=σ.h.set id none }
   refine⟨h1,by simpa using h2,fun i ob h=>?_⟩
   obtain⟨h4,h5⟩:=h3 i ob h;simp only[zBd]at h4;split at h4
   ·rename_i he
    split at h4<;>cases h4
   ·rename_i he
    exact⟨h4,by simp;exact⟨fun e=>he e.symm,h5⟩⟩
theorem Rel.kill(H:Rel N M0 B w0 κ M σ a w)(ids:List Nat)(hin:∀id∈ids,∃ob,σ.h[id]?=some (some ob)):
 Rel N M0 B w0 κ (ext M w (gp κ ids)) (σ.kill ids) a w/\(∀p v,M p=some v->ext M w (gp κ ids) p=some v):=by
 obtain⟨k1,k2,k3⟩:=oW ids σ
 have hM:∀p v,M p=some v->ext M w (gp κ ids) p=some v:=by
  intro p v h;unfold ext;split
  ·exact H.snd p v h
  ·exact h
 have hs:∀p v,ext M w (gp κ ids) p=some v->w.cell? p=some v:=by
  intro p v h;unfold ext at h;split at h
  ·exact h
  ·exact H.snd p v h
 have hX:∀v c,XX κ σ.h v c->XX κ (σ.kill ids).h v c:=fun v c hx=>Kg hx (by omega) (fun _ _=>rfl) (fun _ _=>rfl) (fun i ob hi h=>(k3 i ob h).1)
 refine⟨{ dfr:=H.dfr,jst:=H.jst,pin:=H.pin,size:=H.size,regs:=?_,heap:=?_,inj:=?_,snd:=hs,sep:=?_,sub:=⟨fun p v h=>hM p v (H.sub.sub p v h),fun p v h=>hM p v (H.sub.fmS p v h),H.sub.fmN,H.sub.fbn,H.sub.gl⟩,new:=?_,base:=H.base,blw:=H.blw },hM⟩
 ·intro t v ht
  rw[k1]at ht;obtain⟨h1,c,h2,h3⟩:=H.regs t v ht;exact⟨h1,c,h2,aw hM hX _ _ h3⟩
 ·intro id ob h
  exact c9 hM hX ⟨rfl,rfl,rfl⟩ (fun _ _=>rfl) H.jst (Und.refl _ _) hs (H.heap id ob (k3 id ob h).1)
 ·intro i j oi oj g hi hj
  exact H.inj i j oi oj g (k3 i oi hi).1 (k3 j oj hj).1
 ·intro p v hp id ob h
  obtain⟨h1,h2⟩:=k3 id ob h;unfold ext at hp;split at hp
  ·rename_i hm
   obtain⟨id',h3,h4⟩:=cf.1 hm;obtain⟨ob',h5⟩:=hin id' h3;intro hg;have:=H.inj id' id ob' ob p.block h5 h1 h4 hg;subst this;exact h2 h3
  ·exact H.sep p v hp id ob h1
 ·intro p v hp
  unfold ext at hp;split at hp
  ·rename_i hm
   obtain⟨id',h3,h4⟩:=cf.1 hm;obtain⟨ob',h5⟩:=hin id' h3;exact .inr (H.blk_lt h5 h4).1
  ·exact H.new p v hp
mutual
theorem KV{h:List (Option Ob)}:∀{v u:V},pur h v=some u->∀id∈aA v,∃ob,h[id]?=some (some ob)
 | .int _ _,_,_,_,hi=>by simp[aA]at hi
 | .bool _,_,_,_,hi=>by simp[aA]at hi
 | .str _,_,_,_,hi=>by simp[aA]at hi
 | .nil _,_,_,_,hi=>by simp[aA]at hi
 | .seq _ _,_,_,_,hi=>by simp[aA]at hi
 | .sptr _ _,_,_,_,hi=>by simp[aA]at hi
 | .nilptr,_,_,_,hi=>by simp[aA]at hi
 | .nilfn,_,_,_,hi=>by simp[aA]at hi
 | .nilmp,_,_,_,hi=>by simp[aA]at hi
 | .niliface,_,_,_,hi=>by simp[aA]at hi
 | .junk,_,_,_,hi=>by simp[aA]at hi
 | .ref i n,u,hp,id,hi=>by
   simp only[aA,zCg]at hi;subst hi;simp only[pur,pur1]at hp;split at hp
   ·exact⟨_,by assumption⟩
   ·exact⟨_,by assumption⟩
   ·cases hp
 | .fseq _ _,_,_,_,hi=>by simp[aA]at hi
 | .mref j i n,u,hp,id,hi=>by
   simp only[aA,zCg]at hi;subst hi;simp only[pur,pur2]at hp;split at hp
   ·exact⟨_,by assumption⟩
   ·cases hp
 | .mptr _ _ _ _ _,_,hp,_,_=>by simp[pur]at hp
 | .q _ _ _ _ _,_,hp,_,_=>by simp[pur]at hp
 | .ptr _ _,_,hp,_,_=>by simp[pur]at hp
 | .eptr _ _ _ _,_,hp,_,_=>by simp[pur]at hp
 | .strct cs,u,hp,id,hi=>by
   simp only[pur]at hp;obtain⟨us,hus,_⟩:=zAb.1 hp;exact dr hus id (by simpa only[aA]using hi)
 | .tup cs,u,hp,id,hi=>by
   simp only[pur]at hp;obtain⟨us,hus,_⟩:=zAb.1 hp;exact dr hus id (by simpa only[aA]using hi)
 | .fn f x y,u,hp,id,hi=>by
   simp only[pur]at hp;split at hp
   ·rename_i x' y' hx hy
    simp only[aA,zBb]at hi;rcases hi with hi|hi
    ·exact dr hx id hi
    ·exact dr hy id hi
   ·cases hp
 | .iface t x,u,hp,id,hi=>by
   simp only[pur]at hp;obtain⟨x',hx,_⟩:=zAb.1 hp;exact KV hx id (by simpa only[aA]using hi)
theorem dr{h:List (Option Ob)}:∀{vs us:List V},purs h vs=some us->∀id∈ak vs,∃ob,h[id]?=some (some ob)
 |[],_,_,_,hi=>by simp[ak]at hi
 |v::vs,us,hp,id,hi=>by
   simp only[purs]at hp;split at hp
   ·rename_i u us' hu hus
    simp only[ak,zBb]at hi;rcases hi with hi|hi
    ·exact KV hu id hi
    ·exact dr hus id hi
   ·cases hp
end
def wT:List Rw->Bool
 |[]=>true
 | .a r::l=>dB r&&wT l
 | .g _::_=>false
theorem JA:∀{rows:List Rw}{i:Nat}{r:List V},wT rows=true->aT rows i=some r->dB r=true
 |[],i,r,_,h=>by simp[aT]at h
 | .a x::rows,i,r,hf,h=>by
   simp only[wT,zAd]at hf;cases i with
   |zero=>simp[aT]at h;rw[<-h];exact hf.1
   |succ i=>exact JA (i:=i) hf.2 (by simpa[aT]using h)
 | .g _::rows,i,r,hf,h=>by simp[wT]at hf
mutual
def fre(h:List (Option Ob)):V->Bool
 | .ref id _=>match h[id]? with
   |some (some (.arr _ _ l))=>dB l
   |some (some (.mat _ _ _ rows))=>wT rows
   |_=>false
 | .nil _=>true
 | .strct cs=>Ar h cs
 | .tup cs=>Ar h cs
 | .int _ _=>true
 | .bool _=>true
 | .str _=>true
 | .nilptr=>true
 | .nilfn=>true
 | .nilmp=>true
 | .niliface=>true
 | .seq _ l=>l.isEmpty
 | .fseq _ _=>true
 |_=>false
def Ar(h:List (Option Ob)):List V->Bool
 |[]=>true
 |v::vs=>fre h v&&Ar h vs
end
theorem oz{M M':Mem}{sz:Nat}:∀{l:List V}{xs:List Value},dB l=true->ap M sz l xs->ap M' sz l xs
 |[],_,_,h=>h
 |v::vs,xs,hf,h=>by
   simp only[dB,zAd]at hf;simp only[ap]at h⊢;obtain⟨y,rest,h1,h2,h3,h4,h5⟩:=h;exact⟨y,rest,h1,lN hf.1 h2,h3,h4,oz hf.2 h5⟩
mutual
theorem Vy(H:Rel N M0 B w0 κ M σ a w){Mn:Mem}(hfm:∀p v,κ.fm p=some v->Mn p=some v):∀{v u:V}{c:Value}(hown:∀id∈aA v,∀g,κ.bl id g->∀p,p.block=g->Mn p=w.cell? p),fre σ.h v=true->rep M (XX κ σ.h) v c->pur σ.h v=some u->rep Mn NX u c
 | .ref id n,u,c,hown,hf,h,hp=>by
   simp only[pur,pur1]at hp;split at hp
   ·rename_i e sz l hh
    split at hp
    ·rename_i hn
     cases hp;simp only[fre,hh]at hf;simp only[rep,XX]at h;have hc:=(h.2.2.1 e sz l hh).2 hn;obtain⟨h0,h1,xs,h2,h3,_,hbl⟩:=H.heap id _ hh;rw[hc];exact tE (Mr:=Mn) (fun _ _ h=>h) h2 (oz hf h3) h0 h1 fun g hg=>hown id (by simp[aA]) g ((hbl g).2 hg)
    ·cases hp
   ·rename_i e e2 sz rows hh
    split at hp
    ·rename_i hn
     obtain⟨vs,hvs,rfl⟩:=zAb.1 hp;simp only[fre,hh]at hf;simp only[rep,XX]at h;have hc:=(h.2.2.2.1 e e2 sz rows hh).2 hn;rw[hc];exact M9 (Mr:=Mn) (fun _ _ h=>h) (H.heap id _ hh) (fun i r xs hi h=>oz (JA hf hi) h) hvs (hown id (by simp[aA]))
    ·cases hp
   ·cases hp
 | .nil sz,u,c,_,_,h,hp=>by
   simp only[pur]at hp;cases hp;simp only[rep]at h⊢;exact⟨none,0,by simpa using h.1,by simp,by simp,h.2,by simp⟩
 | .strct cs,u,c,hown,hf,h,hp=>by
   simp only[pur]at hp;obtain⟨us,hus,rfl⟩:=zAb.1 hp;simp only[rep]at h⊢;obtain⟨arr,h1,h2,h3⟩:=h;exact⟨arr,h1,ur H hfm (by simpa only[aA]using hown) (by simpa only[fre]using hf) h2 hus,h3⟩
 | .tup cs,u,c,hown,hf,h,hp=>by
   simp only[pur]at hp;obtain⟨us,hus,rfl⟩:=zAb.1 hp;simp only[rep]at h⊢;obtain⟨arr,h1,h2⟩:=h;exact⟨arr,h1,ur H hfm (by simpa only[aA]using hown) (by simpa only[fre]using hf) h2 hus⟩
 | .int _ _,_,_,_,_,h,hp=>by simp only[pur]at hp;cases hp;exact h
 | .bool _,_,_,_,_,h,hp=>by simp only[pur]at hp;cases hp;exact h
 | .str _,_,_,_,_,h,hp=>by simp only[pur]at hp;cases hp;exact h
 | .nilptr,_,_,_,_,h,hp=>by simp only[pur]at hp;cases hp;exact h
 | .nilfn,_,_,_,_,h,hp=>by simp only[pur]at hp;cases hp;exact h
 | .nilmp,_,_,_,_,h,hp=>by simp only[pur]at hp;cases hp;exact h
 | .niliface,_,_,_,_,h,hp=>by simp only[pur]at hp;cases hp;exact h
 | .seq sz l,_,_,_,hf,h,hp=>by
   simp only[pur]at hp;cases hp;exact lN (v:=.seq sz l) (by simpa only[cI,fre]using hf) h
 | .ptr _ _,_,_,_,hf,_,_=>by simp[fre]at hf
 | .eptr _ _ _ _,_,_,_,hf,_,_=>by simp[fre]at hf
 | .mref _ _ _,_,_,_,hf,_,_=>by simp[fre]at hf
 | .fseq sz l,_,c,_,_,h,hp=>by
   simp only[pur]at hp;cases hp;simp only[rep,XX]at h;exact aw hfm (X:=NX) (fun _ _ h=>h) (.seq sz l) c (by simp only[rep];exact h.2)
 | .mptr _ _ _ _ _,_,_,_,hf,_,_=>by simp[fre]at hf
 | .q _ _ _ _ _,_,_,_,hf,_,_=>by simp[fre]at hf
 | .sptr _ _,_,_,_,hf,_,_=>by simp[fre]at hf
 | .fn _ _ _,_,_,_,hf,_,_=>by simp[fre]at hf
 | .iface _ _,_,_,_,hf,_,_=>by simp[fre]at hf
 | .junk,_,_,_,hf,_,_=>by simp[fre]at hf
theorem ur(H:Rel N M0 B w0 κ M σ a w){Mn:Mem}(hfm:∀p v,κ.fm p=some v->Mn p=some v):∀{vs us:List V}{cs:List Value}(hown:∀id∈ak vs,∀g,κ.bl id g->∀p,p.block=g->Mn p=w.cell? p),Ar σ.h vs=true->ae M (XX κ σ.h) vs cs->purs σ.h vs=some us->ae Mn NX us cs
 |[],us,cs,_,_,h,hp=>by simp only[purs]at hp;cases hp;exact h
 |v::vs,us,cs,hown,hf,h,hp=>by
   simp only[purs]at hp;split at hp
   ·rename_i u us' hu hus
    cases hp;simp only[Ar,zAd]at hf;simp only[ae]at h⊢;obtain⟨c,cs',h1,h2,h3⟩:=h;exact⟨c,cs',h1,Vy H hfm (fun id hid=>hown id (by simp only[ak,zBb];exact .inl hid)) hf.1 h2 hu,ur H hfm (fun id hid=>hown id (by simp only[ak,zBb];exact .inr hid)) hf.2 h3 hus⟩
   ·cases hp
end
end
section
variable{P:Program}{N:Nat}{M0:Mem}{B:Bas}{w0:World}{κ:Kap}{M:Mem}{σ:St}{a:Act}{w w':World}
theorem bN:∀(l acc:List Nat),acc.Nodup->(bY acc l).Nodup
 |[],acc,h=>h
 |k::ks,acc,h=>by
   simp only[bY];split
   ·exact bN ks acc h
   ·rename_i hk
    refine bN ks _ ?_;rw[List.nodup_append];exact⟨h,by simp,fun x hx y hy=>by simp at hy;subst hy;rintro rfl;exact hk (ij.2 hx)⟩
theorem jT{id:Nat}:∀{m:List Nat}{j:Nat},idx id m=some j->m[j]?=some id
 |[],j,h=>by simp[idx]at h
 |k::ks,j,h=>by
   simp only[idx]at h;split at h
   ·rename_i he;cases h;simp[he]
   ·obtain⟨j',h1,rfl⟩:=zAb.1 h
    simpa using jT h1
theorem Fx{m:List Nat}:∀{r:List (Nat×V)}{t:Nat}{v:V},lk (Bm m r) t=some v->∃u,lk r t=some u/\v=ren m u
 |[],t,v,h=>by simp[Bm,lk]at h
 |(k,u)::r,t,v,h=>by
   simp only[Bm,lk]at h⊢;split at h
   ·rename_i he;rw[if_pos he];cases h;exact⟨u,rfl,rfl⟩
   ·rename_i he;rw[if_neg he];exact Fx h
theorem ib{h:List (Option Ob)}{m:List Nat}:∀{ids:List Nat}{j:Nat}{ob:Ob},(fL h m ids)[j]?=some (some ob)->∃id ob',ids[j]?=some id/\h[id]?=some (some ob')/\bH m (some ob')=some ob
 |[],j,ob,hj=>by simp[fL]at hj
 |id::ids,0,ob,hj=>by
   simp only[fL,List.getElem?_cons_zero,zA]at hj;cases hg:h[id]? with
   |none=>simp[zC,hg,bH]at hj
   |some o=>
     cases o with
     |none=>simp[zC,hg,bH]at hj
     |some ob'=>exact⟨id,ob',by simp,hg,by simpa[zC,hg]using hj⟩
 |id::ids,j+1,ob,hj=>by
   simp only[fL,List.getElem?_cons_succ]at hj⊢;exact ib hj
theorem d4{h:List (Option Ob)}{m:List Nat}:∀{ids:List Nat},(fL h m ids).length=ids.length
 |[]=>rfl
 |id::ids=>by simp[fL,d4]
mutual
theorem ye{m:List Nat}{X X':V->Value->Prop}(hX:∀v c,X v c->rep M X' (ren m v) c):∀{v:V}{c:Value},rep M X v c->rep M X' (ren m v) c
 | .int _ _,_,h=>h
 | .bool _,_,h=>h
 | .str _,_,h=>h
 | .nil _,_,h=>h
 | .seq _ _,_,h=>h
 | .sptr _ _,_,h=>h
 | .nilptr,_,h=>h
 | .nilfn,_,h=>h
 | .nilmp,_,h=>h
 | .niliface,_,h=>h
 | .junk,_,h=>h
 | .ref _ _,_,h=>hX _ _ h
 | .ptr _ _,_,h=>hX _ _ h
 | .eptr _ _ _ _,_,h=>hX _ _ h
 | .mref _ _ _,_,h=>hX _ _ h
 | .fseq _ _,_,h=>hX _ _ h
 | .mptr _ _ _ _ _,_,h=>hX _ _ h
 | .q _ _ _ _ _,_,h=>hX _ _ h
 | .strct cs,c,h=>by
   simp only[rep,ren]at h⊢;obtain⟨arr,h1,h2,h3⟩:=h;exact⟨arr,h1,hY hX h2,h3⟩
 | .tup cs,c,h=>by
   simp only[rep,ren]at h⊢;obtain⟨arr,h1,h2⟩:=h;exact⟨arr,h1,hY hX h2⟩
 | .fn f x y,c,h=>by
   simp only[rep,ren]at h⊢;obtain⟨a1,a2,h1,h2,h3⟩:=h;exact⟨a1,a2,h1,hY hX h2,hY hX h3⟩
 | .iface t x,c,h=>by
   simp only[rep,ren]at h⊢;obtain⟨y,h1,h2⟩:=h;exact⟨y,h1,ye hX h2⟩
theorem hY{m:List Nat}{X X':V->Value->Prop}(hX:∀v c,X v c->rep M X' (ren m v) c):∀{vs:List V}{cs:List Value},ae M X vs cs->ae M X' (dO m vs) cs
 |[],_,h=>h
 |v::vs,cs,h=>by
   simp only[ae,dO]at h⊢;obtain⟨c,cs',h1,h2,h3⟩:=h;exact⟨c,cs',h1,ye hX h2,hY hX h3⟩
end
def Kap.ren(κ:Kap)(m:List Nat):Kap:=⟨fun j=>κ (m.getD j 0),fun j=>κ.row (m.getD j 0),fun j=>κ.bl (m.getD j 0),κ.fm⟩
theorem Ib{m:List Nat}{o:Ob}{e sz:Nat}{l:List V}(h:bH m (some o)=some (.arr e sz l)):o=.arr e sz l:=by
 cases o<;>simp only[bH,zA]at h<;>first|exact h|cases h
theorem tH{m:List Nat}{o:Ob}{e e2 sz:Nat}{l:List Rw}(h:bH m (some o)=some (.mat e e2 sz l)):o=.mat e e2 sz l:=by
 cases o<;>simp only[bH,zA]at h<;>first|exact h|cases h
theorem Rk{m:List Nat}{o:Ob}{l:List V}(h:bH m (some o)=some (.box l)):∃l',o=.box l'/\l=dO m l':=by
 cases o<;>simp only[bH,zA]at h
 ·cases h;exact⟨_,rfl,rfl⟩
 ·cases h
 ·cases h
 ·cases h
 ·cases h
 ·cases h
 ·cases h
 ·cases h
theorem Ia{m:List Nat}{o o':Ob}(h:bH m (some o)=some o')(hn:o'.nam=true):o=o':=by
 cases o<;>simp only[bH,zA]at h<;>first|exact h|(subst h;cases hn)
theorem wj{h:List (Option Ob)}{m:List Nat}(hm:m.Nodup):∀v c,XX κ h v c->rep M (XX (κ.ren m) (fL h m m)) (ren m v) c:=by
 intro v c hx;have key:∀{id j:Nat},m[j]?=some id->(κ.ren m) j=κ id/\(κ.ren m).row j=κ.row id:=fun{id j} h=>by simp[Kap.ren,zC,h]
 have back:∀{id j:Nat}{ob:Ob},m[j]?=some id->(fL h m m)[j]?=some (some ob)->∃ob',h[id]?=some (some ob')/\bH m (some ob')=some ob:=by
  intro id j ob hj hl;obtain⟨id',ob',h1,h2,h3⟩:=ib hl;rw[hj]at h1;cases h1;exact⟨ob',h2,h3⟩
 cases v<;>simp only[XX]at hx
 case ref id n=>
  simp only[ren];split
  ·rename_i j hj
   have hmj:=jT hj;simp only[rep,XX];rw[(key hmj).1];refine⟨hx.1,by rw[d4];exact(zAa.1 hmj).1,fun e sz l hl=>?_,fun e e2 sz l hl=>?_,fun o hl hn=>?_⟩
   ·obtain⟨ob',h2,h3⟩:=back hmj hl
    rw[Ib h3]at h2;exact hx.2.2.1 e sz l h2
   ·obtain⟨ob',h2,h3⟩:=back hmj hl
    rw[tH h3]at h2;exact hx.2.2.2.1 e e2 sz l h2
   ·obtain⟨ob',h2,h3⟩:=back hmj hl
    rw[Ia h3 hn]at h2;exact hx.2.2.2.2 o h2 hn
  ·exact hx.1
 case ptr id off=>
  simp only[ren];split
  ·rename_i j hj
   have hmj:=jT hj;simp only[rep,XX];rw[(key hmj).1];refine⟨hx.1,by rw[d4];exact(zAa.1 hmj).1,fun cs hl=>?_⟩
   obtain⟨ob',h2,h3⟩:=back hmj hl;obtain⟨l',rfl,rfl⟩:=Rk h3;exact hx.2.2 _ h2
  ·exact hx.1
 case eptr id n i off=>
  simp only[ren];split
  ·rename_i j hj
   have hmj:=jT hj;simp only[rep,XX];rw[(key hmj).1];refine⟨hx.1,by rw[d4];exact(zAa.1 hmj).1,fun e sz l hl=>?_,fun e e2 sz l hl=>?_⟩
   ·obtain⟨ob',h2,h3⟩:=back hmj hl
    rw[Ib h3]at h2;exact hx.2.2.1 e sz l h2
   ·obtain⟨ob',h2,h3⟩:=back hmj hl
    rw[tH h3]at h2;exact hx.2.2.2 e e2 sz l h2
  ·exact hx.1
 case fseq sz l=>
  simp only[ren,rep,XX];exact hx
 case mref id i n=>
  simp only[ren];split
  ·rename_i j hj
   have hmj:=jT hj;simp only[rep,XX];rw[(key hmj).2];refine⟨hx.1,by rw[d4];exact(zAa.1 hmj).1,fun e e2 sz l hl=>?_⟩
   obtain⟨ob',h2,h3⟩:=back hmj hl;rw[tH h3]at h2;exact hx.2.2 e e2 sz l h2
  ·exact hx.1
 case mptr id i n k off=>
  simp only[ren];split
  ·rename_i j hj
   have hmj:=jT hj;simp only[rep,XX];rw[(key hmj).2];refine⟨hx.1,by rw[d4];exact(zAa.1 hmj).1,fun e e2 sz l hl=>?_⟩
   obtain⟨ob',h2,h3⟩:=back hmj hl;rw[tH h3]at h2;exact hx.2.2 e e2 sz l h2
  ·exact hx.1
 case q k jj n i off=>
  simp only[ren];split
  ·rename_i t
   simp only[rep,XX];refine⟨hx.1,by rw[d4];simp,fun ms hl=>?_⟩
   obtain⟨ob',h2,h3⟩:=back (j:=0) (id:=0) (by simp) hl
   have h4:ob'=.pool ms:=by cases ob'<;>simp[bH]at h3;subst h3;rfl
   subst h4;rw[ew (key (j:=0) (id:=0) (by simp)).2]
   exact hx.2.2 ms h2
  ·exact hx.1
def Te(h:List (Option Ob))(m:List Nat):Prop:=∀ms,h[0]?=some (some (.pool ms))->∃t,m=0::t
theorem Rel.ren(H:Rel N M0 B w0 κ M σ a w){m:List Nat}(hm:m.Nodup)(hpf:Te σ.h m)(r:List (Nat×V))(hr:∀t v,lk r t=some v->lk σ.r t=some v):
 Rel N M0 B w0 (κ.ren m) M { r:=Bm m r,h:=fL σ.h m m } a w where
 dfr:=H.dfr
 jst:=H.jst
 pin:=H.pin
 size:=H.size
 regs:=fun t v ht=>by
  obtain⟨u,h1,rfl⟩:=Fx ht;obtain⟨g1,c,g2,g3⟩:=H.regs t u (hr t u h1);exact⟨g1,c,g2,ye (wj hm) g3⟩
 heap:=fun j ob hj=>by
  obtain⟨id,ob',h1,h2,h3⟩:=ib hj;have ho:=H.heap id ob' h2;have hk:(κ.ren m) j=κ id/\(κ.ren m).row j=κ.row id/\(κ.ren m).bl j=κ.bl id:=by simp[Kap.ren,zC,h1]
  cases ob' with
  |box cs=>
    simp only[bH,zA]at h3;subst h3;simp only[aE]at ho⊢;rw[hk.1,hk.2.2];obtain⟨b,arr,T,g1,g2,g3,g4,g5⟩:=ho;exact⟨b,arr,T,g1,g2,g3,hY (wj hm) g4,g5⟩
  |arr e sz l=>
    simp only[bH,zA]at h3;subst h3;simp only[aE]at ho⊢;rw[hk.1,hk.2.2];exact ho
  |mat e e2 sz l=>
    simp only[bH,zA]at h3;subst h3;simp only[aE]at ho⊢;rw[hk.1,hk.2.1,hk.2.2];exact ho
  |mp kt l=>
    simp only[bH,zA]at h3;subst h3;simp only[aE]at ho⊢;rw[hk.1,hk.2.2];exact ho
  |tok c=>
    simp only[bH,zA]at h3;subst h3;simp only[aE]at ho⊢;rw[hk.1,hk.2.2];exact ho
  |pool ms=>
    simp only[bH,zA]at h3;subst h3;simp only[aE]at ho⊢;obtain⟨rfl,ho1,ho2,ho3,ho4,ho5⟩:=ho;obtain⟨t,ht⟩:=hpf ms h2
    have hj0:j=0:=by
     subst ht;exact(zDi (zAa.1 h1).1 hm).1 (h1.trans (by simp))
    subst hj0;rw[hk.2.1,hk.2.2];refine⟨rfl,fun q mb hq=>jE (fun _ _ h=>h) (fun v c hv=>?_) (by rw[hk.2.1]) (fun _ _=>rfl) (ho1 q mb hq),ho2,ho3,ho4,fun k j n i off c hg=>by rw[ew hk.2.1];exact ho5 k j n i off c hg⟩
    cases v<;>simp only[PX]at hv⊢<;>try exact hv.elim
    simp only[XX]at hv⊢;refine⟨hv.1,(zAa.1 hj).1,fun ms2 hm2=>?_⟩;rw[hj]at hm2;cases hm2;rw[ew hk.2.1];exact hv.2.2 ms h2
  |itr s p=>
    simp only[bH,zA]at h3;subst h3;simp only[aE]at ho⊢;rw[hk.1,hk.2.2];exact ho
  |gh l=>
    simp only[bH,zA]at h3;subst h3;simp only[aE]at ho⊢;rw[hk.1,hk.2.2];exact ho
 inj:=fun i j oi oj g hi hj gi gj=>by
  obtain⟨i',oi',h1,h2,_⟩:=ib hi;obtain⟨j',oj',h3,h4,_⟩:=ib hj;have e1:(κ.ren m).bl i=κ.bl i':=by simp[Kap.ren,zC,h1]
  have e2:(κ.ren m).bl j=κ.bl j':=by simp[Kap.ren,zC,h3]
  rw[e1]at gi;rw[e2]at gj;have:=H.inj i' j' oi' oj' g h2 h4 gi gj;subst this;exact(zDi (zAa.1 h1).1 hm).1 (h1.trans h3.symm)
 snd:=H.snd
 sep:=fun p v hp j ob hj=>by
  obtain⟨id,ob',h1,h2,_⟩:=ib hj;have e1:(κ.ren m).bl j=κ.bl id:=by simp[Kap.ren,zC,h1]
  rw[e1];exact H.sep p v hp id ob' h2
 sub:=H.sub
 new:=H.new
 base:=H.base
 blw:=H.blw
end
end Go.Abs
end
