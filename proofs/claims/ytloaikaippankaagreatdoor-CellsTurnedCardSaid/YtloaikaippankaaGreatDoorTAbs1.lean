/-
  An abstract machine of pure values beside the model's machine: values, what they stand for in memory, states. No condition.
  An abstract machine of pure values: its states, its operations, and what holds behind a piece of code ('W'). No condition.
  How a state of the abstract machine stands to a frame and a world of the model's. No condition.
  From the model's operations to those of the abstract machine: operations that turn nothing. No condition.
  Keys: values of plain cells, told apart as the model's machine tells them apart. No condition.
  From the model's operations to those of the abstract machine: each operation that turns nothing gives what its image gives. No condition.
  From the model's operations to those of the abstract machine: memory that is made, written, handed on. No condition.
  The abstract machine's numbers for what is the call's own, numbered anew; contracts of calls that turn what is lent to them. No condition.
  From the model's operations to those of the abstract machine: each operation, whatever it turns. No condition.
-/
import Derived.WalkKit
import Derived.Laws.AppendOwn
import Derived.Laws.MakeOwn
import Derived.Laws.BytesArg
import Derived.Laws.Tables
import Derived.Laws.Strings2
import Derived.RegionTactic
import Derived.Still
import Derived.DeepKeys3
import Derived.MapKept
import Derived.Laws.StructEq
set_option linter.unusedVariables false
set_option linter.unusedSimpArgs false
set_option linter.unusedSectionVars false
section
namespace Go.Abs
open Go.RowKit
abbrev Mem:=Addr→Option Value
def GLs:List (Nat × List Nat):=[(0,[0,1,56,2,57,49,28,3,61,58,42,50,38,29,17,4,62,47,59,36,45,43,51,22,53,39,33,30,24,18,12,5,63,55,48,27,60,41,37,16,46,35,44,21,52,32,23,11,54,26,40,15,34,20,31,10,25,14,19,9,13,8,7,6])]
def GLm:List Nat:=[1]
def GLv (n:Nat):Value:=.int .u8 (n % 256:Nat)
def GLt (g:Nat):List Nat:=match GLs.find? (fun t=>t.1 == g) with
 | some t=>t.2
 | none=>[]
def GL:Mem:=fun p=>if p=⟨p.block,p.off,none⟩ then ((GLt p.block)[p.off]?).map GLv else none
def Fr (M:Mem):Prop:=(∀ p v,GL p=some v→M p=some v)∧∀ b,b∈GLm→∃ m,M ⟨b,0,none⟩=some (.int .i64 m)
theorem Fr.mono {M M':Mem} (h:Fr M) (hM:∀ p v,M p=some v→M' p=some v):Fr M':=
 ⟨fun p v hp=>hM p v (h.1 p v hp),fun b hb=>by obtain ⟨m,hm⟩:=h.2 b hb; exact ⟨m,hM _ _ hm⟩⟩
inductive V where
 | int (k:IntKind) (n:Int)
 | bool (b:Bool)
 | str (s:List UInt8)
 | nil (sz:Nat)
 | seq (sz:Nat) (l:List V)
 | ref (id n:Nat)
 | strct (cs:List V)
 | ptr (id off:Nat)
 | eptr (id n i off:Nat)
 | mref (id i n:Nat)
 | fseq (sz:Nat) (l:List V)
 | mptr (id i n k off:Nat)
 | sptr (x:V) (off:Nat)
 | nilptr
 | fn (f:Fn) (first cap:List V)
 | nilfn
 | iface (t:TypeId) (x:V)
 | niliface
 | tup (vs:List V)
 | junk
 deriving Inhabited
abbrev NX:V→Value→Prop:=fun _ _=>False
def ar (c:Value):Prop:=c.oneCell'=true
mutual
def rep (M:Mem):(V→Value→Prop)→V→Value→Prop
 | _,.int k n,c=>c=.int k n∧k.min≤n∧n≤k.max
 | _,.bool b,c=>c=.bool b
 | _,.str s,c=>∃ bs:ByteArray,c=.string bs∧bs.data.toList=s∧s.length≤4611686018427387904
 | _,.nil sz,c=>c=.slice none 0 0∧0 < sz
 | _,.seq sz l,c=>∃ a cap,c=.slice a l.length cap∧l.length≤cap∧l.length≤140737488355328∧0 < sz∧(l=[]∨∃ b off,a=some ⟨b,off,none⟩∧bp M sz l b off)
 | X,.strct cs,c=>∃ arr:Array Value,c=.agg arr∧aa M X cs arr.toList∧∀ u∈arr.toList,ar u
 | _,.sptr x off,c=>∃ b o y,c=.pointer (some ⟨b,o + off,none⟩)∧rep M NX x y∧(∀ u∈y.cells.toList,ar u)∧∀ j,j < y.cells.size→M ⟨b,o + j,none⟩=y.cells[j]?
 | _,.nilptr,c=>c=.pointer none
 | X,.fn f fs cs,c=>∃ a1 a2:Array Value,c=.func f a1 a2∧aa M X fs a1.toList∧aa M X cs a2.toList
 | _,.nilfn,c=>c=.nilFunc
 | X,.iface t x,c=>∃ y,c=.iface t y∧rep M X x y
 | _,.niliface,c=>c=.nilIface
 | X,.tup vs,c=>∃ arr:Array Value,c=.tuple arr∧aa M X vs arr.toList
 | _,.junk,c=>ar c
 | X,.ref id n,c=>X (.ref id n) c
 | X,.ptr id n,c=>X (.ptr id n) c
 | X,.eptr id n i off,c=>X (.eptr id n i off) c
 | X,.mref id i n,c=>X (.mref id i n) c
 | X,.fseq sz l,c=>X (.fseq sz l) c
 | X,.mptr id i n k off,c=>X (.mptr id i n k off) c
def aa (M:Mem):(V→Value→Prop)→List V→List Value→Prop
 | _,[],cs=>cs=[]
 | X,v::vs,cs=>∃ c cs',cs=c::cs'∧rep M X v c∧aa M X vs cs'
def bp (M:Mem):Nat→List V→Nat→Nat→Prop
 | _,[],_,_=>True
 | sz,v::vs,b,off=>(∃ y,rep M NX v y∧y.cells.size=sz∧(∀ u∈y.cells.toList,ar u)∧∀ j,j < sz→M ⟨b,off + j,none⟩=y.cells[j]?)∧bp M sz vs b (off + sz)
end
section
variable {M M':Mem} (hM:∀ p u,M p=some u→M' p=some u)
include hM
mutual
theorem ax:∀ {X X':V→Value→Prop} (hX:∀ v c,X v c→X' v c) (v:V) (c:Value),rep M X v c→rep M' X' v c
 | _,_,_,.int _ _,_,h=>h
 | _,_,_,.bool _,_,h=>h
 | _,_,_,.str _,_,h=>h
 | _,_,_,.nil _,_,h=>h
 | _,_,_,.seq sz l,c,h=>by
   simp only [rep] at h ⊢
   obtain ⟨a,cap,h1,h1',h2,h2',h3⟩:=h
   refine ⟨a,cap,h1,h1',h2,h2',?_⟩
   rcases h3 with h3 | ⟨b,off,h4,h5⟩
   · exact .inl h3
   · exact .inr ⟨b,off,h4,m4 sz l b off h5⟩
 | _,_,hX,.strct cs,c,h=>by
   simp only [rep] at h ⊢
   obtain ⟨arr,h1,h2,h3⟩:=h
   exact ⟨arr,h1,aR hX cs _ h2,h3⟩
 | _,_,_,.sptr x off,c,h=>by
   simp only [rep] at h ⊢
   obtain ⟨b,o,y,h1,h2,h2',h3⟩:=h
   refine ⟨b,o,y,h1,ax (fun _ _ h=>h) x y h2,h2',fun j hj=>?_⟩
   have h4:=h3 j hj
   rw [Array.getElem?_eq_getElem hj] at h4 ⊢
   exact hM _ _ h4
 | _,_,_,.nilptr,_,h=>h
 | _,_,hX,.fn f fs cs,c,h=>by
   simp only [rep] at h ⊢
   obtain ⟨a1,a2,h1,h2,h3⟩:=h
   exact ⟨a1,a2,h1,aR hX fs _ h2,aR hX cs _ h3⟩
 | _,_,_,.nilfn,_,h=>h
 | _,_,hX,.iface t x,c,h=>by
   simp only [rep] at h ⊢
   obtain ⟨y,h1,h2⟩:=h
   exact ⟨y,h1,ax hX x y h2⟩
 | _,_,_,.niliface,_,h=>h
 | _,_,hX,.tup vs,c,h=>by
   simp only [rep] at h ⊢
   obtain ⟨arr,h1,h2⟩:=h
   exact ⟨arr,h1,aR hX vs _ h2⟩
 | _,_,_,.junk,_,h=>h
 | _,_,hX,.ref _ _,_,h=>hX _ _ h
 | _,_,hX,.ptr _ _,_,h=>hX _ _ h
 | _,_,hX,.eptr _ _ _ _,_,h=>hX _ _ h
 | _,_,hX,.mref _ _ _,_,h=>hX _ _ h
 | _,_,hX,.fseq _ _,_,h=>hX _ _ h
 | _,_,hX,.mptr _ _ _ _ _,_,h=>hX _ _ h
theorem aR:∀ {X X':V→Value→Prop} (hX:∀ v c,X v c→X' v c) (vs:List V) (cs:List Value),aa M X vs cs→aa M' X' vs cs
 | _,_,_,[],_,h=>h
 | _,_,hX,v::vs,cs,h=>by
   simp only [aa] at h ⊢
   obtain ⟨c,cs',h1,h2,h3⟩:=h
   exact ⟨c,cs',h1,ax hX v c h2,aR hX vs cs' h3⟩
theorem m4:∀ (sz:Nat) (l:List V) (b off:Nat),bp M sz l b off→bp M' sz l b off
 | _,[],_,_,_=>trivial
 | sz,v::vs,b,off,h=>by
   simp only [bp] at h ⊢
   obtain ⟨⟨y,h1,h2,h2',h3⟩,h4⟩:=h
   refine ⟨⟨y,ax (fun _ _ h=>h) v y h1,h2,h2',fun j hj=>?_⟩,m4 sz vs b _ h4⟩
   have h5:=h3 j hj
   rw [Array.getElem?_eq_getElem (by omega)] at h5 ⊢
   exact hM _ _ h5
end
end
theorem DW {M:Mem} {X X':V→Value→Prop} (hX:∀ v c,X v c→X' v c) {v:V} {c:Value} (h:rep M X v c):rep M X' v c:=ax (fun _ _ h=>h) hX v c h
theorem aA {M:Mem} {X:V→Value→Prop} {v:V} {c:Value} (h:rep M NX v c):rep M X v c:=DW (fun _ _ h=>h.elim) h
theorem aG {M:Mem} {X:V→Value→Prop}:∀ {vs:List V} {cs:List Value},aa M X vs cs→cs.length=vs.length
 | [],_,h=>by simp only [aa] at h; simp [h]
 | v::vs,_,h=>by
   simp only [aa] at h
   obtain ⟨c,cs',rfl,_,h3⟩:=h
   simp [aG h3]
theorem dr {M:Mem} {X:V→Value→Prop}:∀ {vs:List V} {cs:List Value},aa M X vs cs→∀ {i:Nat} {v:V},vs[i]?=some v→∃ c,cs[i]?=some c∧rep M X v c
 | [],_,h,i,v,hi=>by simp at hi
 | v::vs,_,h,i,u,hi=>by
   simp only [aa] at h
   obtain ⟨c,cs',rfl,h2,h3⟩:=h
   cases i with
   | zero=>simp at hi; subst hi; exact ⟨c,by simp,h2⟩
   | succ i=>simp at hi; simpa using dr h3 hi
theorem ci {M:Mem} {X:V→Value→Prop}:∀ {vs us:List V} {cs ds:List Value},aa M X vs cs→aa M X us ds→aa M X (vs++us) (cs++ds)
 | [],us,cs,ds,h,h'=>by simp only [aa] at h; simpa [h] using h'
 | v::vs,us,cs,ds,h,h'=>by
   simp only [aa] at h
   obtain ⟨c,cs',rfl,h2,h3⟩:=h
   simp only [List.cons_append,aa]
   exact ⟨c,cs'++ds,rfl,h2,ci h3 h'⟩
theorem jF {M:Mem} {X:V→Value→Prop}:∀ (n:Nat) {vs:List V} {cs:List Value},aa M X vs cs→aa M X (vs.take n) (cs.take n)
 | 0,_,_,_=>by simp [aa]
 | n + 1,[],_,h=>by simp only [aa] at h; simp [h,aa]
 | n + 1,v::vs,_,h=>by
   simp only [aa] at h
   obtain ⟨c,cs',rfl,h2,h3⟩:=h
   simp only [List.take_succ_cons,aa]
   exact ⟨c,cs'.take n,rfl,h2,jF n h3⟩
theorem jG {M:Mem} {X:V→Value→Prop}:∀ (n:Nat) {vs:List V} {cs:List Value},aa M X vs cs→aa M X (vs.drop n) (cs.drop n)
 | 0,_,_,h=>h
 | n + 1,[],_,h=>by simp only [aa] at h; simp [h,aa]
 | n + 1,v::vs,_,h=>by
   simp only [aa] at h
   obtain ⟨c,cs',rfl,h2,h3⟩:=h
   simpa using jG n h3
theorem wx {M:Mem} {X:V→Value→Prop}:∀ (n:Nat) {vs:List V} {cs:List Value} {v:V} {c:Value},aa M X vs cs→rep M X v c→aa M X (vs.set n v) (cs.set n c)
 | _,[],_,_,_,h,_=>by simp only [aa] at h; simp [h,aa]
 | 0,v::vs,_,_,_,h,h'=>by
   simp only [aa] at h
   obtain ⟨c,cs',rfl,h2,h3⟩:=h
   simp only [List.set_cons_zero,aa]
   exact ⟨_,_,rfl,h',h3⟩
 | n + 1,v::vs,_,_,_,h,h'=>by
   simp only [aa] at h
   obtain ⟨c,cs',rfl,h2,h3⟩:=h
   simp only [List.set_cons_succ,aa]
   exact ⟨_,_,rfl,h2,wx n h3 h'⟩
def cl:V→List V
 | .strct cs=>cs
 | v=>[v]
def mkc:Bool→List V→Option V
 | true,cs=>some (.strct cs)
 | false,[v]=>some v
 | false,_=>none
theorem IV {M:Mem} {X:V→Value→Prop} {v:V} {c:Value} (h:rep M X v c) (hc:c.cells=#[c]∨∃ cs,v=.strct cs):aa M X (cl v) c.cells.toList:=by
 cases v with
 | strct cs=>
   simp only [rep] at h
   obtain ⟨arr,rfl,h2,_⟩:=h
   simpa [cl,Value.cells] using h2
 | _=>
   rcases hc with hc | ⟨_,hc⟩
   · rw [hc]; simp only [cl,aa]; exact ⟨c,[],by simp,h,rfl⟩
   · cases hc
theorem bZ {c:Value} (h:ar c):c.cells=#[c]:=by cases c<;>simp_all [ar,Value.oneCell',Value.cells]
end Go.Abs
end
section
namespace Go.Abs
inductive KK where
 | i (k:IntKind)
 | b
 | s
 deriving DecidableEq,Inhabited
structure KT where
 agg:Bool
 ks:List KK
 deriving DecidableEq,Inhabited
def kOf:V→Option KK
 | .int k _=>some (.i k)
 | .bool _=>some .b
 | .str _=>some .s
 | _=>none
def aZ:List V→List (Option KK)
 | []=>[]
 | v::vs=>kOf v::aZ vs
def ay:List KK→List (Option KK)
 | []=>[]
 | k::ks=>some k::ay ks
def dA:V→Bool
 | .strct _=>true
 | _=>false
def aO (kt:KT) (v:V):Bool:=decide (dA v=kt.agg) && decide (aZ (cl v)=ay kt.ks)
def eqC:V→V→Bool
 | .int _ a,.int _ b=>decide (a=b)
 | .bool a,.bool b=>a == b
 | .str a,.str b=>decide (a=b)
 | _,_=>false
def jf:List V→List V→Bool
 | [],[]=>true
 | u::us,v::vs=>eqC u v && jf us vs
 | _,_=>false
def eqK (u v:V):Bool:=jf (cl u) (cl v)
def gk (k:V):List (V × V)→Option V
 | []=>none
 | (k',v)::l=>if eqK k k'=true then some v else gk k l
def io (k u:V):List (V × V)→List (V × V)
 | []=>[(k,u)]
 | (k',v)::l=>if eqK k k'=true then (k,u)::l else (k',v)::io k u l
inductive Rw where
 | a (l:List V)
 | g (k:Nat)
 deriving Inhabited
inductive Ob where
 | box (cs:List V)
 | arr (e sz:Nat) (l:List V)
 | mat (e e2 sz:Nat) (rows:List Rw)
 | mp (kt:KT) (l:List (V × V))
 | gh (l:List (V × Bool))
 | itr (s:List UInt8) (p:Nat)
 deriving Inhabited
structure St where
 r:List (Nat × V)
 h:List (Option Ob)
inductive AO where
 | t (n:Nat)
 | v (x:V)
 deriving Inhabited
inductive Act' where
 | mov (x:AO)
 | pick (c a b:AO)
 | fld (x:AO) (off n:Nat) (agg:Bool)
 | fa (x:AO) (off:Nat)
 | ia (x i:AO) (sz:Nat)
 | iaa (x i:AO) (len sz:Nat)
 | ld (x:AO) (n:Nat) (agg:Bool)
 | ixs (x i:AO)
 | ixa (x i:AO) (len sz:Nat) (agg:Bool)
 | bin (op:BinOp) (x y:AO)
 | un (op:UnOp) (x:AO)
 | cii (k:IntKind) (x:AO)
 | r2s (x:AO)
 | s2b (x:AO)
 | b2s (x:AO)
 | sls (x:AO) (lo hi:Option AO)
 | slq (x:AO) (lo hi:Option AO) (sz:Nat)
 | lens (x:AO)
 | lenq (x:AO)
 | beq (neg:Bool) (x y:AO)
 | ext (x:AO) (i:Nat)
 | bld (z:List V) (parts:List (Nat × Nat × AO))
 | lit (e sz:Nat) (xs:List AO)
 | ltr (e sz:Nat) (xs:List AO)
 | mkf (f:Fn) (first cap:List AO)
 | nlc (x:AO)
 | alc (z:List V)
 | box (x:AO)
 | st (n:Nat) (a x:AO)
 | app (x y:AO) (e sz by':Nat)
 | mks (e sz by':Nat) (z:V) (n:AO)
 | mk0 (e sz by':Nat) (n:AO)
 | mkm (e by' e2 sz:Nat) (n:AO)
 | call (f:FuncId) (xs:List AO)
 | callv (g:AO) (xs:List AO)
 | callH (f:FuncId) (xs:List AO)
 | mki (t:TypeId) (x:AO)
 | aeq (neg:Bool) (kt:KT) (x y:AO)
 | mkp (kt:KT)
 | lkp (kt:KT) (z:V) (ok:Bool) (x k:AO)
 | mup (kt:KT) (x k v:AO)
 | inv (tbl:List (Nat × FuncId)) (x:AO) (xs:List AO)
 | mm (mx:Bool) (x y:AO)
 | trc (x hi:AO) (sz:Nat)
 | nlq (k:Nat) (neg:Bool) (x:AO)
 | yld (g:AO) (xs:List AO)
 | rgs (x:AO)
 | nxs (x:AO)
 | bad
 deriving Inhabited
structure AOp where
 d:Option Nat
 a:Act'
 g:Option (Nat × Bool)
 deriving Inhabited
inductive OT where
 | nil
 | op (x:AOp) (t:OT)
 | both (a b:OT)
 deriving Inhabited
inductive AC where
 | skip
 | reg (ops:List AOp) (ks:List Nat)
 | regD (ops:List AOp) (ks:List Nat)
 | regE (alts:List (List AOp)) (ks:List Nat)
 | regF (t:OT) (ks:List Nat)
 | scope (l:Nat) (ks:List Nat) (a b:AC)
 | label (l:Nat)
 | goto (l:Nat)
 | bad
 | seq (a b:AC)
 | cond (c:AO) (a b:AC)
 | block (id:Nat) (c:AC)
 | loop (ks:List Nat) (c:AC)
 | exit (id:Nat)
 | ret
 deriving Inhabited
def lk:List (Nat × V)→Nat→Option V
 | [],_=>none
 | (k,v)::r,t=>if k=t then some v else lk r t
def ip:Nat→List Nat→Bool
 | _,[]=>false
 | n,k::ks=>if n=k then true else ip n ks
def pk (r:List (Nat × V)):List Nat→List (Nat × V)
 | []=>[]
 | k::ks=>match lk r k with
   | some v=>(k,v)::pk r ks
   | none=>pk r ks
namespace St
def ev (σ:St):AO→Option V
 | .t n=>lk σ.r n
 | .v x=>some x
def evs (σ:St):List AO→Option (List V)
 | []=>some []
 | x::xs=>match σ.ev x,σ.evs xs with
   | some v,some vs=>some (v::vs)
   | _,_=>none
def evo (σ:St) (d:V):Option AO→Option V
 | none=>some d
 | some x=>σ.ev x
def put (σ:St) (d:Option Nat) (v:V):St:=
 match d with
 | none=>σ
 | some t=>{ σ with r:=(t,v)::σ.r }
def cls (old σ:St) (ks:List Nat):St:={ σ with r:=pk σ.r ks }
end St
def cut (cs:List V) (off n:Nat):Option (List V):=if off + n≤cs.length then some ((cs.drop off).take n) else none
def eA (cs:List V) (off:Nat) (us:List V):Option (List V):=if off + us.length≤cs.length then some (cs.take off++us++cs.drop (off + us.length)) else none
def St.box? (σ:St) (id:Nat):Option (List V):=
 match σ.h[id]? with
 | some (some (.box cs))=>some cs
 | _=>none
def St.arr? (σ:St) (id:Nat):Option (Nat × Nat × List V):=
 match σ.h[id]? with
 | some (some (.arr e sz l))=>some (e,sz,l)
 | _=>none
def St.rws? (σ:St) (id:Nat):Option (Nat × Nat × Nat × List Rw):=
 match σ.h[id]? with
 | some (some (.mat e e2 sz rows))=>some (e,e2,sz,rows)
 | _=>none
def St.mp? (σ:St) (id:Nat):Option (KT × List (V × V)):=
 match σ.h[id]? with
 | some (some (.mp kt l))=>some (kt,l)
 | _=>none
def St.gh? (σ:St) (id:Nat):Option (List (V × Bool)):=
 match σ.h[id]? with
 | some (some (.gh l))=>some l
 | _=>none
def St.itr? (σ:St) (id:Nat):Option (List UInt8 × Nat):=
 match σ.h[id]? with
 | some (some (.itr s p))=>some (s,p)
 | _=>none
def xY (s:List UInt8) (p:Nat):Nat × Nat:=Utf8.decode ⟨s.toArray⟩ p
def aL (rows:List Rw) (i:Nat):Option (List V):=match rows[i]? with
 | some (.a r)=>some r
 | _=>none
def mT (rows:List Rw) (i:Nat):Option Nat:=match rows[i]? with
 | some (.a r)=>some r.length
 | some (.g k)=>some k
 | none=>none
def St.fetch (σ:St):V→Nat→Option (List V)
 | .ptr id off,n=>match σ.box? id with
   | some cs=>cut cs off n
   | none=>none
 | .eptr id m i off,n=>match σ.arr? id with
   | some (_,_,l)=>if m=l.length then (match l[i]? with
     | some v=>cut (cl v) off n
     | none=>none) else none
   | none=>match σ.rws? id with
     | some (_,_,_,rows)=>if m=rows.length∧off=0∧n=1 then (match aL rows i with
       | some r=>some [.mref id i r.length]
       | none=>none) else none
     | none=>none
 | .mptr id i m k off,n=>match σ.rws? id with
   | some (_,_,_,rows)=>match aL rows i with
     | some r=>if m=r.length then (match r[k]? with
       | some v=>cut (cl v) off n
       | none=>none) else none
     | none=>none
   | none=>none
 | .sptr x off,n=>cut (cl x) off n
 | _,_=>none
def iD (sz:Nat):List Rw→Option (List V)
 | []=>some []
 | .a r::l=>match iD sz l with
   | some vs=>some (.seq sz r::vs)
   | none=>none
 | .g _::_=>none
def pur1 (h:List (Option Ob)) (id n:Nat):Option V:=
 match h[id]? with
 | some (some (.arr _ sz l))=>if n=l.length then some (.seq sz l) else none
 | some (some (.mat _ _ sz rows))=>if n=rows.length then (iD sz rows).map (.seq 1) else none
 | _=>none
def pur2 (h:List (Option Ob)) (id i n:Nat):Option V:=
 match h[id]? with
 | some (some (.mat _ _ sz rows))=>match aL rows i with
   | some r=>if n=r.length then some (.seq sz r) else none
   | none=>none
 | _=>none
mutual
def pur (h:List (Option Ob)):V→Option V
 | .nil sz=>some (.seq sz [])
 | .ref id n=>pur1 h id n
 | .mref id i n=>pur2 h id i n
 | .fseq sz l=>some (.seq sz l)
 | .mptr _ _ _ _ _=>none
 | .strct cs=>(purs h cs).map .strct
 | .tup vs=>(purs h vs).map .tup
 | .fn f a b=>match purs h a,purs h b with
   | some a',some b'=>some (.fn f a' b')
   | _,_=>none
 | .iface t x=>(pur h x).map (.iface t)
 | .ptr _ _=>none
 | .eptr _ _ _ _=>none
 | .int k n=>some (.int k n)
 | .bool b=>some (.bool b)
 | .str s=>some (.str s)
 | .seq sz l=>some (.seq sz l)
 | .sptr x off=>some (.sptr x off)
 | .nilptr=>some .nilptr
 | .nilfn=>some .nilfn
 | .niliface=>some .niliface
 | .junk=>some .junk
def purs (h:List (Option Ob)):List V→Option (List V)
 | []=>some []
 | v::vs=>match pur h v,purs h vs with
   | some u,some us=>some (u::us)
   | _,_=>none
end
def src (h:List (Option Ob)):V→Option V
 | .ref id n=>match h[id]? with
   | some (some (.arr _ sz l))=>if n=l.length then some (.seq sz l) else none
   | _=>none
 | v=>pur h v
mutual
def bY:V→Bool
 | .int _ _=>true
 | .bool _=>true
 | .str _=>true
 | .strct cs=>dx cs
 | .tup vs=>dx vs
 | .nilptr=>true
 | .nilfn=>true
 | .niliface=>true
 | .junk=>true
 | .fn _ a b=>dx a && dx b
 | .seq _ l=>l.isEmpty
 | .iface _ x=>bY x
 | .nil _=>true
 | .ref _ _=>false
 | .ptr _ _=>false
 | .eptr _ _ _ _=>false
 | .mref _ _ _=>false
 | .fseq _ _=>false
 | .mptr _ _ _ _ _=>false
 | .sptr _ _=>false
def dx:List V→Bool
 | []=>true
 | v::vs=>bY v && dx vs
end
mutual
def aq:V→List Nat
 | .ref id _=>[id]
 | .ptr id _=>[id]
 | .eptr id _ _ _=>[id]
 | .mref id _ _=>[id]
 | .fseq _ _=>[]
 | .mptr id _ _ _ _=>[id]
 | .strct cs=>ai cs
 | .tup vs=>ai vs
 | .fn _ a b=>ai a++ai b
 | .iface _ x=>aq x
 | .int _ _=>[]
 | .bool _=>[]
 | .str _=>[]
 | .nil _=>[]
 | .seq _ _=>[]
 | .sptr _ _=>[]
 | .nilptr=>[]
 | .nilfn=>[]
 | .niliface=>[]
 | .junk=>[]
def ai:List V→List Nat
 | []=>[]
 | v::vs=>aq v++ai vs
end
def idx:Nat→List Nat→Option Nat
 | _,[]=>none
 | n,k::ks=>if n=k then some 0 else (idx n ks).map (· + 1)
mutual
def ren (m:List Nat):V→V
 | .ref id n=>match idx id m with
   | some j=>.ref j n
   | none=>.junk
 | .ptr id off=>match idx id m with
   | some j=>.ptr j off
   | none=>.junk
 | .eptr id n i off=>match idx id m with
   | some j=>.eptr j n i off
   | none=>.junk
 | .fseq sz l=>.fseq sz l
 | .mref id i n=>match idx id m with
   | some j=>.mref j i n
   | none=>.junk
 | .mptr id i n k off=>match idx id m with
   | some j=>.mptr j i n k off
   | none=>.junk
 | .strct cs=>.strct (cW m cs)
 | .tup vs=>.tup (cW m vs)
 | .fn f a b=>.fn f (cW m a) (cW m b)
 | .iface t x=>.iface t (ren m x)
 | .int k n=>.int k n
 | .bool b=>.bool b
 | .str s=>.str s
 | .nil sz=>.nil sz
 | .seq sz l=>.seq sz l
 | .sptr x off=>.sptr x off
 | .nilptr=>.nilptr
 | .nilfn=>.nilfn
 | .niliface=>.niliface
 | .junk=>.junk
def cW (m:List Nat):List V→List V
 | []=>[]
 | v::vs=>ren m v::cW m vs
end
def et:List Nat→List Nat→List Nat
 | acc,[]=>acc
 | acc,k::ks=>if ip k acc=true then et acc ks else et (acc++[k]) ks
def QT:List (Nat × V)→List Nat
 | []=>[]
 | (_,v)::r=>aq v++QT r
def tH (h:List (Option Ob)):List Nat→List Nat
 | []=>[]
 | id::ids=>(match h[id]? with
   | some (some (.box cs))=>ai cs
   | _=>[])++tH h ids
def BS (m:List Nat):List (Nat × V)→List (Nat × V)
 | []=>[]
 | (k,v)::r=>(k,ren m v)::BS m r
def dN (m:List Nat):Option Ob→Option Ob
 | some (Ob.box cs)=>some (.box (cW m cs))
 | some (Ob.arr e sz l)=>some (Ob.arr e sz l)
 | some (Ob.mat e e2 sz rows)=>some (Ob.mat e e2 sz rows)
 | some (Ob.mp kt l)=>some (Ob.mp kt l)
 | some (Ob.gh l)=>some (Ob.gh l)
 | some (Ob.itr s p)=>some (Ob.itr s p)
 | none=>none
def fD (h:List (Option Ob)) (m:List Nat):List Nat→List (Option Ob)
 | []=>[]
 | id::ids=>dN m (h.getD id none)::fD h m ids
def St.nrm (σ:St) (ks:List Nat):St:=
 let r:=pk σ.r ks
 let a:=et [] (QT r)
 let b:=et a (tH σ.h a)
 let c:=et b (tH σ.h b)
 { r:=BS c r,h:=fD σ.h c c }
inductive Mat where
 | r (t e sz:Nat)
 | b (id off e sz:Nat)
 | z (t:Nat)
def St.kill:St→List Nat→St
 | σ,[]=>σ
 | σ,id::ids=>St.kill { σ with h:=σ.h.set id none } ids
def St.mat (σ:St):Mat→Option St
 | .r t e sz=>match lk σ.r t with
   | some (.nil _)=>if 0 < sz then some { r:=(t,.ref σ.h.length 0)::σ.r,h:=σ.h++[some (Ob.arr e sz [])] } else none
   | _=>none
 | .b id off e sz=>match σ.box? id with
   | some cs=>match cs[off]? with
     | some (.nil _)=>if 0 < sz then some { σ with h:=σ.h.set id (some (.box (cs.set off (.ref σ.h.length 0))))++[some (Ob.arr e sz [])] } else none
     | _=>none
   | none=>none
 | .z t=>match lk σ.r t with
   | some v=>match pur σ.h v with
     | some u=>some { r:=(t,u)::σ.r,h:=(σ.kill (aq v)).h }
     | none=>none
   | none=>none
def St.mats (σ:St):List Mat→Option St
 | []=>some σ
 | m::ms=>match σ.mat m with
   | some σ'=>σ'.mats ms
   | none=>none
def qu (op:BinOp) (k:IntKind) (a b:Int):Option V:=
 if b < 0 then none else
 match op with
 | .shl=>some (.int k (k.wrap (a * 2 ^ (min b.toNat k.bits))))
 | .shr=>some (.int k (a.fdiv (2 ^ (min b.toNat k.bits))))
 | _=>none
def pC (op:BinOp) (k:IntKind) (x y:Int):Option V:=
 let a:=BitVec.ofInt k.bits x
 let b:=BitVec.ofInt k.bits y
 match op with
 | .and=>some (.int k (k.wrap (a &&& b).toNat))
 | .or=>some (.int k (k.wrap (a ||| b).toNat))
 | .xor=>some (.int k (k.wrap (a ^^^ b).toNat))
 | .andNot=>some (.int k (k.wrap (a &&& ~~~b).toNat))
 | _=>none
def bR (op:BinOp) (k:IntKind) (a b:Int):Option V:=
 match op with
 | .add=>some (.int k (k.wrap (a + b)))
 | .sub=>some (.int k (k.wrap (a - b)))
 | .mul=>some (.int k (k.wrap (a * b)))
 | .quo=>if b=0 then none else some (.int k (k.wrap (a.tdiv b)))
 | .rem=>if b=0 then none else some (.int k (a.tmod b))
 | .eql=>some (.bool (decide (a=b)))
 | .neq=>some (.bool (!decide (a=b)))
 | .lss=>some (.bool (decide (a < b)))
 | .leq=>some (.bool (decide (a≤b)))
 | .gtr=>some (.bool (decide (b < a)))
 | .geq=>some (.bool (decide (b≤a)))
 | _=>none
def Qu (op:BinOp) (a b:List UInt8):Option V:=
 match op with
 | .add=>if a.length + b.length≤4611686018427387904 then some (.str (a++b)) else none
 | .eql=>some (.bool (decide (a=b)))
 | .neq=>some (.bool (!decide (a=b)))
 | .lss=>some (.bool (Op.bytesLess a b))
 | .leq=>some (.bool (Op.bytesLess a b || decide (a=b)))
 | .gtr=>some (.bool (!(Op.bytesLess a b || decide (a=b))))
 | .geq=>some (.bool (!Op.bytesLess a b))
 | _=>none
def Ok (op:BinOp):V→V→Option V
 | .int k a,.int k' b=>match op with
   | .shl=>qu .shl k a b
   | .shr=>qu .shr k a b
   | .and=>if k=k' then pC .and k a b else none
   | .or=>if k=k' then pC .or k a b else none
   | .xor=>if k=k' then pC .xor k a b else none
   | .andNot=>if k=k' then pC .andNot k a b else none
   | .add=>if k=k' then bR .add k a b else none
   | .sub=>if k=k' then bR .sub k a b else none
   | .mul=>if k=k' then bR .mul k a b else none
   | .quo=>if k=k' then bR .quo k a b else none
   | .rem=>if k=k' then bR .rem k a b else none
   | .eql=>if k=k' then bR .eql k a b else none
   | .neq=>if k=k' then bR .neq k a b else none
   | .lss=>if k=k' then bR .lss k a b else none
   | .leq=>if k=k' then bR .leq k a b else none
   | .gtr=>if k=k' then bR .gtr k a b else none
   | .geq=>if k=k' then bR .geq k a b else none
 | .str a,.str b=>Qu op a b
 | _,_=>none
def KN (n:Int):Option V:=if 0≤n∧n < 128 then some (.str [UInt8.ofNat n.toNat]) else none
def BF (k:IntKind) (n:Int):Option V:=some (.int k (k.wrap n))
def vun (op:UnOp):V→Option V
 | .int k n=>match op with
   | .neg=>some (.int k (k.wrap (0 - n)))
   | _=>none
 | .bool b=>match op with
   | .not=>some (.bool !b)
   | _=>none
 | _=>none
def fN:List UInt8→List V
 | []=>[]
 | b::s=>.int .u8 b.toNat::fN s
def cz:List V→Option (List UInt8)
 | []=>some []
 | .int .u8 n::l=>(cz l).map (UInt8.ofNat n.toNat::·)
 | _::_=>none
def isS:V→Bool
 | .strct _=>true
 | _=>false
def nt:V→Bool
 | .tup _=>false
 | _=>true
def bo (sz:Nat):List V→Bool
 | []=>true
 | v::vs=>decide ((cl v).length=sz) && nt v && bo sz vs
def bldV (σ:St):List V→List (Nat × Nat × AO)→Option (List V)
 | cs,[]=>some cs
 | cs,(off,n,x)::ps=>match σ.ev x with
   | some v=>if (cl v).length=n∧nt v=true then (match eA cs off (cl v) with
     | some cs'=>bldV σ cs' ps
     | none=>none) else none
   | none=>none
def FL (s:List V) (lo hi:Int):Option (List V):=if 0≤lo∧lo≤hi∧hi≤s.length then some ((s.drop lo.toNat).take (hi.toNat - lo.toNat)) else none
namespace St
def live (σ:St):V→Bool
 | .ptr id _=>(σ.box? id).isSome
 | .eptr id n i _=>match σ.arr? id with
   | some (_,_,l)=>decide (n=l.length) && decide (i < n)
   | none=>false
 | .mptr id i n k _=>match σ.rws? id with
   | some (_,_,_,rows)=>match aL rows i with
     | some r=>decide (n=r.length) && decide (k < n)
     | none=>false
   | none=>false
 | .sptr _ _=>true
 | .fn (.func _) _ _=>true
 | _=>false
def fwd (k:Nat):V→Option V
 | .ptr id o=>some (.ptr id (o + k))
 | .eptr id n i o=>some (.eptr id n i (o + k))
 | .mptr id i n j o=>some (.mptr id i n j (o + k))
 | .sptr y o=>some (.sptr y (o + k))
 | _=>none
def isNil (k:Nat) (lv:Bool):V→Option Bool
 | .nilptr=>if k=0 then some true else none
 | .sptr _ _=>if k=0 then some false else none
 | .ptr _ _=>if k=0∧lv=true then some false else none
 | .eptr _ _ _ _=>if k=0∧lv=true then some false else none
 | .mptr _ _ _ _ _=>if k=0∧lv=true then some false else none
 | .niliface=>if k=1 then some true else none
 | .iface _ _=>if k=1 then some false else none
 | .nilfn=>if k=2 then some true else none
 | .fn _ _ _=>if k=2 then some false else none
 | _=>none
def val (σ:St):Act'→Option V
 | .mov x=>σ.ev x
 | .pick c a b=>match σ.ev c with
   | some (.bool t)=>if t=true then σ.ev a else σ.ev b
   | _=>none
 | .fld x off n agg=>match σ.ev x with
   | some (.strct cs)=>match cut cs off n with
     | some us=>mkc agg us
     | none=>none
   | _=>none
 | .fa x off=>match σ.ev x with
   | some v=>if σ.live v=true then fwd off v else none
   | none=>none
 | .ia x i sz=>match σ.ev x,σ.ev i with
   | some (.seq sz' l),some (.int _ n)=>if sz=sz'∧0≤n then (match l[n.toNat]? with
     | some v=>some (.sptr v 0)
     | none=>none) else none
   | some (.fseq sz' l),some (.int _ n)=>if sz=sz'∧0≤n then (match l[n.toNat]? with
     | some v=>some (.sptr v 0)
     | none=>none) else none
   | some (.ref id m),some (.int _ n)=>match σ.arr? id with
     | some (_,sz',l)=>if sz=sz'∧m=l.length∧0≤n∧n < m then some (.eptr id m n.toNat 0) else none
     | none=>match σ.rws? id with
       | some (_,_,_,rows)=>if sz=1∧m=rows.length∧0≤n∧n < m then some (.eptr id m n.toNat 0) else none
       | none=>none
   | some (.mref id i m),some (.int _ n)=>match σ.rws? id with
     | some (_,_,sz',rows)=>match aL rows i with
       | some r=>if sz=sz'∧m=r.length∧0≤n∧n < m then some (.mptr id i m n.toNat 0) else none
       | none=>none
     | none=>none
   | _,_=>none
 | .iaa x i len sz=>match σ.ev x,σ.ev i with
   | some v,some (.int _ n)=>if σ.live v=true∧0≤n∧n < len then fwd (n.toNat * sz) v else none
   | _,_=>none
 | .ld x n agg=>match σ.ev x with
   | some p=>match σ.fetch p n with
     | some us=>mkc agg us
     | none=>none
   | none=>none
 | .ixs x i=>match σ.ev x,σ.ev i with
   | some (.str s),some (.int _ n)=>if 0≤n then (match s[n.toNat]? with
     | some b=>some (.int .u8 b.toNat)
     | none=>none) else none
   | _,_=>none
 | .ixa x i len sz agg=>match σ.ev x,σ.ev i with
   | some (.strct cs),some (.int _ n)=>if 0≤n∧n < len then (match cut cs (n.toNat * sz) sz with
     | some us=>mkc agg us
     | none=>none) else none
   | _,_=>none
 | .bin op x y=>match σ.ev x,σ.ev y with
   | some a,some b=>Ok op a b
   | _,_=>none
 | .un op x=>match σ.ev x with
   | some a=>vun op a
   | _=>none
 | .cii k x=>match σ.ev x with
   | some (.int _ n)=>BF k n
   | _=>none
 | .r2s x=>match σ.ev x with
   | some (.int _ n)=>KN n
   | _=>none
 | .b2s x=>match σ.ev x with
   | some v=>match pur σ.h v with
     | some (.seq 1 l)=>(cz l).map .str
     | _=>none
   | none=>none
 | .sls x lo hi=>match σ.ev x with
   | some (.str s)=>match σ.evo (.int .i64 0) lo,σ.evo (.int .i64 s.length) hi with
     | some (.int _ a),some (.int _ b)=>if 0≤a∧a≤b∧b≤s.length then some (.str ((s.drop a.toNat).take (b.toNat - a.toNat))) else none
     | _,_=>none
   | _=>none
 | .slq x lo hi sz=>match σ.ev x with
   | some (.seq sz' l)=>match σ.evo (.int .i64 0) lo,σ.evo (.int .i64 l.length) hi with
     | some (.int _ a),some (.int _ b)=>if sz=sz' then (FL l a b).map (.seq sz) else none
     | _,_=>none
   | _=>none
 | .beq neg x y=>match σ.ev x,σ.ev y with
   | some (.bool a),some (.bool b)=>if neg=true then some (.bool (!(a == b))) else some (.bool (a == b))
   | _,_=>none
 | .lens x=>match σ.ev x with
   | some (.str s)=>some (.int .i64 s.length)
   | _=>none
 | .lenq x=>match σ.ev x with
   | some (.seq _ l)=>some (.int .i64 l.length)
   | some (.fseq _ l)=>some (.int .i64 l.length)
   | some (.nil _)=>some (.int .i64 0)
   | some (.ref id n)=>match σ.arr? id with
     | some (_,_,l)=>if n=l.length then some (.int .i64 n) else none
     | none=>match σ.rws? id with
       | some (_,_,_,rows)=>if n=rows.length then some (.int .i64 n) else none
       | none=>none
   | some (.mref id i n)=>match σ.rws? id with
     | some (_,_,_,rows)=>match aL rows i with
       | some r=>if n=r.length then some (.int .i64 n) else none
       | none=>none
     | none=>none
   | _=>none
 | .ext x i=>match σ.ev x with
   | some (.tup vs)=>vs[i]?
   | _=>none
 | .bld z ps=>(bldV σ z ps).map .strct
 | .mkf f a b=>match σ.evs a,σ.evs b with
   | some a',some b'=>some (.fn f a' b')
   | _,_=>none
 | .nlc x=>match σ.ev x with
   | some v=>if σ.live v=true then some v else none
   | none=>none
 | .mki t x=>match σ.ev x with
   | some v=>if nt v=true then some (.iface t v) else none
   | none=>none
 | .aeq neg kt x y=>match σ.ev x,σ.ev y with
   | some u,some v=>if aO kt u=true∧aO kt v=true then some (.bool (xor neg (eqK u v))) else none
   | _,_=>none
 | .lkp kt z okk x k=>match σ.ev x,σ.ev k with
   | some (.ref id _),some kv=>match σ.mp? id with
     | some (kt',l)=>if kt'=kt∧aO kt kv=true then (match gk kv l with
       | some v=>some (if okk=true then .tup [v,.bool true] else v)
       | none=>some (if okk=true then .tup [z,.bool false] else z)) else none
     | none=>none
   | _,_=>none
 | .mm mx x y=>match σ.ev x,σ.ev y with
   | some (.int k a),some (.int k' b)=>if k=k' then some (.int k (if mx=true then (if b > a then b else a) else (if b < a then b else a))) else none
   | _,_=>none
 | .nlq k neg x=>match σ.ev x with
   | some v=>match isNil k (σ.live v) v with
     | some b=>some (.bool (xor neg b))
     | none=>none
   | none=>none
 | _=>none
def storM (σ:St) (n id m i off:Nat):List V→Option St
 | [.ref id2 n2]=>match σ.rws? id,σ.arr? id2 with
   | some (e,e2,sz,rows),some (e2',sz',l)=>match mT rows i with
     | some k=>if n=1∧off=0∧m=rows.length∧e2'=e2∧sz'=sz∧n2=l.length∧k < l.length then some { σ with h:=(σ.h.set id2 none).set id (some (Ob.mat e e2 sz (rows.set i (.a l)))) } else none
     | none=>none
   | _,_=>none
 | _=>none
def stor (σ:St) (n:Nat):V→List V→Option St
 | .ptr id off,us=>match σ.box? id with
   | some cs=>if us.length=n then (match eA cs off us with
     | some cs'=>some { σ with h:=σ.h.set id (some (Ob.box cs')) }
     | none=>none) else none
   | none=>none
 | .eptr id m i off,us=>match purs σ.h us with
   | some us'=>match (σ.kill (ai us)).arr? id with
     | some (e,sz,l)=>if us.length=n∧m=l.length then (match l[i]? with
       | some v=>match eA (cl v) off us' with
         | some cs'=>match mkc (isS v) cs' with
           | some v'=>some { (σ.kill (ai us)) with h:=(σ.kill (ai us)).h.set id (some (Ob.arr e sz (l.set i v'))) }
           | none=>none
         | none=>none
       | none=>none) else none
     | none=>σ.storM n id m i off us
   | none=>none
 | .mptr id i m k off,us=>match purs σ.h us with
   | some us'=>match (σ.kill (ai us)).rws? id with
     | some (e,e2,sz,rows)=>match aL rows i with
       | some r=>if us.length=n∧m=r.length then (match r[k]? with
         | some v=>match eA (cl v) off us' with
           | some cs'=>match mkc (isS v) cs' with
             | some v'=>some { (σ.kill (ai us)) with h:=(σ.kill (ai us)).h.set id (some (Ob.mat e e2 sz (rows.set i (.a (r.set k v'))))) }
             | none=>none
           | none=>none
         | none=>none) else none
       | none=>none
     | none=>none
   | none=>none
 | _,_=>none
end St
mutual
def ok:V→Prop
 | .int k n=>k.min≤n∧n≤k.max
 | .str s=>s.length≤4611686018427387904
 | .seq _ l=>l.length≤140737488355328∧oks l
 | .strct cs=>oks cs
 | .tup vs=>oks vs
 | .sptr x _=>ok x
 | .iface _ x=>ok x
 | .fn _ a b=>oks a∧oks b
 | .bool _=>True
 | .nil _=>True
 | .ref _ _=>True
 | .ptr _ _=>True
 | .eptr _ _ _ _=>True
 | .mref _ _ _=>True
 | .fseq _ _=>True
 | .mptr _ _ _ _ _=>True
 | .nilptr=>True
 | .nilfn=>True
 | .niliface=>True
 | .junk=>True
def oks:List V→Prop
 | []=>True
 | v::vs=>ok v∧oks vs
end
structure Ctr where
 p:FuncId→List V→V→Prop
 n:FuncId→List V→V→Prop
 e:FuncId→List Nat→List V→List (Option Ob)→V→List (Option Ob)→Prop
def bH (vs:List V):List Nat→List V
 | []=>[]
 | i::is=>match vs[i]? with
   | some v=>v::bH vs is
   | none=>bH vs is
def St.cur0 (σ:St):V→Bool
 | .ptr id off=>(σ.box? id).isSome && decide (off=0)
 | .ref id n=>match σ.arr? id with
   | some (_,_,l)=>decide (n=l.length)
   | none=>(σ.gh? id).isSome
 | .eptr id n i _=>match σ.arr? id with
   | some (_,_,l)=>decide (n=l.length) && decide (i < n)
   | none=>false
 | _=>false
mutual
def St.cur (σ:St):V→Bool
 | .fn _ a b=>σ.curA a && σ.curA b
 | .strct cs=>σ.curA cs
 | .tup cs=>σ.curA cs
 | .iface _ x=>σ.cur x
 | v=>σ.cur0 v || (aq v).isEmpty
def St.curA (σ:St):List V→Bool
 | []=>true
 | v::vs=>σ.cur v && σ.curA vs
end
def St.curs (σ:St):List V→Bool
 | []=>true
 | v::vs=>σ.cur v && σ.curs vs
def dY (h:List (Option Ob)) (pvs vs:List V):Nat × List Nat:=
 let a:=et [] (ai pvs)
 let b:=et a (ai vs)
 let c:=et b (tH h b)
 (a.length,et c (tH h c))
mutual
def bck (m:List Nat):V→V
 | .ref j n=>match m[j]? with
   | some id=>.ref id n
   | none=>.junk
 | .ptr j off=>match m[j]? with
   | some id=>.ptr id off
   | none=>.junk
 | .eptr j n i off=>match m[j]? with
   | some id=>.eptr id n i off
   | none=>.junk
 | .fseq sz l=>.seq sz l
 | .mref j i n=>match m[j]? with
   | some id=>.mref id i n
   | none=>.junk
 | .mptr j i n k off=>match m[j]? with
   | some id=>.mptr id i n k off
   | none=>.junk
 | .strct cs=>.strct (kM m cs)
 | .tup vs=>.tup (kM m vs)
 | .fn f a b=>.fn f (kM m a) (kM m b)
 | .iface t x=>.iface t (bck m x)
 | .int k n=>.int k n
 | .bool b=>.bool b
 | .str s=>.str s
 | .nil sz=>.nil sz
 | .seq sz l=>.seq sz l
 | .sptr x off=>.sptr x off
 | .nilptr=>.nilptr
 | .nilfn=>.nilfn
 | .niliface=>.niliface
 | .junk=>.junk
def kM (m:List Nat):List V→List V
 | []=>[]
 | v::vs=>bck m v::kM m vs
end
def j9 (m:List Nat):Option Ob→Option Ob
 | some (Ob.box cs)=>some (.box (kM m cs))
 | some (Ob.arr e sz l)=>some (Ob.arr e sz l)
 | some (Ob.mat e e2 sz rows)=>some (Ob.mat e e2 sz rows)
 | some (Ob.mp kt l)=>some (Ob.mp kt l)
 | some (Ob.gh l)=>some (Ob.gh l)
 | some (Ob.itr s p)=>some (Ob.itr s p)
 | none=>none
def Dr (m:List Nat):List (Option Ob)→List (Option Ob)
 | []=>[]
 | ob::obs=>j9 m ob::Dr m obs
def wr (h:List (Option Ob)):List Nat→List (Option Ob)→List (Option Ob)
 | [],_=>h
 | _,[]=>h
 | id::ids,ob::obs=>wr (h.set id ob) ids obs
def t6 (q:Nat) (m:List Nat) (n k:Nat):List Nat:=m.take q++List.range' n (k - q)
def St.back (σ:St) (q:Nat) (m:List Nat) (H':List (Option Ob)):List (Option Ob):=
 wr ((σ.kill m).h++List.replicate (H'.length - q) none) (t6 q m σ.h.length H'.length) (Dr (t6 q m σ.h.length H'.length) H')
def okH:List (Option Ob)→Prop
 | []=>True
 | some (.box cs)::h=>oks cs∧okH h
 | some (.arr _ _ l)::h=>(l.length≤140737488355328∧oks l)∧okH h
 | some (.mat _ _ _ rows)::h=>rows.length≤140737488355328∧okH h
 | some (.mp _ _)::h=>okH h
 | some (.gh _)::h=>okH h
 | some (.itr s _)::h=>s.length≤4611686018427387904∧okH h
 | none::h=>okH h
def kin:Nat→List (Option Ob)→List (Option Ob)→Bool
 | 0,_,_=>true
 | q + 1,some (.box _)::H,some (.box _)::H'=>kin q H H'
 | q + 1,some (.arr e sz _)::H,some (.arr e' sz' _)::H'=>decide (e=e') && decide (sz=sz') && kin q H H'
 | q + 1,some (.gh _)::H,some (.gh _)::H'=>kin q H H'
 | _,_,_=>false
def Oh (Φ:Ctr) (d:Option Nat) (f:FuncId) (vs:List V) (ps:List Nat) (K:St→Prop) (σ:St) (q:Nat) (m:List Nat):Prop:=
 ∃ r H',kin q (fD σ.h m m) H'=true∧Φ.e f ps (cW m vs) (fD σ.h m m) r H'∧(ok r→okH H'→K (St.put ⟨σ.r,σ.back q m H'⟩ d (bck (t6 q m σ.h.length H'.length) r)))
def fB (Φ:Ctr) (d:Option Nat) (f:FuncId) (vs:List V) (K:St→Prop) (σ:St):Prop:=
 ∃ ps,σ.curs (bH vs ps)=true∧Oh Φ d f vs ps K σ (dY σ.h (bH vs ps) vs).1 (dY σ.h (bH vs ps) vs).2
def wret (Φ:Ctr) (f:FuncId) (vs us:List V) (r:V):Prop:=(Φ.p f us r∧(bY r=true∨ai vs=[]))∨Φ.n f us r
mutual
def fz:V→V
 | .seq sz l=>.fseq sz l
 | .strct cs=>.strct (fzs cs)
 | .tup vs=>.tup (fzs vs)
 | v=>v
def fzs:List V→List V
 | []=>[]
 | v::vs=>fz v::fzs vs
end
def lQ (Φ:Ctr) (d:Option Nat) (f:FuncId) (vs us:List V) (K:St→Prop) (σ:St):Prop:=
 ∃ r,(wret Φ f vs us r∧(ok r→K (σ.put d r)))∨(Φ.p f us r∧(ok r→K ((σ.kill (ai vs)).put d r)))∨(Φ.n f us r∧(ok r→K (σ.put d (fz r))))
def lkF:List (Nat × FuncId)→Nat→Option FuncId
 | [],_=>none
 | (t,f)::l,u=>if t=u then some f else lkF l u
def af (Φ:Ctr) (d:Option Nat) (a:Act') (K:St→Prop) (σ:St):Prop:=
 match a with
 | .alc z=>K ({ σ with h:=σ.h++[some (Ob.box z)] }.put d (.ptr σ.h.length 0))
 | .box x=>match σ.ev x with
   | some v=>if nt v=true then K ({ σ with h:=σ.h++[some (Ob.box (cl v))] }.put d (.ptr σ.h.length 0)) else False
   | none=>False
 | .st n p x=>match σ.ev p,σ.ev x with
   | some a,some v=>if nt v=true then (match σ.stor n a (cl v) with
     | some σ'=>K (σ'.put d (.tup []))
     | none=>False) else False
   | _,_=>False
 | .s2b x=>match σ.ev x with
   | some (.str s)=>s.length≤140737488355328∧K (σ.put d (.seq 1 (fN s)))
   | _=>False
 | .lit _ sz xs=>match σ.evs xs with
   | some vs=>match purs σ.h vs with
     | some us=>bo sz us=true∧us.length≤16777216∧K ((σ.kill (ai vs)).put d (.seq sz us))
     | none=>False
   | none=>False
 | .app x y e sz by'=>match σ.ev x,σ.ev y with
   | some u,some v=>match src σ.h v with
     | some (.seq sz' l)=>sz'=sz∧
       (match u with
       | .nil _=>l.length * by'≤140737488355328∧K ({ σ with h:=σ.h++[some (Ob.arr e sz l)] }.put d (.ref σ.h.length l.length))
       | .ref id n=>match σ.arr? id with
         | some (e',sz',l0)=>e'=e∧sz'=sz∧n=l0.length∧(n + l.length) * by'≤140737488355328∧
           K ({ σ with h:=σ.h.set id (some (Ob.arr e sz (l0++l))) }.put d (.ref id (n + l.length)))
         | none=>False
       | .mref id i n=>match σ.rws? id with
         | some (e1,e2,sz2,rows)=>match aL rows i with
           | some r=>e2=e∧sz2=sz∧n=r.length∧(n + l.length) * by'≤140737488355328∧
             K ({ σ with h:=σ.h.set id (some (Ob.mat e1 e2 sz2 (rows.set i (.g r.length))))++[some (Ob.arr e sz (r++l))] }.put d (.ref σ.h.length (n + l.length)))
           | none=>False
         | none=>False
       | _=>False)
     | _=>False
   | _,_=>False
 | .mks e sz by' z n=>match σ.ev n with
   | some (.int _ m)=>0≤m∧m * by'≤140737488355328∧
     K ({ σ with h:=σ.h++[some (Ob.arr e sz (List.replicate m.toNat z))] }.put d (.ref σ.h.length m.toNat))
   | _=>False
 | .mk0 e sz by' n=>match σ.ev n with
   | some (.int _ m)=>0≤m∧m * by'≤140737488355328∧
     K ({ σ with h:=σ.h++[some (Ob.arr e sz [])] }.put d (.ref σ.h.length 0))
   | _=>False
 | .mkm e by' e2 sz n=>match σ.ev n with
   | some (.int _ m)=>0≤m∧m * by'≤140737488355328∧
     K ({ σ with h:=σ.h++[some (Ob.mat e e2 sz (List.replicate m.toNat (.a [])))] }.put d (.ref σ.h.length m.toNat))
   | _=>False
 | .call f xs=>match σ.evs xs with
   | some vs=>match purs σ.h vs with
     | some us=>lQ Φ d f vs us K σ
     | none=>fB Φ d f vs K σ
   | none=>False
 | .callv g xs=>match σ.ev g,σ.evs xs with
   | some (.fn (.func f) a b),some vs=>match purs σ.h (a++vs++b) with
     | some us=>lQ Φ d f (a++vs++b) us K σ
     | none=>fB Φ d f (a++vs++b) K σ
   | _,_=>False
 | .callH f xs=>match σ.evs xs with
   | some vs=>fB Φ d f vs K σ
   | none=>False
 | .mkp kt=>K ({ σ with h:=σ.h++[some (Ob.mp kt [])] }.put d (.ref σ.h.length 0))
 | .mup kt x k v=>match σ.ev x,σ.ev k,σ.ev v with
   | some (.ref id _),some kv,some u=>match σ.mp? id,pur σ.h u with
     | some (kt',l),some u'=>kt'=kt∧aO kt kv=true∧aq u=[]∧nt u'=true∧K ({ σ with h:=σ.h.set id (some (Ob.mp kt (io kv u' l))) }.put d (.tup []))
     | _,_=>False
   | _,_,_=>False
 | .inv tbl x xs=>match σ.ev x,σ.evs xs with
   | some (.iface t v),some vs=>match lkF tbl t with
     | some f=>(match purs σ.h (v::vs) with
       | some us=>lQ Φ d f (v::vs) us K σ
       | none=>fB Φ d f (v::vs) K σ)
     | none=>False
   | _,_=>False
 | .ltr e sz xs=>match σ.evs xs with
   | some vs=>match purs σ.h vs with
     | some us=>bo sz us=true∧us.length≤16777216∧K (St.put ⟨(σ.kill (ai vs)).r,(σ.kill (ai vs)).h++[some (Ob.arr e sz us)]⟩ d (.ref (σ.kill (ai vs)).h.length us.length))
     | none=>False
   | none=>False
 | .trc x hi sz=>match σ.ev x,σ.ev hi with
   | some (.ref id n),some (.int _ b)=>match σ.arr? id with
     | some (e,sz',l)=>sz'=sz∧n=l.length∧0≤b∧b≤n∧K ({ σ with h:=σ.h.set id none++[some (Ob.arr e sz (l.take b.toNat))] }.put d (.ref σ.h.length b.toNat))
     | none=>False
   | _,_=>False
 | .yld g xs=>match σ.ev g,σ.evs xs with
   | some (.ref id _),some vs=>match σ.gh? id,purs σ.h vs with
     | some ((v,b)::l),some us=>v=.tup us∧ai vs=[]∧K ({ σ with h:=σ.h.set id (some (Ob.gh l)) }.put d (.bool b))
     | _,_=>False
   | _,_=>False
 | .rgs x=>match σ.ev x with
   | some (.str s)=>K ({ σ with h:=σ.h++[some (Ob.itr s 0)] }.put d (.ref σ.h.length 0))
   | _=>False
 | .nxs x=>match σ.ev x with
   | some (.ref id _)=>match σ.itr? id with
     | some (s,p)=>if p < s.length then K ({ σ with h:=σ.h.set id (some (Ob.itr s (p + (xY s p).2))) }.put d (.tup [.bool true,.int .i64 p,.int .i32 (xY s p).1])) else K (σ.put d (.tup [.bool false]))
     | none=>False
   | _=>False
 | a=>match σ.val a with
   | some v=>K (σ.put d v)
   | none=>False
def Br (t:Bool) (A B:Prop):Prop:=(t=true→A)∧(t=false→B)
def wop (Φ:Ctr) (o:AOp) (K:St→Prop) (σ:St):Prop:=
 match o.g with
 | none=>af Φ o.d o.a K σ
 | some (t,b)=>match lk σ.r t with
   | some (.bool y)=>if b=true then Br y (af Φ o.d o.a K σ) (K (σ.put o.d (.tup []))) else Br y (K (σ.put o.d (.tup []))) (af Φ o.d o.a K σ)
   | some (.tup [])=>K (σ.put o.d (.tup []))
   | _=>False
def s7 (Φ:Ctr):List AOp→(St→Prop)→St→Prop
 | [],K,σ=>K σ
 | o::os,K,σ=>wop Φ o (s7 Φ os K) σ
def oB (Φ:Ctr) (d:Option Nat) (f:FuncId) (vs:List V) (K:St→Prop) (σ:St):Prop:=
 ∃ ps,σ.curs (bH vs ps)=true∧∃ r H',kin (dY σ.h (bH vs ps) vs).1 (fD σ.h (dY σ.h (bH vs ps) vs).2 (dY σ.h (bH vs ps) vs).2) H'=true∧
   Φ.e f ps (cW (dY σ.h (bH vs ps) vs).2 vs) (fD σ.h (dY σ.h (bH vs ps) vs).2 (dY σ.h (bH vs ps) vs).2) r H'∧
   K (St.put ⟨σ.r,σ.back (dY σ.h (bH vs ps) vs).1 (dY σ.h (bH vs ps) vs).2 H'⟩ d (bck (t6 (dY σ.h (bH vs ps) vs).1 (dY σ.h (bH vs ps) vs).2 σ.h.length H'.length) r))
def mI (Φ:Ctr) (d:Option Nat) (f:FuncId) (vs us:List V) (K:St→Prop) (σ:St):Prop:=∃ r,wret Φ f vs us r∧K (σ.put d r)
def ag (Φ:Ctr) (d:Option Nat) (a:Act') (K:St→Prop) (σ:St):Prop:=
 match a with
 | .lit _ sz xs=>match σ.evs xs with
   | some vs=>match purs [] vs with
     | some us=>bo sz us=true∧us.length≤16777216∧K (σ.put d (.seq sz us))
     | none=>False
   | none=>False
 | .call f xs=>match σ.evs xs with
   | some vs=>match purs σ.h vs with
     | some us=>mI Φ d f vs us K σ
     | none=>False
   | none=>False
 | .callv g xs=>match σ.ev g,σ.evs xs with
   | some (.fn (.func f) a b),some vs=>match purs σ.h (a++vs++b) with
     | some us=>mI Φ d f (a++vs++b) us K σ
     | none=>False
   | _,_=>False
 | .callH f xs=>match σ.evs xs with
   | some vs=>oB Φ d f vs K σ
   | none=>False
 | .inv _ _ _=>False
 | .trc _ _ _=>False
 | a=>af Φ d a K σ
def aC (Φ:Ctr) (o:AOp) (K:St→Prop) (σ:St):Prop:=
 match o.g with
 | none=>ag Φ o.d o.a K σ
 | some (t,b)=>match lk σ.r t with
   | some (.bool y)=>if b=true then Br y (ag Φ o.d o.a K σ) (K (σ.put o.d (.tup []))) else Br y (K (σ.put o.d (.tup []))) (ag Φ o.d o.a K σ)
   | some (.tup [])=>K (σ.put o.d (.tup []))
   | _=>False
def rq (Φ:Ctr):List AOp→(St→Prop)→St→Prop
 | [],K,σ=>K σ
 | o::os,K,σ=>aC Φ o (rq Φ os K) σ
def FA (Φ:Ctr):List (List AOp)→(St→Prop)→St→Prop
 | [],K,σ=>True
 | os::l,K,σ=>s7 Φ os K σ∧FA Φ l K σ
def f0 (Φ:Ctr):OT→(St→Prop)→St→Prop
 | .nil,K,σ=>K σ
 | .op x t,K,σ=>aC Φ x (f0 Φ t K) σ
 | .both a b,K,σ=>f0 Φ a K σ∧f0 Φ b K σ
inductive Ex where
 | norm
 | exit (id:Nat)
 | goto (l:Nat)
 | ret
def Ex.then (N:St→Prop) (Q:Ex→St→Prop):Ex→St→Prop
 | .norm,σ=>N σ
 | e,σ=>Q e σ
def Ex.inBlock (id:Nat) (Q:Ex→St→Prop):Ex→St→Prop
 | .exit id',σ=>if id'=id then Q .norm σ else Q (.exit id') σ
 | e,σ=>Q e σ
def Ex.jump (l:Nat) (J:St→Prop) (Q:Ex→St→Prop):Ex→St→Prop
 | .goto l',σ=>l'=l∧J σ
 | e,σ=>Q e σ
def W (Φ:Ctr):AC→(Ex→St→Prop)→St→Prop
 | .skip,Q,σ=>Q .norm σ
 | .reg ops ks,Q,σ=>s7 Φ ops (fun σ'=>Q .norm (σ.cls σ' ks)) σ
 | .regD ops ks,Q,σ=>rq Φ ops (fun σ'=>Q .norm (σ.cls σ' ks)) σ
 | .regE alts ks,Q,σ=>FA Φ alts (fun σ'=>Q .norm (σ.cls σ' ks)) σ
 | .regF t ks,Q,σ=>f0 Φ t (fun σ'=>Q .norm (σ'.nrm ks)) σ
 | .scope l ks a b,Q,σ=>∃ I:Nat→St→Prop,W Φ a (Ex.jump l (fun τ'=>∃ n ms τ'',τ'.mats ms=some τ''∧I n (τ''.nrm ks)) Q) σ∧
    ∀ n τ,I n τ→W Φ b (Ex.jump l (fun τ'=>∃ m ms τ'',τ'.mats ms=some τ''∧I m (τ''.nrm ks)∧m < n) Q) τ
 | .label l,Q,σ=>Q .norm σ
 | .goto l,Q,σ=>Q (.goto l) σ
 | .bad,_,_=>False
 | .seq a b,Q,σ=>W Φ a (Ex.then (W Φ b Q) Q) σ
 | .cond c a b,Q,σ=>match σ.ev c with
   | some (.bool t)=>Br t (W Φ a Q σ) (W Φ b Q σ)
   | _=>False
 | .block id c,Q,σ=>W Φ c (Ex.inBlock id Q) σ
 | .loop ks c,Q,σ=>∃ I:Nat→St→Prop,(∃ n ms σ',σ.mats ms=some σ'∧I n (σ'.nrm ks))∧
    ∀ n τ,I n τ→W Φ c (Ex.then (fun τ'=>∃ m ms τ'',τ'.mats ms=some τ''∧I m (τ''.nrm ks)∧m < n) Q) τ
 | .exit id,Q,σ=>Q (.exit id) σ
 | .ret,Q,σ=>Q .ret σ
section rules
variable {Φ:Ctr} {Q:Ex→St→Prop} {σ:St}
theorem Sr:W Φ .skip Q σ=Q .norm σ:=propext Iff.rfl
theorem Py {l}:W Φ (.label l) Q σ=Q .norm σ:=propext Iff.rfl
theorem Sv {l}:W Φ (.goto l) Q σ=Q (.goto l) σ:=propext Iff.rfl
theorem IC {N:St→Prop} {l}:Ex.then N Q (.goto l) σ=Q (.goto l) σ:=propext Iff.rfl
theorem Cm {id l}:Ex.inBlock id Q (.goto l) σ=Q (.goto l) σ:=propext Iff.rfl
theorem Jp {l} {J:St→Prop}:Ex.jump l J Q .norm σ=Q .norm σ:=propext Iff.rfl
theorem L4 {l} {J:St→Prop}:Ex.jump l J Q .ret σ=Q .ret σ:=propext Iff.rfl
theorem Jr {l id} {J:St→Prop}:Ex.jump l J Q (.exit id) σ=Q (.exit id) σ:=propext Iff.rfl
theorem Jq {l l'} {J:St→Prop}:Ex.jump l J Q (.goto l') σ=(l'=l∧J σ):=propext Iff.rfl
theorem Ii {id c}:W Φ (.block id c) Q σ=W Φ c (Ex.inBlock id Q) σ:=propext Iff.rfl
theorem Sw {id}:W Φ (.exit id) Q σ=Q (.exit id) σ:=propext Iff.rfl
theorem W_ret:W Φ .ret Q σ=Q .ret σ:=propext Iff.rfl
theorem Sx {c a b}:W Φ (.cond c a b) Q σ=match σ.ev c with
 | some (.bool t)=>Br t (W Φ a Q σ) (W Φ b Q σ)
 | _=>False:=propext Iff.rfl
theorem An {N:St→Prop}:Ex.then N Q .norm σ=N σ:=propext Iff.rfl
theorem ID {N:St→Prop} {id}:Ex.then N Q (.exit id) σ=Q (.exit id) σ:=propext Iff.rfl
theorem KU {N:St→Prop}:Ex.then N Q .ret σ=Q .ret σ:=propext Iff.rfl
theorem Cl {id}:Ex.inBlock id Q .norm σ=Q .norm σ:=propext Iff.rfl
theorem Es {id}:Ex.inBlock id Q .ret σ=Q .ret σ:=propext Iff.rfl
theorem sf {id id'}:Ex.inBlock id Q (.exit id') σ=if id'=id then Q .norm σ else Q (.exit id') σ:=propext Iff.rfl
def Nx {ι:Type} (st:ι→St) (inv:ι→Prop) (μ:ι→Nat) (ks:List Nat) (n:Nat) (τ:St):Prop:=
 ∃ ms τ' j,τ.mats ms=some τ'∧τ'.nrm ks=st j∧inv j∧μ j < n
theorem Nx.mk {ι:Type} {st:ι→St} {inv:ι→Prop} {μ:ι→Nat} {ks:List Nat} {n:Nat} {τ:St} (j:ι) (h:τ.nrm ks=st j) (hi:inv j) (hm:μ j < n):Nx st inv μ ks n τ:=
 ⟨[],τ,j,rfl,h,hi,hm⟩
def PF (p:Prop):Prop:=p
theorem PF.out {p:Prop} (h:PF p):p:=h
theorem ak {ks:List Nat} {c:AC} {ι:Type} (st:ι→St) (inv:ι→Prop) (μ:ι→Nat) (ms:List Mat) (σ':St) (i0:ι) (hms:σ.mats ms=some σ') (h0:σ'.nrm ks=st i0) (hi:inv i0)
 (round:∀ i,inv i→∀ N:St→Prop,PF (∀ τ,Nx st inv μ ks (μ i) τ→N τ)→W Φ c (Ex.then N Q) (st i)):W Φ (.loop ks c) Q σ:=by
 refine ⟨fun n τ=>∃ i,inv i∧μ i=n∧τ=st i,⟨μ i0,ms,σ',hms,i0,hi,rfl,h0⟩,?_⟩
 rintro n τ ⟨i,hi,rfl,rfl⟩
 have e:Ex.then (Nx st inv μ ks (μ i)) Q=Ex.then (fun τ'=>∃ m ms τ'',τ'.mats ms=some τ''∧(∃ j,inv j∧μ j=m∧τ''.nrm ks=st j)∧m < μ i) Q:=by
  funext x τ'
  cases x with
  | norm=>
    simp only [An,eq_iff_iff]
    constructor
    · rintro ⟨ms,τ',j,h1,h2,h3,h4⟩; exact ⟨μ j,ms,τ',h1,⟨j,h3,rfl,h2⟩,h4⟩
    · rintro ⟨_,ms,τ',h1,⟨j,h3,rfl,h2⟩,h4⟩; exact ⟨ms,τ',j,h1,h2,h3,h4⟩
  | _=>rfl
 rw [←e]
 exact round i hi _ (fun _ h=>h)
theorem aN {d f vs us} {K:St→Prop} {r:V} (h:Φ.p f us r) (hf:bY r=true) (k:K (σ.put d r)):mI Φ d f vs us K σ:=⟨r,.inl ⟨h,.inl hf⟩,k⟩
theorem aF {d f vs us} {K:St→Prop} {r:V} (h:Φ.p f us r) (hf:ai vs=[]) (k:K (σ.put d r)):mI Φ d f vs us K σ:=⟨r,.inl ⟨h,.inr hf⟩,k⟩
theorem Fz {d f vs us} {K:St→Prop} {r:V} (h:Φ.n f us r) (k:K (σ.put d r)):mI Φ d f vs us K σ:=⟨r,.inr h,k⟩
theorem s9 {d f vs us} {K:St→Prop} {r:V} (h:Φ.n f us r) (k:ok r→K (σ.put d r)):lQ Φ d f vs us K σ:=⟨r,.inl ⟨.inr h,k⟩⟩
theorem aj {d f vs us} {K:St→Prop} {r:V} (h:Φ.p f us r) (hf:ai vs=[]) (k:ok r→K (σ.put d r)):lQ Φ d f vs us K σ:=⟨r,.inl ⟨.inl ⟨h,.inr hf⟩,k⟩⟩
theorem ae {d f vs us} {K:St→Prop} {r:V} (h:Φ.p f us r) (hf:bY r=true) (k:ok r→K (σ.put d r)):lQ Φ d f vs us K σ:=⟨r,.inl ⟨.inl ⟨h,.inl hf⟩,k⟩⟩
theorem wa {d f vs us} {K:St→Prop} {r:V} (h:Φ.p f us r) (k:ok r→K ((σ.kill (ai vs)).put d r)):lQ Φ d f vs us K σ:=⟨r,.inr (.inl ⟨h,k⟩)⟩
end rules
end Go.Abs
end
section
namespace Go.Abs
open Go.RowKit
structure Kap where
 v:Nat→Value
 row:Nat→Nat→Value
 bl:Nat→Nat→Prop
 fm:Mem
instance:CoeFun Kap fun _=>Nat→Value:=⟨Kap.v⟩
def blk:Value→Option Nat
 | .pointer (some a)=>some a.block
 | .slice (some a) _ _=>some a.block
 | _=>none
def Ob.nam:Ob→Bool
 | .mp _ _=>true
 | .gh _=>true
 | .itr _ _=>true
 | _=>false
def XX (κ:Kap) (h:List (Option Ob)):V→Value→Prop
 | .ref id n,c=>ar c∧id < h.length∧(∀ e sz l,h[id]?=some (some (.arr e sz l))→n≤l.length∧(n=l.length→c=κ id))∧(∀ e e2 sz rows,h[id]?=some (some (.mat e e2 sz rows))→n≤rows.length∧(n=rows.length→c=κ id))∧(∀ o,h[id]?=some (some o)→o.nam=true→c=κ id)
 | .ptr id off,c=>ar c∧id < h.length∧∀ cs,h[id]?=some (some (.box cs))→∃ b,κ id=.pointer (some ⟨b,0,none⟩)∧c=.pointer (some ⟨b,off,none⟩)
 | .eptr id n i off,c=>ar c∧id < h.length∧(∀ e sz l,h[id]?=some (some (.arr e sz l))→n≤l.length∧(n=l.length→i < n→∃ b cap,κ id=.slice (some ⟨b,0,none⟩) n cap∧c=.pointer (some ⟨b,i * sz + off,none⟩)))∧(∀ e e2 sz rows,h[id]?=some (some (.mat e e2 sz rows))→n≤rows.length∧(n=rows.length→i < n→∃ b cap,κ id=.slice (some ⟨b,0,none⟩) n cap∧c=.pointer (some ⟨b,i + off,none⟩)))
 | .fseq sz l,c=>ar c∧rep κ.fm NX (.seq sz l) c
 | .mref id i n,c=>ar c∧id < h.length∧∀ e e2 sz rows,h[id]?=some (some (.mat e e2 sz rows))→(∀ r,aL rows i=some r→n≤r.length∧(n=r.length→c=κ.row id i))∧∀ k,rows[i]?=some (.g k)→n≤k
 | .mptr id i n k off,c=>ar c∧id < h.length∧∀ e e2 sz rows,h[id]?=some (some (.mat e e2 sz rows))→(∀ r,aL rows i=some r→n≤r.length∧(n=r.length→k < n→∃ b cap,κ.row id i=.slice (some ⟨b,0,none⟩) n cap∧c=.pointer (some ⟨b,k * sz + off,none⟩)))∧∀ q,rows[i]?=some (.g q)→n≤q
 | _,_=>False
def al (M:Mem) (sz:Nat):List V→List Value→Prop
 | [],xs=>xs=[]
 | v::vs,xs=>∃ (y:Value) (rest:List Value),xs=y.cells.toList++rest∧rep M NX v y∧y.cells.size=sz∧(∀ u∈y.cells.toList,ar u)∧al M sz vs rest
structure Bas where
 n:Nat
 S:Nat→Prop
 ps:List Nat
 cs:Array Value
 fb:Nat
 J:Nat→List (V × Bool)→(Nat→Prop)→Mem→World→Prop
 df:List Deferred
def Bas.own (B:Bas) (g:Nat):Prop:=B.n≤g∨B.S g
def Siz (w w':World):Prop:=∀ (k:Nat) (cur:Array Value) (T:TypeId) (z:Nat × Nat),w.heap[k]?=some (Obj.cells cur T z)→∃ (cur':Array Value) (T':TypeId) (z':Nat × Nat),w'.heap[k]?=some (Obj.cells cur' T' z')∧cur'.size=cur.size
structure Und (B:Bas) (w w':World):Prop where
 os:w'.os=w.os
 tape:w'.tape=w.tape
 output:w'.output=w.output
 size:w.heap.size≤w'.heap.size
 block:∀ k,k < B.n→¬B.S k→w'.heap[k]?=w.heap[k]?
 siz:∀ (k:Nat) (cur:Array Value) (T:TypeId) (z:Nat × Nat),w.heap[k]?=some (Obj.cells cur T z)→∃ (cur':Array Value) (T':TypeId) (z':Nat × Nat),w'.heap[k]?=some (Obj.cells cur' T' z')∧cur'.size=cur.size
theorem Und.refl (B:Bas) (w:World):Und B w w:=⟨rfl,rfl,rfl,Nat.le_refl _,fun _ _ _=>rfl,fun _ cur T z h=>⟨cur,T,z,h,rfl⟩⟩
theorem Und.trans {B:Bas} {a b c:World} (h:Und B a b) (k:Und B b c):Und B a c:=
 ⟨k.os.trans h.os,k.tape.trans h.tape,k.output.trans h.output,Nat.le_trans h.size k.size,fun i hi hs=>(k.block i hi hs).trans (h.block i hi hs),fun i cur T z hc=>by
   obtain ⟨c1,T1,z1,h1,e1⟩:=h.siz i cur T z hc
   obtain ⟨c2,T2,z2,h2,e2⟩:=k.siz i c1 T1 z1 h1
   exact ⟨c2,T2,z2,h2,e2.trans e1⟩⟩
theorem Und.of_below {B:Bas} {w w':World} (h:Below w.heap.size w w') (hB:B.n≤w.heap.size):Und B w w':=⟨h.os,h.tape,h.output,h.size,fun k hk _=>h.block k (by omega),fun k cur T z hc=>⟨cur,T,z,by rw [h.block k (Array.getElem?_eq_some_iff.1 hc).1]; exact hc,rfl⟩⟩
def jW (M:Mem) (kt:KT):List (V × V)→List MapEntry→Prop
 | [],es=>es=[]
 | (k,v)::l,es=>∃ (e:MapEntry) (rest:List MapEntry),es=e::rest∧aO kt k=true∧rep M NX k e.key∧rep M NX v e.val∧jW M kt l rest
def aK (κ:Kap) (M:Mem) (X:V→Value→Prop) (B:Bas) (w:World) (id:Nat):Ob→Prop
 | .box cs=>∃ (b:Nat) (arr:Array Value) (T:TypeId),κ id=.pointer (some ⟨b,0,none⟩)∧B.own b∧w.heap[b]?=some (.cells arr T (0,0))∧aa M X cs arr.toList∧(∀ u∈arr.toList,ar u)∧∀ g,κ.bl id g↔g=b
 | .arr e sz l=>0 < sz∧l.length≤140737488355328∧∃ xs,w.ownsRow 0 e sz (κ id) l.length xs∧al M sz l xs∧(∀ g,κ.bl id g→B.own g)∧∀ g,κ.bl id g↔blk (κ id)=some g
 | .mat e e2 sz rows=>0 < sz∧rows.length≤140737488355328∧(∃ xs,w.ownsRow 0 e 1 (κ id) rows.length xs∧(∀ u∈xs,ar u)∧∀ i r,aL rows i=some r→xs[i]?=some (κ.row id i))∧
   (∀ i r,aL rows i=some r→r.length≤140737488355328∧∃ ys,w.ownsRow 0 e2 sz (κ.row id i) r.length ys∧al M sz r ys)∧
   (∀ i j r s g,aL rows i=some r→aL rows j=some s→blk (κ.row id i)=some g→blk (κ.row id j)=some g→i=j)∧(∀ i r g,aL rows i=some r→blk (κ.row id i)=some g→blk (κ id)≠some g)∧
   (∀ g,κ.bl id g→B.own g)∧∀ g,κ.bl id g↔(blk (κ id)=some g∨∃ i r,aL rows i=some r∧blk (κ.row id i)=some g)
 | .mp kt l=>∃ (b:Nat) (es:Array MapEntry) (clock:Nat),κ id=.map (some b)∧B.own b∧w.heap[b]?=some (.map es clock)∧jW M kt l es.toList∧∀ g,κ.bl id g↔g=b
 | .itr s p=>∃ (b:Nat) (bs:ByteArray),κ id=.pointer (some ⟨b,0,none⟩)∧B.own b∧w.heap[b]?=some (.stringIter bs p)∧bs.data.toList=s∧s.length≤4611686018427387904∧∀ g,κ.bl id g↔g=b
 | .gh l=>∃ k,κ id=.func (.yield k) #[] #[]∧B.J k l (κ.bl id) M w∧∀ g,κ.bl id g→B.own g∧g < w.heap.size
def Fq (B:Bas):Prop:=∀ (k:Nat) (l:List (V × Bool)) (S:Nat→Prop) (M M':Mem) (w w':World),B.J k l S M w→Und B w w'→(∀ g,S g→w'.heap[g]?=w.heap[g]?)→
 (∀ p v,M p=some v→M' p=some v)→(∀ p v,M' p=some v→w'.cell? p=some v)→B.J k l S M' w'
structure Sub (M0:Mem) (B:Bas) (fm M:Mem):Prop where
 sub:∀ p v,M0 p=some v→M p=some v
 fmS:∀ p v,fm p=some v→M p=some v
 fmN:∀ p v,fm p=some v→B.fb≤p.block
 fbn:B.fb≤B.n
 gl:Fr M0
structure Rel (N:Nat) (M0:Mem) (B:Bas) (w0:World) (κ:Kap) (M:Mem) (σ:St) (a:Act) (w:World):Prop where
 dfr:a.defers=B.df
 jst:Fq B
 pin:∀ i,i∈B.ps→a.tmps[i]?=B.cs[i]?
 size:a.tmps.size=N
 regs:∀ t v,lk σ.r t=some v→t < N∧∃ c,a.tmps[t]?=some c∧rep M (XX κ σ.h) v c
 heap:∀ id ob,σ.h[id]?=some (some ob)→aK κ M (XX κ σ.h) B w id ob
 inj:∀ i j oi oj g,σ.h[i]?=some (some oi)→σ.h[j]?=some (some oj)→κ.bl i g→κ.bl j g→i=j
 snd:∀ p v,M p=some v→w.cell? p=some v
 sep:∀ p v,M p=some v→∀ id ob,σ.h[id]?=some (some ob)→¬κ.bl id p.block
 sub:Sub M0 B κ.fm M
 new:∀ p v,M p=some v→M0 p=some v∨B.own p.block
 base:B.n=w0.heap.size
 blw:Und B w0 w
theorem ML {M X k n c} (h:rep M X (.int k n) c):ar c:=by simp only [rep] at h; rw [h.1]; rfl
theorem cg {M:Mem} {X:V→Value→Prop} {v:V} {c:Value} (h:rep M X v c) (hX:∀ v c,X v c→ar c) (hv:∀ vs,v≠.tup vs):
 aa M X (cl v) c.cells.toList∧∀ u∈c.cells.toList,ar u:=by
 have one:ar c→cl v=[v]→aa M X (cl v) c.cells.toList∧∀ u∈c.cells.toList,ar u:=by
  intro hc hcl
  rw [bZ hc,hcl]
  simp only [aa]
  exact ⟨⟨c,[],by simp,h,rfl⟩,by simpa using hc⟩
 cases v with
 | strct cs=>
   simp only [rep] at h
   obtain ⟨arr,rfl,h2,h3⟩:=h
   exact ⟨by simpa [cl,Value.cells] using h2,by simpa [Value.cells] using h3⟩
 | tup vs=>exact (hv vs rfl).elim
 | int k n=>exact one (ML h) rfl
 | bool b=>simp only [rep] at h; exact one (by rw [h]; rfl) rfl
 | str s=>simp only [rep] at h; obtain ⟨bs,rfl,_⟩:=h; exact one rfl rfl
 | nil sz=>simp only [rep] at h; exact one (by rw [h.1]; rfl) rfl
 | seq sz l=>simp only [rep] at h; obtain ⟨a,cap,rfl,_⟩:=h; exact one rfl rfl
 | ref id n=>exact one (hX _ _ h) rfl
 | ptr id n=>exact one (hX _ _ h) rfl
 | eptr id n i off=>exact one (hX _ _ h) rfl
 | mref id i n=>exact one (hX _ _ h) rfl
 | fseq sz l=>exact one (hX _ _ h) rfl
 | mptr id i n k off=>exact one (hX _ _ h) rfl
 | sptr x off=>simp only [rep] at h; obtain ⟨b,o,y,rfl,_⟩:=h; exact one rfl rfl
 | nilptr=>simp only [rep] at h; exact one (by rw [h]; rfl) rfl
 | fn f a b=>simp only [rep] at h; obtain ⟨a1,a2,rfl,_⟩:=h; exact one rfl rfl
 | nilfn=>simp only [rep] at h; exact one (by rw [h]; rfl) rfl
 | iface t x=>simp only [rep] at h; obtain ⟨y,rfl,_⟩:=h; exact one rfl rfl
 | niliface=>simp only [rep] at h; exact one (by rw [h]; rfl) rfl
 | junk=>exact one h rfl
theorem Du {κ h}:∀ v c,XX κ h v c→ar c:=by
 intro v c hx
 cases v<;>simp only [XX] at hx<;>first | exact hx.1 | exact hx.elim
theorem lN:∀ v c,NX v c→ar c:=fun _ _ h=>h.elim
theorem vO {M:Mem} {X:V→Value→Prop} {agg:Bool} {us:List V} {v:V} (h:mkc agg us=some v) {cs:List Value} (hr:aa M X us cs) (hc:∀ u∈cs,ar u):
 (agg=true∧rep M X v (.agg cs.toArray))∨(agg=false∧∃ c,cs=[c]∧rep M X v c):=by
 cases agg with
 | true=>
   simp only [mkc,Option.some.injEq] at h
   subst h
   exact .inl ⟨rfl,by simp only [rep]; exact ⟨cs.toArray,rfl,hr,hc⟩⟩
 | false=>
   match us,h with
   | [u],h=>
     simp only [mkc,Option.some.injEq] at h
     subst h
     simp only [aa] at hr
     obtain ⟨c,cs',rfl,h1,h2⟩:=hr
     exact .inr ⟨rfl,c,by rw [h2],h1⟩
theorem vR {M:Mem} {X:V→Value→Prop} {cs us:List V} {off n:Nat} (h:cut cs off n=some us) {ds:List Value} (hr:aa M X cs ds) (hc:∀ u∈ds,ar u):
 off + n≤ds.length∧aa M X us ((ds.drop off).take n)∧(∀ u∈(ds.drop off).take n,ar u)∧((ds.drop off).take n).length=n:=by
 unfold cut at h
 split at h
 · rename_i hle
   cases h
   have hl:=aG hr
   refine ⟨by omega,jF n (jG off hr),fun u hu=>hc u (List.mem_of_mem_drop (List.mem_of_mem_take hu)),by simp; omega⟩
 · cases h
theorem qv {M:Mem} {X:V→Value→Prop} {cs us cs':List V} {off:Nat} (h:eA cs off us=some cs') {ds es:List Value} (hr:aa M X cs ds) (hu:aa M X us es):
 off + es.length≤ds.length∧aa M X cs' (ds.take off++es++ds.drop (off + es.length)):=by
 unfold eA at h
 split at h
 · rename_i hle
   cases h
   have hl:=aG hr
   have hl':=aG hu
   refine ⟨by omega,?_⟩
   rw [hl']
   exact ci (ci (jF off hr) hu) (jG _ hr)
 · cases h
section
variable {N:Nat} {M0:Mem} {B:Bas} {w0:World} {κ:Kap} {M:Mem} {σ:St} {a:Act} {w:World}
theorem Rel.put (H:Rel N M0 B w0 κ M σ a w) {d:Nat} (hd:d < N∧d ∉ B.ps) {v:V} {c:Value} (hv:rep M (XX κ σ.h) v c):Rel N M0 B w0 κ M (σ.put (some d) v) (a.put (some d) c) w:=by
 refine { dfr:=H.dfr,jst:=H.jst,pin:=fun i hi=>by rw [←H.pin i hi]; simp only [Act.put]; rw [Array.getElem?_setIfInBounds_ne (fun e=>hd.2 (by rw [e]; exact hi))],size:=by simpa [Act.put] using H.size,regs:=?_,heap:=H.heap,inj:=H.inj,snd:=H.snd,sep:=H.sep,sub:=H.sub,new:=H.new,base:=H.base,blw:=H.blw }
 intro t u ht
 simp only [St.put,lk] at ht
 split at ht
 · rename_i he
   subst he
   cases ht
   exact ⟨hd.1,c,by simp [Act.put,H.size,hd.1],hv⟩
 · rename_i he
   obtain ⟨h1,c',h2,h3⟩:=H.regs t u ht
   exact ⟨h1,c',by simp [Act.put,Array.getElem?_setIfInBounds,he,h2],h3⟩
theorem Rel.put' (H:Rel N M0 B w0 κ M σ a w) {d:Option Nat} (hd:∀ t,d=some t→t < N∧t ∉ B.ps) {v:V} {c:Value} (hv:rep M (XX κ σ.h) v c):Rel N M0 B w0 κ M (σ.put d v) (a.put d c) w:=by
 cases d with
 | none=>exact H
 | some t=>exact H.put (hd t rfl) hv
theorem Rel.undef (H:Rel N M0 B w0 κ M σ a w) {d:Option Nat} (hd:∀ t,d=some t→t < N∧t ∉ B.ps):Rel N M0 B w0 κ M (σ.put d (.tup [])) (a.put d undef) w:=
 H.put' hd (by simp only [rep]; exact ⟨#[],rfl,by simp [aa]⟩)
theorem Rel.forget (H:Rel N M0 B w0 κ M σ a w) (r:List (Nat × V)) (hr:∀ t v,lk r t=some v→lk σ.r t=some v):Rel N M0 B w0 κ M { σ with r:=r } a w:=
 { dfr:=H.dfr,jst:=H.jst,pin:=H.pin,size:=H.size,regs:=fun t v ht=>H.regs t v (hr t v ht),heap:=H.heap,inj:=H.inj,snd:=H.snd,sep:=H.sep,sub:=H.sub,new:=H.new,base:=H.base,blw:=H.blw }
theorem HQ {r:List (Nat × V)}:∀ {ks:List Nat} {t:Nat} {v:V},lk (pk r ks) t=some v→lk r t=some v
 | [],_,_,h=>by simp [pk,lk] at h
 | k::ks,t,v,h=>by
   simp only [pk] at h
   split at h
   · rename_i u hu
     simp only [lk] at h
     split at h
     · rename_i he; subst he; rw [hu]; exact h
     · exact HQ h
   · exact HQ h
theorem kw {n:Nat}:∀ {ks:List Nat},ip n ks=true↔n∈ks
 | []=>by simp [ip]
 | k::ks=>by
   simp only [ip]
   split
   · rename_i h; simp [h]
   · rename_i h; rw [kw]; simp [h]
theorem Rel.ev (H:Rel N M0 B w0 κ M σ a w) {t:Nat} {v:V} (h:lk σ.r t=some v):rep M (XX κ σ.h) v (a.eval (.tmp t)):=by
 obtain ⟨_,c,h1,h2⟩:=H.regs t v h
 simpa [Act.eval,h1] using h2
theorem lK {σ:St} {id:Nat} {cs:List V} (h:σ.box? id=some cs):σ.h[id]?=some (some (.box cs)):=by
 unfold St.box? at h
 split at h<;>simp_all
theorem dI {σ:St} {id:Nat} {x:Nat × Nat × List V} (h:σ.arr? id=some x):σ.h[id]?=some (some (.arr x.1 x.2.1 x.2.2)):=by
 unfold St.arr? at h
 split at h
 · cases h; assumption
 · cases h
theorem bO {sz:Nat}:∀ {l:List V} {xs:List Value},al M sz l xs→xs.length=l.length * sz
 | [],_,h=>by simp only [al] at h; simp [h]
 | v::vs,xs,h=>by
   simp only [al] at h
   obtain ⟨y,rest,rfl,_,h2,_,h3⟩:=h
   have:=bO h3
   simp only [List.length_append,Array.length_toList,h2,this,List.length_cons,Nat.add_mul,Nat.one_mul]
   omega
theorem qB {sz:Nat}:∀ {l:List V} {xs:List Value},al M sz l xs→∀ {i:Nat} {v:V},l[i]?=some v→
 ∃ y,rep M NX v y∧y.cells.size=sz∧(∀ u∈y.cells.toList,ar u)∧∀ j,j < sz→xs[i * sz + j]?=y.cells[j]?
 | [],_,h,i,v,hi=>by simp at hi
 | v::vs,xs,h,i,u,hi=>by
   simp only [al] at h
   obtain ⟨y,rest,rfl,h1,h2,h2',h3⟩:=h
   cases i with
   | zero=>
     simp at hi
     subst hi
     refine ⟨y,h1,h2,h2',fun j hj=>?_⟩
     rw [List.getElem?_append_left (by simp; omega)]
     simp
   | succ i=>
     simp at hi
     obtain ⟨y',g1,g2,g2',g3⟩:=qB h3 hi
     refine ⟨y',g1,g2,g2',fun j hj=>?_⟩
     rw [List.getElem?_append_right (by simp [Nat.add_mul,h2]; omega),←g3 j hj]
     congr 1
     simp [Nat.add_mul,h2]
     omega
theorem k8 {sz:Nat}:∀ {l:List V} {b off:Nat},bp M sz l b off→∀ {i:Nat} {v:V},l[i]?=some v→
 ∃ y,rep M NX v y∧y.cells.size=sz∧(∀ u∈y.cells.toList,ar u)∧∀ j,j < sz→M ⟨b,off + i * sz + j,none⟩=y.cells[j]?
 | [],_,_,_,i,v,hi=>by simp at hi
 | v::vs,b,off,h,i,u,hi=>by
   simp only [bp] at h
   obtain ⟨⟨y,h1,h2,h2',h3⟩,h4⟩:=h
   cases i with
   | zero=>
     simp at hi
     subst hi
     exact ⟨y,h1,h2,h2',fun j hj=>by simpa using h3 j hj⟩
   | succ i=>
     simp at hi
     obtain ⟨y',g1,g2,g2',g3⟩:=k8 h4 hi
     refine ⟨y',g1,g2,g2',fun j hj=>?_⟩
     rw [←g3 j hj]
     congr 2
     simp only [Nat.add_mul]; omega
theorem Cd {σ:St} {id:Nat} {x:KT × List (V × V)} (h:σ.mp? id=some x):σ.h[id]?=some (some (.mp x.1 x.2)):=by
 unfold St.mp? at h
 split at h
 · cases h; assumption
 · cases h
theorem d2 {σ:St} {id:Nat} {x:Nat × Nat × Nat × List Rw} (h:σ.rws? id=some x):σ.h[id]?=some (some (.mat x.1 x.2.1 x.2.2.1 x.2.2.2)):=by
 unfold St.rws? at h
 split at h
 · cases h; assumption
 · cases h
theorem mU {rows:List Rw} {i:Nat} {r:List V} (h:aL rows i=some r):rows[i]?=some (.a r)∧i < rows.length:=by
 unfold aL at h
 split at h
 · rename_i r' hr
   cases h
   exact ⟨hr,(List.getElem?_eq_some_iff.1 hr).1⟩
 · cases h
theorem Ax {e sz:Nat} {val:Value} {l:List V} {xs:List Value} (ho:w.ownsRow 0 e sz val l.length xs) (hrow:al M sz l xs) {b cap m:Nat} (g1:val=.slice (some ⟨b,0,none⟩) m cap) {i:Nat} {v:V} (hv:l[i]?=some v)
 {off n:Nat} {us:List V} (h:cut (cl v) off n=some us) {X:V→Value→Prop}:
 ∃ cs:List Value,aa M X us cs∧(∀ u∈cs,ar u)∧cs.length=n∧∀ j u,cs[j]?=some u→w.cell? ((⟨b,i * sz + off,none⟩:Addr).add j)=some u:=by
 have hi:i < l.length:=(List.getElem?_eq_some_iff.1 hv).1
 obtain ⟨y,k1,k2,k2',k3⟩:=qB hrow hv
 have hnt:∀ vs,v≠.tup vs:=by
  rintro vs rfl
  simp only [rep] at k1
  obtain ⟨arr,rfl,_⟩:=k1
  have:=k2' (.tuple arr) (by simp [Value.cells])
  simp [ar,Value.oneCell'] at this
 have kc:=cg k1 lN hnt
 obtain ⟨c1,c2,c3,c4⟩:=vR h kc.1 kc.2
 refine ⟨_,aR (fun _ _ h=>h) (fun _ _ h=>h.elim) _ _ c2,c3,c4,fun j u hj=>?_⟩
 have hjn:j < n:=by
  have:=(List.getElem?_eq_some_iff.1 hj).1
  rw [c4] at this; exact this
 rw [List.getElem?_take,if_pos hjn,List.getElem?_drop] at hj
 have hj':y.cells[off + j]?=some u:=by simpa using hj
 have hlt:off + j < sz:=by rw [←k2]; exact (Array.getElem?_eq_some_iff.1 hj').1
 have hx:=k3 (off + j) hlt
 rw [hj'] at hx
 have:=ho.cells (g:=b) (by rw [g1]; rfl) (i * sz + (off + j)) u hx
 rw [Addr.add_lit] at this ⊢
 rw [←this]; congr 2; omega
theorem uQ (H:Rel N M0 B w0 κ M σ a w) {p:V} {c:Value} (hp:rep M (XX κ σ.h) p c) {n:Nat} {us:List V} (h:σ.fetch p n=some us):
 ∃ (b o:Nat) (cs:List Value),c=.pointer (some ⟨b,o,none⟩)∧aa M (XX κ σ.h) us cs∧(∀ u∈cs,ar u)∧cs.length=n∧∀ j v,cs[j]?=some v→w.cell? ((⟨b,o,none⟩:Addr).add j)=some v:=by
 cases p<;>simp only [St.fetch] at h<;>try (cases h; done)
 case ptr id off=>
  split at h
  · rename_i cs hcs
    have hb:=lK hcs
    obtain ⟨b,arr,T,h1,h2,h3,h4,h5,_⟩:=H.heap id _ hb
    simp only [rep,XX] at hp
    obtain ⟨b',g1,g2⟩:=hp.2.2 cs hb
    rw [h1] at g1
    cases g1
    obtain ⟨k1,k2,k3,k4⟩:=vR h h4 h5
    refine ⟨b,off,_,g2,k2,k3,k4,fun j v hj=>?_⟩
    rw [Addr.add_lit,cell_of_row w b _ arr T (0,0) h3]
    rw [List.getElem?_take] at hj
    split at hj
    · rw [List.getElem?_drop] at hj; simpa using hj
    · cases hj
  · cases h
 case eptr id m i off=>
  split at h
  · rename_i e sz l hl
    have ha:=dI hl
    simp only at ha
    obtain ⟨hsz,hlen,xs,ho,hrow,_⟩:=H.heap id _ ha
    split at h
    · rename_i hm
      split at h
      · rename_i v hv
        have hi:i < l.length:=(List.getElem?_eq_some_iff.1 hv).1
        simp only [rep,XX] at hp
        obtain ⟨b,cap,g1,g2⟩:=(hp.2.2.1 e sz l ha).2 hm (by omega)
        obtain ⟨cs,k1,k2,k3,k4⟩:=Ax ho hrow g1 hv h (X:=XX κ σ.h)
        exact ⟨b,i * sz + off,cs,g2,k1,k2,k3,k4⟩
      · cases h
    · cases h
  · split at h
    · rename_i e e2 sz rows hr
      have hr':=d2 hr
      simp only at hr'
      split at h
      · rename_i hc
        obtain ⟨hm,rfl,rfl⟩:=hc
        split at h
        · rename_i r hrow
          cases h
          obtain ⟨h1,h2,⟨xs,ho,hcx,hxs⟩,_⟩:=H.heap id _ hr'
          have hlt:=mU hrow
          simp only [rep,XX] at hp
          obtain ⟨b,cap,g1,g2⟩:=(hp.2.2.2 e e2 sz rows hr').2 hm (by omega)
          refine ⟨b,i + 0,[κ.row id i],g2,?_,?_,rfl,fun j v hj=>?_⟩
          · simp only [aa,rep,XX]
            refine ⟨_,[],rfl,⟨hcx _ (List.mem_of_getElem? (hxs i r hrow)),(List.getElem?_eq_some_iff.1 hr').1,fun e' e2' sz' rows' h'=>?_⟩,rfl⟩
            rw [hr'] at h'
            cases h'
            refine ⟨fun r' hr2=>?_,fun k hk=>?_⟩
            · rw [hrow] at hr2
              cases hr2
              exact ⟨Nat.le_refl _,fun _=>rfl⟩
            · rw [hlt.1] at hk; cases hk
          · intro u hu
            simp only [List.mem_singleton] at hu
            subst hu
            exact hcx _ (List.mem_of_getElem? (hxs i r hrow))
          · have hj0:j=0:=by
             have:=(List.getElem?_eq_some_iff.1 hj).1
             simpa using this
            subst hj0
            simp at hj
            subst hj
            have:=ho.cells (g:=b) (by rw [g1]; rfl) i _ (hxs i r hrow)
            rw [Addr.add_lit] at this ⊢
            rw [←this]; congr 2; omega
        · cases h
      · cases h
    · cases h
 case mptr id i m k off=>
  split at h
  · rename_i e e2 sz rows hr
    have hr':=d2 hr
    simp only at hr'
    split at h
    · rename_i r hrow
      split at h
      · rename_i hm
        split at h
        · rename_i v hv
          have hk:k < r.length:=(List.getElem?_eq_some_iff.1 hv).1
          obtain ⟨h1,h2,_,h3,_⟩:=H.heap id _ hr'
          obtain ⟨hrl,ys,ho,hys⟩:=h3 i r hrow
          simp only [rep,XX] at hp
          obtain ⟨b,cap,g1,g2⟩:=((hp.2.2 e e2 sz rows hr').1 r hrow).2 hm (by omega)
          obtain ⟨cs,k1,k2,k3,k4⟩:=Ax ho hys g1 hv h (X:=XX κ σ.h)
          exact ⟨b,k * sz + off,cs,g2,k1,k2,k3,k4⟩
        · cases h
      · cases h
    · cases h
  · cases h
 case sptr x off=>
  simp only [rep] at hp
  obtain ⟨b,o,y,rfl,h2,h2',h3⟩:=hp
  have hnt:∀ vs,x=.tup vs→False:=by
   rintro vs rfl
   simp only [rep] at h2
   obtain ⟨arr,rfl,_⟩:=h2
   have:=h2' (.tuple arr) (by simp [Value.cells])
   simp [ar,Value.oneCell'] at this
  have kc:=cg h2 lN (fun vs h=>hnt vs h)
  obtain ⟨c1,c2,c3,c4⟩:=vR h kc.1 kc.2
  refine ⟨b,o + off,_,rfl,aR (fun _ _ h=>h) (fun _ _ h=>h.elim) _ _ c2,c3,c4,fun j u hj=>?_⟩
  have hjn:j < n:=by
   have:=(List.getElem?_eq_some_iff.1 hj).1
   rw [c4] at this; exact this
  rw [List.getElem?_take,if_pos hjn,List.getElem?_drop] at hj
  have hj':y.cells[off + j]?=some u:=by simpa using hj
  have hlt:off + j < y.cells.size:=(Array.getElem?_eq_some_iff.1 hj').1
  have hx:=h3 (off + j) hlt
  rw [hj'] at hx
  have:=H.snd _ _ hx
  rw [Addr.add_lit,←this]; congr 2; omega
end
def EM (P:Program):Nat→TypeId→Option (List TypeId)
 | 0,_=>none
 | d + 1,t=>match P.underlying t with
   | some (.struct fs)=>fs.toList.foldr (fun f acc=>match EM P d f.type,acc with
     | some l,some r=>some (l++r)
     | _,_=>none) (some [])
   | some (.array n e)=>(EM P d e).map fun l=>(List.replicate n l).flatten
   | some _=>some [t]
   | none=>none
def dW (P:Program) (t:TypeId):Option Nat:=(P.info? t).map (·.size)
def va (P:Program) (t:TypeId):Option Bool:=(P.underlying t).map fun
 | .struct _ | .array _ _=>true
 | _=>false
def cS (P:Program) (t:TypeId):Value→Option V
 | .int k n=>if k.min≤n∧n≤k.max then some (.int k n) else none
 | .bool b=>some (.bool b)
 | .string bs=>if bs.data.toList.length≤4611686018427387904 then some (.str bs.data.toList) else none
 | .slice none 0 0=>match P.underlying t with
   | some (.slice e)=>match dW P e with
     | some n=>if 0 < n then some (.nil n) else none
     | none=>none
   | _=>none
 | .pointer none=>some .nilptr
 | .nilFunc=>some .nilfn
 | .nilIface=>some .niliface
 | .map none=>some .junk
 | _=>none
def cSs (P:Program):List TypeId→List Value→Option (List V)
 | [],[]=>some []
 | t::ts,c::cs=>match cS P t c,cSs P ts cs with
   | some v,some vs=>some (v::vs)
   | _,_=>none
 | _,_=>none
def cV (P:Program) (t:TypeId):Value→Option V
 | .agg cs=>match EM P 20 t with
   | some ts=>(cSs P ts cs.toList).map .strct
   | none=>none
 | c=>cS P t c
def cO (P:Program) (t:TypeId):Operand→Option AO
 | .tmp n=>some (.t n)
 | .const c=>(cV P t c).map .v
 | .func f=>some (.v (.fn (.func f) [] []))
 | .global g=>if 0 < (GLt g).length then some (.v (.sptr (.strct ((GLt g).map fun n=>.int .u8 (n % 256:Nat))) 0)) else none
def cOs (P:Program):List TypeId→List Operand→Option (List AO)
 | [],[]=>some []
 | t::ts,x::xs=>match cO P t x,cOs P ts xs with
   | some v,some vs=>some (v::vs)
   | _,_=>none
 | _,_=>none
theorem MN {P:Program} {t:TypeId} {c:Value} {v:V} (h:cS P t c=some v) {M:Mem} {X:V→Value→Prop}:rep M X v c∧ar c:=by
 unfold cS at h
 split at h
 · split at h
   · cases h; exact ⟨by simp only [rep]; exact ⟨trivial,‹_›⟩,rfl⟩
   · cases h
 · cases h; exact ⟨rfl,rfl⟩
 · split at h
   · cases h; exact ⟨by simp only [rep]; exact ⟨_,rfl,rfl,‹_›⟩,rfl⟩
   · cases h
 · split at h
   · split at h
     · split at h
       · rename_i h0; cases h; exact ⟨⟨rfl,h0⟩,rfl⟩
       · cases h
     · cases h
   · cases h
 · cases h; exact ⟨rfl,rfl⟩
 · cases h; exact ⟨rfl,rfl⟩
 · cases h; exact ⟨rfl,rfl⟩
 · cases h; exact ⟨rfl,rfl⟩
 · cases h
theorem Dp {P:Program} {M:Mem} {X:V→Value→Prop}:∀ {ts:List TypeId} {cs:List Value} {vs:List V},cSs P ts cs=some vs→aa M X vs cs∧∀ u∈cs,ar u
 | [],[],vs,h=>by simp only [cSs,Option.some.injEq] at h; subst h; simp [aa]
 | t::ts,c::cs,vs,h=>by
   simp only [cSs] at h
   split at h
   · rename_i v us hv hus
     cases h
     have h1:=MN hv (M:=M) (X:=X)
     have h2:=Dp (M:=M) (X:=X) hus
     refine ⟨by simp only [aa]; exact ⟨c,cs,rfl,h1.1,h2.1⟩,fun u hu=>?_⟩
     rcases List.mem_cons.1 hu with rfl | hu
     · exact h1.2
     · exact h2.2 u hu
   · cases h
 | [],_::_,_,h=>by simp [cSs] at h
 | _::_,[],_,h=>by simp [cSs] at h
theorem ym {P:Program} {t:TypeId} {c:Value} {v:V} (h:cV P t c=some v) {M:Mem} {X:V→Value→Prop}:rep M X v c:=by
 unfold cV at h
 split at h
 · split at h
   · rename_i ts _
     obtain ⟨vs,hc,rfl⟩:=Option.map_eq_some_iff.1 h
     have:=Dp hc (M:=M) (X:=X)
     simp only [rep]
     exact ⟨_,rfl,this.1,this.2⟩
   · cases h
 · exact (MN h).1
section
variable {P:Program} {N:Nat} {M0:Mem} {B:Bas} {w0:World} {κ:Kap} {M:Mem} {σ:St} {a:Act} {w:World}
theorem Il {M:Mem} {X:V→Value→Prop}:∀ l:List Nat,aa M X (l.map fun n=>.int .u8 (n % 256:Nat)) (l.map GLv)∧∀ u∈l.map GLv,ar u
 | []=>by simp [aa]
 | n::l=>by
   obtain ⟨h1,h2⟩:=Il (M:=M) (X:=X) l
   refine ⟨?_,?_⟩
   · simp only [List.map_cons,aa]
     refine ⟨_,_,rfl,?_,h1⟩
     simp only [rep,GLv]
     refine ⟨trivial,?_⟩
     simp [IntKind.min,IntKind.max,IntKind.signed,IntKind.bits]
     omega
   · intro u hu
     simp only [List.map_cons,List.mem_cons] at hu
     rcases hu with rfl | hu
     · rfl
     · exact h2 u hu
theorem SG {M:Mem} {X:V→Value→Prop} (hM:Fr M) {g:Nat}:rep M X (.sptr (.strct ((GLt g).map fun n=>.int .u8 (n % 256:Nat))) 0) (.pointer (some ⟨g,0,none⟩)):=by
 simp only [rep]
 obtain ⟨h1,h2⟩:=Il (M:=M) (X:=NX) (GLt g)
 refine ⟨g,0,.agg ((GLt g).map GLv).toArray,rfl,⟨_,rfl,h1,h2⟩,h2,fun j hj=>?_⟩
 have hj:j < (GLt g).length:=by simpa [Value.cells] using hj
 have e:(Value.agg ((GLt g).map GLv).toArray).cells[j]?=some (GLv (GLt g)[j]):=by simp [Value.cells,hj]
 rw [e]
 refine hM.1 _ _ ?_
 simp [GL,hj]
theorem Rel.op (H:Rel N M0 B w0 κ M σ a w) {t:TypeId} {o:Operand} {x:AO} {v:V} (hc:cO P t o=some x) (hv:σ.ev x=some v):rep M (XX κ σ.h) v (a.eval o):=by
 cases o with
 | tmp n=>simp only [cO,Option.some.injEq] at hc; subst hc; exact H.ev hv
 | const c=>
   simp only [cO] at hc
   cases h:cV P t c with
   | none=>simp [h] at hc
   | some u=>
     simp only [h,Option.map_some,Option.some.injEq] at hc
     subst hc
     simp only [St.ev,Option.some.injEq] at hv
     subst hv
     exact ym h
 | global g=>
   simp only [cO] at hc
   split at hc
   · rename_i hg
     cases hc
     simp only [St.ev,Option.some.injEq] at hv
     subst hv
     exact SG (H.sub.gl.mono H.sub.sub)
   · cases hc
 | func f=>
   simp only [cO,Option.some.injEq] at hc
   subst hc
   simp only [St.ev,Option.some.injEq] at hv
   subst hv
   simp only [rep,Act.eval]
   exact ⟨#[],#[],rfl,by simp [aa],by simp [aa]⟩
theorem Rel.ops (H:Rel N M0 B w0 κ M σ a w):∀ {ts:List TypeId} {os:List Operand} {xs:List AO} {vs:List V},cOs P ts os=some xs→σ.evs xs=some vs→aa M (XX κ σ.h) vs (os.map a.eval)
 | [],[],xs,vs,h,h'=>by
   simp only [cOs,Option.some.injEq] at h
   subst h
   simp only [St.evs,Option.some.injEq] at h'
   subst h'
   simp [aa]
 | t::ts,o::os,xs,vs,h,h'=>by
   simp only [cOs] at h
   split at h
   · rename_i x ys hx hys
     cases h
     simp only [St.evs] at h'
     split at h'
     · rename_i u us hu hus
       cases h'
       simp only [List.map_cons,aa]
       exact ⟨_,_,rfl,H.op hx hu,H.ops hys hus⟩
     · cases h'
   · cases h
 | [],_::_,_,_,h,_=>by simp [cOs] at h
 | _::_,[],_,_,h,_=>by simp [cOs] at h
theorem bc {X k n c} (h:rep M X (.int k n) c):c=.int k n∧k.min≤n∧n≤k.max:=by simpa only [rep] using h
theorem f6 {X b c} (h:rep M X (.bool b) c):c=.bool b:=by simpa only [rep] using h
theorem kZ {X s c} (h:rep M X (.str s) c):∃ bs:ByteArray,c=.string bs∧bs.data.toList=s∧s.length≤4611686018427387904:=h
theorem kV (bs:ByteArray):bs.size=bs.data.toList.length:=by rw [ByteArray.size,Array.length_toList]
theorem Nh (k:IntKind) (n:Int):k.min≤k.wrap n∧k.wrap n≤k.max:=by
 cases k<;>simp [IntKind.wrap,IntKind.min,IntKind.max,IntKind.signed,IntKind.bits]<;>(try split)<;>omega
theorem du {X} (k:IntKind) (n:Int):rep M X (.int k (k.wrap n)) (.int k (k.wrap n)):=by simp only [rep]; exact ⟨trivial,Nh k n⟩
theorem dH {X} (b:Bool):rep M X (.bool b) (.bool b):=rfl
theorem uF (k:IntKind):k.min≤0∧0≤k.max:=by cases k<;>decide
theorem Om {k:IntKind} {m n:Int} (h:k.min≤m∧m≤k.max):k.min≤m.tmod n∧m.tmod n≤k.max:=by
 have:=uF k
 by_cases hm:0≤m
 · have h1:=Int.tmod_nonneg n hm
   have h2:m.tmod n≤m:=by
    rw [Int.tmod_eq_emod_of_nonneg hm]
    by_cases hn:n=0
    · subst hn; simp
    · have h3:=Int.mul_ediv_add_emod m n
      have h4:0≤n * (m / n):=by
       rcases Int.lt_or_gt_of_ne hn with h5 | h5
       · have:=Int.ediv_nonpos_of_nonneg_of_nonpos hm (Int.le_of_lt h5)
         exact Int.mul_nonneg_of_nonpos_of_nonpos (Int.le_of_lt h5) this
       · exact Int.mul_nonneg (Int.le_of_lt h5) (Int.ediv_nonneg hm (Int.le_of_lt h5))
      omega
   omega
 · have e:m.tmod n=-((-m).tmod n):=by rw [Int.neg_tmod]; omega
   have h1:=Int.tmod_nonneg n (show 0≤-m by omega)
   have h2:(-m).tmod n≤-m:=by
    rw [Int.tmod_eq_emod_of_nonneg (show 0≤-m by omega)]
    by_cases hn:n=0
    · subst hn; simp
    · have h3:=Int.mul_ediv_add_emod (-m) n
      have h4:0≤n * (-m / n):=by
       rcases Int.lt_or_gt_of_ne hn with h5 | h5
       · have:=Int.ediv_nonpos_of_nonneg_of_nonpos (show 0≤-m by omega) (Int.le_of_lt h5)
         exact Int.mul_nonneg_of_nonpos_of_nonpos (Int.le_of_lt h5) this
       · exact Int.mul_nonneg (Int.le_of_lt h5) (Int.ediv_nonneg (show 0≤-m by omega) (Int.le_of_lt h5))
      omega
   omega
theorem Pa {k:IntKind} {m:Int} {n:Nat} (h:k.min≤m∧m≤k.max):k.min≤m.fdiv (2 ^ n)∧m.fdiv (2 ^ n)≤k.max:=by
 have hz:=uF k
 have hp:(0:Int) < 2 ^ n:=Int.pow_pos (by decide)
 rw [Int.fdiv_eq_ediv_of_nonneg _ (Int.le_of_lt hp)]
 have h3:=Int.mul_ediv_add_emod m (2 ^ n)
 have h4:=Int.emod_nonneg m (Int.ne_of_gt hp)
 have h5:=Int.emod_lt_of_pos m hp
 generalize m / 2 ^ n=q at *
 generalize (2:Int) ^ n=p at *
 generalize m % p=r at *
 by_cases hm:0≤q
 · have:q≤p * q:=by
    have:1 * q≤p * q:=Int.mul_le_mul_of_nonneg_right (by omega) hm
    omega
   omega
 · have h6:(p - 1) * 1≤(p - 1) * (-q):=Int.mul_le_mul_of_nonneg_left (by omega) (by omega)
   have h7:(p - 1) * (-q)=q - p * q:=by rw [Int.sub_mul,Int.mul_neg,Int.one_mul]; omega
   omega
theorem oX (a b:List UInt8):(a == b)=decide (a=b):=by
 by_cases h:a=b<;>simp [h]
theorem oG (op:BinOp) (xt:TypeId) (x y:Operand) (c d:Value) (h1:∀ cs,c≠.agg cs) (h2:c≠.nilIface):(eqGuard op xt x y c d).run P w=.ok () w:=by
 cases op<;>first | rfl | (unfold eqGuard; simp; split<;>first | exact (h2 rfl).elim | exact (h1 _ rfl).elim | rfl)
theorem FE {op:BinOp} {u v r:V} (h:Ok op u v=some r) {X:V→Value→Prop} {c d:Value} (hu:rep M X u c) (hv:rep M X v d) (xt:TypeId) (x y:Operand):
 ∃ e,((do eqGuard op xt x y c d; binOp op xt c d:Sem Value)).run P w=.ok e w∧rep M X r e:=by
 cases u<;>cases v<;>simp only [Ok] at h<;>try (cases h; done)
 case int.int k m k' n=>
  obtain ⟨rfl,hm⟩:=bc hu
  obtain ⟨rfl,hn⟩:=bc hv
  simp only [Sem.run_bind,oG op xt x y (.int k m) (.int k' n) (by simp) (by simp),Result.andThen_ok]
  cases op<;>simp only [bR,pC,qu] at h
  case shl=>
   split at h
   · cases h
   · rename_i hb
     cases h
     exact ⟨_,by simp [binOp,Op.shift,hb],du _ _⟩
  case shr=>
   split at h
   · cases h
   · rename_i hb
     cases h
     exact ⟨.int k (m.fdiv (2 ^ min n.toNat k.bits)),by simp [binOp,Op.shift,hb],by simp only [rep]; exact ⟨trivial,Pa hm⟩⟩
  all_goals (split at h<;>try (cases h; done)); rename_i hk; subst hk
  case quo=>
   split at h
   · cases h
   · rename_i hb; cases h; exact ⟨_,by simp [binOp,Op.intDiv,hb],du _ _⟩
  case rem=>
   split at h
   · cases h
   · rename_i hb; cases h; exact ⟨.int k (m.tmod n),by simp [binOp,Op.intDiv,hb],by simp only [rep]; exact ⟨trivial,Om hm⟩⟩
  case add=>cases h; exact ⟨_,by simp [binOp,Op.intArith],du _ _⟩
  case sub=>cases h; exact ⟨_,by simp [binOp,Op.intArith],du _ _⟩
  case mul=>cases h; exact ⟨_,by simp [binOp,Op.intArith],du _ _⟩
  case and=>cases h; exact ⟨_,by simp [binOp,Op.intBits],du _ _⟩
  case or=>cases h; exact ⟨_,by simp [binOp,Op.intBits],du _ _⟩
  case xor=>cases h; exact ⟨_,by simp [binOp,Op.intBits],du _ _⟩
  case andNot=>cases h; exact ⟨_,by simp [binOp,Op.intBits],du _ _⟩
  case eql=>cases h; exact ⟨_,by simp only [binOp,Op.intCmp,ne_eq,not_true_eq_false,if_false]; rfl,dH _⟩
  case neq=>cases h; exact ⟨_,by simp only [binOp,Op.intCmp,ne_eq,not_true_eq_false,if_false]; rfl,dH _⟩
  case lss=>cases h; exact ⟨_,by simp only [binOp,Op.intCmp,ne_eq,not_true_eq_false,if_false]; rfl,dH _⟩
  case leq=>cases h; exact ⟨_,by simp only [binOp,Op.intCmp,ne_eq,not_true_eq_false,if_false]; rfl,dH _⟩
  case gtr=>cases h; exact ⟨_,by simp only [binOp,Op.intCmp,ne_eq,not_true_eq_false,if_false]; rfl,dH _⟩
  case geq=>cases h; exact ⟨_,by simp only [binOp,Op.intCmp,ne_eq,not_true_eq_false,if_false]; rfl,dH _⟩
 case str.str s t=>
  obtain ⟨bs,rfl,rfl,hl⟩:=kZ hu
  obtain ⟨bt,rfl,rfl,hl'⟩:=kZ hv
  simp only [Sem.run_bind,oG op xt x y (.string bs) (.string bt) (by simp) (by simp),Result.andThen_ok]
  have e1:=ByteArray.toList_eq bs
  have e2:=ByteArray.toList_eq bt
  cases op<;>simp only [Qu] at h<;>try (cases h; done)
  case add=>
   split at h
   · rename_i hb
     cases h
     have hs:=kV bs
     have ht:=kV bt
     refine ⟨.string (bs++bt),?_,?_⟩
     · have:¬(((bs.size + bt.size:Nat):Int) > IntKind.i64.max):=by
        simp only [IntKind.max,IntKind.signed,IntKind.bits]; simp; omega
       simp only [binOp,Op.stringOp]
       rw [if_neg this]; rfl
     · simp only [rep]
       exact ⟨_,rfl,by simp [ByteArray.data_append],by simpa using hb⟩
   · cases h
  case eql=>cases h; exact ⟨_,by simp only [binOp,Op.stringOp,e1,e2,oX]; rfl,dH _⟩
  case neq=>cases h; exact ⟨_,by simp only [binOp,Op.stringOp,e1,e2,oX]; rfl,dH _⟩
  case lss=>cases h; exact ⟨_,by simp only [binOp,Op.stringOp,e1,e2,oX]; rfl,dH _⟩
  case leq=>cases h; exact ⟨_,by simp only [binOp,Op.stringOp,e1,e2,oX]; rfl,dH _⟩
  case gtr=>cases h; exact ⟨_,by simp only [binOp,Op.stringOp,e1,e2,oX]; rfl,dH _⟩
  case geq=>cases h; exact ⟨_,by simp only [binOp,Op.stringOp,e1,e2,oX]; rfl,dH _⟩
end
end Go.Abs
end
section
namespace Go.Abs
open Go.RowKit Go.WideShapes
section
variable {P:Program}
def ky (f:TypeId→Option (List KK)):Nat→List (Nat × TypeId)→Option (List KK)
 | _,[]=>some []
 | o,(off,t)::ps=>match f t with
   | some ks=>if off=o∧P.cellsOf t=ks.length then (match ky f (o + ks.length) ps with
     | some r=>some (ks++r)
     | none=>none) else none
   | none=>none
def tC (P:Program):Nat→TypeId→Option (List KK)
 | 0,_=>none
 | d + 1,t=>match P.underlying t with
   | some .bool=>some [.b]
   | some (.int k)=>some [.i k]
   | some .string=>some [.s]
   | some (.array n e)=>match ky (P:=P) (tC P d) 0 ((List.range n).map fun i=>(i * P.cellsOf e,e)) with
     | some ks=>if P.cellsOf t=ks.length then some ks else none
     | none=>none
   | some (.struct fs)=>match ky (P:=P) (tC P d) 0 (fs.toList.map fun f=>(f.offset,f.type)) with
     | some ks=>if P.cellsOf t=ks.length∧fs.all (·.name != "_")=true then some ks else none
     | none=>none
   | _=>none
def Gg:V→Lit
 | .int k n=>.int k n
 | .bool b=>.bool b
 | .str s=>.string s
 | _=>.bool false
def eM:List V→List Lit
 | []=>[]
 | v::vs=>Gg v::eM vs
theorem r8:∀ {a b:List V},eM (a++b)=eM a++eM b
 | [],b=>rfl
 | v::a,b=>by simp [eM,r8 (a:=a)]
theorem gm:∀ {us:List V} {ks:List KK},aZ us=ay ks→us.length=ks.length
 | [],[],_=>rfl
 | [],_::_,h=>by simp [aZ,ay] at h
 | _::_,[],h=>by simp [aZ,ay] at h
 | u::us,k::ks,h=>by
   simp only [aZ,ay,List.cons.injEq] at h
   simp [gm h.2]
theorem uL:∀ {a b:List V},aZ (a++b)=aZ a++aZ b
 | [],b=>rfl
 | v::a,b=>by simp [aZ,uL (a:=a)]
theorem rI:∀ {a b:List KK},ay (a++b)=ay a++ay b
 | [],b=>rfl
 | v::a,b=>by simp [ay,rI (a:=a)]
theorem Gl {us:List V} {a b:List KK} (h:aZ us=ay (a++b)):aZ (us.take a.length)=ay a∧aZ (us.drop a.length)=ay b:=by
 have hl:=gm h
 rw [List.length_append] at hl
 have h2:us=us.take a.length++us.drop a.length:=(List.take_append_drop _ _).symm
 rw [h2,uL,rI] at h
 have hlen:(aZ (us.take a.length)).length=(ay a).length:=by
  have l1:∀ (l:List V),(aZ l).length=l.length:=fun l=>by induction l<;>simp [aZ, *]
  have l2:∀ (l:List KK),(ay l).length=l.length:=fun l=>by induction l<;>simp [ay, *]
  rw [l1,l2,List.length_take]; omega
 exact List.append_inj h hlen
theorem nk {f:TypeId→Option (List KK)} {d:Nat} {M:Mem} {X:V→Value→Prop} (hf:∀ (t:TypeId) (ks:List KK) (us:List V) (cs:List Value),f t=some ks→aa M X us cs→aZ us=ay ks→P.keyLits d t cs=some (eM us)):
 ∀ (ps:List (Nat × TypeId)) (o:Nat) (ks:List KK) (us:List V) (cs:List Value),ky (P:=P) f o ps=some ks→aa M X us (cs.drop o)→aZ us=ay ks→
   ∃ ls,ps.mapM (fun p=>P.keyLits d p.2 ((cs.drop p.1).take (P.cellsOf p.2)))=some ls∧ls.flatten=eM us
 | [],o,ks,us,cs,h,hr,hk=>by
   simp only [ky,Option.some.injEq] at h
   subst h
   have:=gm hk
   have:us=[]:=List.eq_nil_of_length_eq_zero (by simpa using this)
   subst this
   exact ⟨[],rfl,rfl⟩
 | (off,t)::ps,o,ks,us,cs,h,hr,hk=>by
   simp only [ky] at h
   split at h
   · rename_i k1 h1
     split at h
     · rename_i hc
       obtain ⟨rfl,hcell⟩:=hc
       split at h
       · rename_i k2 h2
         simp only [Option.some.injEq] at h
         subst h
         obtain ⟨g1,g2⟩:=Gl hk
         have r1:=jF k1.length hr
         have r2:=jG k1.length hr
         rw [List.drop_drop] at r2
         have e1:=hf t k1 _ _ h1 r1 g1
         obtain ⟨ls,e2,e3⟩:=nk hf ps (off + k1.length) k2 _ cs h2 r2 g2
         refine ⟨eM (us.take k1.length)::ls,?_,?_⟩
         · rw [List.mapM_cons,e2]
           simp only [hcell]
           rw [e1]
           rfl
         · rw [List.flatten_cons,e3,←r8,List.take_append_drop]
       · cases h
     · cases h
   · cases h
theorem w6 {α β γ:Type} (f:β→Option γ) (g:α→β):∀ l:List α,(l.map g).mapM f=l.mapM (fun x=>f (g x))
 | []=>rfl
 | x::l=>by rw [List.map_cons,List.mapM_cons,List.mapM_cons,w6 f g l]
theorem HT:∀ (d:Nat) (t:TypeId) (ks:List KK) {M:Mem} {X:V→Value→Prop} (us:List V) (cs:List Value),tC P d t=some ks→aa M X us cs→aZ us=ay ks→P.keyLits d t cs=some (eM us):=by
 intro d
 induction d with
 | zero=>intro t ks M X us cs h; simp [tC] at h
 | succ d ih=>
   intro t ks M X us cs h hr hk
   have hlen:=gm hk
   have hlc:=aG hr
   unfold tC at h
   have one:∀ k:KK,ks=[k]→∃ u,us=[u]∧kOf u=some k:=by
    intro k hks
    subst hks
    match us,hk with
    | [u],hk=>simp only [aZ,ay,List.cons.injEq,and_true] at hk; exact ⟨u,rfl,hk⟩
    | [],hk=>simp [aZ,ay] at hk
    | _::_::_,hk=>simp [aZ,ay] at hk
   split at h
   · rename_i hu
     simp only [Option.some.injEq] at h
     obtain ⟨u,rfl,h2⟩:=one _ h.symm
     cases u<;>simp [kOf] at h2
     simp only [aa,rep] at hr
     obtain ⟨c,cs',rfl,rfl,rfl⟩:=hr
     simp [Program.keyLits,hu,eM,Gg]
   · rename_i k hu
     simp only [Option.some.injEq] at h
     obtain ⟨u,rfl,h2⟩:=one _ h.symm
     cases u<;>simp [kOf] at h2
     subst h2
     simp only [aa,rep] at hr
     obtain ⟨c,cs',rfl,⟨rfl,h3,h4⟩,rfl⟩:=hr
     simp [Program.keyLits,hu,eM,Gg,Lit.wf,h3,h4]
   · rename_i hu
     simp only [Option.some.injEq] at h
     obtain ⟨u,rfl,h2⟩:=one _ h.symm
     cases u<;>simp [kOf] at h2
     simp only [aa,rep] at hr
     obtain ⟨c,cs',rfl,⟨bs,rfl,rfl,h3⟩,rfl⟩:=hr
     have:bs.size≤maxLen:=by
      have e:bs.data.toList.length=bs.size:=Array.length_toList
      rw [e] at h3
      exact Nat.le_trans h3 (by decide)
     unfold Program.keyLits
     rw [hu]
     simp only [this,if_true,eM,Gg]
   · rename_i n e hu
     split at h
     · rename_i k1 h1
       split at h
       · rename_i hc
         cases h
         obtain ⟨ls,e1,e2⟩:=nk (fun t ks us cs h1 h2 h3=>ih t ks us cs h1 h2 h3) _ 0 ks us cs h1 (by simpa using hr) hk
         rw [w6] at e1
         unfold Program.keyLits
         rw [hu]
         simp only
         rw [if_pos (by omega),e1]
         simp [e2]
       · cases h
     · cases h
   · rename_i fs hu
     split at h
     · rename_i k1 h1
       split at h
       · rename_i hc
         cases h
         obtain ⟨ls,e1,e2⟩:=nk (fun t ks us cs h1 h2 h3=>ih t ks us cs h1 h2 h3) _ 0 ks us cs h1 (by simpa using hr) hk
         rw [w6] at e1
         unfold Program.keyLits
         rw [hu]
         simp only
         rw [if_pos ⟨by omega,hc.2⟩,e1]
         simp [e2]
       · cases h
     · cases h
   · cases h
theorem O0:∀ {u v:V} {k:KK},kOf u=some k→kOf v=some k→(Gg u=Gg v↔eqC u v=true):=by
 intro u v k h1 h2
 cases u<;>simp [kOf] at h1<;>cases v<;>simp [kOf] at h2<;>subst h1<;>simp_all [Gg,eqC]
theorem AY:∀ {us vs:List V} {ks:List KK},aZ us=ay ks→aZ vs=ay ks→(eM us=eM vs↔jf us vs=true)
 | [],[],_,_,_=>by simp [eM,jf]
 | u::us,v::vs,k::ks,h1,h2=>by
   simp only [aZ,ay,List.cons.injEq] at h1 h2
   simp only [eM,jf,List.cons.injEq,Bool.and_eq_true,O0 h1.1 h2.1,AY h1.2 h2.2]
 | [],_::_,[],_,h2=>by simp [aZ,ay] at h2
 | [],_::_,_::_,h1,_=>by simp [aZ,ay] at h1
 | _::_,[],[],h1,_=>by simp [aZ,ay] at h1
 | _::_,[],_::_,_,h2=>by simp [aZ,ay] at h2
 | _::_,_::_,[],h1,_=>by simp [aZ,ay] at h1
def ktT (P:Program) (t:TypeId):Option KT:=
 match P.underlying t,tC P 20 t with
 | some (.struct _),some ks=>if P.keyTypeAt 20 t=true∧P.eqGuardType P.depth t=false then some ⟨true,ks⟩ else none
 | some (.array _ _),some ks=>if P.keyTypeAt 20 t=true∧P.eqGuardType P.depth t=false then some ⟨true,ks⟩ else none
 | some .bool,some ks=>if P.keyTypeAt 20 t=true then some ⟨false,ks⟩ else none
 | some (.int _),some ks=>if P.keyTypeAt 20 t=true then some ⟨false,ks⟩ else none
 | some .string,some ks=>if P.keyTypeAt 20 t=true then some ⟨false,ks⟩ else none
 | _,_=>none
theorem Gk {d:Nat} {t:TypeId} {ks:List KK} (h:tC P d t=some ks) (hagg:(∃ fs,P.underlying t=some (.struct fs))∨∃ n e,P.underlying t=some (.array n e)):P.cellsOf t=ks.length:=by
 cases d with
 | zero=>simp [tC] at h
 | succ d=>
   unfold tC at h
   rcases hagg with ⟨fs,hu⟩ | ⟨n,e,hu⟩
   · rw [hu] at h
     simp only at h
     split at h
     · split at h
       · rename_i hc; cases h; exact hc.1
       · cases h
     · cases h
   · rw [hu] at h
     simp only at h
     split at h
     · split at h
       · rename_i hc; cases h; exact hc
       · cases h
     · cases h
theorem ir {t:TypeId} {kt:KT} (hk:ktT P t=some kt) {M:Mem} {X:V→Value→Prop} {u:V} {c:Value} (hf:aO kt u=true) (hr:rep M X u c):
 c.formed P t=true∧P.keyLits 20 t c.cells.toList=some (eM (cl u))∧P.keyTypeAt 20 t=true∧aZ (cl u)=ay kt.ks∧
  ((kt.agg=true∧(∃ cs,c=.agg cs)∧P.eqGuardType P.depth t=false∧∀ k,P.underlying t≠some (.int k))∨(kt.agg=false∧(P.plainKey t=true)∧∀ cs,c≠.agg cs)):=by
 simp only [aO,Bool.and_eq_true,decide_eq_true_eq] at hf
 obtain ⟨ha,hks⟩:=hf
 have scal:kt.agg=false→P.plainKey t=true→tC P 20 t=some kt.ks→P.keyTypeAt 20 t=true→c.formed P t=true∧P.keyLits 20 t c.cells.toList=some (eM (cl u))∧(∀ cs,c≠.agg cs):=by
  intro hg hp ho _
  have hu:c.cells=#[c]∧(∀ cs,c≠.agg cs)∧cl u=[u]∧(∀ x,c≠.tuple x):=by
   rw [hg] at ha
   cases u<;>simp [dA] at ha<;>simp [cl,aZ,kOf] at hks<;>simp only [rep] at hr<;>(try (cases hq:kt.ks<;>simp [hq,ay] at hks; done))
   · obtain ⟨rfl,_⟩:=hr; simp [Value.cells,cl]
   · subst hr; simp [Value.cells,cl]
   · obtain ⟨bs,rfl,_⟩:=hr; simp [Value.cells,cl]
  refine ⟨?_,?_,hu.2.1⟩
  · have h2:=hu.2.1
    have h3:=hu.2.2.2
    unfold Value.formed
    unfold Program.plainKey at hp
    cases c<;>simp_all<;>split at hp<;>simp_all
  · refine HT 20 t kt.ks (M:=M) (X:=X) (cl u) _ ho ?_ hks
    rw [hu.1,hu.2.2.1]
    simp only [aa]
    exact ⟨c,[],by simp,hr,rfl⟩
 have agg:kt.agg=true→((∃ fs,P.underlying t=some (.struct fs))∨∃ n e,P.underlying t=some (.array n e))→tC P 20 t=some kt.ks→c.formed P t=true∧P.keyLits 20 t c.cells.toList=some (eM (cl u))∧∃ cs,c=.agg cs:=by
  intro hg hu ho
  rw [hg] at ha
  cases u<;>simp [dA] at ha
  rename_i us
  simp only [rep] at hr
  obtain ⟨arr,rfl,h2,_⟩:=hr
  have hlen:=gm hks
  have hl2:=aG h2
  simp only [cl] at hlen hks ⊢
  refine ⟨?_,?_,⟨arr,rfl⟩⟩
  · have hc:=Gk ho hu
    have:arr.size=P.cellsOf t:=by rw [hc,←hlen]; simpa using hl2
    unfold Value.formed
    rcases hu with ⟨fs,hu⟩ | ⟨n,e,hu⟩<;>simp [hu,this]
  · exact HT 20 t kt.ks (M:=M) (X:=X) us _ ho (by simpa [Value.cells] using h2) hks
 unfold ktT at hk
 split at hk
 · rename_i fs ks hu ho
   split at hk
   · rename_i hc; cases hk
     obtain ⟨g1,g2,g3⟩:=agg rfl (.inl ⟨fs,hu⟩) ho
     exact ⟨g1,g2,hc.1,hks,.inl ⟨rfl,g3,hc.2,by simp [hu]⟩⟩
   · cases hk
 · rename_i n e ks hu ho
   split at hk
   · rename_i hc; cases hk
     obtain ⟨g1,g2,g3⟩:=agg rfl (.inr ⟨n,e,hu⟩) ho
     exact ⟨g1,g2,hc.1,hks,.inl ⟨rfl,g3,hc.2,by simp [hu]⟩⟩
   · cases hk
 · rename_i ks hu ho
   split at hk
   · rename_i hc; cases hk
     have hp:P.plainKey t=true:=by simp [Program.plainKey,hu]
     obtain ⟨g1,g2,g3⟩:=scal rfl hp ho hc
     exact ⟨g1,g2,hc,hks,.inr ⟨rfl,hp,g3⟩⟩
   · cases hk
 · rename_i ks hu ho
   split at hk
   · rename_i hc; cases hk
     have hp:P.plainKey t=true:=by simp [Program.plainKey,hu]
     obtain ⟨g1,g2,g3⟩:=scal rfl hp ho hc
     exact ⟨g1,g2,hc,hks,.inr ⟨rfl,hp,g3⟩⟩
   · cases hk
 · rename_i ks hu ho
   split at hk
   · rename_i hc; cases hk
     have hp:P.plainKey t=true:=by simp [Program.plainKey,hu]
     obtain ⟨g1,g2,g3⟩:=scal rfl hp ho hc
     exact ⟨g1,g2,hc,hks,.inr ⟨rfl,hp,g3⟩⟩
   · cases hk
 · cases hk
theorem tm {t:TypeId} {kt:KT} (hk:ktT P t=some kt) {M M':Mem} {X X':V→Value→Prop} {u v:V} {c d:Value} (hu:aO kt u=true) (hv:aO kt v=true) (hc:rep M X u c) (hd:rep M' X' v d) (w:World):
 (Op.equalIn 10000 t c d).run P w=.ok (eqK u v) w:=by
 obtain ⟨f1,l1,k1,s1,_⟩:=ir hk hu hc
 obtain ⟨f2,l2,_,s2,_⟩:=ir hk hv hd
 obtain ⟨r,hr,hiff⟩:=run_equalIn_deep 9980 20 t k1 w 20 20 c d _ _ f1 f2 l1 l2
 rw [AY s1 s2] at hiff
 have:r=eqK u v:=by
  unfold eqK
  cases r<;>cases h:jf (cl u) (cl v)<;>simp_all
 rw [←this]
 exact hr
end
end Go.Abs
namespace Go.Abs
open Go.RowKit Go.WideShapes
section
variable {P:Program}
theorem Hk (a b:ByteArray):(a == b)=decide (a.data.toList=b.data.toList):=by
 have e:(a == b)=(a.data == b.data):=rfl
 rw [e,Bool.eq_iff_iff,beq_iff_eq,decide_eq_true_eq]
 exact ⟨fun h=>by rw [h],fun h=>Array.ext' h⟩
def yv (M:Mem) (kt:KT) (u:V) (l:List (V × V)) (es:List MapEntry) (i:Nat) (r:Option (Nat × Value)):Prop:=
 (r=none∧gk u l=none∧∀ (ne:MapEntry) (x:V),aO kt u=true→rep M NX u ne.key→rep M NX x ne.val→jW M kt (io u x l) (es++[ne]))∨
 ∃ (j:Nat) (e:MapEntry) (k v:V),r=some (i + j,e.val)∧es[j]?=some e∧gk u l=some v∧rep M NX v e.val∧aO kt k=true∧rep M NX k e.key∧eqK u k=true∧
   ∀ (f:MapEntry→MapEntry) (x:V),aO kt u=true→(∀ e,rep M NX u (f e).key∧rep M NX x (f e).val)→jW M kt (io u x l) (es.modify j f)
theorem yv.nil {M:Mem} {kt:KT} {u:V} {i:Nat}:yv M kt u [] [] i none:=
 .inl ⟨rfl,rfl,fun ne x hf h1 h2=>by simp only [io,List.nil_append,jW]; exact ⟨ne,[],rfl,hf,h1,h2,rfl⟩⟩
theorem yv.hit {M:Mem} {kt:KT} {u k v:V} {l:List (V × V)} {e:MapEntry} {es:List MapEntry} {i:Nat} (h1:aO kt k=true) (h2:rep M NX k e.key) (h3:rep M NX v e.val) (h4:jW M kt l es) (h:eqK u k=true):
 yv M kt u ((k,v)::l) (e::es) i (some (i,e.val)):=
 .inr ⟨0,e,k,v,rfl,rfl,by simp [gk,h],h3,h1,h2,h,fun f x hf hx=>by
  simp only [io,h,if_true,List.modify_zero_cons,jW]
  exact ⟨f e,es,rfl,hf,(hx e).1,(hx e).2,h4⟩⟩
theorem yv.miss {M:Mem} {kt:KT} {u k v:V} {l:List (V × V)} {e:MapEntry} {es:List MapEntry} {i:Nat} {r:Option (Nat × Value)} (h1:aO kt k=true) (h2:rep M NX k e.key) (h3:rep M NX v e.val) (h:eqK u k=false)
 (hr:yv M kt u l es (i + 1) r):yv M kt u ((k,v)::l) (e::es) i r:=by
 rcases hr with ⟨rfl,g1,g2⟩ | ⟨j,e',k',v',rfl,g1,g2,g3,g4,g5,g6,g7⟩
 · refine .inl ⟨rfl,by simp [gk,h,g1],fun ne x hf n1 n2=>?_⟩
   simp only [io,h,Bool.false_eq_true,if_false,List.cons_append,jW]
   exact ⟨e,_,rfl,h1,h2,h3,g2 ne x hf n1 n2⟩
 · refine .inr ⟨j + 1,e',k',v',by simp; omega,by simpa using g1,by simp [gk,h,g2],g3,g4,g5,g6,fun f x hf hx=>?_⟩
   simp only [io,h,Bool.false_eq_true,if_false,List.modify_succ_cons,jW]
   exact ⟨e,_,rfl,h1,h2,h3,g7 f x hf hx⟩
theorem wo {t:TypeId} {kt:KT} (hk:ktT P t=some kt) {M M':Mem} {X:V→Value→Prop} {u:V} {c:Value} (hu:aO kt u=true) (hc:rep M X u c) (w:World):
 ∀ (l:List (V × V)) (es:List MapEntry) (i:Nat),jW M' kt l es→∃ r,(Instr.findAsking t c es i).run P w=.ok r w∧yv M' kt u l es i r
 | [],es,i,h=>by
   simp only [jW] at h
   subst h
   exact ⟨none,rfl,.nil⟩
 | (k,v)::l,es,i,h=>by
   simp only [jW] at h
   obtain ⟨e,rest,rfl,h1,h2,h3,h4⟩:=h
   have he:=tm (P:=P) hk hu h1 hc h2 w
   have heq:(Op.equal t c e.key).run P w=.ok (eqK u k) w:=he
   cases hq:eqK u k
   · obtain ⟨r,g1,g2⟩:=wo hk hu hc w l rest (i + 1) h4
     refine ⟨r,?_,.miss h1 h2 h3 hq g2⟩
     simp only [Instr.findAsking,Sem.run_bind,heq,hq,Result.andThen_ok,Bool.false_eq_true,if_false]
     exact g1
   · refine ⟨_,?_,.hit h1 h2 h3 h4 hq⟩
     simp only [Instr.findAsking,Sem.run_bind,heq,hq,Result.andThen_ok,if_true]
     rfl
theorem Rh {t:TypeId} {kt:KT} (hk:ktT P t=some kt) (hg:kt.agg=false) {d:TypeDesc} (hd:P.underlying t=some d) {M M':Mem} {X X':V→Value→Prop} {u k:V} {c e:Value} (hu:aO kt u=true) (hc:rep M X u c) (hv:aO kt k=true) (he:rep M' X' k e):
 Instr.sameNow d c e=some (eqK u k):=by
 simp only [aO,Bool.and_eq_true,decide_eq_true_eq] at hu hv
 obtain ⟨a1,b1⟩:=hu
 obtain ⟨a2,b2⟩:=hv
 have one:∀ kk:KK,kt.ks=[kk]→(∃ x,cl u=[x]∧x=u∧kOf u=some kk)∧∃ x,cl k=[x]∧x=k∧kOf k=some kk:=by
  intro kk hq
  rw [hq] at b1 b2
  rw [hg] at a1 a2
  constructor
  · cases u<;>simp [dA] at a1<;>simp [cl,aZ,ay] at b1 ⊢<;>exact b1
  · cases k<;>simp [dA] at a2<;>simp [cl,aZ,ay] at b2 ⊢<;>exact b2
 have hks:(d=.bool∧kt.ks=[.b])∨(∃ q,d=.int q∧kt.ks=[.i q])∨(d=.string∧kt.ks=[.s]):=by
  unfold ktT at hk
  rw [hd] at hk
  cases ho:tC P 20 t with
  | none=>rw [ho] at hk; cases d<;>simp at hk
  | some ks=>
    rw [ho] at hk
    have ho':=ho
    rw [tC,hd] at ho'
    cases d<;>simp only at hk<;>first | (cases hk; done) | (split at hk<;>cases hk)
    all_goals first | (simp at hg; done) | skip
    all_goals (simp only [Option.some.injEq] at ho'; subst ho'; simp)
 rcases hks with ⟨rfl,hq⟩ | ⟨q,rfl,hq⟩ | ⟨rfl,hq⟩<;>obtain ⟨⟨_,_,_,k1⟩,⟨_,_,_,k2⟩⟩:=one _ hq
 · cases u<;>simp [kOf] at k1
   cases k<;>simp [kOf] at k2
   simp only [rep] at hc he
   subst hc; subst he
   simp [Instr.sameNow,eqK,cl,jf,eqC]
 · cases u<;>simp [kOf] at k1
   cases k<;>simp [kOf] at k2
   subst k1; subst k2
   simp only [rep] at hc he
   rw [hc.1,he.1]
   simp [Instr.sameNow,eqK,cl,jf,eqC]
   rw [Bool.eq_iff_iff]; simp
 · cases u<;>simp [kOf] at k1
   cases k<;>simp [kOf] at k2
   simp only [rep] at hc he
   obtain ⟨bs,rfl,rfl,_⟩:=hc
   obtain ⟨bs',rfl,rfl,_⟩:=he
   simp only [Instr.sameNow,eqK,cl,jf,eqC,Bool.and_true,Hk]
theorem HH {t:TypeId} {kt:KT} (hk:ktT P t=some kt) (hg:kt.agg=false) {d:TypeDesc} (hd:P.underlying t=some d) {M M':Mem} {X:V→Value→Prop} {u:V} {c:Value} (hu:aO kt u=true) (hc:rep M X u c):
 ∀ (l:List (V × V)) (es:List MapEntry) (i:Nat),jW M' kt l es→∃ r,Instr.findNow d c es i=some r∧yv M' kt u l es i r
 | [],es,i,h=>by
   simp only [jW] at h
   subst h
   exact ⟨none,rfl,.nil⟩
 | (k,v)::l,es,i,h=>by
   simp only [jW] at h
   obtain ⟨e,rest,rfl,h1,h2,h3,h4⟩:=h
   have he:=Rh hk hg hd hu hc h1 h2
   cases hq:eqK u k
   · obtain ⟨r,g1,g2⟩:=HH hk hg hd hu hc l rest (i + 1) h4
     refine ⟨r,?_,.miss h1 h2 h3 hq g2⟩
     simp only [Instr.findNow,he,hq]
     exact g1
   · refine ⟨_,?_,.hit h1 h2 h3 h4 hq⟩
     simp only [Instr.findNow,he,hq]
theorem DO {t:TypeId} {kt:KT} (hk:ktT P t=some kt) {M M':Mem} {X:V→Value→Prop} {u:V} {c:Value} (hu:aO kt u=true) (hc:rep M X u c) (w:World) (l:List (V × V)) (es:List MapEntry) (h:jW M' kt l es):
 ∃ r,(Instr.findKey t c es).run P w=.ok r w∧yv M' kt u l es 0 r:=by
 obtain ⟨f1,l1,k1,s1,hcase⟩:=ir hk hu hc
 have hd:∃ d,P.underlying t=some d:=by
  unfold ktT at hk
  split at hk<;>first | (rename_i h _; exact ⟨_,h⟩) | cases hk
 obtain ⟨d,hd⟩:=hd
 rcases hcase with ⟨hg,⟨cs,rfl⟩,_,hni⟩ | ⟨hg,_,_⟩
 · cases es with
   | nil=>
     cases l with
     | nil=>exact ⟨none,by simp only [Instr.findKey,Sem.run_bind,run_underlying hd w,Result.andThen_ok,Instr.findNow]; rfl,.nil⟩
     | cons p l=>obtain ⟨k,v⟩:=p; simp [jW] at h
   | cons e es=>
     obtain ⟨r,g1,g2⟩:=wo hk hu hc w l (e::es) 0 h
     refine ⟨r,?_,g2⟩
     have hn:Instr.sameNow d (.agg cs) e.key=none:=by
      cases d<;>simp [Instr.sameNow]
     simp only [Instr.findKey,Sem.run_bind,run_underlying hd w,Result.andThen_ok,Instr.findNow,hn]
     exact g1
 · obtain ⟨r,g1,g2⟩:=HH hk hg hd hu hc l es 0 h
   refine ⟨r,?_,g2⟩
   simp only [Instr.findKey,Sem.run_bind,run_underlying hd w,Result.andThen_ok,g1]
   rfl
theorem Au {t:TypeId} {kt:KT} (hk:ktT P t=some kt) {M:Mem} {X:V→Value→Prop} {u:V} {c:Value} (hu:aO kt u=true) (hc:rep M X u c) (em:Bool) (w:World):(Instr.checkKey em 10000 t c).run P w=.ok () w:=by
 obtain ⟨f1,l1,k1,s1,_⟩:=ir hk hu hc
 exact run_checkKey_deep em 9980 20 t k1 w 20 c _ f1 l1
theorem yc {M M':Mem} {X X':V→Value→Prop}:∀ {us vs:List V} {ks:List KK} {cs ds:List Value},aZ us=ay ks→aZ vs=ay ks→jf us vs=true→aa M X us cs→aa M' X' vs ds→cs=ds
 | [],[],_,cs,ds,_,_,_,h1,h2=>by simp only [aa] at h1 h2; rw [h1,h2]
 | u::us,v::vs,k::ks,cs,ds,h1,h2,he,r1,r2=>by
   simp only [aZ,ay,List.cons.injEq] at h1 h2
   simp only [jf,Bool.and_eq_true] at he
   simp only [aa] at r1 r2
   obtain ⟨c,cs',rfl,q1,q2⟩:=r1
   obtain ⟨d,ds',rfl,q3,q4⟩:=r2
   rw [yc h1.2 h2.2 he.2 q2 q4]
   congr 1
   have e1:=h1.1
   have e2:=h2.1
   have e3:=he.1
   cases u<;>simp [kOf] at e1<;>cases v<;>simp [kOf] at e2<;>subst e1<;>simp [eqC] at e3<;>simp only [rep] at q1 q3
   · obtain ⟨rfl,_⟩:=q1; obtain ⟨rfl,_⟩:=q3; simp_all
   · subst q1; subst q3; simp_all
   · obtain ⟨bs,rfl,h0,_⟩:=q1
     obtain ⟨bs',rfl,h,_⟩:=q3
     rw [←e3,←h0] at h
     congr 1
     cases bs; cases bs'
     simp only at h
     rw [Array.ext' h]
 | [],_::_,[],_,_,_,h2,_,_,_=>by simp [aZ,ay] at h2
 | [],_::_,_::_,_,_,h1,_,_,_,_=>by simp [aZ,ay] at h1
 | _::_,[],[],_,_,h1,_,_,_,_=>by simp [aZ,ay] at h1
 | _::_,[],_::_,_,_,_,h2,_,_,_=>by simp [aZ,ay] at h2
 | _::_,_::_,[],_,_,h1,_,_,_,_=>by simp [aZ,ay] at h1
theorem L3 {kt:KT} {M M':Mem} {X X':V→Value→Prop} {u v:V} {c d:Value} (hu:aO kt u=true) (hv:aO kt v=true) (he:eqK u v=true) (hc:rep M X u c) (hd:rep M' X' v d):c=d:=by
 simp only [aO,Bool.and_eq_true,decide_eq_true_eq] at hu hv
 have r1:aa M X (cl u) c.cells.toList∧(dA u=true→∃ cs,c=.agg cs)∧(dA u=false→c.cells=#[c]):=by
  cases hg:dA u
  · refine ⟨?_,by simp,?_⟩
    all_goals
     cases u<;>simp [dA] at hg<;>simp [cl,aZ,kOf] at hu<;>simp only [rep] at hc<;>(try (cases h:kt.ks<;>simp [h,ay] at hu; done))
    · obtain ⟨rfl,h⟩:=hc; simp [Value.cells,cl,aa,rep,h]
    · subst hc; simp [Value.cells,cl,aa,rep]
    · obtain ⟨bs,rfl,h⟩:=hc; simp only [Value.cells,cl,aa,rep]; exact ⟨_,[],rfl,⟨bs,rfl,h⟩,rfl⟩
    · obtain ⟨rfl,h⟩:=hc; exact fun _=>rfl
    · subst hc; exact fun _=>rfl
    · obtain ⟨bs,rfl,h⟩:=hc; exact fun _=>rfl
  · cases u<;>simp [dA] at hg
    simp only [rep] at hc
    obtain ⟨arr,rfl,h,_⟩:=hc
    exact ⟨by simpa [Value.cells,cl] using h,fun _=>⟨arr,rfl⟩,by simp [dA]⟩
 have r2:aa M' X' (cl v) d.cells.toList∧(dA v=true→∃ cs,d=.agg cs)∧(dA v=false→d.cells=#[d]):=by
  cases hg:dA v
  · refine ⟨?_,by simp,?_⟩
    all_goals
     cases v<;>simp [dA] at hg<;>simp [cl,aZ,kOf] at hv<;>simp only [rep] at hd<;>(try (cases h:kt.ks<;>simp [h,ay] at hv; done))
    · obtain ⟨rfl,h⟩:=hd; simp [Value.cells,cl,aa,rep,h]
    · subst hd; simp [Value.cells,cl,aa,rep]
    · obtain ⟨bs,rfl,h⟩:=hd; simp only [Value.cells,cl,aa,rep]; exact ⟨_,[],rfl,⟨bs,rfl,h⟩,rfl⟩
    · obtain ⟨rfl,h⟩:=hd; exact fun _=>rfl
    · subst hd; exact fun _=>rfl
    · obtain ⟨bs,rfl,h⟩:=hd; exact fun _=>rfl
  · cases v<;>simp [dA] at hg
    simp only [rep] at hd
    obtain ⟨arr,rfl,h,_⟩:=hd
    exact ⟨by simpa [Value.cells,cl] using h,fun _=>⟨arr,rfl⟩,by simp [dA]⟩
 have hcs:=yc hu.2 hv.2 he r1.1 r2.1
 cases hg:kt.agg
 · have e1:=r1.2.2 (by rw [hu.1,hg])
   have e2:=r2.2.2 (by rw [hv.1,hg])
   rw [e1,e2] at hcs
   simpa using hcs
 · obtain ⟨a1,rfl⟩:=r1.2.1 (by rw [hu.1,hg])
   obtain ⟨a2,rfl⟩:=r2.2.1 (by rw [hv.1,hg])
   simp only [Value.cells] at hcs
   congr 1
   cases a1; cases a2; simpa using hcs
theorem yo {M:Mem} {X:V→Value→Prop}:∀ {us:List V} {ks:List KK} {cs:List Value},aZ us=ay ks→aa M X us cs→∀ n,∀ c∈cs,Instr.sameBits n c c=true
 | [],_,cs,_,h,n,c,hc=>by simp only [aa] at h; subst h; cases hc
 | u::us,k::ks,cs,h1,h,n,c,hc=>by
   simp only [aZ,ay,List.cons.injEq] at h1
   simp only [aa] at h
   obtain ⟨c0,cs',rfl,q1,q2⟩:=h
   rcases List.mem_cons.1 hc with rfl | hc
   · have e1:=h1.1
     cases u<;>simp [kOf] at e1<;>simp only [rep] at q1
     · obtain ⟨rfl,_⟩:=q1; cases n<;>simp [Instr.sameBits]
     · subst q1; cases n<;>simp [Instr.sameBits]
     · obtain ⟨bs,rfl,_⟩:=q1; cases n<;>simp [Instr.sameBits,Hk]
   · exact yo h1.2 q2 n c hc
 | _::_,[],_,h1,_,_,_,_=>by simp [aZ,ay] at h1
theorem JY {kt:KT} {M:Mem} {X:V→Value→Prop} {u:V} {c:Value} (hu:aO kt u=true) (hc:rep M X u c):Instr.sameBits 10000 c c=true:=by
 simp only [aO,Bool.and_eq_true,decide_eq_true_eq] at hu
 cases hg:dA u
 · cases u<;>simp [dA] at hg<;>simp [cl,aZ,kOf] at hu<;>simp only [rep] at hc<;>(try (cases h:kt.ks<;>simp [h,ay] at hu; done))
   · obtain ⟨rfl,_⟩:=hc; simp [Instr.sameBits]
   · subst hc; simp [Instr.sameBits]
   · obtain ⟨bs,rfl,_⟩:=hc; simp [Instr.sameBits,Hk]
 · cases u<;>simp [dA] at hg
   simp only [rep] at hc
   obtain ⟨arr,rfl,h,_⟩:=hc
   have hb:=yo hu.2 h 9999
   simp only [Instr.sameBits,beq_self_eq_true,Bool.true_and,List.all_eq_true]
   intro p hp
   have:p.1=p.2∧p.1∈arr.toList:=by
    obtain ⟨a,b⟩:=p
    have:=List.of_mem_zip hp
    obtain ⟨i,hi⟩:=List.mem_iff_getElem?.1 hp
    rw [List.getElem?_zip_eq_some] at hi
    have:a=b:=Option.some.inj (hi.1.symm.trans hi.2)
    exact ⟨this,List.mem_of_getElem? hi.1⟩
   rw [←this.1]
   exact hb _ this.2
theorem HY {M:Mem} {X:V→Value→Prop}:∀ {us:List V} {ks:List KK} {cs:List Value},aZ us=ay ks→aa M X us cs→aa M NX us cs
 | [],_,_,_,h=>h
 | u::us,k::ks,cs,h1,h=>by
   simp only [aZ,ay,List.cons.injEq] at h1
   simp only [aa] at h ⊢
   obtain ⟨c,cs',rfl,q1,q2⟩:=h
   refine ⟨c,cs',rfl,?_,HY h1.2 q2⟩
   have e1:=h1.1
   cases u<;>simp [kOf] at e1<;>exact q1
 | _::_,[],_,h1,_=>by simp [aZ,ay] at h1
theorem Rq {kt:KT} {M:Mem} {X:V→Value→Prop} {u:V} {c:Value} (hu:aO kt u=true) (hc:rep M X u c):rep M NX u c:=by
 simp only [aO,Bool.and_eq_true,decide_eq_true_eq] at hu
 cases hg:dA u
 · cases u<;>simp [dA] at hg<;>simp [cl,aZ,kOf] at hu<;>first | exact hc | (cases h:kt.ks<;>simp [h,ay] at hu)
 · cases u<;>simp [dA] at hg
   simp only [rep] at hc ⊢
   obtain ⟨arr,rfl,h,h2⟩:=hc
   exact ⟨arr,rfl,HY hu.2 h,h2⟩
end
end Go.Abs
end
section
namespace Go.Abs
open Go.RowKit
def cOo (P:Program) (t:TypeId):Option Operand→Option (Option AO)
 | none=>some none
 | some x=>(cO P t x).map some
def vL (P:Program) (t:TypeId) (i:Nat):Option (Nat × Nat × TypeId):=
 match P.underlying t with
 | some (.struct fs)=>match fs[i]? with
   | some f=>match dW P f.type with
     | some n=>some (f.offset,n,f.type)
     | none=>none
   | none=>none
 | some (.array m e)=>match dW P e with
   | some n=>if i < m then some (i * n,n,e) else none
   | none=>none
 | _=>none
def uc (P:Program) (t:TypeId):List (Nat × Operand)→Option (List (Nat × Nat × AO))
 | []=>some []
 | (i,x)::ps=>match vL P t i with
   | some (off,n,ft)=>match cO P ft x,uc P t ps with
     | some y,some qs=>some ((off,n,y)::qs)
     | _,_=>none
   | none=>none
def BY (P:Program) (t:TypeId) (c:Value):Option Nat:=match P.underlying t,c with
 | some (.pointer _),.pointer none=>some 0
 | some (.interface _),.nilIface=>some 1
 | some (.func _ _ _),.nilFunc=>some 2
 | _,_=>none
inductive LV (P:Program):TypeId→Op→Act'→Prop
 | move {ty x y}:cO P ty x=some y→LV P ty (.move x) (.mov y)
 | assign {ty x y}:cO P ty x=some y→LV P ty (.assign x) (.mov y)
 | pick {ty c a b c' a' b'}:cO P ty c=some c'→cO P ty a=some a'→cO P ty b=some b'→LV P ty (.pick c a b) (.pick c' a' b')
 | field {ty t x i y fs f n g}:cO P t x=some y→P.underlying t=some (.struct fs)→fs[i]?=some f→dW P f.type=some n→va P f.type=some g→(g=false→n=1)→LV P ty (.field t x i) (.fld y f.offset n g)
 | fieldAddr {ty t x i y fs f n}:cO P 0 x=some y→P.underlying t=some (.struct fs)→fs[i]?=some f→dW P f.type=some n→n≠0→LV P ty (.fieldAddr t x i) (.fa y f.offset)
 | indexAddr {ty t x i y j e n}:cO P t x=some y→cO P 0 i=some j→P.underlying t=some (.slice e)→dW P e=some n→LV P ty (.indexAddr t x i) (.ia y j n)
 | indexAddrA {ty t x i y j e m n}:cO P 0 x=some y→cO P 0 i=some j→P.underlying t=some (.array m e)→dW P e=some n→LV P ty (.indexAddr t x i) (.iaa y j m n)
 | load {ty t x y n g}:cO P 0 x=some y→dW P t=some n→va P t=some g→(g=false→n=1)→LV P ty (.load t x) (.ld y n g)
 | indexS {ty t x i y j}:cO P t x=some y→cO P 0 i=some j→P.underlying t=some .string→LV P ty (.index t x i) (.ixs y j)
 | indexA {ty t x i y j m e n g}:cO P t x=some y→cO P 0 i=some j→P.underlying t=some (.array m e)→dW P e=some n→va P e=some g→(g=false→n=1)→LV P ty (.index t x i) (.ixa y j m n g)
 | bin {ty op xt x y yt u v}:cO P xt x=some u→cO P yt y=some v→LV P ty (.binOp op xt x y yt) (.bin op u v)
 | beq {ty xt x y yt u v}:P.underlying xt=some .bool→cO P xt x=some u→cO P yt y=some v→LV P ty (.binOp .eql xt x y yt) (.beq false u v)
 | bne {ty xt x y yt u v}:P.underlying xt=some .bool→cO P xt x=some u→cO P yt y=some v→LV P ty (.binOp .neq xt x y yt) (.beq true u v)
 | un {ty op t x u}:cO P t x=some u→LV P ty (.unOp op t x) (.un op u)
 | r2s {ty s d x u k}:cO P s x=some u→P.underlying s=some (.int k)→P.underlying d=some .string→LV P ty (.convert s d x) (.r2s u)
 | cii {ty s d x u k ds}:cO P s x=some u→P.underlying d=some (.int k)→P.underlying s=some ds→LV P ty (.convert s d x) (.cii k u)
 | sls {ty t x lo hi u lo' hi'}:cO P t x=some u→cOo P 0 lo=some lo'→cOo P 0 hi=some hi'→P.underlying t=some .string→LV P ty (.slice t x lo hi none) (.sls u lo' hi')
 | slq {ty t x lo hi u lo' hi' e n}:cO P t x=some u→cOo P 0 lo=some lo'→cOo P 0 hi=some hi'→P.underlying t=some (.slice e)→dW P e=some n→LV P ty (.slice t x lo hi none) (.slq u lo' hi' n)
 | lens {ty t x u}:cO P t x=some u→P.underlying t=some .string→LV P ty (.call { callee:=.builtin .len,args:=#[x],argTypes:=#[t] }) (.lens u)
 | lenq {ty t x u e}:cO P t x=some u→P.underlying t=some (.slice e)→LV P ty (.call { callee:=.builtin .len,args:=#[x],argTypes:=#[t] }) (.lenq u)
 | mmx {ty x y t t' u v}:cO P t x=some u→cO P t' y=some v→LV P ty (.call { callee:=.builtin .max,args:=#[x,y],argTypes:=#[t,t'] }) (.mm true u v)
 | mmn {ty x y t t' u v}:cO P t x=some u→cO P t' y=some v→LV P ty (.call { callee:=.builtin .min,args:=#[x,y],argTypes:=#[t,t'] }) (.mm false u v)
 | nlq {ty t x yt u neg op k c}:BY P t c=some k→((op=.eql∧neg=false)∨(op=.neq∧neg=true))→cO P t x=some u→LV P ty (.binOp op t x (.const c) yt) (.nlq k neg u)
 | ext {ty x i u}:cO P 0 x=some u→LV P ty (.extract x i) (.ext u i)
 | bld {ty t parts z zc zs ps i z'}:P.built t []=some z'→P.info? t=some i→i.zero=some (.agg z)→EM P 20 t=some zc→cSs P zc z.toList=some zs→uc P t parts.toList=some ps→LV P ty (.build t parts) (.bld zs ps)
 | mkf {ty f a b a' b'}:cOs P (List.replicate a.size 0) a.toList=some a'→cOs P (List.replicate b.size 0) b.toList=some b'→LV P ty (.makeFunc f a b) (.mkf f a' b')
 | nlc {ty x u}:cO P 0 x=some u→LV P ty (.nilCheck x) (.nlc u)
 | mki {ty t x u ds}:cO P t x=some u→P.underlying t=some ds→(∀ ms,ds≠.interface ms)→LV P ty (.makeInterface t x) (.mki t u)
 | aeq {ty t x y yt u v kt}:ktT P t=some kt→kt.agg=true→cO P t x=some u→cO P yt y=some v→LV P ty (.binOp .eql t x y yt) (.aeq false kt u v)
 | ane {ty t x y yt u v kt}:ktT P t=some kt→kt.agg=true→cO P t x=some u→cO P yt y=some v→LV P ty (.binOp .neq t x y yt) (.aeq true kt u v)
 | lkp {ty t K E x k u v kt i z zv okk}:P.underlying t=some (.map K E)→ktT P K=some kt→cO P t x=some u→cO P K k=some v→P.info? E=some i→i.zero=some z→cV P E z=some zv→LV P ty (.lookup t x k okk) (.lkp kt zv okk u v)
section
variable {P:Program} {N:Nat} {M0:Mem} {B:Bas} {w0:World} {κ:Kap} {M:Mem} {σ:St} {a:Act} {w:World}
theorem aU {t:TypeId} {n:Nat} (h:dW P t=some n) (w:World):(sizeOf t).run P w=.ok n w:=by
 unfold dW at h
 obtain ⟨i,hi,rfl⟩:=Option.map_eq_some_iff.1 h
 simp [sizeOf,typeInfo,hi]
theorem iG {t:TypeId} {g:Bool} (h:va P t=some g) (w:World):(isAgg t).run P w=.ok g w:=by
 unfold va at h
 obtain ⟨d,hd,rfl⟩:=Option.map_eq_some_iff.1 h
 unfold isAgg
 rw [Sem.run_bind,run_underlying hd w,Result.andThen_ok]
 cases d<;>rfl
theorem DM {t:TypeId} {cs:Array Value} {off n:Nat} {g:Bool} (hs:dW P t=some n) (hg:va P t=some g) (h1:g=false→n=1) {X:V→Value→Prop} {vs us:List V} {v:V}
 (hr:aa M X vs cs.toList) (hc:∀ u∈cs.toList,ar u) (hcut:cut vs off n=some us) (hm:mkc g us=some v) (w:World):∃ c,(part t cs off).run P w=.ok c w∧rep M X v c:=by
 obtain ⟨k1,k2,k3,k4⟩:=vR hcut hr hc
 have hk:=vO hm k2 k3
 rcases hk with ⟨rfl,hk⟩ | ⟨rfl,c,hk1,hk2⟩
 · refine ⟨_,?_,hk⟩
   simp only [part,Sem.run_bind,iG hg,aU hs,Result.andThen_ok,if_true,Sem.run_pure]
   congr 2
   apply Array.ext'
   simp [List.take_drop]
 · have hn:=h1 rfl
   subst hn
   refine ⟨c,?_,hk2⟩
   have:cs[off]?=some c:=by
    have:((cs.toList.drop off).take 1)[0]?=some c:=by rw [hk1]; rfl
    simpa [List.getElem?_take,List.getElem?_drop] using this
   simp only [part,Sem.run_bind,iG hg,Result.andThen_ok,Bool.false_eq_true,if_false,this,Sem.run_pure]
theorem Rel.opo (H:Rel N M0 B w0 κ M σ a w) {t:TypeId} {o:Option Operand} {x:Option AO} (hc:cOo P t o=some x) {d v:V} (hv:σ.evo d x=some v) {c:Value} (hd:rep M (XX κ σ.h) d c):
 rep M (XX κ σ.h) v ((o.map a.eval).getD c):=by
 cases o with
 | none=>simp only [cOo,Option.some.injEq] at hc; subst hc; simp only [St.evo,Option.some.injEq] at hv; subst hv; exact hd
 | some o=>
   simp only [cOo] at hc
   obtain ⟨y,hy,rfl⟩:=Option.map_eq_some_iff.1 hc
   exact H.op hy hv
theorem sx (off:Nat):∀ (l:List Value) (k:Nat) (ds:Array Value),off + k + l.length≤ds.size→
 ((l.zipIdx k).foldl (fun cs (x:Value × Nat)=>cs.setIfInBounds (off + x.2) x.1) ds).toList=ds.toList.take (off + k)++l++ds.toList.drop (off + k + l.length)
 | [],k,ds,h=>by simp
 | v::l,k,ds,h=>by
   simp only [List.length_cons] at h
   simp only [List.zipIdx_cons,List.foldl_cons]
   rw [sx off l (k + 1) _ (by simp; omega)]
   simp only [Array.toList_setIfInBounds]
   have e1:(ds.toList.set (off + k) v).take (off + (k + 1))=ds.toList.take (off + k)++[v]:=by
    rw [←Nat.add_assoc,List.take_add_one,List.take_set_of_le (by omega)]
    simp [List.getElem?_set]
    omega
   have e2:(ds.toList.set (off + k) v).drop (off + (k + 1) + l.length)=ds.toList.drop (off + k + (v::l).length):=by
    rw [List.drop_set_of_lt (by omega)]
    congr 1
    simp; omega
   rw [e1,e2]
   simp
theorem pO (off:Nat) (l ds:Array Value) (h:off + l.size≤ds.size):
 l.zipIdx.foldl (fun cs (x:Value × Nat)=>cs.setIfInBounds (off + x.2) x.1) ds=(ds.toList.take off++l.toList++ds.toList.drop (off + l.toList.length)).toArray:=by
 rw [←Array.foldl_toList,Array.toList_zipIdx]
 apply Array.ext'
 have:=sx off l.toList 0 ds (by simpa using h)
 simpa using this
theorem lb {v:V} (h:nt v=true):∀ vs,v≠.tup vs:=by rintro vs rfl; simp [nt] at h
theorem q9 {t:TypeId} {place:Nat→Option (Nat × Nat)} (hpl:∀ i off n ft,vL P t i=some (off,n,ft)→place i=some (off,n)) (H:Rel N M0 B w0 κ M σ a w):
 ∀ {parts:List (Nat × Operand)} {ps:List (Nat × Nat × AO)},uc P t parts=some ps→∀ {cs us:List V} {ds:Array Value},bldV σ cs ps=some us→aa M (XX κ σ.h) cs ds.toList→(∀ u∈ds.toList,ar u)→
 ∃ es:Array Value,Instr.fill place ds (parts.map fun x=>(x.1,a.eval x.2))=some es∧aa M (XX κ σ.h) us es.toList∧∀ u∈es.toList,ar u
 | [],ps,h,cs,us,ds,hb,hr,hc=>by
   simp only [uc,Option.some.injEq] at h
   subst h
   simp only [bldV,Option.some.injEq] at hb
   subst hb
   exact ⟨ds,rfl,hr,hc⟩
 | (i,x)::parts,ps,h,cs,us,ds,hb,hr,hc=>by
   simp only [uc] at h
   split at h
   · rename_i off n ft hp
     split at h
     · rename_i y qs hy hqs
       cases h
       simp only [bldV] at hb
       split at hb
       · rename_i v hv
         split at hb
         · rename_i hn
           split at hb
           · rename_i cs' hcs'
             have hrv:=H.op hy hv
             have hk:=cg hrv Du (lb hn.2)
             have hsp:=qv hcs' hr hk.1
             have hlen:(a.eval x).cells.size=n:=by
              have:=aG hk.1
              simp at this; omega
             have hle:off + (a.eval x).cells.size≤ds.size:=by simpa using hsp.1
             obtain ⟨es,h1,h2,h3⟩:=q9 hpl H hqs hb (ds:=(ds.toList.take off++(a.eval x).cells.toList++ds.toList.drop (off + (a.eval x).cells.toList.length)).toArray) (by simpa using hsp.2) (by
              intro u hu
              simp only [List.mem_append] at hu
              rcases hu with (hu | hu) | hu
              · exact hc u (List.mem_of_mem_take hu)
              · exact hk.2 u hu
              · exact hc u (List.mem_of_mem_drop hu))
             refine ⟨es,?_,h2,h3⟩
             simp only [List.map_cons,Instr.fill,hpl i off n ft hp]
             have hno:¬((a.eval x).cells.size≠n || off + (a.eval x).cells.size > ds.size)=true:=by
              simp; omega
             rw [if_neg hno]
             have:=pO off (a.eval x).cells ds hle
             rw [←this] at h1
             exact h1
           · cases hb
         · cases hb
       · cases hb
     · cases h
   · cases h
theorem dD (H:Rel N M0 B w0 κ M σ a w) {v:V} {c:Value} (hv:rep M (XX κ σ.h) v c) (hl:σ.live v=true) {k:Nat} {u:V} (hf:St.fwd k v=some u):
 ∃ b o,c=.pointer (some ⟨b,o,none⟩)∧rep M (XX κ σ.h) u (.pointer (some ⟨b,o + k,none⟩)):=by
 cases v<;>simp only [St.fwd] at hf<;>try (cases hf; done)
 case ptr id off=>
  cases hf
  simp only [St.live] at hl
  obtain ⟨cs,hcs⟩:=Option.isSome_iff_exists.1 hl
  have hb:=lK hcs
  simp only [rep,XX] at hv ⊢
  obtain ⟨b,g1,g2⟩:=hv.2.2 cs hb
  refine ⟨b,off,g2,rfl,hv.2.1,fun cs' _=>⟨b,g1,rfl⟩⟩
 case eptr id n i off=>
  cases hf
  simp only [St.live] at hl
  split at hl
  · rename_i e sz l hal
    have ha:=dI hal
    simp only at ha
    simp at hl
    simp only [rep,XX] at hv ⊢
    obtain ⟨b,cap,g1,g2⟩:=(hv.2.2.1 e sz l ha).2 hl.1 hl.2
    refine ⟨b,i * sz + off,g2,rfl,hv.2.1,fun e' sz' l' hl'=>?_,fun e' e2' sz' rows' hl'=>?_⟩
    · rw [ha] at hl'
      cases hl'
      exact ⟨(hv.2.2.1 e sz l ha).1,fun hn hi=>⟨b,cap,g1,by rw [Nat.add_assoc]⟩⟩
    · rw [ha] at hl'; cases hl'
  · cases hl
 case mptr id i n j off=>
  cases hf
  simp only [St.live] at hl
  split at hl
  · rename_i e e2 sz rows hal
    have ha:=d2 hal
    simp only at ha
    split at hl
    · rename_i r hrow
      simp at hl
      simp only [rep,XX] at hv ⊢
      obtain ⟨b,cap,g1,g2⟩:=((hv.2.2 e e2 sz rows ha).1 r hrow).2 hl.1 hl.2
      refine ⟨b,j * sz + off,g2,rfl,hv.2.1,fun e' e2' sz' rows' hl'=>?_⟩
      rw [ha] at hl'
      cases hl'
      refine ⟨fun r' hr'=>?_,(hv.2.2 e e2 sz rows ha).2⟩
      rw [hrow] at hr'
      cases hr'
      exact ⟨((hv.2.2 e e2 sz rows ha).1 r hrow).1,fun hn hi=>⟨b,cap,g1,by rw [Nat.add_assoc]⟩⟩
    · cases hl
  · cases hl
 case sptr y off=>
  cases hf
  simp only [rep] at hv ⊢
  obtain ⟨b,o,z,rfl,h2,h3,h4⟩:=hv
  exact ⟨b,o + off,rfl,b,o,z,by rw [Nat.add_assoc],h2,h3,h4⟩
theorem LX (H:Rel N M0 B w0 κ M σ a w) {v:V} {c:Value} (hv:rep M (XX κ σ.h) v c) (hl:σ.live v=true):(∃ p,c=.pointer (some p))∨∃ f x y,c=.func (.func f) x y:=by
 cases v<;>simp only [St.live] at hl<;>try (cases hl; done)
 case ptr id off=>obtain ⟨b,o,h,_⟩:=dD H hv (by simpa only [St.live] using hl) (k:=0) rfl; exact .inl ⟨_,h⟩
 case eptr id n i off=>obtain ⟨b,o,h,_⟩:=dD H hv (by simpa only [St.live] using hl) (k:=0) rfl; exact .inl ⟨_,h⟩
 case mptr id i n j off=>obtain ⟨b,o,h,_⟩:=dD H hv (by simpa only [St.live] using hl) (k:=0) rfl; exact .inl ⟨_,h⟩
 case sptr y off=>obtain ⟨b,o,h,_⟩:=dD H hv rfl (k:=0) rfl; exact .inl ⟨_,h⟩
 case fn f x y=>
  cases f with
  | func f=>simp only [rep] at hv; obtain ⟨a1,a2,h,_⟩:=hv; exact .inr ⟨f,a1,a2,h⟩
  | _=>cases hl
theorem uy {sz:Nat}:∀ {l:List V} {b off:Nat} (n:Nat),bp M sz l b off→bp M sz (l.drop n) b (off + n * sz)
 | l,b,off,0,h=>by simpa using h
 | [],b,off,n + 1,h=>by simp [bp]
 | v::vs,b,off,n + 1,h=>by
   simp only [bp] at h
   have:=uy n h.2
   simp only [List.drop_succ_cons]
   rw [show off + (n + 1) * sz=off + sz + n * sz by simp [Nat.add_mul]; omega]
   exact this
theorem ux {sz:Nat}:∀ {l:List V} {b off:Nat} (n:Nat),bp M sz l b off→bp M sz (l.take n) b off
 | l,b,off,0,h=>by simp [bp]
 | [],b,off,n + 1,h=>by simp [bp]
 | v::vs,b,off,n + 1,h=>by
   simp only [bp] at h
   simp only [List.take_succ_cons,bp]
   exact ⟨h.1,ux n h.2⟩
theorem oH {k:IntKind} {n:Int} {y:Nat} {code:BoundsCode} (h:0≤n∧n≤y) (w:World):(Instr.sliceBound (.int k n) y code).run P w=.ok n.toNat w:=by
 simp [Instr.sliceBound,asIntOf,h]
theorem qx {s:Bool} {len cap p q:Nat} {lo hi:Option Value} (h1:(hi=none∧q=len)∨∃ k n,hi=some (.int k n)∧0≤n∧n≤cap∧q=n.toNat)
 (h2:(lo=none∧p=0)∨∃ k n,lo=some (.int k n)∧0≤n∧n≤q∧p=n.toNat) (w:World):(Instr.sliceBounds s len cap lo hi none).run P w=.ok (p,q,cap) w:=by
 rcases h1 with ⟨rfl,rfl⟩ | ⟨k,n,rfl,h3,h4,rfl⟩<;>rcases h2 with ⟨rfl,rfl⟩ | ⟨k',n',rfl,h5,h6,rfl⟩
 · simp [Instr.sliceBounds]
 · simp [Instr.sliceBounds,oH (P:=P) (k:=k') ⟨h5,h6⟩]
 · simp [Instr.sliceBounds,oH (P:=P) (k:=k) ⟨h3,h4⟩]
 · simp [Instr.sliceBounds,oH (P:=P) (k:=k) ⟨h3,h4⟩,oH (P:=P) (k:=k') ⟨h5,h6⟩]
theorem Js (H:Rel N M0 B w0 κ M σ a w) {v:V} {c:Value} {b:Bool} (hv:rep M (XX κ σ.h) v c) (h:St.isNil 0 (σ.live v) v=some b):(b=true∧c=.pointer none)∨(b=false∧∃ p,c=.pointer (some p)):=by
 cases v<;>simp [St.isNil] at h
 case nilptr=>subst h; exact .inl ⟨rfl,by simpa only [rep] using hv⟩
 case sptr=>subst h; simp only [rep] at hv; obtain ⟨b,o,y,rfl,_⟩:=hv; exact .inr ⟨rfl,_,rfl⟩
 case ptr=>obtain ⟨h1,rfl⟩:=h; obtain ⟨b,o,e,_⟩:=dD H hv h1 (k:=0) rfl; exact .inr ⟨rfl,_,e⟩
 case eptr=>obtain ⟨h1,rfl⟩:=h; obtain ⟨b,o,e,_⟩:=dD H hv h1 (k:=0) rfl; exact .inr ⟨rfl,_,e⟩
 case mptr=>obtain ⟨h1,rfl⟩:=h; obtain ⟨b,o,e,_⟩:=dD H hv h1 (k:=0) rfl; exact .inr ⟨rfl,_,e⟩
theorem Ep {X:V→Value→Prop} {v:V} {c:Value} {b lv:Bool} (hv:rep M X v c) (h:St.isNil 1 lv v=some b):(b=true∧c=.nilIface)∨(b=false∧∃ t y,c=.iface t y):=by
 cases v<;>simp [St.isNil] at h
 case niliface=>subst h; exact .inl ⟨rfl,by simpa only [rep] using hv⟩
 case iface=>subst h; simp only [rep] at hv; obtain ⟨y,rfl,_⟩:=hv; exact .inr ⟨rfl,_,_,rfl⟩
theorem L6 {X:V→Value→Prop} {v:V} {c:Value} {b lv:Bool} (hv:rep M X v c) (h:St.isNil 2 lv v=some b):(b=true∧c=.nilFunc)∨(b=false∧∃ f x y,c=.func f x y):=by
 cases v<;>simp [St.isNil] at h
 case nilfn=>subst h; exact .inl ⟨rfl,by simpa only [rep] using hv⟩
 case fn=>subst h; simp only [rep] at hv; obtain ⟨a1,a2,rfl,_⟩:=hv; exact .inr ⟨rfl,_,_,_,rfl⟩
theorem Ry {t:TypeId} {c d:Value} (h:(∃ p,c=.pointer p)∨c=.nilIface∨(∃ u y,c=.iface u y)∨c=.nilFunc∨∃ f x y,c=.func f x y) (h':d=.pointer none∨d=.nilIface∨d=.nilFunc):
 binOp .eql t c d=(do pure (.bool (←Op.equal t c d)))∧binOp .neq t c d=(do pure (.bool (!(←Op.equal t c d)))):=by
 rcases h with ⟨p,rfl⟩ | rfl | ⟨u,y,rfl⟩ | rfl | ⟨f,x,y,rfl⟩<;>rcases h' with rfl | rfl | rfl<;>exact ⟨by simp only [binOp],by simp only [binOp]⟩
theorem yx {t:TypeId} {c d:Value} {b:Bool} (h:(Op.equalIn (9999 + 1) t c d).run P w=.ok b w):(Op.equal t c d).run P w=.ok b w:=h
theorem Li {t:TypeId} {c d:Value} {k:Nat} {b:Bool} (hk:BY P t d=some k) (h:(k=0∧((b=true∧c=.pointer none)∨(b=false∧∃ p,c=.pointer (some p))))∨(k=1∧((b=true∧c=.nilIface)∨(b=false∧∃ t y,c=.iface t y)))∨(k=2∧((b=true∧c=.nilFunc)∨(b=false∧∃ f x y,c=.func f x y)))):
 (Op.equal t c d).run P w=.ok b w:=by
 apply yx
 unfold BY at hk
 split at hk
 all_goals (try cases hk)
 all_goals
  rename_i hu
  unfold Op.equalIn
  rw [Sem.run_bind,run_underlying hu,Result.andThen_ok]
  rcases h with ⟨hk,h⟩ | ⟨hk,h⟩ | ⟨hk,h⟩<;>first | (cases hk; done) | skip
 · rcases h with ⟨rfl,rfl⟩ | ⟨rfl,p,rfl⟩<;>rfl
 · rcases h with ⟨rfl,rfl⟩ | ⟨rfl,p,y,rfl⟩<;>rfl
 · rcases h with ⟨rfl,rfl⟩ | ⟨rfl,p,x,y,rfl⟩<;>rfl
theorem rL {op:BinOp} {t:TypeId} {x:Operand} {c d:Value} (h':d=.pointer none∨d=.nilIface∨d=.nilFunc) (ho:op=.eql∨op=.neq):(eqGuard op t x (.const d) c d).run P w=.ok () w:=by
 rcases h' with rfl | rfl | rfl<;>rcases ho with rfl | rfl<;>cases c<;>first | rfl | (cases x<;>rfl)
theorem OB (H:Rel N M0 B w0 κ M σ a w) {t:TypeId} {x:Operand} {v:V} {c d:Value} {k:Nat} {b neg:Bool} {op:BinOp} (hk:BY P t d=some k) (ho:(op=.eql∧neg=false)∨(op=.neq∧neg=true)) (hv:rep M (XX κ σ.h) v c) (h:St.isNil k (σ.live v) v=some b):
 ((do eqGuard op t x (.const d) c d; binOp op t c d:Sem Value)).run P w=.ok (.bool (xor neg b)) w:=by
 have hd:d=.pointer none∨d=.nilIface∨d=.nilFunc:=by
  unfold BY at hk
  split at hk
  · exact .inl rfl
  · exact .inr (.inl rfl)
  · exact .inr (.inr rfl)
  · cases hk
 have hc:(k=0∧((b=true∧c=.pointer none)∨(b=false∧∃ p,c=.pointer (some p))))∨(k=1∧((b=true∧c=.nilIface)∨(b=false∧∃ t y,c=.iface t y)))∨(k=2∧((b=true∧c=.nilFunc)∨(b=false∧∃ f x y,c=.func f x y))):=by
  unfold BY at hk
  split at hk<;>cases hk
  · exact .inl ⟨rfl,Js H hv h⟩
  · exact .inr (.inl ⟨rfl,Ep hv h⟩)
  · exact .inr (.inr ⟨rfl,L6 hv h⟩)
 have k1:=Li (w:=w) hk hc
 have hf:(∃ p,c=.pointer p)∨c=.nilIface∨(∃ u y,c=.iface u y)∨c=.nilFunc∨∃ f x y,c=.func f x y:=by
  rcases hc with ⟨_,⟨_,h⟩ | ⟨_,p,h⟩⟩ | ⟨_,⟨_,h⟩ | ⟨_,p,y,h⟩⟩ | ⟨_,⟨_,h⟩ | ⟨_,p,x,y,h⟩⟩
  · exact .inl ⟨_,h⟩
  · exact .inl ⟨_,h⟩
  · exact .inr (.inl h)
  · exact .inr (.inr (.inl ⟨_,_,h⟩))
  · exact .inr (.inr (.inr (.inl h)))
  · exact .inr (.inr (.inr (.inr ⟨_,_,_,h⟩)))
 obtain ⟨e1,e2⟩:=Ry (t:=t) hf hd
 rcases ho with ⟨rfl,rfl⟩ | ⟨rfl,rfl⟩
 · rw [Sem.run_bind,rL hd (.inl rfl),Result.andThen_ok,e1,Sem.run_bind,k1,Result.andThen_ok]
   cases b<;>rfl
 · rw [Sem.run_bind,rL hd (.inr rfl),Result.andThen_ok,e2,Sem.run_bind,k1,Result.andThen_ok]
   cases b<;>rfl
theorem EJ (H:Rel N M0 B w0 κ M σ a w) {sz:Nat} {l:List V} {c:Value} (h:rep M (XX κ σ.h) (.fseq sz l) c):rep M (XX κ σ.h) (.seq sz l) c:=by
 simp only [rep,XX] at h
 have:=ax (fun p v hp=>H.sub.fmS p v hp) (X:=NX) (fun _ _ h=>h) (.seq sz l) c (by simp only [rep]; exact h.2)
 simpa only [rep] using this
theorem Iy (H:Rel N M0 B w0 κ M σ a w) {ty:TypeId} {op:Op} {act:Act'} (hl:LV P ty op act) {v:V} (hv:σ.val act=some v) (o:Oper) (ho:o.op=op) (hty:o.type=ty):
 ∃ c,(execOp a.eval o).run P w=.ok (.value c) w∧rep M (XX κ σ.h) v c:=by
 unfold execOp
 cases hl<;>simp only [St.val] at hv<;>rw [ho]<;>dsimp only
 case move x y hc=>exact ⟨_,rfl,H.op hc hv⟩
 case assign x y hc=>exact ⟨_,rfl,H.op hc hv⟩
 case pick c x y c' x' y' hc hx hy=>
  split at hv
  · rename_i t ht
    have h1:=f6 (H.op hc ht)
    cases t
    · simp at hv; exact ⟨_,by simp [h1,asBool],H.op hy hv⟩
    · simp at hv; exact ⟨_,by simp [h1,asBool],H.op hx hv⟩
  · cases hv
 case field t x i y fs f n g hx ht hf hs hg h1=>
  split at hv
  · rename_i cs hcs
    split at hv
    · rename_i us hus
      have hr:=H.op hx hcs
      simp only [rep] at hr
      obtain ⟨arr,e,k1,k2⟩:=hr
      obtain ⟨c,hrun,hc⟩:=DM hs hg h1 k1 k2 hus hv w
      refine ⟨c,?_,hc⟩
      simp [Instr.field,run_underlying ht,hf,e,asAgg,hrun]
    · cases hv
  · cases hv
 case fieldAddr t x i y fs f n hx ht hf hs hn=>
  split at hv
  · rename_i u he
    split at hv
    · rename_i hlv
      obtain ⟨b,o',e,hr⟩:=dD H (H.op hx he) hlv hv
      exact ⟨_,by simp [Instr.fieldAt,run_underlying ht,hf,e,Instr.sureAddr,fieldPlace,aU hs,hn,Addr.add_lit],hr⟩
    · cases hv
  · cases hv
 case indexAddr t x i y j e n hx hi ht hs=>
  split at hv
  · rename_i sz' l k m he hj
    obtain ⟨ei,_⟩:=bc (H.op hi hj)
    split at hv
    · rename_i hc
      split at hv
      · rename_i u hu
        cases hv
        have hr:=H.op hx he
        simp only [rep] at hr
        obtain ⟨ad,cap,ex,_,hlen,hsz,hmem⟩:=hr
        have hlt:m.toNat < l.length:=(List.getElem?_eq_some_iff.1 hu).1
        rcases hmem with rfl | ⟨b,off,rfl,hmem⟩
        · simp at hlt
        · obtain ⟨y',k1,k2,k3,k4⟩:=k8 hmem hu
          have hm:0≤m∧m < l.length:=by omega
          refine ⟨.pointer (some ⟨b,off + m.toNat * n,none⟩),?_,?_⟩
          · simp [Instr.indexAt,ei,ex,asIntOf,run_underlying ht,hm,aU hs,Addr.add_lit]
          · simp only [rep]
            refine ⟨b,off + m.toNat * n,y',by simp,k1,k3,fun q hq=>?_⟩
            rw [k2] at hq
            rw [←k4 q hq,hc.1]
      · cases hv
    · cases hv
  · rename_i sz' l k m he hj
    obtain ⟨ei,_⟩:=bc (H.op hi hj)
    split at hv
    · rename_i hc
      split at hv
      · rename_i u hu
        cases hv
        have hr:=EJ H (H.op hx he)
        simp only [rep] at hr
        obtain ⟨ad,cap,ex,_,hlen,hsz,hmem⟩:=hr
        have hlt:m.toNat < l.length:=(List.getElem?_eq_some_iff.1 hu).1
        rcases hmem with rfl | ⟨b,off,rfl,hmem⟩
        · simp at hlt
        · obtain ⟨y',k1,k2,k3,k4⟩:=k8 hmem hu
          have hm:0≤m∧m < l.length:=by omega
          refine ⟨.pointer (some ⟨b,off + m.toNat * n,none⟩),?_,?_⟩
          · simp [Instr.indexAt,ei,ex,asIntOf,run_underlying ht,hm,aU hs,Addr.add_lit]
          · simp only [rep]
            refine ⟨b,off + m.toNat * n,y',by simp,k1,k3,fun q hq=>?_⟩
            rw [k2] at hq
            rw [←k4 q hq,hc.1]
      · cases hv
    · cases hv
  · rename_i id m k q he hj
    obtain ⟨ei,_⟩:=bc (H.op hi hj)
    split at hv
    · rename_i e' sz' l hal
      split at hv
      · rename_i hc
        cases hv
        have ha:=dI hal
        simp only at ha
        have hr:=H.op hx he
        simp only [rep,XX] at hr
        have hck:=(hr.2.2.1 _ _ _ ha).2 hc.2.1
        obtain ⟨hsz,hlen,xs,ho,hrow,_⟩:=H.heap id _ ha
        rcases ho.2 with ⟨hv0,h0⟩ | ⟨g,cap,cur,hv0,_⟩
        · omega
        · have hq:0≤q∧q < (l.length:Int):=by omega
          rw [hv0] at hck
          refine ⟨.pointer (some ⟨g,q.toNat * n,none⟩),?_,?_⟩
          · simp [Instr.indexAt,ei,hck,asIntOf,run_underlying ht,hq,aU hs,Addr.add_lit]
          · simp only [rep,XX]
            refine ⟨rfl,hr.2.1,fun e2 sz2 l2 h2=>?_,fun e1 e2 sz2 l2 h2=>?_⟩
            · rw [ha] at h2
              cases h2
              exact ⟨(hr.2.2.1 _ _ _ ha).1,fun hn2 hi2=>⟨g,cap,by rw [hv0,hn2],by rw [hc.1]; simp⟩⟩
            · rw [ha] at h2; cases h2
      · cases hv
    · split at hv
      · rename_i e1 e2 sz' rows hal
        split at hv
        · rename_i hc
          cases hv
          have ha:=d2 hal
          simp only at ha
          have hr:=H.op hx he
          simp only [rep,XX] at hr
          have hck:=(hr.2.2.2.1 _ _ _ _ ha).2 hc.2.1
          obtain ⟨hsz,hlen,⟨xs,ho,_⟩,_⟩:=H.heap id _ ha
          rcases ho.2 with ⟨hv0,h0⟩ | ⟨g,cap,cur,hv0,_⟩
          · omega
          · have hq:0≤q∧q < (rows.length:Int):=by omega
            rw [hv0] at hck
            refine ⟨.pointer (some ⟨g,q.toNat * n,none⟩),?_,?_⟩
            · simp [Instr.indexAt,ei,hck,asIntOf,run_underlying ht,hq,aU hs,Addr.add_lit]
            · simp only [rep,XX]
              refine ⟨rfl,hr.2.1,fun e2 sz2 l2 h2=>?_,fun e1 e2 sz2 l2 h2=>?_⟩
              · rw [ha] at h2; cases h2
              · rw [ha] at h2
                cases h2
                exact ⟨(hr.2.2.2.1 _ _ _ _ ha).1,fun hn2 hi2=>⟨g,cap,by rw [hv0,hn2],by rw [hc.1]; simp⟩⟩
        · cases hv
      · cases hv
  · rename_i id i' m k q he hj
    obtain ⟨ei,_⟩:=bc (H.op hi hj)
    split at hv
    · rename_i e1 e2 sz' rows hal
      split at hv
      · rename_i r hrow
        split at hv
        · rename_i hc
          cases hv
          have ha:=d2 hal
          simp only at ha
          have hr:=H.op hx he
          simp only [rep,XX] at hr
          have hck:=((hr.2.2 _ _ _ _ ha).1 r hrow).2 hc.2.1
          obtain ⟨hsz,hlen,_,hrs,_⟩:=H.heap id _ ha
          obtain ⟨hrl,ys,ho,_⟩:=hrs i' r hrow
          rcases ho.2 with ⟨hv0,h0⟩ | ⟨g,cap,cur,hv0,_⟩
          · omega
          · have hq:0≤q∧q < (r.length:Int):=by omega
            rw [hv0] at hck
            refine ⟨.pointer (some ⟨g,q.toNat * n,none⟩),?_,?_⟩
            · simp [Instr.indexAt,ei,hck,asIntOf,run_underlying ht,hq,aU hs,Addr.add_lit]
            · simp only [rep,XX]
              refine ⟨rfl,hr.2.1,fun e1 e2 sz2 l2 h2=>?_⟩
              rw [ha] at h2
              cases h2
              refine ⟨fun r2 hr2=>?_,(hr.2.2 _ _ _ _ ha).2⟩
              rw [hrow] at hr2
              cases hr2
              exact ⟨((hr.2.2 _ _ _ _ ha).1 r hrow).1,fun hn2 hi2=>⟨g,cap,by rw [hv0,hn2],by rw [hc.1]; simp⟩⟩
        · cases hv
      · cases hv
    · cases hv
  · cases hv
 case indexAddrA t x i y j e m n hx hi ht hs=>
  split at hv
  · rename_i u k q he hj
    obtain ⟨ei,_⟩:=bc (H.op hi hj)
    split at hv
    · rename_i hc
      obtain ⟨b,o',e',hr⟩:=dD H (H.op hx he) hc.1 hv
      exact ⟨_,by simp [Instr.indexAt,ei,e',asIntOf,run_underlying ht,hc.2,aU hs,Addr.add_lit,Instr.sureAddr],hr⟩
    · cases hv
  · cases hv
 case load t x y n g hx hs hg h1=>
  split at hv
  · rename_i p he
    split at hv
    · rename_i us hus
      obtain ⟨b,o',cs,e,k1,k2,k3,k4⟩:=uQ H (H.op hx he) hus
      rcases vO hv k1 k2 with ⟨rfl,hk⟩ | ⟨rfl,c,hk1,hk2⟩
      · refine ⟨_,?_,hk⟩
        have:=run_loadCells_list (P:=P) w ⟨b,o',none⟩ cs k4
        rw [k3] at this
        simp [Instr.loadAt,e,Instr.sureAddr,loadVar,iG hg,aU hs,this]
      · refine ⟨c,?_,hk2⟩
        have:=k4 0 c (by simp [hk1])
        rw [Addr.add_lit] at this
        simp at this
        simp [Instr.loadAt,e,Instr.sureAddr,loadVar,iG hg,this]
    · cases hv
  · cases hv
 case indexS t x i y j hx hi ht=>
  split at hv
  · rename_i s k q he hj
    obtain ⟨ei,_⟩:=bc (H.op hi hj)
    obtain ⟨bs,ex,hs,hl⟩:=kZ (H.op hx he)
    split at hv
    · rename_i hc
      split at hv
      · rename_i b hb
        cases hv
        subst hs
        have hlt:q.toNat < bs.size:=by rw [kV]; exact (List.getElem?_eq_some_iff.1 hb).1
        have hbq:bs[q.toNat]?=some b:=by
         rw [ByteArray.getElem?_lt' bs _ hlt]
         congr 1
         have:=(List.getElem?_eq_some_iff.1 hb).2
         rw [←this]
         rfl
        refine ⟨.int .u8 b.toNat,by simp [Instr.index,ei,ex,asIntOf,run_underlying ht,hc,hbq],?_⟩
        simp only [rep]
        have:=b.toNat_lt
        exact ⟨trivial,by simp [IntKind.min,IntKind.signed],by simp [IntKind.max,IntKind.signed,IntKind.bits]; omega⟩
      · cases hv
    · cases hv
  · cases hv
 case indexA t x i y j m e n g hx hi ht hs hg h1=>
  split at hv
  · rename_i cs k q he hj
    obtain ⟨ei,_⟩:=bc (H.op hi hj)
    split at hv
    · rename_i hc
      split at hv
      · rename_i us hus
        have hr:=H.op hx he
        simp only [rep] at hr
        obtain ⟨arr,ex,k1,k2⟩:=hr
        obtain ⟨c,hrun,hcr⟩:=DM hs hg h1 k1 k2 hus hv w
        exact ⟨c,by simp [Instr.index,ei,ex,asIntOf,run_underlying ht,hc,aU hs,hrun],hcr⟩
      · cases hv
    · cases hv
  · cases hv
 case bin op xt x y yt u v' hx hy=>
  split at hv
  · rename_i c d hc hd
    obtain ⟨e,h1,h2⟩:=FE (P:=P) (w:=w) hv (H.op hx hc) (H.op hy hd) xt x y
    refine ⟨e,?_,h2⟩
    simp only [Sem.run_bind] at h1 ⊢
    rw [h1]; rfl
  · cases hv
 case beq xt x y yt u v' hu hx hy=>
  split at hv
  · rename_i c d hc hd
    have h1:=f6 (H.op hx hc)
    have h2:=f6 (H.op hy hd)
    simp at hv
    subst hv
    refine ⟨.bool (c == d),?_,rfl⟩
    simp only [h1,h2,Sem.run_bind,oG .eql xt x y (.bool c) (.bool d) (by simp) (by simp),Result.andThen_ok,run_eql_bool w xt c d hu]
    rfl
  · cases hv
 case bne xt x y yt u v' hu hx hy=>
  split at hv
  · rename_i c d hc hd
    have h1:=f6 (H.op hx hc)
    have h2:=f6 (H.op hy hd)
    simp at hv
    subst hv
    refine ⟨.bool (!(c == d)),?_,rfl⟩
    simp only [h1,h2,Sem.run_bind,oG .neq xt x y (.bool c) (.bool d) (by simp) (by simp),Result.andThen_ok,run_neq_bool w xt c d hu]
    rfl
  · cases hv
 case un op t x u hx=>
  split at hv
  · rename_i c hc
    have hr:=H.op hx hc
    cases c<;>simp only [vun] at hv<;>try (cases hv; done)
    case int k n=>
     obtain ⟨e,_⟩:=bc hr
     cases op<;>simp only at hv<;>try (cases hv; done)
     cases hv
     exact ⟨_,by simp [Op.unary,e,Op.intArith],du _ _⟩
    case bool b=>
     have e:=f6 hr
     cases op<;>simp only at hv<;>try (cases hv; done)
     cases hv
     exact ⟨_,by simp [Op.unary,e],dH _⟩
  · cases hv
 case r2s s d x u k hx hs hd=>
  split at hv
  · rename_i k' n hc
    obtain ⟨e,_⟩:=bc (H.op hx hc)
    unfold KN at hv
    split at hv
    · rename_i hn
      cases hv
      refine ⟨.string (Utf8.encode n),by simp [convert,run_underlying hd,run_underlying hs,e,Conv.intToString],?_⟩
      simp only [rep]
      refine ⟨_,rfl,?_,by simp⟩
      have h1:n.toNat < 128:=by omega
      have h2:Utf8.valid n=true:=by simp [Utf8.valid]; omega
      simp [Utf8.encode,h1,h2]
    · cases hv
  · cases hv
 case cii s d x u k ds hx hd hs=>
  split at hv
  · rename_i k' n hc
    obtain ⟨e,_⟩:=bc (H.op hx hc)
    cases hv
    exact ⟨_,by simp [convert,run_underlying hd,run_underlying hs,e,Conv.intToInt],du _ _⟩
  · cases hv
 case sls t x lo hi u lo' hi' hx hlo hhi ht=>
  split at hv
  · rename_i s he
    obtain ⟨bs,ex,hs,hl⟩:=kZ (H.op hx he)
    split at hv
    · rename_i k p k' q hp hq
      split at hv
      · rename_i hc
        cases hv
        subst hs
        have hsz:=kV bs
        obtain ⟨e1,_⟩:=bc (H.opo hlo hp (c:=.int .i64 0) (by simp only [rep]; exact ⟨trivial,by decide,by decide⟩))
        obtain ⟨e2,_⟩:=bc (H.opo hhi hq (c:=.int .i64 (bs.data.toList.length:Int)) (by
         simp only [rep]; refine ⟨trivial,?_,?_⟩
         · simp [IntKind.min,IntKind.signed,IntKind.bits]<;>omega
         · simp [IntKind.max,IntKind.signed,IntKind.bits]; simp at hl; omega))
        refine ⟨.string (bs.extract p.toNat q.toNat),?_,?_⟩
        · have b3:(Instr.sliceBounds false bs.size bs.size (lo.map a.eval) (hi.map a.eval) none).run P w=.ok (p.toNat,q.toNat,bs.size) w:=by
           refine qx ?_ ?_ w
           · cases hi with
             | none=>simp at e2 ⊢; rw [hsz]; simp; omega
             | some o'=>simp at e2; exact .inr ⟨k',q,by simp [e2],by omega,by omega,rfl⟩
           · cases lo with
             | none=>simp at e1 ⊢; omega
             | some o'=>simp at e1; exact .inr ⟨k,p,by simp [e1],by omega,by omega,rfl⟩
          simp [Instr.sliceAt,run_underlying ht,Instr.slice,ex,b3]
        · simp only [rep]
          refine ⟨_,rfl,?_,?_⟩
          · rw [ByteArray.data_extract,Array.toList_extract,List.extract_eq_take_drop]
          · simp only [List.length_take,List.length_drop]; omega
      · cases hv
    · cases hv
  · cases hv
 case slq t x lo hi u lo' hi' e n hx hlo hhi ht hsz=>
  split at hv
  · rename_i sz' l he
    have hr:=H.op hx he
    simp only [rep] at hr
    obtain ⟨ad,cap,ex,hcap,hlen,hsz',hmem⟩:=hr
    split at hv
    · rename_i k p k' q hp hq
      split at hv
      · rename_i hc
        subst hc
        obtain ⟨us,hus,rfl⟩:=Option.map_eq_some_iff.1 hv
        unfold FL at hus
        split at hus
        · rename_i hc
          cases hus
          obtain ⟨e1,_⟩:=bc (H.opo hlo hp (c:=.int .i64 0) (by simp only [rep]; exact ⟨trivial,by decide,by decide⟩))
          obtain ⟨e2,_⟩:=bc (H.opo hhi hq (c:=.int .i64 (l.length:Int)) (by
           simp only [rep]; refine ⟨trivial,?_,?_⟩
           · simp [IntKind.min,IntKind.signed,IntKind.bits]<;>omega
           · simp [IntKind.max,IntKind.signed,IntKind.bits]; omega))
          have b3:(Instr.sliceBounds true l.length cap (lo.map a.eval) (hi.map a.eval) none).run P w=.ok (p.toNat,q.toNat,cap) w:=by
           refine qx ?_ ?_ w
           · cases hi with
             | none=>simp at e2 ⊢; omega
             | some o'=>simp at e2; exact .inr ⟨k',q,by simp [e2],by omega,by omega,rfl⟩
           · cases lo with
             | none=>simp at e1 ⊢; omega
             | some o'=>simp at e1; exact .inr ⟨k,p,by simp [e1],by omega,by omega,rfl⟩
          refine ⟨.slice (if cap=p.toNat then ad else ad.map (·.add (p.toNat * n))) (q.toNat - p.toNat) (cap - p.toNat),?_,?_⟩
          · simp [Instr.sliceAt,run_underlying ht,Instr.slice,ex,b3,aU hsz]
          · have hl2:((l.drop p.toNat).take (q.toNat - p.toNat)).length=q.toNat - p.toNat:=by
             simp only [List.length_take,List.length_drop]; omega
            simp only [rep]
            refine ⟨_,_,by rw [hl2],by rw [hl2]; omega,by rw [hl2]; omega,hsz',?_⟩
            by_cases h0:(l.drop p.toNat).take (q.toNat - p.toNat)=[]
            · exact .inl h0
            · have hpq:¬cap=p.toNat:=by
               intro hcp
               apply h0
               rw [←List.length_eq_zero_iff,hl2]; omega
              rcases hmem with rfl | ⟨b,off,rfl,hmem⟩
              · simp at h0
              · refine .inr ⟨b,off + p.toNat * n,by simp [hpq,Addr.add_lit],ux _ (uy _ hmem)⟩
        · cases hus
      · cases hv
    · cases hv
  · cases hv
 case lens t x u hx ht=>
  split at hv
  · rename_i s he
    obtain ⟨bs,ex,hs,hl⟩:=kZ (H.op hx he)
    cases hv
    subst hs
    refine ⟨.int .i64 (bs.data.toList.length:Int),?_,?_⟩
    · rw [←kV]
      simp [resolve,invoke,builtin,Builtin.len_,ex,run_underlying ht,goInt]
    · simp only [rep]; refine ⟨trivial,?_,?_⟩
      · simp [IntKind.min,IntKind.signed,IntKind.bits]<;>omega
      · simp [IntKind.max,IntKind.signed,IntKind.bits]; simp at hl; omega
  · cases hv
 case lenq t x u e hx ht=>
  have hlenI:∀ n:Nat,n≤140737488355328→rep M (XX κ σ.h) (.int .i64 (n:Int)) (.int .i64 (n:Int)):=by
   intro n hn
   simp only [rep]; refine ⟨trivial,?_,?_⟩
   · simp [IntKind.min,IntKind.signed,IntKind.bits]<;>omega
   · simp [IntKind.max,IntKind.signed,IntKind.bits]; omega
  split at hv
  · rename_i sz' l he
    have hr:=H.op hx he
    simp only [rep] at hr
    obtain ⟨ad,cap,ex,_,hlen,_,hmem⟩:=hr
    cases hv
    exact ⟨_,by simp [resolve,invoke,builtin,Builtin.len_,ex,run_underlying ht,goInt],hlenI _ hlen⟩
  · rename_i sz' l he
    have hr:=EJ H (H.op hx he)
    simp only [rep] at hr
    obtain ⟨ad,cap,ex,_,hlen,_,hmem⟩:=hr
    cases hv
    exact ⟨_,by simp [resolve,invoke,builtin,Builtin.len_,ex,run_underlying ht,goInt],hlenI _ hlen⟩
  · rename_i sz' he
    have hr:=H.op hx he
    simp only [rep] at hr
    cases hv
    exact ⟨_,by simp [resolve,invoke,builtin,Builtin.len_,hr.1,run_underlying ht,goInt],hlenI 0 (by omega)⟩
  · rename_i id n he
    split at hv
    · rename_i e' sz' l hal
      split at hv
      · rename_i hn
        cases hv
        have ha:=dI hal
        simp only at ha
        have hr:=H.op hx he
        simp only [rep,XX] at hr
        have hck:=(hr.2.2.1 _ _ _ ha).2 hn
        obtain ⟨hsz,hlen,xs,ho,hrow,_⟩:=H.heap id _ ha
        subst hn
        rcases ho.2 with ⟨hv0,h0⟩ | ⟨g,cap,cur,hv0,_⟩
        · rw [hv0] at hck
          exact ⟨.int .i64 (l.length:Int),by simp [resolve,invoke,builtin,Builtin.len_,hck,run_underlying ht,goInt,h0],hlenI _ hlen⟩
        · rw [hv0] at hck
          exact ⟨.int .i64 (l.length:Int),by simp [resolve,invoke,builtin,Builtin.len_,hck,run_underlying ht,goInt],hlenI _ hlen⟩
      · cases hv
    · split at hv
      · rename_i e1 e2 sz' rows hal
        split at hv
        · rename_i hn
          cases hv
          have ha:=d2 hal
          simp only at ha
          have hr:=H.op hx he
          simp only [rep,XX] at hr
          have hck:=(hr.2.2.2.1 _ _ _ _ ha).2 hn
          obtain ⟨hsz,hlen,⟨xs,ho,_⟩,_⟩:=H.heap id _ ha
          subst hn
          rcases ho.2 with ⟨hv0,h0⟩ | ⟨g,cap,cur,hv0,_⟩
          · rw [hv0] at hck
            exact ⟨.int .i64 (rows.length:Int),by simp [resolve,invoke,builtin,Builtin.len_,hck,run_underlying ht,goInt,h0],hlenI _ hlen⟩
          · rw [hv0] at hck
            exact ⟨.int .i64 (rows.length:Int),by simp [resolve,invoke,builtin,Builtin.len_,hck,run_underlying ht,goInt],hlenI _ hlen⟩
        · cases hv
      · cases hv
  · rename_i id i' n he
    split at hv
    · rename_i e1 e2 sz' rows hal
      split at hv
      · rename_i r hrow
        split at hv
        · rename_i hn
          cases hv
          have ha:=d2 hal
          simp only at ha
          have hr:=H.op hx he
          simp only [rep,XX] at hr
          have hck:=((hr.2.2 _ _ _ _ ha).1 r hrow).2 hn
          obtain ⟨hsz,hlen,_,hrs,_⟩:=H.heap id _ ha
          obtain ⟨hrl,ys,ho,_⟩:=hrs i' r hrow
          subst hn
          rcases ho.2 with ⟨hv0,h0⟩ | ⟨g,cap,cur,hv0,_⟩
          · rw [hv0] at hck
            exact ⟨.int .i64 (r.length:Int),by simp [resolve,invoke,builtin,Builtin.len_,hck,run_underlying ht,goInt,h0],hlenI _ hrl⟩
          · rw [hv0] at hck
            exact ⟨.int .i64 (r.length:Int),by simp [resolve,invoke,builtin,Builtin.len_,hck,run_underlying ht,goInt],hlenI _ hrl⟩
        · cases hv
      · cases hv
    · cases hv
  · cases hv
 case mmx x y t t' u v' hx hy=>
  split at hv
  · rename_i k p k' q he hf
    split at hv
    · rename_i hk
      subst hk
      cases hv
      obtain ⟨e1,h1⟩:=bc (H.op hx he)
      obtain ⟨e2,h2⟩:=bc (H.op hy hf)
      refine ⟨.int k (if q > p then q else p),by simp [resolve,invoke,builtin,Builtin.max_,Builtin.max2,e1,e2],?_⟩
      simp only [rep,if_true]
      refine ⟨trivial,?_⟩
      split<;>assumption
    · cases hv
  · cases hv
 case mmn x y t t' u v' hx hy=>
  split at hv
  · rename_i k p k' q he hf
    split at hv
    · rename_i hk
      subst hk
      cases hv
      obtain ⟨e1,h1⟩:=bc (H.op hx he)
      obtain ⟨e2,h2⟩:=bc (H.op hy hf)
      refine ⟨.int k (if q < p then q else p),by simp [resolve,invoke,builtin,Builtin.min_,Builtin.min2,e1,e2],?_⟩
      simp only [rep,Bool.false_eq_true,if_false]
      refine ⟨trivial,?_⟩
      split<;>assumption
    · cases hv
  · cases hv
 case nlq t x yt u neg op k c hk ho' hx=>
  split at hv
  · rename_i v' he
    split at hv
    · rename_i b hb
      cases hv
      have:=OB (P:=P) H (x:=x) hk ho' (H.op hx he) hb
      refine ⟨.bool (xor neg b),?_,by simp [rep]⟩
      simp only [Act.eval,Sem.run_bind,Sem.run_pure] at this ⊢
      rw [this]
      rfl
    · cases hv
  · cases hv
 case ext x i u hx=>
  split at hv
  · rename_i vs he
    have hr:=H.op hx he
    simp only [rep] at hr
    obtain ⟨arr,ex,k1⟩:=hr
    obtain ⟨c,k2,k3⟩:=dr k1 hv
    exact ⟨c,by simp at k2; simp [Instr.extract,ex,k2],k3⟩
  · cases hv
 case bld t parts z zc zs ps i z' hbt hi hz hzc hzs hps=>
  obtain ⟨us,hus,rfl⟩:=Option.map_eq_some_iff.1 hv
  have hz0:=Dp hzs (M:=M) (X:=XX κ σ.h)
  have hb:∃ es:Array Value,P.built t (parts.toList.map fun x=>(x.1,a.eval x.2))=some es∧aa M (XX κ σ.h) us es.toList∧∀ u∈es.toList,ar u:=by
   unfold Program.built at hbt ⊢
   rw [hi] at hbt ⊢
   cases hu:P.underlying t with
   | none=>rw [hu] at hbt; simp at hbt
   | some d=>
     rw [hu] at hbt
     cases d<;>simp only at hbt<;>try (cases hbt; done)
     case struct fs=>
      rw [hz] at hbt
      simp only [hz]
      cases hpl:fs.toList.mapM (fun f=>(P.info? f.type).map fun i=>(f.offset,i.size)) with
      | none=>rw [hpl] at hbt; simp at hbt
      | some places=>
        refine q9 (t:=t) (place:=(places.toArray[·]?)) ?_ H hps hus hz0.1 hz0.2
        intro j off n ft hj
        unfold vL at hj
        rw [hu] at hj
        simp only at hj
        split at hj
        · rename_i f hf
          split at hj
          · rename_i n' hn'
            cases hj
            have h5:=mapM_some_get hpl j f (by simpa using hf)
            unfold dW at hn'
            obtain ⟨i',hi',rfl⟩:=Option.map_eq_some_iff.1 hn'
            rw [hi'] at h5
            simpa using h5.symm
          · cases hj
        · cases hj
     case array m e=>
      rw [hz] at hbt
      simp only [hz]
      cases hie:P.info? e with
      | none=>rw [hie] at hbt; simp at hbt
      | some ie=>
        refine q9 (t:=t) (place:=fun i=>some (i * ie.size,ie.size)) ?_ H hps hus hz0.1 hz0.2
        intro j off n ft hj
        unfold vL at hj
        rw [hu] at hj
        simp only [dW,hie,Option.map_some] at hj
        split at hj
        · cases hj; rfl
        · cases hj
  obtain ⟨es,k1,k2,k3⟩:=hb
  refine ⟨.agg es,?_,by simp only [rep]; exact ⟨es,rfl,k2,k3⟩⟩
  have:=run_build (P:=P) w t (parts.map fun x=>(x.1,a.eval x.2)) es (by simpa using k1)
  simp [this]
 case mkf f x y x' y' hx hy=>
  split at hv
  · rename_i vs us hvs hus
    cases hv
    refine ⟨.func f (x.map a.eval) (y.map a.eval),by simp [Instr.makeFunc],?_⟩
    simp only [rep]
    exact ⟨_,_,rfl,by simpa using H.ops hx hvs,by simpa using H.ops hy hus⟩
  · cases hv
 case mki t x u ds hx hd hne=>
  split at hv
  · rename_i v' he
    split at hv
    · cases hv
      have hr:(Instr.makeInterface t (a.eval x)).run P w=.ok (.iface t (a.eval x)) w:=by
       simp only [Instr.makeInterface,Sem.run_bind,run_underlying hd w,Result.andThen_ok]
       first
        | rfl
        | (split
           · exact absurd rfl (hne _)
           · rfl)
      exact ⟨.iface t (a.eval x),by simp [hr],by simp only [rep]; exact ⟨_,rfl,H.op hx he⟩⟩
    · cases hv
  · cases hv
 case aeq t x y yt u v' kt hk hg hx hy=>
  split at hv
  · rename_i u1 v1 h1 h2
    split at hv
    · rename_i hf
      cases hv
      have r1:=H.op hx h1
      have r2:=H.op hy h2
      have e:=tm hk hf.1 hf.2 r1 r2 w
      obtain ⟨_,_,_,_,hc⟩:=ir hk hf.1 r1
      obtain ⟨_,_,_,_,hc2⟩:=ir hk hf.2 r2
      rcases hc with ⟨_,⟨cs,ec⟩,hq,_⟩ | ⟨hn,_⟩
      · rcases hc2 with ⟨_,⟨ds,ed⟩,_,_⟩ | ⟨hn,_⟩
        · rw [ec,ed] at e ⊢
          refine ⟨.bool (eqK u1 v1),?_,by simp [rep]⟩
          simp only [Sem.run_bind,run_eqGuard_agg w .eql t x y cs ds hq,Result.andThen_ok,run_eql_struct,e]
          rfl
        · rw [hg] at hn; cases hn
      · rw [hg] at hn; cases hn
    · cases hv
  · cases hv
 case ane t x y yt u v' kt hk hg hx hy=>
  split at hv
  · rename_i u1 v1 h1 h2
    split at hv
    · rename_i hf
      cases hv
      have r1:=H.op hx h1
      have r2:=H.op hy h2
      have e:=tm hk hf.1 hf.2 r1 r2 w
      obtain ⟨_,_,_,_,hc⟩:=ir hk hf.1 r1
      obtain ⟨_,_,_,_,hc2⟩:=ir hk hf.2 r2
      rcases hc with ⟨_,⟨cs,ec⟩,hq,_⟩ | ⟨hn,_⟩
      · rcases hc2 with ⟨_,⟨ds,ed⟩,_,_⟩ | ⟨hn,_⟩
        · rw [ec,ed] at e ⊢
          refine ⟨.bool (!eqK u1 v1),?_,by simp [rep]⟩
          simp only [Sem.run_bind,run_eqGuard_agg w .neq t x y cs ds hq,Result.andThen_ok,run_neq_struct,e]
          rfl
        · rw [hg] at hn; cases hn
      · rw [hg] at hn; cases hn
    · cases hv
  · cases hv
 case lkp t K E x k u v' kt i z zv okk ht hkt hx hk2 hi hz hzv=>
  split at hv
  · rename_i id n kv h1 h2
    split at hv
    · rename_i kt' l hm
      split at hv
      · rename_i hf
        obtain ⟨rfl,hf⟩:=hf
        have hmp:=Cd hm
        have r1:=H.op hx h1
        simp only [rep,XX] at r1
        have ex:=r1.2.2.2.2 _ hmp rfl
        obtain ⟨b,es,clock,e1,e2,e3,e4,e5⟩:=H.heap id _ hmp
        rw [e1] at ex
        have r2:=H.op hk2 h2
        obtain ⟨r,g1,g2⟩:=DO hkt hf r2 w l es.toList e4
        have gc:=Au hkt hf r2 es.isEmpty w
        have hzr:(zeroValue E).run P w=.ok z w:=by simp [zeroValue,typeInfo,hi,hz]
        have hobj:=Go.MapKept.run_getObj_map (P:=P) e3
        rcases g2 with ⟨rfl,g3,_⟩ | ⟨j,e,k',v2,rfl,_,g3,g4,_⟩
        · rw [g3] at hv
          simp only [Option.some.injEq] at hv
          subst hv
          have hrun:(Instr.lookup t (a.eval x) (a.eval k) okk).run P w=.ok (if okk then .tuple #[z,.bool false] else z) w:=by
           unfold Instr.lookup
           simp [run_underlying ht,ex,hobj,gc,g1,hzr]
          refine ⟨if okk then .tuple #[z,.bool false] else z,by simp [hrun],?_⟩
          cases okk
          · simpa using ym hzv
          · simp only [if_true,rep,aa]
            exact ⟨_,rfl,z,_,rfl,ym hzv,.bool false,[],rfl,rfl,rfl⟩
        · rw [g3] at hv
          simp only [Option.some.injEq] at hv
          subst hv
          have hrun:(Instr.lookup t (a.eval x) (a.eval k) okk).run P w=.ok (if okk then .tuple #[e.val,.bool true] else e.val) w:=by
           unfold Instr.lookup
           simp [run_underlying ht,ex,hobj,gc,g1]
          refine ⟨if okk then .tuple #[e.val,.bool true] else e.val,by simp [hrun],?_⟩
          cases okk
          · simpa using aA g4
          · simp only [if_true,rep,aa]
            exact ⟨_,rfl,e.val,_,rfl,aA g4,.bool true,[],rfl,rfl,rfl⟩
      · cases hv
    · cases hv
  · cases hv
 case nlc x u hx=>
  split at hv
  · rename_i v' he
    split at hv
    · rename_i hlv
      cases hv
      have hr:=H.op hx he
      rcases LX H hr hlv with ⟨p,e⟩ | ⟨f,x1,y1,e⟩
      · exact ⟨_,by rw [e]; rfl,hr⟩
      · exact ⟨_,by rw [e]; rfl,hr⟩
    · cases hv
  · cases hv
end
def bS (κ:Kap) (id:Nat) (v:Value) (rw':Nat→Value) (bl:Nat→Prop):Kap:=⟨fun i=>if i=id then v else κ i,fun i=>if i=id then rw' else κ.row i,fun i=>if i=id then bl else κ.bl i,κ.fm⟩
abbrev upd (κ:Kap) (id:Nat) (v:Value):Kap:=bS κ id v (fun _=>undef) (fun g=>blk v=some g)
section
variable {κ:Kap} {id:Nat} {v:Value} {rw':Nat→Value} {bl:Nat→Prop}
theorem bf:(bS κ id v rw' bl) id=v:=by simp [bS]
theorem kh:(bS κ id v rw' bl).row id=rw':=by simp [bS]
theorem aI:(bS κ id v rw' bl).bl id=bl:=by simp [bS]
theorem bJ {i:Nat} (h:i≠id):(bS κ id v rw' bl) i=κ i∧(bS κ id v rw' bl).row i=κ.row i∧(bS κ id v rw' bl).bl i=κ.bl i:=by simp [bS,h]
theorem bk:upd κ id v id=v:=bf
theorem KQ {i:Nat} (h:i≠id):upd κ id v i=κ i:=(bJ h).1
end
theorem Ih {κ h v c} (hx:XX κ h v c) {κ':Kap} {h':List (Option Ob)} (hl:h.length≤h'.length) (hk:∀ i,i < h.length→κ' i=κ i) (hr:∀ i,i < h.length→κ'.row i=κ.row i) (hh:∀ i ob,i < h.length→h'[i]?=some (some ob)→h[i]?=some (some ob)) (hf:κ'.fm=κ.fm:=by rfl):XX κ' h' v c:=by
 cases v<;>simp only [XX] at hx ⊢
 case ref id n=>exact ⟨hx.1,by omega,fun e sz l hl'=>by rw [hk id hx.2.1]; exact hx.2.2.1 e sz l (hh id _ hx.2.1 hl'),fun e e2 sz l hl'=>by rw [hk id hx.2.1]; exact hx.2.2.2.1 e e2 sz l (hh id _ hx.2.1 hl'),fun o hl' hn=>by rw [hk id hx.2.1]; exact hx.2.2.2.2 o (hh id _ hx.2.1 hl') hn⟩
 case ptr id off=>exact ⟨hx.1,by omega,fun cs hl'=>by rw [hk id hx.2.1]; exact hx.2.2 cs (hh id _ hx.2.1 hl')⟩
 case eptr id n i off=>exact ⟨hx.1,by omega,fun e sz l hl'=>by rw [hk id hx.2.1]; exact hx.2.2.1 e sz l (hh id _ hx.2.1 hl'),fun e e2 sz l hl'=>by rw [hk id hx.2.1]; exact hx.2.2.2 e e2 sz l (hh id _ hx.2.1 hl')⟩
 case fseq sz l=>rw [hf]; exact hx
 case mref id i n=>exact ⟨hx.1,by omega,fun e e2 sz l hl'=>by rw [hr id hx.2.1]; exact hx.2.2 e e2 sz l (hh id _ hx.2.1 hl')⟩
 case mptr id i n k off=>exact ⟨hx.1,by omega,fun e e2 sz l hl'=>by rw [hr id hx.2.1]; exact hx.2.2 e e2 sz l (hh id _ hx.2.1 hl')⟩
theorem mY {M M':Mem} (hM:∀ p v,M p=some v→M' p=some v) {sz:Nat}:∀ {l:List V} {xs:List Value},al M sz l xs→al M' sz l xs
 | [],_,h=>h
 | v::vs,xs,h=>by
   simp only [al] at h ⊢
   obtain ⟨y,rest,g1,g2,g3,g4,g5⟩:=h
   exact ⟨y,rest,g1,ax hM (fun _ _ h=>h) _ _ g2,g3,g4,mY hM g5⟩
theorem cL {w w':World} {n e sz len:Nat} {v:Value} {xs:List Value} (h:w.ownsRow n e sz v len xs) (hw:∀ g,blk v=some g→w'.heap[g]?=w.heap[g]?):w'.ownsRow n e sz v len xs:=by
 refine ⟨h.1,?_⟩
 rcases h.2 with h4 | ⟨g,cap,cur,h4,h5,h6,h7⟩
 · exact .inl h4
 · exact .inr ⟨g,cap,cur,h4,h5,by rw [hw g (by rw [h4]; rfl),h6],h7⟩
theorem m6 {w:World} {n e sz len:Nat} {v:Value} {xs:List Value} (h:w.ownsRow n e sz v len xs) {g:Nat} (hg:blk v=some g):g < w.heap.size:=by
 rcases h.2 with ⟨h4,_⟩ | ⟨g',cap,cur,h4,h5,h6,_⟩
 · rw [h4] at hg; cases hg
 · rw [h4] at hg
   cases hg
   exact (Array.getElem?_eq_some_iff.1 h6).1
section
variable {P:Program} {N:Nat} {M0:Mem} {B:Bas} {w0:World} {κ:Kap} {M:Mem} {σ:St} {a:Act} {w w':World}
theorem AP {M M':Mem} (hM:∀ p v,M p=some v→M' p=some v) {kt:KT}:∀ {l:List (V × V)} {es:List MapEntry},jW M kt l es→jW M' kt l es
 | [],_,h=>h
 | (k,v)::l,_,h=>by
   simp only [jW] at h ⊢
   obtain ⟨e,rest,h1,h2,h3,h4,h5⟩:=h
   exact ⟨e,rest,h1,h2,ax hM (fun _ _ h=>h) _ _ h3,ax hM (fun _ _ h=>h) _ _ h4,AP hM h5⟩
theorem ej {X X':V→Value→Prop} {M':Mem} (hM:∀ p v,M p=some v→M' p=some v) (hX:∀ v c,X v c→X' v c) {κ':Kap} {id:Nat} (hk:κ' id=κ id∧κ'.row id=κ.row id∧κ'.bl id=κ.bl id) (hw:∀ g,κ.bl id g→w'.heap[g]?=w.heap[g]?) (hj:Fq B) (hu:Und B w w') (hs:∀ p v,M' p=some v→w'.cell? p=some v):∀ {ob:Ob},aK κ M X B w id ob→aK κ' M' X' B w' id ob
 | .itr s p,h=>by
   simp only [aK] at h ⊢
   obtain ⟨b,bs,h1,h2,h3,h4,h5,h6⟩:=h
   exact ⟨b,bs,by rw [hk.1,h1],h2,by rw [hw b ((h6 b).2 rfl),h3],h4,h5,by rw [hk.2.2]; exact h6⟩
 | .gh l,h=>by
   simp only [aK] at h ⊢
   obtain ⟨k,h1,h2,h3⟩:=h
   rw [hk.1,hk.2.2]
   exact ⟨k,h1,hj _ _ _ _ _ _ _ h2 hu hw hM hs,fun g hg=>⟨(h3 g hg).1,Nat.lt_of_lt_of_le (h3 g hg).2 hu.size⟩⟩
 | .box cs,h=>by
   simp only [aK] at h ⊢
   obtain ⟨b,arr,T,h1,h2,h3,h4,h5,h6⟩:=h
   exact ⟨b,arr,T,by rw [hk.1,h1],h2,by rw [hw b ((h6 b).2 rfl),h3],aR hM hX _ _ h4,h5,by rw [hk.2.2]; exact h6⟩
 | .arr e sz l,h=>by
   simp only [aK] at h ⊢
   obtain ⟨h0,h1,xs,h2,h3,hown,hbl⟩:=h
   rw [hk.1,hk.2.2]
   exact ⟨h0,h1,xs,cL h2 fun g hg=>hw g ((hbl g).2 hg),mY hM h3,hown,hbl⟩
 | .mat e e2 sz rows,h=>by
   simp only [aK] at h ⊢
   obtain ⟨h0,h1,⟨xs,h2,h3,h4⟩,h5,h6,h7,hown,hbl⟩:=h
   rw [hk.1,hk.2.1,hk.2.2]
   exact ⟨h0,h1,⟨xs,cL h2 fun g hg=>hw g ((hbl g).2 (.inl hg)),h3,h4⟩,fun i r hr=>let ⟨k1,ys,k2,k3⟩:=h5 i r hr; ⟨k1,ys,cL k2 fun g hg=>hw g ((hbl g).2 (.inr ⟨i,r,hr,hg⟩)),mY hM k3⟩,h6,h7,hown,hbl⟩
 | .mp kt l,h=>by
   simp only [aK] at h ⊢
   obtain ⟨b,es,clock,h1,h2,h3,h4,h5⟩:=h
   exact ⟨b,es,clock,by rw [hk.1,h1],h2,by rw [hw b ((h5 b).2 rfl),h3],AP hM h4,by rw [hk.2.2]; exact h5⟩
theorem D4 {X:V→Value→Prop} {id:Nat}:∀ {ob:Ob},aK κ M X B w id ob→∀ g,κ.bl id g→B.own g∧g < w.heap.size
 | .itr s p,h,g,hg=>by
   simp only [aK] at h
   obtain ⟨b,bs,h1,h2,h3,_,_,h6⟩:=h
   have:=(h6 g).1 hg
   subst this
   exact ⟨h2,(Array.getElem?_eq_some_iff.1 h3).1⟩
 | .gh l,h,g,hg=>by
   simp only [aK] at h
   obtain ⟨k,_,_,h3⟩:=h
   exact h3 g hg
 | .box cs,h,g,hg=>by
   simp only [aK] at h
   obtain ⟨b,arr,T,h1,h2,h3,_,_,h6⟩:=h
   have:=(h6 g).1 hg
   subst this
   exact ⟨h2,(Array.getElem?_eq_some_iff.1 h3).1⟩
 | .arr e sz l,h,g,hg=>by
   simp only [aK] at h
   obtain ⟨_,_,xs,h2,_,hown,hbl⟩:=h
   exact ⟨hown g hg,m6 h2 ((hbl g).1 hg)⟩
 | .mat e e2 sz rows,h,g,hg=>by
   simp only [aK] at h
   obtain ⟨_,_,⟨xs,h2,_⟩,h5,_,_,hown,hbl⟩:=h
   refine ⟨hown g hg,?_⟩
   rcases (hbl g).1 hg with h | ⟨i,r,hr,h⟩
   · exact m6 h2 h
   · obtain ⟨_,ys,k2,_⟩:=h5 i r hr
     exact m6 k2 h
 | .mp kt l,h,g,hg=>by
   simp only [aK] at h
   obtain ⟨b,es,clock,h1,h2,h3,_,h5⟩:=h
   have:=(h5 g).1 hg
   subst this
   exact ⟨h2,(Array.getElem?_eq_some_iff.1 h3).1⟩
theorem Rel.blk_lt (H:Rel N M0 B w0 κ M σ a w) {id:Nat} {ob:Ob} (h:σ.h[id]?=some (some ob)) {g:Nat} (hg:κ.bl id g):B.own g∧g < w.heap.size:=D4 (H.heap id ob h) g hg
theorem Rel.mem_lt (H:Rel N M0 B w0 κ M σ a w) {p:Addr} {v:Value} (h:M p=some v):p.block < w.heap.size:=World.block_lt_of_cell? w p (H.snd p v h)
theorem Rel.grow (H:Rel N M0 B w0 κ M σ a w) (hb:Below w.heap.size w w') {M':Mem} (hM:∀ p v,M p=some v→M' p=some v) (hs:∀ p v,M' p=some v→w'.cell? p=some v)
 (hn:∀ p v,M' p=some v→M p=some v∨w.heap.size≤p.block):Rel N M0 B w0 κ M' σ a w' where
 dfr:=H.dfr
 jst:=H.jst
 pin:=H.pin
 size:=H.size
 regs:=fun t v ht=>let ⟨h1,c,h2,h3⟩:=H.regs t v ht; ⟨h1,c,h2,ax hM (fun _ _ h=>h) _ _ h3⟩
 heap:=fun id ob h=>ej hM (fun _ _ h=>h) ⟨rfl,rfl,rfl⟩ (fun g hg=>hb.block g (H.blk_lt h hg).2) H.jst (.of_below hb (by rw [H.base]; exact H.blw.size)) hs (H.heap id ob h)
 inj:=H.inj
 snd:=hs
 sep:=fun p v hp id ob h=>by
  rcases hn p v hp with h1 | h1
  · exact H.sep p v h1 id ob h
  · intro hg
    have:=(H.blk_lt h hg).2
    omega
 sub:=⟨fun p v h=>hM p v (H.sub.sub p v h),fun p v h=>hM p v (H.sub.fmS p v h),H.sub.fmN,H.sub.fbn,H.sub.gl⟩
 new:=fun p v h=>by
  rcases hn p v h with h1 | h1
  · exact H.new p v h1
  · have:=H.blw.size
    exact .inr (.inl (by rw [H.base]; omega))
 base:=H.base
 blw:=H.blw.trans (.of_below hb (by rw [H.base]; exact H.blw.size))
theorem Rel.grow0 (H:Rel N M0 B w0 κ M σ a w) (hb:Below w.heap.size w w'):Rel N M0 B w0 κ M σ a w':=
 H.grow hb (fun _ _ h=>h) (fun p v h=>by rw [hb.cell (H.mem_lt h)]; exact H.snd p v h) (fun _ _ h=>.inl h)
theorem cq {α} {l:List α} {x y:α} {i:Nat} (h:(l++[x])[i]?=some y):(i < l.length∧l[i]?=some y)∨(i=l.length∧x=y):=by
 by_cases hi:i < l.length
 · rw [List.getElem?_append_left hi] at h; exact .inl ⟨hi,h⟩
 · rw [List.getElem?_append_right (by omega)] at h
   have:i - l.length=0:=by
    rcases Nat.eq_zero_or_pos (i - l.length) with h0 | h0
    · exact h0
    · rw [List.getElem?_eq_none (by simp; omega)] at h; cases h
   rw [this] at h
   simp at h
   exact .inr ⟨by omega,h⟩
theorem Rel.newOb' (H:Rel N M0 B w0 κ M σ a w) (hb:Below w.heap.size w w') {ob:Ob} {kv:Value} {kr:Nat→Value} {kb:Nat→Prop} (hkI:∀ g,kb g→∀ j oj,σ.h[j]?=some (some oj)→¬κ.bl j g) (hkS:∀ p v,M p=some v→¬kb p.block)
 (ho:aK (bS κ σ.h.length kv kr kb) M (XX (bS κ σ.h.length kv kr kb) (σ.h++[some ob])) B w' σ.h.length ob):Rel N M0 B w0 (bS κ σ.h.length kv kr kb) M { σ with h:=σ.h++[some ob] } a w':=by
 have H':=H.grow0 hb
 have hX:∀ v c,XX κ σ.h v c→XX (bS κ σ.h.length kv kr kb) (σ.h++[some ob]) v c:=fun v c hx=>Ih hx (by simp) (fun i hi=>(bJ (by omega)).1) (fun i hi=>(bJ (by omega)).2.1) (fun i ob' hi h=>by rwa [List.getElem?_append_left hi] at h)
 have hne:∀ {i},i < σ.h.length→(bS κ σ.h.length kv kr kb).bl i=κ.bl i:=fun hi=>(bJ (by omega)).2.2
 have hse:(bS κ σ.h.length kv kr kb).bl σ.h.length=kb:=aI
 refine { dfr:=H'.dfr,jst:=H'.jst,pin:=H'.pin,size:=H'.size,regs:=?_,heap:=?_,inj:=?_,snd:=H'.snd,sep:=?_,sub:=H'.sub,new:=H'.new,base:=H'.base,blw:=H'.blw }
 · intro t v ht
   obtain ⟨h1,c,h2,h3⟩:=H'.regs t v ht
   exact ⟨h1,c,h2,DW hX h3⟩
 · intro id ob' h
   rcases cq h with ⟨hi,h⟩ | ⟨rfl,h⟩
   · exact ej (fun _ _ h=>h) hX (bJ (by omega)) (fun _ _=>rfl) H'.jst (Und.refl _ _) H'.snd (H'.heap id ob' h)
   · rename_i h'
     simp only [Option.some.injEq] at h'
     rw [←h']; exact ho
 · intro i j oi oj g hi hj gi gj
   rcases cq hi with ⟨hi',hi⟩ | ⟨rfl,hi⟩<;>rcases cq hj with ⟨hj',hj⟩ | ⟨rfl,hj⟩
   · rw [hne hi'] at gi; rw [hne hj'] at gj; exact H.inj i j oi oj g hi hj gi gj
   · rw [hne hi'] at gi; rw [hse] at gj
     exact (hkI g gj _ _ hi gi).elim
   · rw [hne hj'] at gj; rw [hse] at gi
     exact (hkI g gi _ _ hj gj).elim
   · rfl
 · intro p v hp id ob' h
   rcases cq h with ⟨hi,h⟩ | ⟨rfl,h⟩
   · rw [hne hi]; exact H'.sep p v hp id ob' h
   · rw [hse]
     exact hkS p v hp
theorem Rel.newOb (H:Rel N M0 B w0 κ M σ a w) (hb:Below w.heap.size w w') {ob:Ob} {kv:Value} {kr:Nat→Value} {kb:Nat→Prop} (hk:∀ g,kb g→w.heap.size≤g)
 (ho:aK (bS κ σ.h.length kv kr kb) M (XX (bS κ σ.h.length kv kr kb) (σ.h++[some ob])) B w' σ.h.length ob):Rel N M0 B w0 (bS κ σ.h.length kv kr kb) M { σ with h:=σ.h++[some ob] } a w':=
 H.newOb' hb (fun g hg j oj hj hg'=>by have:=(H.blk_lt hj hg').2; have:=hk g hg; omega) (fun p v hp hg=>by have:=H.mem_lt hp; have:=hk _ hg; omega) ho
theorem Rel.setOb' (H:Rel N M0 B w0 κ M σ a w) {id:Nat} {old ob:Ob} (hid:σ.h[id]?=some (some old)) {kv:Value} {kr:Nat→Value} {kb:Nat→Prop} (hb:Und B w w')
 (hother:∀ k,k < w.heap.size→¬κ.bl id k→w'.heap[k]?=w.heap[k]?) (hkI:∀ g,kb g→∀ j oj,σ.h[j]?=some (some oj)→κ.bl j g→id=j) (hkS:∀ p v,M p=some v→¬kb p.block)
 (hX:∀ v c,XX κ σ.h v c→XX (bS κ id kv kr kb) (σ.h.set id (some ob)) v c)
 (ho:aK (bS κ id kv kr kb) M (XX (bS κ id kv kr kb) (σ.h.set id (some ob))) B w' id ob):Rel N M0 B w0 (bS κ id kv kr kb) M { σ with h:=σ.h.set id (some ob) } a w':=by
 have hlt:id < σ.h.length:=(List.getElem?_eq_some_iff.1 hid).1
 have hne:∀ {i},¬id=i→(bS κ id kv kr kb).bl i=κ.bl i:=fun hi=>(bJ (fun e=>hi e.symm)).2.2
 have hse:(bS κ id kv kr kb).bl id=kb:=aI
 have hsnd:∀ p v,M p=some v→w'.cell? p=some v:=fun p v hp=>by
  rw [World.cell?_of_block (hother p.block (H.mem_lt hp) (H.sep p v hp id old hid))]; exact H.snd p v hp
 refine { dfr:=H.dfr,jst:=H.jst,pin:=H.pin,size:=H.size,regs:=?_,heap:=?_,inj:=?_,snd:=?_,sep:=?_,sub:=H.sub,new:=H.new,base:=H.base,blw:=H.blw.trans hb }
 · intro t v ht
   obtain ⟨h1,c,h2,h3⟩:=H.regs t v ht
   exact ⟨h1,c,h2,DW hX h3⟩
 · intro i ob' h
   rw [List.getElem?_set] at h
   split at h
   · rename_i he
     subst he
     simp only [hlt,if_true,Option.some.injEq] at h
     rw [←h]
     exact ho
   · rename_i he
     refine ej (fun _ _ h=>h) hX (bJ (fun e=>he e.symm)) (fun g hg=>?_) H.jst hb hsnd (H.heap i ob' h)
     exact hother g (H.blk_lt h hg).2 (fun hg'=>he (H.inj id i old ob' g hid h hg' hg))
 · intro i j oi oj g hi hj gi gj
   rw [List.getElem?_set] at hi hj
   split at hi<;>split at hj
   · rename_i h1 h2; rw [←h1,←h2]
   · rename_i h1 h2
     subst h1
     rw [hse] at gi
     rw [hne h2] at gj
     exact hkI g gi j oj hj gj
   · rename_i h1 h2
     subst h2
     rw [hse] at gj
     rw [hne h1] at gi
     exact (hkI g gj i oi hi gi).symm
   · rename_i h1 h2
     rw [hne h1] at gi
     rw [hne h2] at gj
     exact H.inj i j oi oj g hi hj gi gj
 · intro p v hp
   have h1:=H.snd p v hp
   have h2:=hother p.block (H.mem_lt hp) (H.sep p v hp id old hid)
   rw [World.cell?_of_block h2]; exact h1
 · intro p v hp i ob' h
   rw [List.getElem?_set] at h
   split at h
   · rename_i he
     subst he
     rw [hse]
     exact hkS p v hp
   · rename_i he
     rw [hne he]
     exact H.sep p v hp i ob' h
theorem Rel.setOb (H:Rel N M0 B w0 κ M σ a w) {id:Nat} {old ob:Ob} (hid:σ.h[id]?=some (some old)) {kv:Value} {kr:Nat→Value} {kb:Nat→Prop} (hb:Und B w w')
 (hother:∀ k,k < w.heap.size→¬κ.bl id k→w'.heap[k]?=w.heap[k]?) (hk:∀ g,kb g→κ.bl id g∨w.heap.size≤g)
 (hX:∀ v c,XX κ σ.h v c→XX (bS κ id kv kr kb) (σ.h.set id (some ob)) v c)
 (ho:aK (bS κ id kv kr kb) M (XX (bS κ id kv kr kb) (σ.h.set id (some ob))) B w' id ob):Rel N M0 B w0 (bS κ id kv kr kb) M { σ with h:=σ.h.set id (some ob) } a w':=
 H.setOb' hid hb hother (fun g hg j oj hj gj=>by
  rcases hk g hg with h3 | h3
  · exact H.inj id j old oj g hid hj h3 gj
  · have:=(H.blk_lt hj gj).2; omega) (fun p v hp hg=>by
  rcases hk _ hg with h3 | h3
  · exact H.sep p v hp id old hid h3
  · have:=H.mem_lt hp; omega) hX ho
theorem Rel.drop (H:Rel N M0 B w0 κ M σ a w) (id:Nat):Rel N M0 B w0 κ M { σ with h:=σ.h.set id none } a w:=by
 have k3:∀ {i:Nat} {ob:Ob},(σ.h.set id none)[i]?=some (some ob)→σ.h[i]?=some (some ob):=by
  intro i ob h
  rw [List.getElem?_set] at h
  split at h
  · split at h<;>cases h
  · exact h
 have hX:∀ v c,XX κ σ.h v c→XX κ (σ.h.set id none) v c:=fun v c hx=>Ih hx (by simp) (fun _ _=>rfl) (fun _ _=>rfl) (fun i ob hi h=>k3 h)
 exact { dfr:=H.dfr,jst:=H.jst,pin:=H.pin,size:=H.size
         regs:=fun t v ht=>let ⟨h1,c,h2,h3⟩:=H.regs t v ht; ⟨h1,c,h2,DW hX h3⟩
         heap:=fun i ob h=>ej (fun _ _ h=>h) hX ⟨rfl,rfl,rfl⟩ (fun _ _=>rfl) H.jst (Und.refl _ _) H.snd (H.heap i ob (k3 h))
         inj:=fun i j oi oj g hi hj=>H.inj i j oi oj g (k3 hi) (k3 hj)
         snd:=H.snd
         sep:=fun p v hp i ob h=>H.sep p v hp i ob (k3 h)
         sub:=H.sub,new:=H.new,base:=H.base,blw:=H.blw }
def Kap.add (κ:Kap) (F:Mem):Kap:=⟨κ.v,κ.row,κ.bl,fun p=>(κ.fm p).or (F p)⟩
theorem M8 {κ:Kap} {F:Mem} {h:List (Option Ob)}:∀ v c,XX κ h v c→XX (κ.add F) h v c:=by
 intro v c hx
 cases v<;>simp only [XX] at hx ⊢<;>try exact hx
 exact ⟨hx.1,ax (M':=(κ.add F).fm) (fun p v hp=>by simp [Kap.add,hp]) (X:=NX) (fun _ _ h=>h) _ _ hx.2⟩
theorem Rel.addF (H:Rel N M0 B w0 κ M σ a w) {F:Mem} (hF:∀ p v,F p=some v→M p=some v∧B.fb≤p.block):Rel N M0 B w0 (κ.add F) M σ a w:=
 { dfr:=H.dfr,jst:=H.jst,pin:=H.pin,size:=H.size
   regs:=fun t v ht=>let ⟨h1,c,h2,h3⟩:=H.regs t v ht; ⟨h1,c,h2,DW M8 h3⟩
   heap:=fun i ob h=>ej (κ':=κ.add F) (fun _ _ h=>h) M8 ⟨rfl,rfl,rfl⟩ (fun _ _=>rfl) H.jst (Und.refl _ _) H.snd (H.heap i ob h)
   inj:=H.inj,snd:=H.snd,sep:=H.sep
   sub:=⟨H.sub.sub,fun p v hp=>by
       simp only [Kap.add,Option.or_eq_some_iff] at hp
       rcases hp with hp | hp
       · exact H.sub.fmS p v hp
       · exact (hF p v hp.2).1,fun p v hp=>by
       simp only [Kap.add,Option.or_eq_some_iff] at hp
       rcases hp with hp | hp
       · exact H.sub.fmN p v hp
       · exact (hF p v hp.2).2,H.sub.fbn,H.sub.gl⟩
   new:=H.new,base:=H.base,blw:=H.blw }
mutual
theorem Mj {Mn M:Mem} {X:V→Value→Prop} (hM:∀ p v,Mn p=some v→M p=some v) (hX:∀ sz l c,ar c→rep Mn NX (.seq sz l) c→X (.fseq sz l) c):∀ {v:V} {c:Value},rep Mn NX v c→rep M X (fz v) c
 | .seq sz l,c,h=>by
   simp only [fz,rep]
   refine hX sz l c ?_ h
   simp only [rep] at h
   obtain ⟨a,cap,rfl,_⟩:=h
   rfl
 | .strct cs,c,h=>by
   simp only [rep,fz] at h ⊢
   obtain ⟨arr,h1,h2,h3⟩:=h
   exact ⟨arr,h1,C2 hM hX h2,h3⟩
 | .tup cs,c,h=>by
   simp only [rep,fz] at h ⊢
   obtain ⟨arr,h1,h2⟩:=h
   exact ⟨arr,h1,C2 hM hX h2⟩
 | .int k n,c,h=>aA (ax hM (fun _ _ h=>h) (.int k n) c h)
 | .bool b,c,h=>aA (ax hM (fun _ _ h=>h) (.bool b) c h)
 | .str s,c,h=>aA (ax hM (fun _ _ h=>h) (.str s) c h)
 | .nil sz,c,h=>aA (ax hM (fun _ _ h=>h) (.nil sz) c h)
 | .sptr x o,c,h=>aA (ax hM (fun _ _ h=>h) (.sptr x o) c h)
 | .nilptr,c,h=>aA (ax hM (fun _ _ h=>h) .nilptr c h)
 | .fn f x y,c,h=>aA (ax hM (fun _ _ h=>h) (.fn f x y) c h)
 | .nilfn,c,h=>aA (ax hM (fun _ _ h=>h) .nilfn c h)
 | .iface t x,c,h=>aA (ax hM (fun _ _ h=>h) (.iface t x) c h)
 | .niliface,c,h=>aA (ax hM (fun _ _ h=>h) .niliface c h)
 | .junk,c,h=>aA (ax hM (fun _ _ h=>h) .junk c h)
 | .ref _ _,_,h=>h.elim
 | .ptr _ _,_,h=>h.elim
 | .eptr _ _ _ _,_,h=>h.elim
 | .mref _ _ _,_,h=>h.elim
 | .mptr _ _ _ _ _,_,h=>h.elim
 | .fseq _ _,_,h=>h.elim
theorem C2 {Mn M:Mem} {X:V→Value→Prop} (hM:∀ p v,Mn p=some v→M p=some v) (hX:∀ sz l c,ar c→rep Mn NX (.seq sz l) c→X (.fseq sz l) c):∀ {vs:List V} {cs:List Value},aa Mn NX vs cs→aa M X (fzs vs) cs
 | [],cs,h=>h
 | v::vs,cs,h=>by
   simp only [aa,fzs] at h ⊢
   obtain ⟨c,cs',h1,h2,h3⟩:=h
   exact ⟨c,cs',h1,Mj hM hX h2,C2 hM hX h3⟩
end
open Classical in
noncomputable def ext (M:Mem) (w:World) (bs:Nat→Prop):Mem:=fun p=>if bs p.block then w.cell? p else M p
theorem qA {M':Mem} {sz g:Nat} (hM:∀ p v,M p=some v→M' p=some v):∀ {l:List V} {xs:List Value} (off:Nat),al M sz l xs→(∀ j u,xs[j]?=some u→M' ⟨g,off + j,none⟩=some u)→bp M' sz l g off
 | [],_,_,_,_=>by simp [bp]
 | v::vs,xs,off,h,hx=>by
   simp only [al] at h
   obtain ⟨y,rest,rfl,g1,g2,g3,g4⟩:=h
   simp only [bp]
   refine ⟨⟨y,ax hM (fun _ _ h=>h) _ _ g1,g2,g3,fun j hj=>?_⟩,qA hM (off + sz) g4 fun j u hu=>?_⟩
   · have h1:(y.cells.toList++rest)[j]?=y.cells[j]?:=by
      rw [List.getElem?_append_left (by simp; omega)]; simp
     rw [Array.getElem?_eq_getElem (by omega)] at h1 ⊢
     exact hx j _ h1
   · have:=hx (sz + j) u (by rw [List.getElem?_append_right (by simp; omega)]; simp [g2,hu])
     rw [←this]; congr 2; omega
theorem rM {Mr Mn:Mem} (hM:∀ p v,Mr p=some v→Mn p=some v) {e sz:Nat} {val:Value} {l:List V} {xs:List Value} (h2:w.ownsRow 0 e sz val l.length xs) (h3:al Mr sz l xs) (h0:0 < sz) (h1:l.length≤140737488355328)
 (hown:∀ g,blk val=some g→∀ p:Addr,p.block=g→Mn p=w.cell? p) {X:V→Value→Prop}:rep Mn X (.seq sz l) val:=by
 simp only [rep]
 rcases h2.2 with ⟨h4,h5⟩ | ⟨g,cap,cur,h4,h5,h6,h7,h8,h9⟩
 · have:l=[]:=List.eq_nil_of_length_eq_zero h5
   subst this
   exact ⟨none,0,by rw [h4]; rfl,by simp,by simp,h0,by simp⟩
 · refine ⟨some ⟨g,0,none⟩,cap,by rw [h4],h7,h1,h0,.inr ⟨g,0,rfl,?_⟩⟩
   refine qA hM 0 h3 fun j u hu=>?_
   rw [hown g (by rw [h4]; rfl) _ rfl]
   have:=h2.cells (g:=g) (by rw [h4]; rfl) j u hu
   rwa [Addr.add_lit] at this
theorem u9 {sz:Nat}:∀ {rows:List Rw} {vs:List V},iD sz rows=some vs→vs.length=rows.length∧∀ (i:Nat) (v:V),vs[i]?=some v→∃ r,aL rows i=some r∧v=.seq sz r
 | [],vs,h=>by simp only [iD] at h; cases h; simp
 | .a r::rows,vs,h=>by
   simp only [iD] at h
   split at h
   · rename_i us hus
     cases h
     obtain ⟨k1,k2⟩:=u9 hus
     refine ⟨by simp [k1],fun i v hi=>?_⟩
     cases i with
     | zero=>simp at hi; exact ⟨r,by simp [aL],hi.symm⟩
     | succ i=>
       simp at hi
       obtain ⟨r',k3,k4⟩:=k2 i v hi
       exact ⟨r',by simpa [aL] using k3,k4⟩
   · cases h
 | .g _::rows,vs,h=>by simp [iD] at h
theorem AD {Mr:Mem}:∀ {vs:List V} {xs:List Value},vs.length=xs.length→(∀ (i:Nat) (v:V),vs[i]?=some v→∃ c:Value,xs[i]?=some c∧ar c∧rep Mr NX v c)→al Mr 1 vs xs
 | [],xs,h,_=>by
   simp only [al]
   exact List.eq_nil_of_length_eq_zero (by simpa using h.symm)
 | v::vs,[],h,_=>by simp at h
 | v::vs,x::xs,h,hx=>by
   simp only [al]
   obtain ⟨c,h1,h2,h3⟩:=hx 0 v (by simp)
   simp at h1
   subst h1
   exact ⟨x,xs,by simp [bZ h2],h3,by simp [bZ h2],by simp [bZ h2,h2],AD (by simpa using h) fun i u hi=>hx (i + 1) u (by simpa using hi)⟩
theorem HO {Mr Mn:Mem} (hM:∀ p v,Mr p=some v→Mn p=some v) {id e e2 sz:Nat} {rows:List Rw} {X Y:V→Value→Prop} (h:aK κ M Y B w id (.mat e e2 sz rows)) (hr:∀ i r xs,aL rows i=some r→al M sz r xs→al Mr sz r xs)
 {vs:List V} (hv:iD sz rows=some vs) (hown:∀ g,κ.bl id g→∀ p:Addr,p.block=g→Mn p=w.cell? p):rep Mn X (.seq 1 vs) (κ id):=by
 obtain ⟨h0,h1,⟨xs,h2,h3,h4⟩,h5,h6,h7,_,hbl⟩:=h
 obtain ⟨k1,k2⟩:=u9 hv
 have hxl:xs.length=rows.length:=by have:=h2.1; simpa using this
 rw [←k1] at h2 h1
 refine rM (Mr:=Mn) (fun _ _ h=>h) h2 (AD (by omega) fun i v hi=>?_) (by omega) h1 (fun g hg=>hown g ((hbl g).2 (.inl hg)))
 obtain ⟨r,k3,rfl⟩:=k2 i v hi
 obtain ⟨k4,ys,k5,k6⟩:=h5 i r k3
 exact ⟨_,h4 i r k3,h3 _ (List.mem_of_getElem? (h4 i r k3)),rM hM k5 (hr i r ys k3 k6) h0 k4 fun g hg=>hown g ((hbl g).2 (.inr ⟨i,r,k3,hg⟩))⟩
theorem LN {Mr Mn:Mem} (hM:∀ p v,Mr p=some v→Mn p=some v) {id e e2 sz i:Nat} {rows:List Rw} {r:List V} {X Y:V→Value→Prop} (h:aK κ M Y B w id (.mat e e2 sz rows)) (k3:aL rows i=some r) (hr:∀ xs,al M sz r xs→al Mr sz r xs)
 (hown:∀ g,κ.bl id g→∀ p:Addr,p.block=g→Mn p=w.cell? p):rep Mn X (.seq sz r) (κ.row id i):=by
 obtain ⟨h0,h1,⟨xs,h2,h3,h4⟩,h5,h6,h7,_,hbl⟩:=h
 obtain ⟨k4,ys,k5,k6⟩:=h5 i r k3
 exact rM hM k5 (hr ys k6) h0 k4 fun g hg=>hown g ((hbl g).2 (.inr ⟨i,r,k3,hg⟩))
mutual
theorem oO (H:Rel N M0 B w0 κ M σ a w) {M':Mem} (hM:∀ p v,M p=some v→M' p=some v):∀ {v u:V} {c:Value} (hown:∀ id∈aq v,∀ g,κ.bl id g→∀ p,p.block=g→M' p=w.cell? p),rep M (XX κ σ.h) v c→pur σ.h v=some u→rep M' NX u c
 | .int _ _,u,c,_,h,hp=>by simp only [pur] at hp; cases hp; exact h
 | .bool _,u,c,_,h,hp=>by simp only [pur] at hp; cases hp; exact h
 | .str _,u,c,_,h,hp=>by simp only [pur] at hp; cases hp; exact h
 | .nil sz,u,c,_,h,hp=>by
   simp only [pur] at hp; cases hp
   simp only [rep] at h ⊢
   exact ⟨none,0,by simpa using h.1,by simp,by simp,h.2,by simp⟩
 | .seq sz l,u,c,_,h,hp=>by simp only [pur] at hp; cases hp; exact ax hM (X:=NX) (fun _ _ h=>h) (.seq sz l) c h
 | .ref id n,u,c,hown,h,hp=>by
   simp only [pur,pur1] at hp
   split at hp
   · rename_i e sz l hh
     split at hp
     · rename_i hn
       cases hp
       simp only [rep,XX] at h
       have hc:=(h.2.2.1 e sz l hh).2 hn
       obtain ⟨h0,h1,xs,h2,h3,_,hbl⟩:=H.heap id _ hh
       rw [hc]
       exact rM hM h2 h3 h0 h1 fun g hg=>hown id (by simp [aq]) g ((hbl g).2 hg)
     · cases hp
   · rename_i e e2 sz rows hh
     split at hp
     · rename_i hn
       obtain ⟨vs,hvs,rfl⟩:=Option.map_eq_some_iff.1 hp
       simp only [rep,XX] at h
       have hc:=(h.2.2.2.1 e e2 sz rows hh).2 hn
       rw [hc]
       exact HO hM (H.heap id _ hh) (fun _ _ _ _ h=>h) hvs (hown id (by simp [aq]))
     · cases hp
   · cases hp
 | .fseq sz l,u,c,_,h,hp=>by
   simp only [pur] at hp; cases hp
   simp only [rep,XX] at h
   exact ax (fun p v hp=>hM p v (H.sub.fmS p v hp)) (X:=NX) (fun _ _ h=>h) (.seq sz l) c (by simp only [rep]; exact h.2)
 | .mref id i n,u,c,hown,h,hp=>by
   simp only [pur,pur2] at hp
   split at hp
   · rename_i e e2 sz rows hh
     split at hp
     · rename_i r hr
       split at hp
       · rename_i hn
         cases hp
         simp only [rep,XX] at h
         have hc:=((h.2.2 e e2 sz rows hh).1 r hr).2 hn
         rw [hc]
         exact LN hM (H.heap id _ hh) hr (fun _ h=>h) (hown id (by simp [aq]))
       · cases hp
     · cases hp
   · cases hp
 | .mptr _ _ _ _ _,u,c,_,h,hp=>by simp [pur] at hp
 | .strct cs,u,c,hown,h,hp=>by
   simp only [pur] at hp
   obtain ⟨us,hus,rfl⟩:=Option.map_eq_some_iff.1 hp
   simp only [rep] at h ⊢
   obtain ⟨arr,h1,h2,h3⟩:=h
   exact ⟨arr,h1,bv H hM (by simpa only [aq] using hown) h2 hus,h3⟩
 | .ptr _ _,u,c,_,h,hp=>by simp [pur] at hp
 | .eptr _ _ _ _,u,c,_,h,hp=>by simp [pur] at hp
 | .sptr x off,u,c,_,h,hp=>by simp only [pur] at hp; cases hp; exact ax hM (X:=NX) (fun _ _ h=>h) (.sptr x off) c h
 | .nilptr,u,c,_,h,hp=>by simp only [pur] at hp; cases hp; exact h
 | .fn f x y,u,c,hown,h,hp=>by
   simp only [pur] at hp
   split at hp
   · rename_i x' y' hx hy
     cases hp
     simp only [rep] at h ⊢
     obtain ⟨a1,a2,h1,h2,h3⟩:=h
     simp only [aq,List.mem_append] at hown
     exact ⟨a1,a2,h1,bv H hM (fun id hi=>hown id (.inl hi)) h2 hx,bv H hM (fun id hi=>hown id (.inr hi)) h3 hy⟩
   · cases hp
 | .nilfn,u,c,_,h,hp=>by simp only [pur] at hp; cases hp; exact h
 | .iface t x,u,c,hown,h,hp=>by
   simp only [pur] at hp
   obtain ⟨x',hx,rfl⟩:=Option.map_eq_some_iff.1 hp
   simp only [rep] at h ⊢
   obtain ⟨y,h1,h2⟩:=h
   exact ⟨y,h1,oO H hM (by simpa only [aq] using hown) h2 hx⟩
 | .niliface,u,c,_,h,hp=>by simp only [pur] at hp; cases hp; exact h
 | .tup vs,u,c,hown,h,hp=>by
   simp only [pur] at hp
   obtain ⟨us,hus,rfl⟩:=Option.map_eq_some_iff.1 hp
   simp only [rep] at h ⊢
   obtain ⟨arr,h1,h2⟩:=h
   exact ⟨arr,h1,bv H hM (by simpa only [aq] using hown) h2 hus⟩
 | .junk,u,c,_,h,hp=>by simp only [pur] at hp; cases hp; exact h
theorem bv (H:Rel N M0 B w0 κ M σ a w) {M':Mem} (hM:∀ p v,M p=some v→M' p=some v):∀ {vs us:List V} {cs:List Value} (hown:∀ id∈ai vs,∀ g,κ.bl id g→∀ p,p.block=g→M' p=w.cell? p),aa M (XX κ σ.h) vs cs→purs σ.h vs=some us→aa M' NX us cs
 | [],us,cs,_,h,hp=>by simp only [purs] at hp; cases hp; exact h
 | v::vs,us,cs,hown,h,hp=>by
   simp only [purs] at hp
   split at hp
   · rename_i u us' hu hus
     cases hp
     simp only [aa] at h ⊢
     obtain ⟨c,cs',h1,h2,h3⟩:=h
     simp only [ai,List.mem_append] at hown
     exact ⟨c,cs',h1,oO H hM (fun id hi=>hown id (.inl hi)) h2 hu,bv H hM (fun id hi=>hown id (.inr hi)) h3 hus⟩
   · cases hp
end
mutual
theorem kj {M M':Mem} {X X':V→Value→Prop}:∀ {v:V} {c:Value},bY v=true→rep M X v c→rep M' X' v c
 | .int _ _,_,_,h=>h
 | .bool _,_,_,h=>h
 | .str _,_,_,h=>h
 | .nil _,_,_,h=>h
 | .seq sz l,_,hf,h=>by
   simp only [bY] at hf
   have:l=[]:=by simpa using hf
   subst this
   simp only [rep] at h ⊢
   obtain ⟨a,cap,h1,h1',h2,h3,_⟩:=h
   exact ⟨a,cap,h1,h1',h2,h3,by simp⟩
 | .strct cs,c,hf,h=>by
   simp only [bY] at hf
   simp only [rep] at h ⊢
   obtain ⟨arr,h1,h2,h3⟩:=h
   exact ⟨arr,h1,f7 hf h2,h3⟩
 | .ref _ _,_,hf,_=>by simp [bY] at hf
 | .ptr _ _,_,hf,_=>by simp [bY] at hf
 | .eptr _ _ _ _,_,hf,_=>by simp [bY] at hf
 | .mref _ _ _,_,hf,_=>by simp [bY] at hf
 | .fseq _ _,_,hf,_=>by simp [bY] at hf
 | .mptr _ _ _ _ _,_,hf,_=>by simp [bY] at hf
 | .sptr _ _,_,hf,_=>by simp [bY] at hf
 | .nilptr,_,_,h=>h
 | .fn f x y,c,hf,h=>by
   simp only [bY,Bool.and_eq_true] at hf
   simp only [rep] at h ⊢
   obtain ⟨a1,a2,h1,h2,h3⟩:=h
   exact ⟨a1,a2,h1,f7 hf.1 h2,f7 hf.2 h3⟩
 | .nilfn,_,_,h=>h
 | .iface t x,c,hf,h=>by
   simp only [bY] at hf
   simp only [rep] at h ⊢
   obtain ⟨y,h1,h2⟩:=h
   exact ⟨y,h1,kj hf h2⟩
 | .niliface,_,_,h=>h
 | .tup vs,c,hf,h=>by
   simp only [bY] at hf
   simp only [rep] at h ⊢
   obtain ⟨arr,h1,h2⟩:=h
   exact ⟨arr,h1,f7 hf h2⟩
 | .junk,_,_,h=>h
theorem f7 {M M':Mem} {X X':V→Value→Prop}:∀ {vs:List V} {cs:List Value},dx vs=true→aa M X vs cs→aa M' X' vs cs
 | [],_,_,h=>h
 | v::vs,cs,hf,h=>by
   simp only [dx,Bool.and_eq_true] at hf
   simp only [aa] at h ⊢
   obtain ⟨c,cs',h1,h2,h3⟩:=h
   exact ⟨c,cs',h1,kj hf.1 h2,f7 hf.2 h3⟩
end
mutual
theorem iV {M:Mem} {X:V→Value→Prop}:∀ {v:V} {c:Value},rep M X v c→ok v
 | .int _ _,_,h=>by simp only [rep] at h; exact h.2
 | .bool _,_,_=>trivial
 | .str _,_,h=>by simp only [rep] at h; obtain ⟨_,_,_,h⟩:=h; exact h
 | .nil _,_,_=>trivial
 | .seq sz l,_,h=>by
   simp only [rep] at h
   obtain ⟨a,cap,_,_,h2,_,h3⟩:=h
   simp only [ok]
   refine ⟨h2,?_⟩
   rcases h3 with rfl | ⟨b,off,_,h4⟩
   · trivial
   · exact AE h4
 | .strct cs,c,h=>by
   simp only [rep] at h
   obtain ⟨arr,_,h2,_⟩:=h
   simp only [ok]
   exact dC h2
 | .ref _ _,_,_=>trivial
 | .ptr _ _,_,_=>trivial
 | .eptr _ _ _ _,_,_=>trivial
 | .mref _ _ _,_,_=>trivial
 | .fseq _ _,_,_=>trivial
 | .mptr _ _ _ _ _,_,_=>trivial
 | .sptr x _,_,h=>by
   simp only [rep] at h
   obtain ⟨_,_,y,_,h2,_⟩:=h
   simp only [ok]
   exact iV h2
 | .nilptr,_,_=>trivial
 | .fn f x y,c,h=>by
   simp only [rep] at h
   obtain ⟨a1,a2,h1,h2,h3⟩:=h
   exact ⟨dC h2,dC h3⟩
 | .nilfn,_,_=>trivial
 | .iface t x,c,h=>by
   simp only [rep] at h
   obtain ⟨y,h1,h2⟩:=h
   simp only [ok]
   exact iV h2
 | .niliface,_,_=>trivial
 | .tup vs,c,h=>by
   simp only [rep] at h
   obtain ⟨arr,h1,h2⟩:=h
   simp only [ok]
   exact dC h2
 | .junk,_,_=>trivial
theorem dC {M:Mem} {X:V→Value→Prop}:∀ {vs:List V} {cs:List Value},aa M X vs cs→oks vs
 | [],_,_=>trivial
 | v::vs,cs,h=>by
   simp only [aa] at h
   obtain ⟨c,cs',h1,h2,h3⟩:=h
   exact ⟨iV h2,dC h3⟩
theorem AE {M:Mem}:∀ {sz:Nat} {l:List V} {b off:Nat},bp M sz l b off→oks l
 | _,[],_,_,_=>trivial
 | sz,v::vs,b,off,h=>by
   simp only [bp] at h
   obtain ⟨⟨y,h1,_⟩,h2⟩:=h
   exact ⟨iV h1,AE h2⟩
end
def lL (κ:Kap) (ids:List Nat):Nat→Prop:=fun g=>∃ id∈ids,κ.bl id g
theorem cZ {g:Nat} {ids:List Nat}:lL κ ids g↔∃ id∈ids,κ.bl id g:=Iff.rfl
theorem qN:∀ (ids:List Nat) (σ:St),(σ.kill ids).r=σ.r∧(σ.kill ids).h.length=σ.h.length∧∀ i ob,(σ.kill ids).h[i]?=some (some ob)→σ.h[i]?=some (some ob)∧i ∉ ids
 | [],σ=>⟨rfl,rfl,fun i ob h=>⟨h,by simp⟩⟩
 | id::ids,σ=>by
   simp only [St.kill]
   obtain ⟨h1,h2,h3⟩:=qN ids { σ with h:=σ.h.set id none }
   refine ⟨h1,by simpa using h2,fun i ob h=>?_⟩
   obtain ⟨h4,h5⟩:=h3 i ob h
   simp only [List.getElem?_set] at h4
   split at h4
   · rename_i he
     split at h4<;>cases h4
   · rename_i he
     exact ⟨h4,by simp; exact ⟨fun e=>he e.symm,h5⟩⟩
theorem Rel.kill (H:Rel N M0 B w0 κ M σ a w) (ids:List Nat) (hin:∀ id∈ids,∃ ob,σ.h[id]?=some (some ob)):
 Rel N M0 B w0 κ (ext M w (lL κ ids)) (σ.kill ids) a w∧(∀ p v,M p=some v→ext M w (lL κ ids) p=some v):=by
 obtain ⟨k1,k2,k3⟩:=qN ids σ
 have hM:∀ p v,M p=some v→ext M w (lL κ ids) p=some v:=by
  intro p v h
  unfold ext
  split
  · exact H.snd p v h
  · exact h
 have hs:∀ p v,ext M w (lL κ ids) p=some v→w.cell? p=some v:=by
  intro p v h
  unfold ext at h
  split at h
  · exact h
  · exact H.snd p v h
 have hX:∀ v c,XX κ σ.h v c→XX κ (σ.kill ids).h v c:=fun v c hx=>Ih hx (by omega) (fun _ _=>rfl) (fun _ _=>rfl) (fun i ob hi h=>(k3 i ob h).1)
 refine ⟨{ dfr:=H.dfr,jst:=H.jst,pin:=H.pin,size:=H.size,regs:=?_,heap:=?_,inj:=?_,snd:=hs,sep:=?_,sub:=⟨fun p v h=>hM p v (H.sub.sub p v h),fun p v h=>hM p v (H.sub.fmS p v h),H.sub.fmN,H.sub.fbn,H.sub.gl⟩,new:=?_,base:=H.base,blw:=H.blw },hM⟩
 · intro t v ht
   rw [k1] at ht
   obtain ⟨h1,c,h2,h3⟩:=H.regs t v ht
   exact ⟨h1,c,h2,ax hM hX _ _ h3⟩
 · intro id ob h
   exact ej hM hX ⟨rfl,rfl,rfl⟩ (fun _ _=>rfl) H.jst (Und.refl _ _) hs (H.heap id ob (k3 id ob h).1)
 · intro i j oi oj g hi hj
   exact H.inj i j oi oj g (k3 i oi hi).1 (k3 j oj hj).1
 · intro p v hp id ob h
   obtain ⟨h1,h2⟩:=k3 id ob h
   unfold ext at hp
   split at hp
   · rename_i hm
     obtain ⟨id',h3,h4⟩:=cZ.1 hm
     obtain ⟨ob',h5⟩:=hin id' h3
     intro hg
     have:=H.inj id' id ob' ob p.block h5 h1 h4 hg
     subst this
     exact h2 h3
   · exact H.sep p v hp id ob h1
 · intro p v hp
   unfold ext at hp
   split at hp
   · rename_i hm
     obtain ⟨id',h3,h4⟩:=cZ.1 hm
     obtain ⟨ob',h5⟩:=hin id' h3
     exact .inr (H.blk_lt h5 h4).1
   · exact H.new p v hp
mutual
theorem F3 {h:List (Option Ob)}:∀ {v u:V},pur h v=some u→∀ id∈aq v,∃ ob,h[id]?=some (some ob)
 | .int _ _,_,_,_,hi=>by simp [aq] at hi
 | .bool _,_,_,_,hi=>by simp [aq] at hi
 | .str _,_,_,_,hi=>by simp [aq] at hi
 | .nil _,_,_,_,hi=>by simp [aq] at hi
 | .seq _ _,_,_,_,hi=>by simp [aq] at hi
 | .sptr _ _,_,_,_,hi=>by simp [aq] at hi
 | .nilptr,_,_,_,hi=>by simp [aq] at hi
 | .nilfn,_,_,_,hi=>by simp [aq] at hi
 | .niliface,_,_,_,hi=>by simp [aq] at hi
 | .junk,_,_,_,hi=>by simp [aq] at hi
 | .ref i n,u,hp,id,hi=>by
   simp only [aq,List.mem_singleton] at hi
   subst hi
   simp only [pur,pur1] at hp
   split at hp
   · exact ⟨_,by assumption⟩
   · exact ⟨_,by assumption⟩
   · cases hp
 | .fseq _ _,_,_,_,hi=>by simp [aq] at hi
 | .mref j i n,u,hp,id,hi=>by
   simp only [aq,List.mem_singleton] at hi
   subst hi
   simp only [pur,pur2] at hp
   split at hp
   · exact ⟨_,by assumption⟩
   · cases hp
 | .mptr _ _ _ _ _,_,hp,_,_=>by simp [pur] at hp
 | .ptr _ _,_,hp,_,_=>by simp [pur] at hp
 | .eptr _ _ _ _,_,hp,_,_=>by simp [pur] at hp
 | .strct cs,u,hp,id,hi=>by
   simp only [pur] at hp
   obtain ⟨us,hus,_⟩:=Option.map_eq_some_iff.1 hp
   exact dg hus id (by simpa only [aq] using hi)
 | .tup cs,u,hp,id,hi=>by
   simp only [pur] at hp
   obtain ⟨us,hus,_⟩:=Option.map_eq_some_iff.1 hp
   exact dg hus id (by simpa only [aq] using hi)
 | .fn f x y,u,hp,id,hi=>by
   simp only [pur] at hp
   split at hp
   · rename_i x' y' hx hy
     simp only [aq,List.mem_append] at hi
     rcases hi with hi | hi
     · exact dg hx id hi
     · exact dg hy id hi
   · cases hp
 | .iface t x,u,hp,id,hi=>by
   simp only [pur] at hp
   obtain ⟨x',hx,_⟩:=Option.map_eq_some_iff.1 hp
   exact F3 hx id (by simpa only [aq] using hi)
theorem dg {h:List (Option Ob)}:∀ {vs us:List V},purs h vs=some us→∀ id∈ai vs,∃ ob,h[id]?=some (some ob)
 | [],_,_,_,hi=>by simp [ai] at hi
 | v::vs,us,hp,id,hi=>by
   simp only [purs] at hp
   split at hp
   · rename_i u us' hu hus
     simp only [ai,List.mem_append] at hi
     rcases hi with hi | hi
     · exact F3 hu id hi
     · exact dg hus id hi
   · cases hp
end
def uP:List Rw→Bool
 | []=>true
 | .a r::l=>dx r && uP l
 | .g _::_=>false
theorem EN:∀ {rows:List Rw} {i:Nat} {r:List V},uP rows=true→aL rows i=some r→dx r=true
 | [],i,r,_,h=>by simp [aL] at h
 | .a x::rows,i,r,hf,h=>by
   simp only [uP,Bool.and_eq_true] at hf
   cases i with
   | zero=>simp [aL] at h; rw [←h]; exact hf.1
   | succ i=>exact EN (i:=i) hf.2 (by simpa [aL] using h)
 | .g _::rows,i,r,hf,h=>by simp [uP] at hf
mutual
def fre (h:List (Option Ob)):V→Bool
 | .ref id _=>match h[id]? with
   | some (some (.arr _ _ l))=>dx l
   | some (some (.mat _ _ _ rows))=>uP rows
   | _=>false
 | .nil _=>true
 | .strct cs=>xD h cs
 | .tup cs=>xD h cs
 | .int _ _=>true
 | .bool _=>true
 | .str _=>true
 | .nilptr=>true
 | .nilfn=>true
 | .niliface=>true
 | .seq _ l=>l.isEmpty
 | .fseq _ _=>true
 | _=>false
def xD (h:List (Option Ob)):List V→Bool
 | []=>true
 | v::vs=>fre h v && xD h vs
end
theorem mZ {M M':Mem} {sz:Nat}:∀ {l:List V} {xs:List Value},dx l=true→al M sz l xs→al M' sz l xs
 | [],_,_,h=>h
 | v::vs,xs,hf,h=>by
   simp only [dx,Bool.and_eq_true] at hf
   simp only [al] at h ⊢
   obtain ⟨y,rest,h1,h2,h3,h4,h5⟩:=h
   exact ⟨y,rest,h1,kj hf.1 h2,h3,h4,mZ hf.2 h5⟩
mutual
theorem O9 (H:Rel N M0 B w0 κ M σ a w) {Mn:Mem} (hfm:∀ p v,κ.fm p=some v→Mn p=some v):∀ {v u:V} {c:Value} (hown:∀ id∈aq v,∀ g,κ.bl id g→∀ p,p.block=g→Mn p=w.cell? p),fre σ.h v=true→rep M (XX κ σ.h) v c→pur σ.h v=some u→rep Mn NX u c
 | .ref id n,u,c,hown,hf,h,hp=>by
   simp only [pur,pur1] at hp
   split at hp
   · rename_i e sz l hh
     split at hp
     · rename_i hn
       cases hp
       simp only [fre,hh] at hf
       simp only [rep,XX] at h
       have hc:=(h.2.2.1 e sz l hh).2 hn
       obtain ⟨h0,h1,xs,h2,h3,_,hbl⟩:=H.heap id _ hh
       rw [hc]
       exact rM (Mr:=Mn) (fun _ _ h=>h) h2 (mZ hf h3) h0 h1 fun g hg=>hown id (by simp [aq]) g ((hbl g).2 hg)
     · cases hp
   · rename_i e e2 sz rows hh
     split at hp
     · rename_i hn
       obtain ⟨vs,hvs,rfl⟩:=Option.map_eq_some_iff.1 hp
       simp only [fre,hh] at hf
       simp only [rep,XX] at h
       have hc:=(h.2.2.2.1 e e2 sz rows hh).2 hn
       rw [hc]
       exact HO (Mr:=Mn) (fun _ _ h=>h) (H.heap id _ hh) (fun i r xs hi h=>mZ (EN hf hi) h) hvs (hown id (by simp [aq]))
     · cases hp
   · cases hp
 | .nil sz,u,c,_,_,h,hp=>by
   simp only [pur] at hp; cases hp
   simp only [rep] at h ⊢
   exact ⟨none,0,by simpa using h.1,by simp,by simp,h.2,by simp⟩
 | .strct cs,u,c,hown,hf,h,hp=>by
   simp only [pur] at hp
   obtain ⟨us,hus,rfl⟩:=Option.map_eq_some_iff.1 hp
   simp only [rep] at h ⊢
   obtain ⟨arr,h1,h2,h3⟩:=h
   exact ⟨arr,h1,su H hfm (by simpa only [aq] using hown) (by simpa only [fre] using hf) h2 hus,h3⟩
 | .tup cs,u,c,hown,hf,h,hp=>by
   simp only [pur] at hp
   obtain ⟨us,hus,rfl⟩:=Option.map_eq_some_iff.1 hp
   simp only [rep] at h ⊢
   obtain ⟨arr,h1,h2⟩:=h
   exact ⟨arr,h1,su H hfm (by simpa only [aq] using hown) (by simpa only [fre] using hf) h2 hus⟩
 | .int _ _,_,_,_,_,h,hp=>by simp only [pur] at hp; cases hp; exact h
 | .bool _,_,_,_,_,h,hp=>by simp only [pur] at hp; cases hp; exact h
 | .str _,_,_,_,_,h,hp=>by simp only [pur] at hp; cases hp; exact h
 | .nilptr,_,_,_,_,h,hp=>by simp only [pur] at hp; cases hp; exact h
 | .nilfn,_,_,_,_,h,hp=>by simp only [pur] at hp; cases hp; exact h
 | .niliface,_,_,_,_,h,hp=>by simp only [pur] at hp; cases hp; exact h
 | .seq sz l,_,_,_,hf,h,hp=>by
   simp only [pur] at hp; cases hp
   exact kj (v:=.seq sz l) (by simpa only [bY,fre] using hf) h
 | .ptr _ _,_,_,_,hf,_,_=>by simp [fre] at hf
 | .eptr _ _ _ _,_,_,_,hf,_,_=>by simp [fre] at hf
 | .mref _ _ _,_,_,_,hf,_,_=>by simp [fre] at hf
 | .fseq sz l,_,c,_,_,h,hp=>by
   simp only [pur] at hp; cases hp
   simp only [rep,XX] at h
   exact ax hfm (X:=NX) (fun _ _ h=>h) (.seq sz l) c (by simp only [rep]; exact h.2)
 | .mptr _ _ _ _ _,_,_,_,hf,_,_=>by simp [fre] at hf
 | .sptr _ _,_,_,_,hf,_,_=>by simp [fre] at hf
 | .fn _ _ _,_,_,_,hf,_,_=>by simp [fre] at hf
 | .iface _ _,_,_,_,hf,_,_=>by simp [fre] at hf
 | .junk,_,_,_,hf,_,_=>by simp [fre] at hf
theorem su (H:Rel N M0 B w0 κ M σ a w) {Mn:Mem} (hfm:∀ p v,κ.fm p=some v→Mn p=some v):∀ {vs us:List V} {cs:List Value} (hown:∀ id∈ai vs,∀ g,κ.bl id g→∀ p,p.block=g→Mn p=w.cell? p),xD σ.h vs=true→aa M (XX κ σ.h) vs cs→purs σ.h vs=some us→aa Mn NX us cs
 | [],us,cs,_,_,h,hp=>by simp only [purs] at hp; cases hp; exact h
 | v::vs,us,cs,hown,hf,h,hp=>by
   simp only [purs] at hp
   split at hp
   · rename_i u us' hu hus
     cases hp
     simp only [xD,Bool.and_eq_true] at hf
     simp only [aa] at h ⊢
     obtain ⟨c,cs',h1,h2,h3⟩:=h
     exact ⟨c,cs',h1,O9 H hfm (fun id hid=>hown id (by simp only [ai,List.mem_append]; exact .inl hid)) hf.1 h2 hu,su H hfm (fun id hid=>hown id (by simp only [ai,List.mem_append]; exact .inr hid)) hf.2 h3 hus⟩
   · cases hp
end
end
section
variable {P:Program} {N:Nat} {M0:Mem} {B:Bas} {w0:World} {κ:Kap} {M:Mem} {σ:St} {a:Act} {w w':World}
theorem ce:∀ (l acc:List Nat),acc.Nodup→(et acc l).Nodup
 | [],acc,h=>h
 | k::ks,acc,h=>by
   simp only [et]
   split
   · exact ce ks acc h
   · rename_i hk
     refine ce ks _ ?_
     rw [List.nodup_append]
     exact ⟨h,by simp,fun x hx y hy=>by simp at hy; subst hy; rintro rfl; exact hk (kw.2 hx)⟩
theorem i5 {id:Nat}:∀ {m:List Nat} {j:Nat},idx id m=some j→m[j]?=some id
 | [],j,h=>by simp [idx] at h
 | k::ks,j,h=>by
   simp only [idx] at h
   split at h
   · rename_i he; cases h; simp [he]
   · obtain ⟨j',h1,rfl⟩:=Option.map_eq_some_iff.1 h
     simpa using i5 h1
theorem HP {m:List Nat}:∀ {r:List (Nat × V)} {t:Nat} {v:V},lk (BS m r) t=some v→∃ u,lk r t=some u∧v=ren m u
 | [],t,v,h=>by simp [BS,lk] at h
 | (k,u)::r,t,v,h=>by
   simp only [BS,lk] at h ⊢
   split at h
   · rename_i he; rw [if_pos he]; cases h; exact ⟨u,rfl,rfl⟩
   · rename_i he; rw [if_neg he]; exact HP h
theorem iW {h:List (Option Ob)} {m:List Nat}:∀ {ids:List Nat} {j:Nat} {ob:Ob},(fD h m ids)[j]?=some (some ob)→∃ id ob',ids[j]?=some id∧h[id]?=some (some ob')∧dN m (some ob')=some ob
 | [],j,ob,hj=>by simp [fD] at hj
 | id::ids,0,ob,hj=>by
   simp only [fD,List.getElem?_cons_zero,Option.some.injEq] at hj
   cases hg:h[id]? with
   | none=>simp [List.getD,hg,dN] at hj
   | some o=>
     cases o with
     | none=>simp [List.getD,hg,dN] at hj
     | some ob'=>exact ⟨id,ob',by simp,hg,by simpa [List.getD,hg] using hj⟩
 | id::ids,j + 1,ob,hj=>by
   simp only [fD,List.getElem?_cons_succ] at hj ⊢
   exact iW hj
theorem ef {h:List (Option Ob)} {m:List Nat}:∀ {ids:List Nat},(fD h m ids).length=ids.length
 | []=>rfl
 | id::ids=>by simp [fD,ef]
mutual
theorem vJ {m:List Nat} {X X':V→Value→Prop} (hX:∀ v c,X v c→rep M X' (ren m v) c):∀ {v:V} {c:Value},rep M X v c→rep M X' (ren m v) c
 | .int _ _,_,h=>h
 | .bool _,_,h=>h
 | .str _,_,h=>h
 | .nil _,_,h=>h
 | .seq _ _,_,h=>h
 | .sptr _ _,_,h=>h
 | .nilptr,_,h=>h
 | .nilfn,_,h=>h
 | .niliface,_,h=>h
 | .junk,_,h=>h
 | .ref _ _,_,h=>hX _ _ h
 | .ptr _ _,_,h=>hX _ _ h
 | .eptr _ _ _ _,_,h=>hX _ _ h
 | .mref _ _ _,_,h=>hX _ _ h
 | .fseq _ _,_,h=>hX _ _ h
 | .mptr _ _ _ _ _,_,h=>hX _ _ h
 | .strct cs,c,h=>by
   simp only [rep,ren] at h ⊢
   obtain ⟨arr,h1,h2,h3⟩:=h
   exact ⟨arr,h1,f8 hX h2,h3⟩
 | .tup cs,c,h=>by
   simp only [rep,ren] at h ⊢
   obtain ⟨arr,h1,h2⟩:=h
   exact ⟨arr,h1,f8 hX h2⟩
 | .fn f x y,c,h=>by
   simp only [rep,ren] at h ⊢
   obtain ⟨a1,a2,h1,h2,h3⟩:=h
   exact ⟨a1,a2,h1,f8 hX h2,f8 hX h3⟩
 | .iface t x,c,h=>by
   simp only [rep,ren] at h ⊢
   obtain ⟨y,h1,h2⟩:=h
   exact ⟨y,h1,vJ hX h2⟩
theorem f8 {m:List Nat} {X X':V→Value→Prop} (hX:∀ v c,X v c→rep M X' (ren m v) c):∀ {vs:List V} {cs:List Value},aa M X vs cs→aa M X' (cW m vs) cs
 | [],_,h=>h
 | v::vs,cs,h=>by
   simp only [aa,cW] at h ⊢
   obtain ⟨c,cs',h1,h2,h3⟩:=h
   exact ⟨c,cs',h1,vJ hX h2,f8 hX h3⟩
end
def Kap.ren (κ:Kap) (m:List Nat):Kap:=⟨fun j=>κ (m.getD j 0),fun j=>κ.row (m.getD j 0),fun j=>κ.bl (m.getD j 0),κ.fm⟩
theorem DY {m:List Nat} {o:Ob} {e sz:Nat} {l:List V} (h:dN m (some o)=some (.arr e sz l)):o=.arr e sz l:=by
 cases o<;>simp only [dN,Option.some.injEq] at h<;>first | exact h | cases h
theorem rO {m:List Nat} {o:Ob} {e e2 sz:Nat} {l:List Rw} (h:dN m (some o)=some (.mat e e2 sz l)):o=.mat e e2 sz l:=by
 cases o<;>simp only [dN,Option.some.injEq] at h<;>first | exact h | cases h
theorem Lw {m:List Nat} {o:Ob} {l:List V} (h:dN m (some o)=some (.box l)):∃ l',o=.box l'∧l=cW m l':=by
 cases o<;>simp only [dN,Option.some.injEq] at h
 · cases h; exact ⟨_,rfl,rfl⟩
 · cases h
 · cases h
 · cases h
 · cases h
 · cases h
theorem DX {m:List Nat} {o o':Ob} (h:dN m (some o)=some o') (hn:o'.nam=true):o=o':=by
 cases o<;>simp only [dN,Option.some.injEq] at h<;>first | exact h | (subst h; cases hn)
theorem yu {h:List (Option Ob)} {m:List Nat} (hm:m.Nodup):∀ v c,XX κ h v c→rep M (XX (κ.ren m) (fD h m m)) (ren m v) c:=by
 intro v c hx
 have key:∀ {id j:Nat},m[j]?=some id→(κ.ren m) j=κ id∧(κ.ren m).row j=κ.row id:=fun {id j} h=>by simp [Kap.ren,List.getD,h]
 have back:∀ {id j:Nat} {ob:Ob},m[j]?=some id→(fD h m m)[j]?=some (some ob)→∃ ob',h[id]?=some (some ob')∧dN m (some ob')=some ob:=by
  intro id j ob hj hl
  obtain ⟨id',ob',h1,h2,h3⟩:=iW hl
  rw [hj] at h1
  cases h1
  exact ⟨ob',h2,h3⟩
 cases v<;>simp only [XX] at hx
 case ref id n=>
  simp only [ren]
  split
  · rename_i j hj
    have hmj:=i5 hj
    simp only [rep,XX]
    rw [(key hmj).1]
    refine ⟨hx.1,by rw [ef]; exact (List.getElem?_eq_some_iff.1 hmj).1,fun e sz l hl=>?_,fun e e2 sz l hl=>?_,fun o hl hn=>?_⟩
    · obtain ⟨ob',h2,h3⟩:=back hmj hl
      rw [DY h3] at h2
      exact hx.2.2.1 e sz l h2
    · obtain ⟨ob',h2,h3⟩:=back hmj hl
      rw [rO h3] at h2
      exact hx.2.2.2.1 e e2 sz l h2
    · obtain ⟨ob',h2,h3⟩:=back hmj hl
      rw [DX h3 hn] at h2
      exact hx.2.2.2.2 o h2 hn
  · exact hx.1
 case ptr id off=>
  simp only [ren]
  split
  · rename_i j hj
    have hmj:=i5 hj
    simp only [rep,XX]
    rw [(key hmj).1]
    refine ⟨hx.1,by rw [ef]; exact (List.getElem?_eq_some_iff.1 hmj).1,fun cs hl=>?_⟩
    obtain ⟨ob',h2,h3⟩:=back hmj hl
    obtain ⟨l',rfl,rfl⟩:=Lw h3
    exact hx.2.2 _ h2
  · exact hx.1
 case eptr id n i off=>
  simp only [ren]
  split
  · rename_i j hj
    have hmj:=i5 hj
    simp only [rep,XX]
    rw [(key hmj).1]
    refine ⟨hx.1,by rw [ef]; exact (List.getElem?_eq_some_iff.1 hmj).1,fun e sz l hl=>?_,fun e e2 sz l hl=>?_⟩
    · obtain ⟨ob',h2,h3⟩:=back hmj hl
      rw [DY h3] at h2
      exact hx.2.2.1 e sz l h2
    · obtain ⟨ob',h2,h3⟩:=back hmj hl
      rw [rO h3] at h2
      exact hx.2.2.2 e e2 sz l h2
  · exact hx.1
 case fseq sz l=>
  simp only [ren,rep,XX]; exact hx
 case mref id i n=>
  simp only [ren]
  split
  · rename_i j hj
    have hmj:=i5 hj
    simp only [rep,XX]
    rw [(key hmj).2]
    refine ⟨hx.1,by rw [ef]; exact (List.getElem?_eq_some_iff.1 hmj).1,fun e e2 sz l hl=>?_⟩
    obtain ⟨ob',h2,h3⟩:=back hmj hl
    rw [rO h3] at h2
    exact hx.2.2 e e2 sz l h2
  · exact hx.1
 case mptr id i n k off=>
  simp only [ren]
  split
  · rename_i j hj
    have hmj:=i5 hj
    simp only [rep,XX]
    rw [(key hmj).2]
    refine ⟨hx.1,by rw [ef]; exact (List.getElem?_eq_some_iff.1 hmj).1,fun e e2 sz l hl=>?_⟩
    obtain ⟨ob',h2,h3⟩:=back hmj hl
    rw [rO h3] at h2
    exact hx.2.2 e e2 sz l h2
  · exact hx.1
theorem Rel.ren (H:Rel N M0 B w0 κ M σ a w) {m:List Nat} (hm:m.Nodup) (r:List (Nat × V)) (hr:∀ t v,lk r t=some v→lk σ.r t=some v):
 Rel N M0 B w0 (κ.ren m) M { r:=BS m r,h:=fD σ.h m m } a w where
 dfr:=H.dfr
 jst:=H.jst
 pin:=H.pin
 size:=H.size
 regs:=fun t v ht=>by
  obtain ⟨u,h1,rfl⟩:=HP ht
  obtain ⟨g1,c,g2,g3⟩:=H.regs t u (hr t u h1)
  exact ⟨g1,c,g2,vJ (yu hm) g3⟩
 heap:=fun j ob hj=>by
  obtain ⟨id,ob',h1,h2,h3⟩:=iW hj
  have ho:=H.heap id ob' h2
  have hk:(κ.ren m) j=κ id∧(κ.ren m).row j=κ.row id∧(κ.ren m).bl j=κ.bl id:=by simp [Kap.ren,List.getD,h1]
  cases ob' with
  | box cs=>
    simp only [dN,Option.some.injEq] at h3
    subst h3
    simp only [aK] at ho ⊢
    rw [hk.1,hk.2.2]
    obtain ⟨b,arr,T,g1,g2,g3,g4,g5⟩:=ho
    exact ⟨b,arr,T,g1,g2,g3,f8 (yu hm) g4,g5⟩
  | arr e sz l=>
    simp only [dN,Option.some.injEq] at h3
    subst h3
    simp only [aK] at ho ⊢
    rw [hk.1,hk.2.2]
    exact ho
  | mat e e2 sz l=>
    simp only [dN,Option.some.injEq] at h3
    subst h3
    simp only [aK] at ho ⊢
    rw [hk.1,hk.2.1,hk.2.2]
    exact ho
  | mp kt l=>
    simp only [dN,Option.some.injEq] at h3
    subst h3
    simp only [aK] at ho ⊢
    rw [hk.1,hk.2.2]
    exact ho
  | itr s p=>
    simp only [dN,Option.some.injEq] at h3
    subst h3
    simp only [aK] at ho ⊢
    rw [hk.1,hk.2.2]
    exact ho
  | gh l=>
    simp only [dN,Option.some.injEq] at h3
    subst h3
    simp only [aK] at ho ⊢
    rw [hk.1,hk.2.2]
    exact ho
 inj:=fun i j oi oj g hi hj gi gj=>by
  obtain ⟨i',oi',h1,h2,_⟩:=iW hi
  obtain ⟨j',oj',h3,h4,_⟩:=iW hj
  have e1:(κ.ren m).bl i=κ.bl i':=by simp [Kap.ren,List.getD,h1]
  have e2:(κ.ren m).bl j=κ.bl j':=by simp [Kap.ren,List.getD,h3]
  rw [e1] at gi
  rw [e2] at gj
  have:=H.inj i' j' oi' oj' g h2 h4 gi gj
  subst this
  exact (List.getElem?_inj (List.getElem?_eq_some_iff.1 h1).1 hm).1 (h1.trans h3.symm)
 snd:=H.snd
 sep:=fun p v hp j ob hj=>by
  obtain ⟨id,ob',h1,h2,_⟩:=iW hj
  have e1:(κ.ren m).bl j=κ.bl id:=by simp [Kap.ren,List.getD,h1]
  rw [e1]
  exact H.sep p v hp id ob' h2
 sub:=H.sub
 new:=H.new
 base:=H.base
 blw:=H.blw
end
structure Snd (M:Mem) (w:World):Prop where
 snd:∀ p v,M p=some v→w.cell? p=some v
 gl:Fr M
structure FnE (P:Program) (f:FuncId) (us:List V) (r:V):Prop where
 call:∀ args w,(callFunc f args).run P w=.ok (.enter f args) w
 does:∀ (M:Mem) (w:World) (cs:Array Value),Snd M w→aa M NX us cs.toList→
  Calls P f cs w fun e w'=>∃ (c:Value) (M':Mem),e=.returned c∧rep M' NX r c∧Below w.heap.size w w'∧(∀ p v,M' p=some v→w'.cell? p=some v)∧
   (∀ p v,M p=some v→M' p=some v)∧∀ p v,M' p=some v→M p=some v∨w.heap.size≤p.block
def Fn (P:Program) (f:FuncId) (us:List V) (r:V):Prop:=
 ∀ (M:Mem) (w:World) (cs:Array Value),Snd M w→aa M NX us cs.toList→
   ∀ (o:Oper) (a:Act) (Nx:Act→World→Prop) (Q:Exit→Act→World→Prop),(∀ (c:Value) (M':Mem) (w':World),rep M' NX r c→Below w.heap.size w w'→(∀ p v,M' p=some v→w'.cell? p=some v)→
     (∀ p v,M p=some v→M' p=some v)→(∀ p v,M' p=some v→M p=some v∨w.heap.size≤p.block)→Nx (a.put o.dst c) w')→o.upon P a Nx Q ((callFunc f cs).run P w)
theorem FnE.fn {P:Program} {f:FuncId} {us:List V} {r:V} (h:FnE P f us r):Fn P f us r:=by
 intro M w cs hM hus o a Nx Q hN
 rw [h.call,Oper.upon_enter]
 refine (h.does M w cs hM hus).mono ?_
 rintro e w' ⟨c,M',rfl,h1,h2,h3,h4,h5⟩
 exact hN c M' w' h1 h2 h3 h4 h5
structure Heap (κ:Kap) (M:Mem) (B:Bas) (w:World) (H:List (Option Ob)):Prop where
 heap:∀ id ob,H[id]?=some (some ob)→aK κ M (XX κ H) B w id ob
 inj:∀ i j oi oj g,H[i]?=some (some oi)→H[j]?=some (some oj)→κ.bl i g→κ.bl j g→i=j
 snd:∀ p v,M p=some v→w.cell? p=some v
 sep:∀ p v,M p=some v→∀ id ob,H[id]?=some (some ob)→¬κ.bl id p.block
 fmS:∀ p v,κ.fm p=some v→M p=some v
 gl:Fr M
 jst:Fq B
def SI (κ:Kap) (H:List (Option Ob)) (g:Nat):Prop:=∃ id ob,H[id]?=some (some ob)∧κ.bl id g
def cI (κ:Kap) (H:List (Option Ob)) (w:World) (ps:List Nat) (cs:Array Value) (J:Nat→List (V × Bool)→(Nat→Prop)→Mem→World→Prop):Bas:=⟨w.heap.size,SI κ H,ps,cs,0,J,[]⟩
def FR (ρ:Option Nat):Fence:={ Fence.wide with round:=ρ }
def noJ:Nat→List (V × Bool)→(Nat→Prop)→Mem→World→Prop:=fun _ _ _ _ _=>False
structure EnvStep (S:Nat→Prop) (w:World) (S':Nat→Prop) (M M':Mem) (w':World):Prop where
 os:w'.os=w.os
 tape:w'.tape=w.tape
 output:w'.output=w.output
 size:w.heap.size≤w'.heap.size
 block:∀ g,g < w.heap.size→¬S g→w'.heap[g]?=w.heap[g]?
 siz:∀ (k:Nat) (cur:Array Value) (T:TypeId) (z:Nat × Nat),w.heap[k]?=some (Obj.cells cur T z)→∃ (cur':Array Value) (T':TypeId) (z':Nat × Nat),w'.heap[k]?=some (Obj.cells cur' T' z')∧cur'.size=cur.size
 mem:∀ p v,M p=some v→M' p=some v
 snd:∀ p v,M' p=some v→w'.cell? p=some v
 new:∀ p v,M' p=some v→M p=some v∨w.heap.size≤p.block∨S p.block
 sep:∀ p v,M' p=some v→¬S' p.block
 sub:∀ g,S' g→S g∨w.heap.size≤g
 lt:∀ g,S' g→g < w'.heap.size
def qq (P:Program) (M0:Mem) (B:Bas):Prop:=
 ∀ (k:Nat) (us:List V) (b:Bool) (l:List (V × Bool)) (S:Nat→Prop) (M:Mem) (w:World) (cs:Array Value),B.J k ((.tup us,b)::l) S M w→Snd M w→(∀ p v,M p=some v→¬S p.block)→(∀ p v,M p=some v→M0 p=some v∨B.own p.block)→aa M NX us cs.toList→
   ∀ (o:Oper) (a:Act) (Nx:Act→World→Prop) (Q:Exit→Act→World→Prop) (ρ:Option Nat),(∀ (M':Mem) (S':Nat→Prop) (w':World),B.J k l S' M' w'→EnvStep S w S' M M' w'→Nx (a.put o.dst (.bool b)) w')→o.uponIn (FR ρ) 0 P a Nx Q ((Instr.yield k cs).run P w)
def FnH (P:Program) (f:FuncId) (ps:List Nat) (us:List V) (H:List (Option Ob)) (r:V) (H':List (Option Ob)):Prop:=
 ∀ (M:Mem) (w:World) (κ:Kap) (cs:Array Value) (J:Nat→List (V × Bool)→(Nat→Prop)→Mem→World→Prop),qq P M (cI κ H w ps cs J)→Heap κ M (cI κ H w ps cs J) w H→aa M (XX κ H) us cs.toList→
   ∀ (o:Oper) (a:Act) (Nx:Act→World→Prop) (Q:Exit→Act→World→Prop),(∀ (c:Value) (M':Mem) (w':World) (κ':Kap),rep M' (XX κ' H') r c→Und (cI κ H w ps cs J) w w'→Heap κ' M' (cI κ H w ps cs J) w' H'→
     (∀ p v,M p=some v→M' p=some v)→(∀ p v,M' p=some v→M p=some v∨(cI κ H w ps cs J).own p.block)→
     (∀ i,i∈ps→∀ u d,us[i]?=some u→cs[i]?=some d→rep M' (XX κ' H') u d)→Nx (a.put o.dst c) w')→o.upon P a Nx Q ((callFunc f cs).run P w)
def qE (w:World) (M:Mem):Mem:=fun p=>if w.heap.size≤p.block then M p else none
def FnN (P:Program) (f:FuncId) (us:List V) (r:V):Prop:=
 ∀ (M:Mem) (w:World) (cs:Array Value),Snd M w→aa M NX us cs.toList→
   ∀ (o:Oper) (a:Act) (Nx:Act→World→Prop) (Q:Exit→Act→World→Prop),(∀ (c:Value) (M':Mem) (w':World),rep (qE w M') NX r c→Below w.heap.size w w'→(∀ p v,M' p=some v→w'.cell? p=some v)→Nx (a.put o.dst c) w')→o.upon P a Nx Q ((callFunc f cs).run P w)
theorem D5 {w:World} {M:Mem} {p:Addr} {v:Value} (h:qE w M p=some v):w.heap.size≤p.block∧M p=some v:=by
 unfold qE at h
 split at h
 · exact ⟨by assumption,h⟩
 · cases h
def Cn (P:Program):Ctr:=⟨Fn P,FnN P,FnH P⟩
theorem rY {P:Program} {M0:Mem} {B:Bas} (h:B.J=noJ):qq P M0 B:=fun _ _ _ _ _ _ _ _ hj=>by rw [h] at hj; exact hj.elim
theorem wJ {B:Bas} (h:B.J=noJ):Fq B:=fun k l S M M' w w' hj=>by rw [h] at hj; exact hj.elim
theorem Fn.ext {P:Program} {f:FuncId} {us:List V} {r:V} {fn:Func} {e:Array Value→Sem Value} (hf:P.funcs[f]?=some fn) (hname:(fn.name == "runtime.NumGoroutine")=false) (hb:fn.body.isNone=true)
 (hn:Extern.findNext fn=none) (he:Extern.find fn=some e) (hr:∀ (M:Mem) (w:World) (cs:Array Value),Snd M w→aa M NX us cs.toList→∃ c,(e cs).run P w=.ok c w∧rep M NX r c):Fn P f us r:=by
 intro M w cs hM hus o a Nx Q hN
 obtain ⟨c,h1,h2⟩:=hr M w cs hM hus
 rw [run_callFunc_extern hf hname hb hn he,h1]
 exact hN c M w h2 (Below.refl _ _) hM.snd (fun _ _ h=>h) (fun _ _ h=>.inl h)
def O6 (P:Program) (name:String) (t:TypeId):Option (Nat × FuncId):=
 match P.info? t with
 | some i=>match i.methods.find? (·.name == name) with
   | some m=>match m.path.toList,m.func,P.underlying t with
     | [],some (f,false),some (.pointer _)=>none
     | [],some (f,true),some (.pointer _)=>some (t,f)
     | [],some (f,false),some _=>some (t,f)
     | _,_,_=>none
   | none=>none
 | none=>none
def Rs (P:Program) (name:String):List (Nat × FuncId):=(List.range P.types.size).filterMap (O6 P name)
inductive LE (P:Program):TypeId→Op→Act'→Prop
 | alloc {ty e i z v}:P.info? e=some i→i.zero=some z→cV P e z=some v→nt v=true→LE P ty (.alloc e) (.alc (cl v))
 | box {ty e x y}:cO P e x=some y→LE P ty (.box e x) (.box y)
 | store {ty t p x p' x' n}:cO P 0 p=some p'→cO P t x=some x'→dW P t=some n→LE P ty (.store t p x) (.st n p' x')
 | s2b {ty s d x y e}:cO P s x=some y→P.underlying s=some .string→P.underlying d=some (.slice e)→P.underlying e=some (.int .u8)→LE P ty (.convert s d x) (.s2b y)
 | lit {ty t len parts xs e n i z}:P.underlying t=some (.slice e)→P.info? e=some i→i.size=n→0 < n→i.zero=some z→z.cells.size=n→len * n≤16777216→parts.toList.map (·.1)=List.range len→
    cOs P (List.replicate len e) (parts.toList.map (·.2))=some xs→LE P ty (.buildSlice t len parts) (.lit e n xs)
 | ltr {ty t len parts xs e n i z}:P.underlying t=some (.slice e)→P.info? e=some i→i.size=n→0 < n→i.zero=some z→z.cells.size=n→len * n≤16777216→parts.toList.map (·.1)=List.range len→
    cOs P (List.replicate len e) (parts.toList.map (·.2))=some xs→LE P ty (.buildSlice t len parts) (.ltr e n xs)
 | app {ty t x y x' y' e i z n by'}:P.underlying t=some (.slice e)→P.info? e=some i→i.zero=some z→i.size=n→i.bytes=by'→0 < by'→z.cells.size=n→0 < n→cO P t x=some x'→cO P t y=some y'→
    LE P ty (.call { callee:=.builtin .append,args:=#[x,y],argTypes:=#[t,t] }) (.app x' y' e n by')
 | mk0 {ty t k l l' e i z n by'}:P.underlying t=some (.slice e)→P.info? e=some i→i.zero=some z→i.size=n→i.bytes=by'→0 < by'→0 < n→cO P 0 l=some l'→
    LE P ty (.makeSlice t (.const (.int k 0)) l) (.mk0 e n by' l')
 | mkm {ty t l l' e i n by' e2 i2}:P.underlying t=some (.slice e)→P.info? e=some i→i.zero=some (.slice none 0 0)→i.size=1→i.bytes=by'→0 < by'→P.underlying e=some (.slice e2)→P.info? e2=some i2→i2.size=n→0 < n→cO P 0 l=some l'→
    LE P ty (.makeSlice t l l) (.mkm e by' e2 n l')
 | mks {ty t l l' e i z v v' n by'}:P.underlying t=some (.slice e)→P.info? e=some i→i.zero=some z→cV P e z=some v→nt v=true→pur [] v=some v'→i.size=n→i.bytes=by'→0 < by'→0 < n→cO P 0 l=some l'→
    z.cells.size=n→LE P ty (.makeSlice t l l) (.mks e n by' v' l')
 | call {ty f args ts xs}:cOs P ts.toList args.toList=some xs→LE P ty (.call { callee:=.value (.func f),args:=args,argTypes:=ts }) (.call f xs)
 | callH {ty f args ts xs}:cOs P ts.toList args.toList=some xs→LE P ty (.call { callee:=.value (.func f),args:=args,argTypes:=ts }) (.callH f xs)
 | b2s {ty s d x u e}:cO P s x=some u→P.underlying s=some (.slice e)→P.underlying e=some (.int .u8)→P.underlying d=some .string→LE P ty (.convert s d x) (.b2s u)
 | mkp {ty t K E kt}:P.underlying t=some (.map K E)→ktT P K=some kt→LE P ty (.makeMap t none) (.mkp kt)
 | mup {ty t K E x k v u b c kt}:P.underlying t=some (.map K E)→ktT P K=some kt→cO P t x=some u→cO P K k=some b→cO P E v=some c→LE P ty (.mapUpdate t x k v) (.mup kt u b c)
 | mui {ty t K E x k v u b c kt}:P.underlying t=some (.map K E)→ktT P K=some kt→cO P t x=some u→cO P K k=some b→cO P E v=some c→LE P ty (.insert t x k v) (.mup kt u b c)
 | inv {ty r x name args ts xs tbl}:cO P 0 r=some x→Rs P name=tbl→cOs P ts.toList args.toList=some xs→LE P ty (.call { callee:=.invoke r name,args:=args,argTypes:=ts }) (.inv tbl x xs)
 | trc {ty t x hi u hi' e n}:cO P t x=some u→cO P 0 hi=some hi'→P.underlying t=some (.slice e)→dW P e=some n→LE P ty (.slice t x none (some hi) none) (.trc u hi' n)
 | yld {ty g args ts xs}:cOs P ts.toList args.toList=some xs→LE P ty (.call { callee:=.value (.tmp g),args:=args,argTypes:=ts }) (.yld (.t g) xs)
 | rgs {ty t x u}:cO P t x=some u→P.underlying t=some .string→LE P ty (.range t x) (.rgs u)
 | nxs {ty x u}:cO P 0 x=some u→LE P ty (.next x true) (.nxs u)
 | callv {ty g args ts xs}:cOs P ts.toList args.toList=some xs→LE P ty (.call { callee:=.value (.tmp g),args:=args,argTypes:=ts }) (.callv (.t g) xs)
section
variable {P:Program} {N:Nat} {M0:Mem} {B:Bas} {w0:World} {κ:Kap} {M:Mem} {σ:St} {a:Act} {w w':World}
theorem bQ (w:World) (o:Obj):Below w.heap.size w (w.alloc o):=(Below.refl _ _).alloc (Nat.le_refl _) _
theorem HR (ids:List Nat) (σ:St):(σ.kill ids).r=σ.r:=(qN ids σ).1
theorem rl (H:Rel N M0 B w0 κ M σ a w) {d:Option Nat} (hd:∀ t,d=some t→t < N∧t ∉ B.ps) {f:FuncId} {vs us:List V} {K:St→Prop} (hW:lQ (Cn P) d f vs us K σ) (hp:purs σ.h vs=some us)
 {cs:Array Value} (hcs:aa M (XX κ σ.h) vs cs.toList) {Nx:Act→World→Prop} (hK:∀ κ' M' σ' a' w',K σ'→Rel N M0 B w0 κ' M' σ' a' w'→Nx a' w') {Q:Exit→Act→World→Prop} (o:Oper) (ho:o.dst=d):
 o.upon P a Nx Q ((callFunc f cs).run P w):=by
 subst ho
 obtain ⟨r,⟨(⟨hr,hf | hf⟩ | hr),hk⟩ | ⟨hr,hk⟩ | ⟨hr,hk⟩⟩:=hW
 · refine hr w.cell? w cs ⟨fun _ _ h=>h,(H.sub.gl.mono H.sub.sub).mono H.snd⟩ (bv H H.snd (fun _ _ _ _ _ _=>rfl) hcs hp) o a Nx Q ?_
   intro c M' w' h1 h2 h3 h4 h5
   have H':=H.grow0 h2
   exact hK _ _ _ _ _ (hk (iV h1)) (H'.put' hd (kj hf h1))
 · refine hr M w cs ⟨H.snd,H.sub.gl.mono H.sub.sub⟩ ?_ o a Nx Q ?_
   · refine bv H (fun _ _ h=>h) (fun id hid=>?_) hcs hp
     rw [hf] at hid
     cases hid
   · intro c M' w' h1 h2 h3 h4 h5
     have H':=H.grow h2 h4 h3 h5
     exact hK _ _ _ _ _ (hk (iV h1)) (H'.put' hd (aA h1))
 · refine hr w.cell? w cs ⟨fun _ _ h=>h,(H.sub.gl.mono H.sub.sub).mono H.snd⟩ (bv H H.snd (fun _ _ _ _ _ _=>rfl) hcs hp) o a Nx Q ?_
   intro c M' w' h1 h2 h3
   have hsub:∀ p v,qE w M' p=some v→w.heap.size≤p.block∧M' p=some v:=fun p v h=>D5 h
   have H':Rel N M0 B w0 κ (fun p=>(M p).or (qE w M' p)) σ a w':=by
    refine H.grow h2 (fun p v hp=>by simp [hp]) (fun p v hp=>?_) (fun p v hp=>?_)
    · cases hm:M p with
      | none=>simp [hm] at hp; exact h3 p v (hsub p v hp).2
      | some u=>
        simp [hm] at hp
        subst hp
        rw [h2.cell (H.mem_lt hm)]
        exact H.snd p u hm
    · cases hm:M p with
      | none=>simp [hm] at hp; exact .inr (hsub p v hp).1
      | some u=>simp [hm] at hp; subst hp; exact .inl rfl
   refine hK _ _ _ _ _ (hk (iV h1)) (H'.put' hd (aA (ax (fun p v hp=>?_) (fun _ _ h=>h) _ _ h1)))
   have:=(hsub p v hp).1
   cases hm:M p with
   | none=>simp [hp]
   | some u=>have:=H.mem_lt hm; omega
 · obtain ⟨H1,hM1⟩:=H.kill (ai vs) (dg hp)
   refine hr (ext M w (lL κ (ai vs))) w cs ⟨H1.snd,H1.sub.gl.mono H1.sub.sub⟩ ?_ o a Nx Q ?_
   · refine bv H hM1 (fun id hid g hg p hpb=>?_) hcs hp
     unfold ext
     rw [if_pos (cZ.2 ⟨id,hid,by rw [hpb]; exact hg⟩)]
   · intro c M' w' h1 h2 h3 h4 h5
     have H':=H1.grow h2 h4 h3 h5
     exact hK _ _ _ _ _ (hk (iV h1)) (H'.put' hd (aA h1))
 · refine hr w.cell? w cs ⟨fun _ _ h=>h,(H.sub.gl.mono H.sub.sub).mono H.snd⟩ (bv H H.snd (fun _ _ _ _ _ _=>rfl) hcs hp) o a Nx Q ?_
   intro c M' w' h1 h2 h3
   have hsub:∀ p v,qE w M' p=some v→w.heap.size≤p.block∧M' p=some v:=fun p v h=>D5 h
   have hMn:∀ p v,qE w M' p=some v→(fun p=>(M p).or (qE w M' p)) p=some v:=fun p v hp=>by
    have:=(hsub p v hp).1
    cases hm:M p with
    | none=>simp [hm,hp]
    | some u=>have:=H.mem_lt hm; omega
   have H':Rel N M0 B w0 κ (fun p=>(M p).or (qE w M' p)) σ a w':=by
    refine H.grow h2 (fun p v hp=>by simp [hp]) (fun p v hp=>?_) (fun p v hp=>?_)
    · cases hm:M p with
      | none=>simp [hm] at hp; exact h3 p v (hsub p v hp).2
      | some u=>
        simp [hm] at hp
        subst hp
        rw [h2.cell (H.mem_lt hm)]
        exact H.snd p u hm
    · cases hm:M p with
      | none=>simp [hm] at hp; exact .inr (hsub p v hp).1
      | some u=>simp [hm] at hp; subst hp; exact .inl rfl
   have H'':=H'.addF (F:=qE w M') (fun p v hp=>⟨hMn p v hp,by have:=(hsub p v hp).1; have:=H.sub.fbn; have:=H.blw.size; have:=H.base; omega⟩)
   refine hK _ _ _ _ _ (hk (iV h1)) (H''.put' hd (Mj hMn (fun sz l c hc hr=>?_) h1))
   simp only [XX]
   refine ⟨hc,ax (fun p v hp=>?_) (X:=NX) (fun _ _ h=>h) _ _ hr⟩
   simp only [Kap.add,Option.or_eq_some_iff]
   cases hf:κ.fm p with
   | none=>exact .inr ⟨rfl,hp⟩
   | some u=>have:=H.mem_lt (H.sub.fmS p u hf); have:=(hsub p v hp).1; omega
theorem vw {n k j:Nat} {x:Nat} (h:(List.range' n k)[j]?=some x):x=n + j∧j < k:=by
 obtain ⟨h1,h2⟩:=List.getElem?_eq_some_iff.1 h
 simp at h1 h2
 omega
theorem Aj:∀ (ids:List Nat) (obs h:List (Option Ob)),(wr h ids obs).length=h.length
 | [],obs,h=>by simp [wr]
 | _::_,[],h=>by simp [wr]
 | id::ids,ob::obs,h=>by simp [wr,Aj ids obs]
theorem Ka:∀ (ids:List Nat) (obs h:List (Option Ob)),ids.Nodup→ids.length=obs.length→∀ {i:Nat} {ob:Ob},(wr h ids obs)[i]?=some (some ob)→
 (∃ j:Nat,ids[j]?=some i∧obs[j]?=some (some ob))∨(i ∉ ids∧h[i]?=some (some ob))
 | [],obs,h,_,_,i,ob,hi=>by simp only [wr] at hi; exact .inr ⟨by simp,hi⟩
 | id::ids,[],h,_,hl,i,ob,hi=>by simp at hl
 | id::ids,o::obs,h,hn,hl,i,ob,hi=>by
   simp only [wr] at hi
   simp only [List.nodup_cons] at hn
   rcases Ka ids obs _ hn.2 (by simpa using hl) hi with ⟨j,h1,h2⟩ | ⟨h1,h2⟩
   · exact .inl ⟨j + 1,by simpa using h1,by simpa using h2⟩
   · rw [List.getElem?_set] at h2
     split at h2
     · rename_i he
       subst he
       split at h2
       · exact .inl ⟨0,by simp,by simpa using h2⟩
       · cases h2
     · rename_i he
       exact .inr ⟨by simp; exact ⟨fun e=>he e.symm,h1⟩,h2⟩
theorem u6 {m:List Nat}:∀ {H:List (Option Ob)},(Dr m H).length=H.length
 | []=>rfl
 | _::H=>by simp [Dr,u6 (H:=H)]
theorem Fg {m:List Nat}:∀ {H:List (Option Ob)} {j:Nat} {ob:Ob},(Dr m H)[j]?=some (some ob)→∃ ob',H[j]?=some (some ob')∧j9 m (some ob')=some ob
 | [],j,ob,h=>by simp [Dr] at h
 | o::H,0,ob,h=>by
   simp only [Dr,List.getElem?_cons_zero,Option.some.injEq] at h
   cases o with
   | none=>simp [j9] at h
   | some ob'=>exact ⟨ob',by simp,h⟩
 | o::H,j + 1,ob,h=>by
   simp only [Dr,List.getElem?_cons_succ] at h ⊢
   exact Fg h
mutual
theorem Dq {m:List Nat} {X X':V→Value→Prop} (hX:∀ v c,X v c→rep M X' (bck m v) c):∀ {v:V} {c:Value},rep M X v c→rep M X' (bck m v) c
 | .int _ _,_,h=>h
 | .bool _,_,h=>h
 | .str _,_,h=>h
 | .nil _,_,h=>h
 | .seq _ _,_,h=>h
 | .sptr _ _,_,h=>h
 | .nilptr,_,h=>h
 | .nilfn,_,h=>h
 | .niliface,_,h=>h
 | .junk,_,h=>h
 | .ref _ _,_,h=>hX _ _ h
 | .ptr _ _,_,h=>hX _ _ h
 | .eptr _ _ _ _,_,h=>hX _ _ h
 | .mref _ _ _,_,h=>hX _ _ h
 | .fseq _ _,_,h=>hX _ _ h
 | .mptr _ _ _ _ _,_,h=>hX _ _ h
 | .strct cs,c,h=>by
   simp only [rep,bck] at h ⊢
   obtain ⟨arr,h1,h2,h3⟩:=h
   exact ⟨arr,h1,kL hX h2,h3⟩
 | .tup cs,c,h=>by
   simp only [rep,bck] at h ⊢
   obtain ⟨arr,h1,h2⟩:=h
   exact ⟨arr,h1,kL hX h2⟩
 | .fn f x y,c,h=>by
   simp only [rep,bck] at h ⊢
   obtain ⟨a1,a2,h1,h2,h3⟩:=h
   exact ⟨a1,a2,h1,kL hX h2,kL hX h3⟩
 | .iface t x,c,h=>by
   simp only [rep,bck] at h ⊢
   obtain ⟨y,h1,h2⟩:=h
   exact ⟨y,h1,Dq hX h2⟩
theorem kL {m:List Nat} {X X':V→Value→Prop} (hX:∀ v c,X v c→rep M X' (bck m v) c):∀ {vs:List V} {cs:List Value},aa M X vs cs→aa M X' (kM m vs) cs
 | [],_,h=>h
 | v::vs,cs,h=>by
   simp only [aa,kM] at h ⊢
   obtain ⟨c,cs',h1,h2,h3⟩:=h
   exact ⟨c,cs',h1,Dq hX h2,kL hX h3⟩
end
theorem mJ:∀ (l acc:List Nat),∃ t,et acc l=acc++t
 | [],acc=>⟨[],by simp [et]⟩
 | k::ks,acc=>by
   simp only [et]
   split
   · exact mJ ks acc
   · obtain ⟨t,ht⟩:=mJ ks (acc++[k])
     exact ⟨[k]++t,by rw [ht]; simp⟩
theorem wh:∀ (l acc:List Nat) {x:Nat},x∈et acc l→x∈acc∨x∈l
 | [],acc,x,h=>.inl h
 | k::ks,acc,x,h=>by
   simp only [et] at h
   split at h
   · rcases wh ks acc h with h | h
     · exact .inl h
     · exact .inr (by simp [h])
   · rcases wh ks _ h with h | h
     · simp at h
       rcases h with h | h
       · exact .inl h
       · exact .inr (by simp [h])
     · exact .inr (by simp [h])
theorem A1 {h:List (Option Ob)} {pvs vs:List V}:(dY h pvs vs).2.Nodup∧(dY h pvs vs).2.take (dY h pvs vs).1=et [] (ai pvs)∧(dY h pvs vs).1=(et [] (ai pvs)).length:=by
 unfold dY
 simp only
 refine ⟨ce _ _ (ce _ _ (ce _ _ (ce _ _ List.nodup_nil))),?_,trivial⟩
 obtain ⟨t1,h1⟩:=mJ (ai vs) (et [] (ai pvs))
 obtain ⟨t2,h2⟩:=mJ (tH h (et (et [] (ai pvs)) (ai vs))) (et (et [] (ai pvs)) (ai vs))
 generalize hb:et (et (et [] (ai pvs)) (ai vs)) (tH h (et (et [] (ai pvs)) (ai vs)))=b at *
 obtain ⟨t3,h3⟩:=mJ (tH h b) b
 rw [h3,h2,h1]
 simp
theorem tr {vs:List V}:∀ {ps:List Nat} {v:V},v∈bH vs ps→∃ i,i∈ps∧vs[i]?=some v
 | [],v,h=>by simp [bH] at h
 | i::is,v,h=>by
   simp only [bH] at h
   split at h
   · rename_i u hu
     rcases List.mem_cons.1 h with rfl | h
     · exact ⟨i,by simp,hu⟩
     · obtain ⟨j,h1,h2⟩:=tr h; exact ⟨j,by simp [h1],h2⟩
   · obtain ⟨j,h1,h2⟩:=tr h; exact ⟨j,by simp [h1],h2⟩
theorem Fa:∀ {vs:List V} {v:V},σ.curs vs=true→v∈vs→σ.cur v=true
 | [],v,_,h=>by cases h
 | u::us,v,hc,h=>by
   simp only [St.curs,Bool.and_eq_true] at hc
   rcases List.mem_cons.1 h with rfl | h
   · exact hc.1
   · exact Fa hc.2 h
mutual
theorem x5 {σ:St} {id:Nat}:∀ {u:V},σ.cur u=true→id∈aq u→∃ v,σ.cur0 v=true∧aq v=[id]
 | .fn _ a b,h,hi=>by
   simp only [St.cur,Bool.and_eq_true] at h
   simp only [aq,List.mem_append] at hi
   rcases hi with hi | hi
   · exact kF h.1 hi
   · exact kF h.2 hi
 | .strct cs,h,hi=>by simp only [St.cur] at h; simp only [aq] at hi; exact kF h hi
 | .tup cs,h,hi=>by simp only [St.cur] at h; simp only [aq] at hi; exact kF h hi
 | .iface _ x,h,hi=>by simp only [St.cur] at h; simp only [aq] at hi; exact x5 h hi
 | .int _ _,h,hi=>by simp [aq] at hi
 | .bool _,h,hi=>by simp [aq] at hi
 | .str _,h,hi=>by simp [aq] at hi
 | .nil _,h,hi=>by simp [aq] at hi
 | .seq _ _,h,hi=>by simp [aq] at hi
 | .fseq _ _,h,hi=>by simp [aq] at hi
 | .sptr _ _,h,hi=>by simp [aq] at hi
 | .nilptr,h,hi=>by simp [aq] at hi
 | .nilfn,h,hi=>by simp [aq] at hi
 | .niliface,h,hi=>by simp [aq] at hi
 | .junk,h,hi=>by simp [aq] at hi
 | .mref _ _ _,h,hi=>by simp [St.cur,St.cur0,aq] at h
 | .mptr _ _ _ _ _,h,hi=>by simp [St.cur,St.cur0,aq] at h
 | .ref a n,h,hi=>by
   simp only [aq,List.mem_singleton] at hi; subst hi
   simp only [St.cur,aq,List.isEmpty_cons,Bool.or_false] at h
   exact ⟨_,h,rfl⟩
 | .ptr a n,h,hi=>by
   simp only [aq,List.mem_singleton] at hi; subst hi
   simp only [St.cur,aq,List.isEmpty_cons,Bool.or_false] at h
   exact ⟨_,h,rfl⟩
 | .eptr a n i o,h,hi=>by
   simp only [aq,List.mem_singleton] at hi; subst hi
   simp only [St.cur,aq,List.isEmpty_cons,Bool.or_false] at h
   exact ⟨_,h,rfl⟩
theorem kF {σ:St} {id:Nat}:∀ {u:List V},σ.curA u=true→id∈ai u→∃ v,σ.cur0 v=true∧aq v=[id]
 | [],_,hi=>by simp [ai] at hi
 | v::vs,h,hi=>by
   simp only [St.curA,Bool.and_eq_true] at h
   simp only [ai,List.mem_append] at hi
   rcases hi with hi | hi
   · exact x5 h.1 hi
   · exact kF h.2 hi
end
mutual
theorem oW {σ:St} {id:Nat} {m:List Nat} {M M':Mem} {X X':V→Value→Prop}:∀ {u:V} {d:Value},σ.cur u=true→rep M X u d→rep M' X' (ren m u) d→id∈aq u→∃ v c,σ.cur0 v=true∧aq v=[id]∧rep M X v c∧rep M' X' (ren m v) c
 | .fn _ a b,d,h,h1,h2,hi=>by
   simp only [St.cur,Bool.and_eq_true] at h
   simp only [aq,List.mem_append] at hi
   simp only [ren,rep] at h1 h2
   obtain ⟨a1,a2,rfl,g1,g2⟩:=h1
   obtain ⟨b1,b2,e,g3,g4⟩:=h2
   cases e
   rcases hi with hi | hi
   · exact jg h.1 g1 g3 hi
   · exact jg h.2 g2 g4 hi
 | .strct cs,d,h,h1,h2,hi=>by
   simp only [St.cur] at h
   simp only [aq] at hi
   simp only [ren,rep] at h1 h2
   obtain ⟨a1,rfl,g1,_⟩:=h1
   obtain ⟨b1,e,g3,_⟩:=h2
   cases e
   exact jg h g1 g3 hi
 | .tup cs,d,h,h1,h2,hi=>by
   simp only [St.cur] at h
   simp only [aq] at hi
   simp only [ren,rep] at h1 h2
   obtain ⟨a1,rfl,g1⟩:=h1
   obtain ⟨b1,e,g3⟩:=h2
   cases e
   exact jg h g1 g3 hi
 | .iface _ x,d,h,h1,h2,hi=>by
   simp only [St.cur] at h
   simp only [aq] at hi
   simp only [ren,rep] at h1 h2
   obtain ⟨y,rfl,g1⟩:=h1
   obtain ⟨z,e,g3⟩:=h2
   cases e
   exact oW h g1 g3 hi
 | .int _ _,_,h,_,_,hi=>by simp [aq] at hi
 | .bool _,_,h,_,_,hi=>by simp [aq] at hi
 | .str _,_,h,_,_,hi=>by simp [aq] at hi
 | .nil _,_,h,_,_,hi=>by simp [aq] at hi
 | .seq _ _,_,h,_,_,hi=>by simp [aq] at hi
 | .fseq _ _,_,h,_,_,hi=>by simp [aq] at hi
 | .sptr _ _,_,h,_,_,hi=>by simp [aq] at hi
 | .nilptr,_,h,_,_,hi=>by simp [aq] at hi
 | .nilfn,_,h,_,_,hi=>by simp [aq] at hi
 | .niliface,_,h,_,_,hi=>by simp [aq] at hi
 | .junk,_,h,_,_,hi=>by simp [aq] at hi
 | .mref _ _ _,_,h,_,_,hi=>by simp [St.cur,St.cur0,aq] at h
 | .mptr _ _ _ _ _,_,h,_,_,hi=>by simp [St.cur,St.cur0,aq] at h
 | .ref a n,_,h,h1,h2,hi=>by
   simp only [aq,List.mem_singleton] at hi; subst hi
   simp only [St.cur,aq,List.isEmpty_cons,Bool.or_false] at h
   exact ⟨_,_,h,rfl,h1,h2⟩
 | .ptr a n,_,h,h1,h2,hi=>by
   simp only [aq,List.mem_singleton] at hi; subst hi
   simp only [St.cur,aq,List.isEmpty_cons,Bool.or_false] at h
   exact ⟨_,_,h,rfl,h1,h2⟩
 | .eptr a n i o,_,h,h1,h2,hi=>by
   simp only [aq,List.mem_singleton] at hi; subst hi
   simp only [St.cur,aq,List.isEmpty_cons,Bool.or_false] at h
   exact ⟨_,_,h,rfl,h1,h2⟩
theorem jg {σ:St} {id:Nat} {m:List Nat} {M M':Mem} {X X':V→Value→Prop}:∀ {u:List V} {d:List Value},σ.curA u=true→aa M X u d→aa M' X' (cW m u) d→id∈ai u→∃ v c,σ.cur0 v=true∧aq v=[id]∧rep M X v c∧rep M' X' (ren m v) c
 | [],_,_,_,_,hi=>by simp [ai] at hi
 | v::vs,d,h,h1,h2,hi=>by
   simp only [St.curA,Bool.and_eq_true] at h
   simp only [ai,List.mem_append] at hi
   simp only [cW,aa] at h1 h2
   obtain ⟨c,cs,rfl,g1,g2⟩:=h1
   obtain ⟨c',cs',e,g3,g4⟩:=h2
   cases e
   rcases hi with hi | hi
   · exact oW h.1 g1 g3 hi
   · exact jg h.2 g2 g4 hi
end
theorem Am:∀ {vs:List V} {id:Nat},id∈ai vs→∃ v∈vs,id∈aq v
 | [],id,h=>by simp [ai] at h
 | v::vs,id,h=>by
   simp only [ai,List.mem_append] at h
   rcases h with h | h
   · exact ⟨v,by simp,h⟩
   · obtain ⟨u,h1,h2⟩:=Am h; exact ⟨u,by simp [h1],h2⟩
theorem lj:∀ {q:Nat} {H H':List (Option Ob)},kin q H H'=true→∀ {j:Nat},j < q→
 (∃ cs cs',H[j]?=some (some (.box cs))∧H'[j]?=some (some (.box cs')))∨(∃ e sz l l',H[j]?=some (some (.arr e sz l))∧H'[j]?=some (some (.arr e sz l')))∨∃ l l',H[j]?=some (some (.gh l))∧H'[j]?=some (some (.gh l'))
 | 0,_,_,_,j,hj=>by omega
 | q + 1,[],_,hk,j,hj=>by simp [kin] at hk
 | q + 1,none::_,_,hk,j,hj=>by simp [kin] at hk
 | q + 1,some (.box _)::_,[],hk,j,hj=>by simp [kin] at hk
 | q + 1,some (.arr _ _ _)::_,[],hk,j,hj=>by simp [kin] at hk
 | q + 1,some (.mat _ _ _ _)::_,_,hk,j,hj=>by simp [kin] at hk
 | q + 1,some (.mp _ _)::_,_,hk,j,hj=>by simp [kin] at hk
 | q + 1,some (.itr _ _)::_,_,hk,j,hj=>by simp [kin] at hk
 | q + 1,some (.box _)::_,some (.itr _ _)::_,hk,j,hj=>by simp [kin] at hk
 | q + 1,some (.arr _ _ _)::_,some (.itr _ _)::_,hk,j,hj=>by simp [kin] at hk
 | q + 1,some (.gh _)::_,some (.itr _ _)::_,hk,j,hj=>by simp [kin] at hk
 | q + 1,some (.box _)::_,some (.mp _ _)::_,hk,j,hj=>by simp [kin] at hk
 | q + 1,some (.arr _ _ _)::_,some (.mp _ _)::_,hk,j,hj=>by simp [kin] at hk
 | q + 1,some (.box _)::_,some (.mat _ _ _ _)::_,hk,j,hj=>by simp [kin] at hk
 | q + 1,some (.arr _ _ _)::_,some (.mat _ _ _ _)::_,hk,j,hj=>by simp [kin] at hk
 | q + 1,some (.gh _)::_,[],hk,j,hj=>by simp [kin] at hk
 | q + 1,some (.gh _)::_,none::_,hk,j,hj=>by simp [kin] at hk
 | q + 1,some (.gh _)::_,some (.box _)::_,hk,j,hj=>by simp [kin] at hk
 | q + 1,some (.gh _)::_,some (.arr _ _ _)::_,hk,j,hj=>by simp [kin] at hk
 | q + 1,some (.gh _)::_,some (.mat _ _ _ _)::_,hk,j,hj=>by simp [kin] at hk
 | q + 1,some (.gh _)::_,some (.mp _ _)::_,hk,j,hj=>by simp [kin] at hk
 | q + 1,some (.box _)::_,some (.gh _)::_,hk,j,hj=>by simp [kin] at hk
 | q + 1,some (.arr _ _ _)::_,some (.gh _)::_,hk,j,hj=>by simp [kin] at hk
 | q + 1,some (.gh _)::H,some (.gh _)::H',hk,0,hj=>.inr (.inr ⟨_,_,rfl,rfl⟩)
 | q + 1,some (.gh _)::H,some (.gh _)::H',hk,j + 1,hj=>by
   simp only [kin] at hk
   simpa using lj hk (j:=j) (by omega)
 | q + 1,some (.box _)::_,none::_,hk,j,hj=>by simp [kin] at hk
 | q + 1,some (.arr _ _ _)::_,none::_,hk,j,hj=>by simp [kin] at hk
 | q + 1,some (.box _)::_,some (.arr _ _ _)::_,hk,j,hj=>by simp [kin] at hk
 | q + 1,some (.arr _ _ _)::_,some (.box _)::_,hk,j,hj=>by simp [kin] at hk
 | q + 1,some (.box _)::H,some (.box _)::H',hk,0,hj=>.inl ⟨_,_,rfl,rfl⟩
 | q + 1,some (.box _)::H,some (.box _)::H',hk,j + 1,hj=>by
   simp only [kin] at hk
   simpa using lj hk (j:=j) (by omega)
 | q + 1,some (.arr e sz l)::H,some (.arr e' sz' l')::H',hk,0,hj=>by
   simp only [kin,Bool.and_eq_true,decide_eq_true_eq] at hk
   obtain ⟨⟨rfl,rfl⟩,hk⟩:=hk
   exact .inr (.inl ⟨_,_,_,_,rfl,rfl⟩)
 | q + 1,some (.arr e sz l)::H,some (.arr e' sz' l')::H',hk,j + 1,hj=>by
   simp only [kin,Bool.and_eq_true,decide_eq_true_eq] at hk
   simpa using lj hk.2 (j:=j) (by omega)
theorem O3:∀ {q:Nat} {H H':List (Option Ob)},kin q H H'=true→q≤H'.length:=by
 intro q H H' hk
 rcases Nat.eq_zero_or_pos q with h | h
 · omega
 · have hg:∀ j,j < q→j < H'.length:=fun j hj=>by
    rcases lj hk hj with ⟨_,_,_,h⟩ | ⟨_,_,_,_,_,h⟩ | ⟨_,_,_,h⟩<;>exact (List.getElem?_eq_some_iff.1 h).1
   have:=hg (q - 1) (by omega)
   omega
theorem vP {id:Nat}:∀ {m:List Nat} {j:Nat},m.Nodup→m[j]?=some id→idx id m=some j
 | [],j,_,h=>by simp at h
 | k::ks,0,_,h=>by simp at h; simp [idx,h]
 | k::ks,j + 1,hn,h=>by
   simp only [List.nodup_cons] at hn
   simp only [List.getElem?_cons_succ] at h
   have:id≠k:=fun e=>hn.1 (e ▸ List.mem_of_getElem? h)
   simp only [idx,if_neg this,vP hn.2 h,Option.map_some]
theorem I1 {B B':Bas} {X:V→Value→Prop} {id:Nat} (hB:∀ g,κ.bl id g→B'.own g) (hJ:B'.J=B.J):∀ {ob:Ob},aK κ M X B w id ob→aK κ M X B' w id ob
 | .itr s p,h=>by
   simp only [aK] at h ⊢
   obtain ⟨b,bs,h1,h2,h3,h4,h5,h6⟩:=h
   exact ⟨b,bs,h1,hB b ((h6 b).2 rfl),h3,h4,h5,h6⟩
 | .gh l,h=>by
   simp only [aK] at h ⊢
   obtain ⟨k,h1,h2,h3⟩:=h
   exact ⟨k,h1,by rw [hJ]; exact h2,fun g hg=>⟨hB g hg,(h3 g hg).2⟩⟩
 | .box cs,h=>by
   simp only [aK] at h ⊢
   obtain ⟨b,arr,T,h1,h2,h3,h4,h5,h6⟩:=h
   exact ⟨b,arr,T,h1,hB b ((h6 b).2 rfl),h3,h4,h5,h6⟩
 | .arr e sz l,h=>by
   simp only [aK] at h ⊢
   obtain ⟨h1,h2,xs,h3,h4,_,h5⟩:=h
   exact ⟨h1,h2,xs,h3,h4,hB,h5⟩
 | .mat e e2 sz l,h=>by
   simp only [aK] at h ⊢
   obtain ⟨h1,h2,h3,h4,h5,h6,_,h7⟩:=h
   exact ⟨h1,h2,h3,h4,h5,h6,hB,h7⟩
 | .mp kt l,h=>by
   simp only [aK] at h ⊢
   obtain ⟨b,es,clock,h1,h2,h3,h4,h5⟩:=h
   exact ⟨b,es,clock,h1,hB b ((h5 b).2 rfl),h3,h4,h5⟩
theorem iI {h:List (Option Ob)} {m:List Nat}:∀ {ids:List Nat} {j id:Nat} {ob:Ob},ids[j]?=some id→h[id]?=some (some ob)→(fD h m ids)[j]?=some (dN m (some ob))
 | [],j,id,ob,h1,_=>by simp at h1
 | i::ids,0,id,ob,h1,h2=>by simp at h1; subst h1; simp [fD,List.getD,h2]
 | i::ids,j + 1,id,ob,h1,h2=>by simp only [List.getElem?_cons_succ] at h1; simp only [fD,List.getElem?_cons_succ]; exact iI h1 h2
theorem wy {m:List Nat}:∀ {vs:List V} {i:Nat} {v:V},vs[i]?=some v→(cW m vs)[i]?=some (ren m v)
 | [],i,v,h=>by simp at h
 | u::us,0,v,h=>by simp at h; simp [cW,h]
 | u::us,i + 1,v,h=>by simp only [List.getElem?_cons_succ] at h; simp only [cW,List.getElem?_cons_succ]; exact wy h
theorem AB {M:Mem} {sz:Nat}:∀ {l:List V} {xs:List Value},al M sz l xs→oks l
 | [],_,_=>by simp [oks]
 | v::vs,xs,h=>by
   simp only [al] at h
   obtain ⟨y,rest,_,h1,_,_,h2⟩:=h
   exact ⟨iV h1,AB h2⟩
theorem m7:∀ {h:List (Option Ob)},(∀ (id:Nat) (ob:Ob),h[id]?=some (some ob)→match ob with
 | .box cs=>oks cs
 | .arr _ _ l=>l.length≤140737488355328∧oks l
 | .mat _ _ _ rows=>rows.length≤140737488355328
 | .mp _ _=>True
 | .gh _=>True
 | .itr s _=>s.length≤4611686018427387904)→okH h
 | [],_=>trivial
 | none::h,H=>by simp only [okH]; exact m7 fun id ob hi=>H (id + 1) ob (by simpa using hi)
 | some (.box cs)::h,H=>by simp only [okH]; exact ⟨H 0 (.box cs) rfl,m7 fun id ob hi=>H (id + 1) ob (by simpa using hi)⟩
 | some (.mat e e2 sz l)::h,H=>by simp only [okH]; exact ⟨H 0 (.mat e e2 sz l) rfl,m7 fun id ob hi=>H (id + 1) ob (by simpa using hi)⟩
 | some (.mp kt l)::h,H=>by simp only [okH]; exact m7 fun id ob hi=>H (id + 1) ob (by simpa using hi)
 | some (.gh l)::h,H=>by simp only [okH]; exact m7 fun id ob hi=>H (id + 1) ob (by simpa using hi)
 | some (.itr s p)::h,H=>by simp only [okH]; exact ⟨H 0 (.itr s p) rfl,m7 fun id ob hi=>H (id + 1) ob (by simpa using hi)⟩
 | some (.arr e sz l)::h,H=>by simp only [okH]; exact ⟨H 0 (.arr e sz l) rfl,m7 fun id ob hi=>H (id + 1) ob (by simpa using hi)⟩
theorem HZ {H:List (Option Ob)} (hh:∀ id ob,H[id]?=some (some ob)→aK κ M (XX κ H) B w id ob):okH H:=by
 refine m7 fun id ob hi=>?_
 have h:=hh id ob hi
 cases ob with
 | box cs=>simp only [aK] at h; obtain ⟨b,arr,T,_,_,_,h4,_⟩:=h; exact dC h4
 | arr e sz l=>simp only [aK] at h; obtain ⟨_,h1,xs,_,h3,_⟩:=h; exact ⟨h1,AB h3⟩
 | mat e e2 sz l=>simp only [aK] at h; exact h.2.1
 | mp kt l=>trivial
 | gh l=>trivial
 | itr s p=>simp only [aK] at h; obtain ⟨_,_,_,_,_,_,h5,_⟩:=h; exact h5
theorem GC {σ:St} {id:Nat} {x:List (V × Bool)} (h:σ.gh? id=some x):σ.h[id]?=some (some (.gh x)):=by
 unfold St.gh? at h
 split at h
 · cases h; assumption
 · cases h
theorem jO (H:Rel N M0 B w0 κ M σ a w) (hJC:qq P M0 B) {d:Option Nat} (hd:∀ t,d=some t→t < N∧t ∉ B.ps) {f:FuncId} {vs:List V} {K:St→Prop} (hW:fB (Cn P) d f vs K σ)
 {cs:Array Value} (hcs:aa M (XX κ σ.h) vs cs.toList) {Nx:Act→World→Prop} (hK:∀ κ' M' σ' a' w',K σ'→Rel N M0 B w0 κ' M' σ' a' w'→Nx a' w') {Q:Exit→Act→World→Prop} (o:Oper) (ho:o.dst=d):
 o.upon P a Nx Q ((callFunc f cs).run P w):=by
 subst ho
 obtain ⟨ps,hcur,r,H',hkin,hΦ,hk⟩:=hW
 obtain ⟨hm,hA,hq⟩:=A1 (h:=σ.h) (pvs:=bH vs ps) (vs:=vs)
 generalize hqq:(dY σ.h (bH vs ps) vs).1=q at *
 generalize hmm:(dY σ.h (bH vs ps) vs).2=m at *
 clear hqq hmm
 have hqk:=O3 hkin
 have hAn:(et [] (ai (bH vs ps))).Nodup:=ce _ _ List.nodup_nil
 have hAlt:∀ id∈m.take q,∃ i u,i∈ps∧vs[i]?=some u∧σ.cur u=true∧id∈aq u:=by
  intro id hid
  rw [hA] at hid
  rcases wh _ _ hid with h | h
  · cases h
  · obtain ⟨u,h1,h2⟩:=Am h
    obtain ⟨i,h3,h4⟩:=tr h1
    exact ⟨i,u,h3,h4,Fa hcur h1,h2⟩
 have hAin:∀ id∈m.take q,∃ ob,σ.h[id]?=some (some ob):=by
  intro id hid
  obtain ⟨i,u0,_,_,hc0,hv0⟩:=hAlt id hid
  obtain ⟨u,hc,hv⟩:=x5 hc0 hv0
  cases u<;>simp [St.cur0] at hc<;>simp only [aq,List.cons.injEq,and_true] at hv<;>subst hv
  · split at hc
    · rename_i h; exact ⟨_,dI h⟩
    · obtain ⟨x,hx⟩:=Option.isSome_iff_exists.1 hc; exact ⟨_,GC hx⟩
  · obtain ⟨x,hx⟩:=Option.isSome_iff_exists.1 hc.1; exact ⟨_,lK hx⟩
  · split at hc
    · rename_i h; exact ⟨_,dI h⟩
    · cases hc
 have hn:σ.h.length=σ.h.length:=rfl
 generalize hD:t6 q m σ.h.length H'.length=D at *
 have hDl:D.length=H'.length:=by
  rw [←hD]; unfold t6; rw [List.length_append,hA,←hq]; simp; omega
 have hDget:∀ {j id:Nat},D[j]?=some id→(j < q∧m[j]?=some id∧id∈m.take q)∨(q≤j∧σ.h.length≤id∧id < σ.h.length + (H'.length - q)):=by
  intro j id h
  rw [←hD] at h
  unfold t6 at h
  have hl:(m.take q).length=q:=by rw [hA,←hq]
  by_cases hj:j < q
  · rw [List.getElem?_append_left (by omega)] at h
    refine .inl ⟨hj,?_,List.mem_of_getElem? h⟩
    rwa [List.getElem?_take,if_pos hj] at h
  · rw [List.getElem?_append_right (by omega)] at h
    have:=vw h
    exact .inr ⟨by omega,by omega,by omega⟩
 have hDlt:∀ {j id:Nat},D[j]?=some id→id < σ.h.length + (H'.length - q):=by
  intro j id h
  rcases hDget h with ⟨_,_,h1⟩ | ⟨_,_,h1⟩
  · obtain ⟨ob,h2⟩:=hAin id h1; have:=(List.getElem?_eq_some_iff.1 h2).1; omega
  · exact h1
 have hDn:D.Nodup:=by
  rw [←hD]
  unfold t6
  rw [List.nodup_append]
  refine ⟨by rw [hA]; exact hAn,List.nodup_range',fun x hx y hy=>?_⟩
  obtain ⟨ob,h2⟩:=hAin x hx
  have:=(List.getElem?_eq_some_iff.1 h2).1
  simp [List.mem_range'] at hy
  omega
 obtain ⟨k1,k2,k3⟩:=qN m σ
 have H1:=H.ren hm [] (fun t v h=>by simp [lk] at h)
 simp only [BS] at H1
 -- what is dY
 generalize hκc:κ.ren m=κc at *
 generalize hHc:fD σ.h m m=Hc at *
 have hlb:∀ g,SI κc Hc g→∃ id ob,id∈m∧σ.h[id]?=some (some ob)∧κ.bl id g:=by
  rintro g ⟨j,ob,h1,h2⟩
  rw [←hHc] at h1
  obtain ⟨id,ob',g1,g2,_⟩:=iW h1
  refine ⟨id,ob',List.mem_of_getElem? g1,g2,?_⟩
  rw [←hκc] at h2
  simpa [Kap.ren,List.getD,g1] using h2
 have hown:∀ g,(cI κc Hc w ps cs B.J).own g→B.own g:=by
  rintro g (h | h)
  · have h:w.heap.size≤g:=h
    exact .inl (by rw [H.base]; have:=H.blw.size; omega)
  · obtain ⟨id,ob,_,h2,h3⟩:=hlb g h
    exact (H.blk_lt h2 h3).1
 have hjs:Fq (cI κc Hc w ps cs B.J):=fun k l S M M' w1 w2 h1 h2 h3 h4 h5=>H.jst k l S M M' w1 w2 h1 ⟨h2.os,h2.tape,h2.output,h2.size,fun g hg hgs=>h2.block g (by rw [H.base] at hg; have:=H.blw.size; show g < w.heap.size; omega) (fun hs=>(hown g (.inr hs)).elim (fun h=>by omega) hgs),h2.siz⟩ h3 h4 h5
 have hpre:Heap κc M (cI κc Hc w ps cs B.J) w Hc:=
  { heap:=fun id ob h=>I1 (B:=B) (B':=cI κc Hc w ps cs B.J) (fun g hg=>Or.inr (show SI κc Hc g from ⟨id,ob,h,hg⟩)) rfl (H1.heap id ob h),jst:=hjs,inj:=H1.inj,gl:=H1.sub.gl.mono H1.sub.sub,snd:=H1.snd,sep:=H1.sep,fmS:=H1.sub.fmS }
 have hus:aa M (XX κc Hc) (cW m vs) cs.toList:=by
  have:=f8 (yu (M:=M) (κ:=κ) (h:=σ.h) hm) hcs
  rwa [hκc,hHc] at this
 refine hΦ M w κc cs B.J (fun k us b l S M1 w1 cs1 h1 h2 h3 h4=>hJC k us b l S M1 w1 cs1 h1 h2 h3 fun p v hp=>(h4 p v hp).elim (H.new p v) fun h=>.inr (hown _ h)) hpre hus o a Nx Q ?_
 intro c M' w' κ' hr hu hp' hM hnew hpin
 have hback:∀ {id:Nat} {ob:Ob},(σ.back q m H')[id]?=some (some ob)→(∃ (j:Nat) (ob':Ob),D[j]?=some id∧H'[j]?=some (some ob')∧j9 D (some ob')=some ob)∨(id ∉ D∧id ∉ m∧σ.h[id]?=some (some ob)):=by
  intro id ob h
  unfold St.back at h
  rw [hD] at h
  rcases Ka _ _ _ hDn (by rw [u6,hDl]) h with ⟨j,h1,h2⟩ | ⟨h1,h2⟩
  · obtain ⟨ob',h3,h4⟩:=Fg h2
    exact .inl ⟨j,ob',h1,h3,h4⟩
  · by_cases hlt:id < (σ.kill m).h.length
    · rw [List.getElem?_append_left hlt] at h2
      obtain ⟨h3,h4⟩:=k3 id ob h2
      exact .inr ⟨h1,h4,h3⟩
    · rw [List.getElem?_append_right (by omega)] at h2
      obtain ⟨_,h3⟩:=List.getElem?_eq_some_iff.1 h2
      simp at h3
 have hblen:(σ.back q m H').length=σ.h.length + (H'.length - q):=by
  unfold St.back; rw [Aj]; simp [k2]
 generalize hB2:σ.back q m H'=h2 at *
 -- what the numbers stand for
 let κ2:Kap:=⟨fun id=>match idx id D with
  | some j=>κ' j
  | none=>κ id,fun id=>match idx id D with
  | some j=>κ'.row j
  | none=>κ.row id,fun id=>match idx id D with
  | some j=>κ'.bl j
  | none=>κ.bl id,κ.fm⟩
 have κD3:∀ {j id:Nat},D[j]?=some id→κ2 id=κ' j∧κ2.row id=κ'.row j∧κ2.bl id=κ'.bl j:=by
  intro j id h
  simp only [κ2,vP hDn h,and_self]
 have κO3:∀ {id:Nat},id ∉ D→κ2 id=κ id∧κ2.row id=κ.row id∧κ2.bl id=κ.bl id:=by
  intro id h
  simp only [κ2]
  split
  · rename_i j hj; exact (h (List.mem_of_getElem? (i5 hj))).elim
  · exact ⟨rfl,rfl,rfl⟩
 have κD:∀ {j id:Nat},D[j]?=some id→κ2 id=κ' j:=fun h=>(κD3 h).1
 have κO:∀ {id:Nat},id ∉ D→κ2 id=κ id:=fun h=>(κO3 h).1
 have hturn:∀ {j id:Nat},D[j]?=some id→id < σ.h.length→(∀ cs',H'[j]?=some (some (Ob.box cs'))→(∃ cs0,σ.h[id]?=some (some (Ob.box cs0)))∧κ' j=κ id)∧
  (∀ e sz l,H'[j]?=some (some (Ob.arr e sz l))→∃ l0,σ.h[id]?=some (some (Ob.arr e sz l0))∧l0.length≤l.length∧(l0.length=l.length→κ' j=κ id))∧((∀ e e2 sz l,H'[j]?≠some (some (Ob.mat e e2 sz l)))∧(∀ o,H'[j]?=some (some o)→o.nam=true→(∃ o',σ.h[id]?=some (some o')∧o'.nam=true)∧κ' j=κ id)):=by
  intro j id hj hlt
  refine and_assoc.1 ⟨?_,fun e e2 sz l hl=>by
   rcases hDget hj with ⟨h1,_,_⟩ | ⟨_,h1,_⟩
   · rcases lj hkin h1 with ⟨_,_,_,g2⟩ | ⟨_,_,_,_,_,g2⟩ | ⟨_,_,_,g2⟩<;>rw [hl] at g2<;>cases g2
   · omega,fun o hl hn=>by
   rcases hDget hj with ⟨h1,h2,h3⟩ | ⟨_,h1,_⟩
   · rcases lj hkin h1 with ⟨_,_,_,g2⟩ | ⟨_,_,_,_,_,g2⟩ | ⟨l1,l2,g1,g2⟩
     · rw [hl] at g2; cases g2; cases hn
     · rw [hl] at g2; cases g2; cases hn
     · obtain ⟨i,u0,hi,hvi,hcu0,hvu0⟩:=hAlt id h3
       obtain ⟨d0,hd1,hd02⟩:=dr hcs hvi
       have hd03:=hpin i hi _ d0 (wy hvi) (by simpa using hd1)
       obtain ⟨u,d,hcu,hvu,hd2,hd3⟩:=oW hcu0 hd02 hd03 hvu0
       have hx:=vP hm h2
       rw [←hHc] at g1
       obtain ⟨ob0,q1⟩:=hAin id h3
       have q2:=iI (m:=m) h2 q1
       rw [g1] at q2
       have q3:ob0=.gh l1:=DX (by simpa using q2.symm) rfl
       subst q3
       cases u<;>simp [St.cur0] at hcu<;>simp only [aq,List.cons.injEq,and_true] at hvu<;>subst hvu
       · simp only [ren,hx,rep,XX] at hd2 hd3
         refine ⟨⟨_,q1,rfl⟩,?_⟩
         rw [←hd3.2.2.2.2 o hl hn,←hd2.2.2.2.2 _ q1 rfl]
       · simp [St.box?,q1] at hcu
       · simp [St.arr?,q1] at hcu
   · omega⟩
  rcases hDget hj with ⟨h1,h2,h3⟩ | ⟨_,h1,_⟩
  · obtain ⟨i,u0,hi,hvi,hcu0,hvu0⟩:=hAlt id h3
    obtain ⟨d0,hd1,hd02⟩:=dr hcs hvi
    have hd03:=hpin i hi _ d0 (wy hvi) (by simpa using hd1)
    obtain ⟨u,d,hcu,hvu,hd2,hd3⟩:=oW hcu0 hd02 hd03 hvu0
    have hx:=vP hm h2
    have hkg:=lj hkin h1
    rw [←hHc] at hkg
    cases u<;>simp [St.cur0] at hcu<;>simp only [aq,List.cons.injEq,and_true] at hvu<;>subst hvu
    · rename_i id n
      split at hcu
      · rename_i e0 sz0 l0 har
        have ha:=dI har
        simp only at ha
        simp at hcu
        simp only [ren,hx,rep,XX] at hd2 hd3
        have hg:=iI (m:=m) h2 ha
        refine ⟨fun cs' hc=>?_,fun e sz l hl=>?_⟩
        · rcases hkg with ⟨_,_,g1,g2⟩ | ⟨_,_,_,_,g1,g2⟩ | ⟨_,_,g1,g2⟩
          · rw [hg] at g1; simp [dN] at g1
          · rw [hc] at g2; cases g2
          · rw [hg] at g1; simp [dN] at g1
        · rcases hkg with ⟨_,_,g1,g2⟩ | ⟨_,_,_,_,g1,g2⟩ | ⟨_,_,g1,g2⟩
          · rw [hl] at g2; cases g2
          · rw [hg] at g1
            simp [dN] at g1
            rw [hl] at g2
            cases g2
            obtain ⟨rfl,rfl,rfl⟩:=g1
            refine ⟨l0,ha,?_,fun heq=>?_⟩
            · have:=(hd3.2.2.1 _ _ _ hl).1; omega
            · have h5:=(hd3.2.2.1 _ _ _ hl).2 (by omega)
              have h6:=(hd2.2.2.1 _ _ _ ha).2 hcu
              rw [←h5,←h6]
          · rw [hg] at g1; simp [dN] at g1
      · obtain ⟨x,hx0⟩:=Option.isSome_iff_exists.1 hcu
        have ha:=GC hx0
        have hg:=iI (m:=m) h2 ha
        refine ⟨fun cs' hc=>?_,fun e sz l hl=>?_⟩
        · rcases hkg with ⟨_,_,g1,g2⟩ | ⟨_,_,_,_,g1,g2⟩ | ⟨_,_,g1,g2⟩
          · rw [hg] at g1; simp [dN] at g1
          · rw [hc] at g2; cases g2
          · rw [hc] at g2; cases g2
        · rcases hkg with ⟨_,_,g1,g2⟩ | ⟨_,_,_,_,g1,g2⟩ | ⟨_,_,g1,g2⟩
          · rw [hl] at g2; cases g2
          · rw [hg] at g1; simp [dN] at g1
          · rw [hl] at g2; cases g2
    · rename_i id off
      obtain ⟨x,hx0⟩:=Option.isSome_iff_exists.1 hcu.1
      have hb:=lK hx0
      have hoff:off=0:=hcu.2
      subst hoff
      simp only [ren,hx,rep,XX] at hd2 hd3
      have hg:=iI (m:=m) h2 hb
      refine ⟨fun cs' hc=>⟨⟨_,hb⟩,?_⟩,fun e sz l hl=>?_⟩
      · obtain ⟨b1,e1,e2⟩:=hd2.2.2 _ hb
        obtain ⟨b2,e3,e4⟩:=hd3.2.2 _ hc
        rw [e2] at e4
        cases e4
        rw [e1,e3]
      · rcases hkg with ⟨_,_,g1,g2⟩ | ⟨_,_,_,_,g1,g2⟩ | ⟨_,_,g1,g2⟩
        · rw [hl] at g2; cases g2
        · rw [hg] at g1; simp [dN] at g1
        · rw [hg] at g1; simp [dN] at g1
    · rename_i id n i0 off
      split at hcu
      · rename_i e0 sz0 l0 har
        have ha:=dI har
        simp only at ha
        simp at hcu
        simp only [ren,hx,rep,XX] at hd2 hd3
        have hg:=iI (m:=m) h2 ha
        refine ⟨fun cs' hc=>?_,fun e sz l hl=>?_⟩
        · rcases hkg with ⟨_,_,g1,g2⟩ | ⟨_,_,_,_,g1,g2⟩ | ⟨_,_,g1,g2⟩
          · rw [hg] at g1; simp [dN] at g1
          · rw [hc] at g2; cases g2
          · rw [hg] at g1; simp [dN] at g1
        · rcases hkg with ⟨_,_,g1,g2⟩ | ⟨_,_,_,_,g1,g2⟩ | ⟨_,_,g1,g2⟩
          · rw [hl] at g2; cases g2
          · rw [hg] at g1
            simp [dN] at g1
            rw [hl] at g2
            cases g2
            obtain ⟨rfl,rfl,rfl⟩:=g1
            refine ⟨l0,ha,?_,fun heq=>?_⟩
            · have:=(hd3.2.2.1 _ _ _ hl).1; omega
            · clear hg
              obtain ⟨b1,cap1,q1,q2⟩:=(hd3.2.2.1 _ _ _ hl).2 (by omega) hcu.2
              obtain ⟨b2,cap2,q3,q4⟩:=(hd2.2.2.1 _ _ _ ha).2 hcu.1 hcu.2
              rw [q2] at q4
              simp only [Value.pointer.injEq,Option.some.injEq,Addr.mk.injEq,and_true] at q4
              obtain ⟨rfl,_⟩:=q4
              have o1:=hp'.heap j _ hl
              have o2:=H.heap id _ ha
              simp only [aK] at o1 o2
              obtain ⟨hsz0,_,_,o1,_⟩:=o1
              obtain ⟨_,_,_,o2,_⟩:=o2
              rcases o1.2 with ⟨o3,_⟩ | ⟨g1',cap1',cur1,o3,_,o4,_,_,o5,_⟩
              · rw [q1] at o3; cases o3
              · rcases o2.2 with ⟨o6,_⟩ | ⟨g2',cap2',cur2,o6,_,o7,_,_,o8,_⟩
                · rw [q3] at o6; cases o6
                · rw [q1] at o3
                  rw [q3] at o6
                  simp only [Value.slice.injEq,Option.some.injEq,Addr.mk.injEq,and_true] at o3 o6
                  obtain ⟨rfl,_,rfl⟩:=o3
                  obtain ⟨rfl,_,rfl⟩:=o6
                  obtain ⟨cur',T',z',s1,s2⟩:=hu.siz _ _ _ _ o7
                  rw [o4] at s1
                  simp only [Option.some.injEq,Obj.cells.injEq] at s1
                  obtain ⟨rfl,_,_⟩:=s1
                  have:cap1=cap2:=Nat.eq_of_mul_eq_mul_right hsz0 (by rw [←o5,←o8,s2])
                  rw [q1,q3,this]
          · rw [hg] at g1; simp [dN] at g1
      · cases hcu
  · omega
 have V1:∀ v c,XX κ σ.h v c→XX κ2 h2 v c:=by
  intro v c hx
  have km:∀ {id:Nat} {e e2 sz:Nat} {l:List Rw},id < σ.h.length→h2[id]?=some (some (.mat e e2 sz l))→κ2 id=κ id∧κ2.row id=κ.row id∧σ.h[id]?=some (some (.mat e e2 sz l)):=by
   intro id e e2 sz l hlt hl
   rcases hback hl with ⟨j,ob',h1,h3,h4⟩ | ⟨h1,_,h3⟩
   · have:=(hturn h1 hlt).2.2.1 e e2 sz l
     cases ob'<;>simp [j9] at h4
     obtain ⟨rfl,rfl,rfl,rfl⟩:=h4
     exact (this h3).elim
   · exact ⟨κO h1,(κO3 h1).2.1,h3⟩
  have kp:∀ {id:Nat} {o:Ob},id < σ.h.length→h2[id]?=some (some o)→o.nam=true→κ2 id=κ id∧∃ o',σ.h[id]?=some (some o')∧o'.nam=true:=by
   intro id o hlt hl hn
   rcases hback hl with ⟨j,ob',h1,h3,h4⟩ | ⟨h1,_,h3⟩
   · have h5:ob'=o:=by cases ob'<;>simp [j9] at h4<;>first | exact h4 | (subst h4; cases hn)
     subst h5
     obtain ⟨g1,g2⟩:=(hturn h1 hlt).2.2.2 _ h3 hn
     exact ⟨by rw [κD h1,g2],g1⟩
   · exact ⟨κO h1,_,h3,hn⟩
  cases v<;>simp only [XX] at hx ⊢
  case ref id n=>
   refine ⟨hx.1,by omega,fun e sz l hl=>?_,fun e e2 sz l hl=>?_,fun o hl hn=>by obtain ⟨g1,o',g2,g3⟩:=kp hx.2.1 hl hn; rw [g1]; exact hx.2.2.2.2 _ g2 g3⟩
   · rcases hback hl with ⟨j,ob',h1,h3,h4⟩ | ⟨h1,_,h3⟩
     · cases ob'<;>simp [j9] at h4
       obtain ⟨rfl,rfl,rfl⟩:=h4
       obtain ⟨l0,h5,h6,h7⟩:=(hturn h1 hx.2.1).2.1 _ _ _ h3
       obtain ⟨g1,g2⟩:=hx.2.2.1 _ _ _ h5
       exact ⟨by omega,fun he=>by rw [κD h1,h7 (by omega)]; exact g2 (by omega)⟩
     · rw [κO h1]; exact hx.2.2.1 _ _ _ h3
   · obtain ⟨g1,_,g2⟩:=km hx.2.1 hl
     rw [g1]; exact hx.2.2.2.1 _ _ _ _ g2
  case ptr id off=>
   refine ⟨hx.1,by omega,fun cs' hl=>?_⟩
   rcases hback hl with ⟨j,ob',h1,h3,h4⟩ | ⟨h1,_,h3⟩
   · cases ob'<;>simp [j9] at h4
     obtain ⟨⟨cs0,h5⟩,h6⟩:=(hturn h1 hx.2.1).1 _ h3
     rw [κD h1,h6]; exact hx.2.2 _ h5
   · rw [κO h1]; exact hx.2.2 _ h3
  case eptr id n i off=>
   refine ⟨hx.1,by omega,fun e sz l hl=>?_,fun e e2 sz l hl=>?_⟩
   · rcases hback hl with ⟨j,ob',h1,h3,h4⟩ | ⟨h1,_,h3⟩
     · cases ob'<;>simp [j9] at h4
       obtain ⟨rfl,rfl,rfl⟩:=h4
       obtain ⟨l0,h5,h6,h7⟩:=(hturn h1 hx.2.1).2.1 _ _ _ h3
       obtain ⟨g1,g2⟩:=hx.2.2.1 _ _ _ h5
       exact ⟨by omega,fun he hi=>by rw [κD h1,h7 (by omega)]; exact g2 (by omega) hi⟩
     · rw [κO h1]; exact hx.2.2.1 _ _ _ h3
   · obtain ⟨g1,_,g2⟩:=km hx.2.1 hl
     rw [g1]; exact hx.2.2.2 _ _ _ _ g2
  case fseq sz l=>exact hx
  case mref id i n=>
   refine ⟨hx.1,by omega,fun e e2 sz l hl=>?_⟩
   obtain ⟨_,g1,g2⟩:=km hx.2.1 hl
   rw [g1]; exact hx.2.2 _ _ _ _ g2
  case mptr id i n k off=>
   refine ⟨hx.1,by omega,fun e e2 sz l hl=>?_⟩
   obtain ⟨_,g1,g2⟩:=km hx.2.1 hl
   rw [g1]; exact hx.2.2 _ _ _ _ g2
 have V2:∀ v c,XX κ' H' v c→rep M' (XX κ2 h2) (bck D v) c:=by
  intro v c hx
  have key:∀ {j id:Nat} {ob:Ob},D[j]?=some id→h2[id]?=some (some ob)→∃ ob',H'[j]?=some (some ob')∧j9 D (some ob')=some ob:=by
   intro j id ob hj hl
   rcases hback hl with ⟨j',ob',h1,h3,h4⟩ | ⟨h1,_,_⟩
   · have:j=j':=(List.getElem?_inj (List.getElem?_eq_some_iff.1 hj).1 hDn).1 (hj.trans h1.symm)
     subst this
     exact ⟨ob',h3,h4⟩
   · exact (h1 (List.mem_of_getElem? hj)).elim
  have ka:∀ {j id:Nat} {e sz:Nat} {l:List V},D[j]?=some id→h2[id]?=some (some (.arr e sz l))→H'[j]?=some (some (.arr e sz l)):=by
   intro j id e sz l hj hl
   obtain ⟨ob',h3,h4⟩:=key hj hl
   cases ob'<;>simp [j9] at h4
   obtain ⟨rfl,rfl,rfl⟩:=h4
   exact h3
  have km:∀ {j id:Nat} {e e2 sz:Nat} {l:List Rw},D[j]?=some id→h2[id]?=some (some (.mat e e2 sz l))→H'[j]?=some (some (.mat e e2 sz l)):=by
   intro j id e e2 sz l hj hl
   obtain ⟨ob',h3,h4⟩:=key hj hl
   cases ob'<;>simp [j9] at h4
   obtain ⟨rfl,rfl,rfl,rfl⟩:=h4
   exact h3
  have kp:∀ {j id:Nat} {o:Ob},D[j]?=some id→h2[id]?=some (some o)→o.nam=true→H'[j]?=some (some o):=by
   intro j id o hj hl hn
   obtain ⟨ob',h3,h4⟩:=key hj hl
   have h5:ob'=o:=by cases ob'<;>simp [j9] at h4<;>first | exact h4 | (subst h4; cases hn)
   rw [←h5]; exact h3
  cases v<;>simp only [XX] at hx
  case ref j n=>
   simp only [bck]
   split
   · rename_i id hj
     simp only [rep,XX]
     rw [κD hj]
     exact ⟨hx.1,by rw [hblen]; exact hDlt hj,fun e sz l hl=>hx.2.2.1 _ _ _ (ka hj hl),fun e e2 sz l hl=>hx.2.2.2.1 _ _ _ _ (km hj hl),fun o hl hn=>hx.2.2.2.2 _ (kp hj hl hn) hn⟩
   · exact hx.1
  case ptr j off=>
   simp only [bck]
   split
   · rename_i id hj
     simp only [rep,XX]
     refine ⟨hx.1,by rw [hblen]; exact hDlt hj,fun cs' hl=>?_⟩
     obtain ⟨ob',h3,h4⟩:=key hj hl
     cases ob'<;>simp [j9] at h4
     rw [κD hj]; exact hx.2.2 _ h3
   · exact hx.1
  case eptr j n i off=>
   simp only [bck]
   split
   · rename_i id hj
     simp only [rep,XX]
     rw [κD hj]
     exact ⟨hx.1,by rw [hblen]; exact hDlt hj,fun e sz l hl=>hx.2.2.1 _ _ _ (ka hj hl),fun e e2 sz l hl=>hx.2.2.2 _ _ _ _ (km hj hl)⟩
   · exact hx.1
  case fseq sz l=>
   simp only [bck]
   exact aA (ax hp'.fmS (X:=NX) (fun _ _ h=>h) (.seq sz l) c hx.2)
  case mref j i n=>
   simp only [bck]
   split
   · rename_i id hj
     simp only [rep,XX]
     rw [(κD3 hj).2.1]
     exact ⟨hx.1,by rw [hblen]; exact hDlt hj,fun e e2 sz l hl=>hx.2.2 _ _ _ _ (km hj hl)⟩
   · exact hx.1
  case mptr j i n k off=>
   simp only [bck]
   split
   · rename_i id hj
     simp only [rep,XX]
     rw [(κD3 hj).2.1]
     exact ⟨hx.1,by rw [hblen]; exact hDlt hj,fun e e2 sz l hl=>hx.2.2 _ _ _ _ (km hj hl)⟩
   · exact hx.1
 have hold:∀ {id:Nat} {ob:Ob} {g:Nat},id ∉ m→σ.h[id]?=some (some ob)→κ.bl id g→¬(cI κc Hc w ps cs B.J).own g:=by
  rintro id ob g h1 h3 h4 (h5 | h5)
  · have h5:w.heap.size≤g:=h5
    have:=(H.blk_lt h3 h4).2
    omega
  · obtain ⟨id',ob',g1,g2,g3⟩:=hlb g h5
    have:=H.inj id id' ob ob' g h3 g2 h4 g3
    subst this
    exact h1 g1
 have hnewblk:∀ {j:Nat} {ob:Ob} {g:Nat},H'[j]?=some (some ob)→κ'.bl j g→(cI κc Hc w ps cs B.J).own g:=fun {j ob g} h1 h3=>(D4 (hp'.heap j ob h1) g h3).1
 have hfin:Rel N M0 B w0 κ2 M' ⟨σ.r,h2⟩ a w':=
  { dfr:=H.dfr,jst:=H.jst,pin:=H.pin,size:=H.size
    regs:=fun t v ht=>by
     obtain ⟨g1,c,g2,g3⟩:=H.regs t v ht
     exact ⟨g1,c,g2,ax hM V1 _ _ g3⟩
    heap:=fun id ob hl=>by
     rcases hback hl with ⟨j,ob',h1,h3,h4⟩ | ⟨h1,h3,h4⟩
     · have hob:=hp'.heap j ob' h3
       cases ob' with
       | box cs'=>
         simp only [j9,Option.some.injEq] at h4
         subst h4
         simp only [aK] at hob ⊢
         obtain ⟨b,arr,T,e1,e2,e3,e4,e5⟩:=hob
         rw [κD h1,(κD3 h1).2.2]
         exact ⟨b,arr,T,e1,hown b e2,e3,kL V2 e4,e5⟩
       | arr e sz l=>
         simp only [j9,Option.some.injEq] at h4
         subst h4
         simp only [aK] at hob ⊢
         rw [κD h1,(κD3 h1).2.2]
         obtain ⟨e1,e2,xs,e3,e4,e5,e6⟩:=hob
         exact ⟨e1,e2,xs,e3,e4,fun g hg=>hown g (e5 g hg),e6⟩
       | mat e e2 sz l=>
         simp only [j9,Option.some.injEq] at h4
         subst h4
         simp only [aK] at hob ⊢
         rw [κD h1,(κD3 h1).2.1,(κD3 h1).2.2]
         obtain ⟨e1,e2,e3,e4,e5,e6,e7,e8⟩:=hob
         exact ⟨e1,e2,e3,e4,e5,e6,fun g hg=>hown g (e7 g hg),e8⟩
       | mp kt l=>
         simp only [j9,Option.some.injEq] at h4
         subst h4
         simp only [aK] at hob ⊢
         rw [κD h1,(κD3 h1).2.2]
         obtain ⟨b,es,clock,e1,e2,e3⟩:=hob
         exact ⟨b,es,clock,e1,hown b e2,e3⟩
       | itr s p=>
         simp only [j9,Option.some.injEq] at h4
         subst h4
         simp only [aK] at hob ⊢
         rw [κD h1,(κD3 h1).2.2]
         obtain ⟨b,bs,e1,e2,e3⟩:=hob
         exact ⟨b,bs,e1,hown b e2,e3⟩
       | gh l=>
         simp only [j9,Option.some.injEq] at h4
         subst h4
         simp only [aK] at hob ⊢
         rw [κD h1,(κD3 h1).2.2]
         obtain ⟨k,e1,e2,e3⟩:=hob
         exact ⟨k,e1,e2,fun g hg=>⟨hown g (e3 g hg).1,(e3 g hg).2⟩⟩
     · refine ej hM V1 (κO3 h1) (fun g hg=>?_) H.jst ⟨hu.os,hu.tape,hu.output,hu.size,fun g hg hgs=>hu.block g (by rw [H.base] at hg; have:=H.blw.size; show g < w.heap.size; omega) (fun hs=>(hown g (.inr hs)).elim (fun h=>by omega) hgs),hu.siz⟩ hp'.snd (H.heap id ob h4)
       refine hu.block g ?_ (fun hs=>hold h3 h4 hg (.inr hs))
       exact (H.blk_lt h4 hg).2
    inj:=fun i j oi oj g hi hj gi gj=>by
     rcases hback hi with ⟨i',oi',h1,h3,_⟩ | ⟨h1,h3,h4⟩<;>rcases hback hj with ⟨j',oj',g1,g3,_⟩ | ⟨g1,g3,g4⟩
     · rw [(κD3 h1).2.2] at gi; rw [(κD3 g1).2.2] at gj
       have:=hp'.inj i' j' oi' oj' g h3 g3 gi gj
       subst this
       rw [h1] at g1; cases g1; rfl
     · rw [(κD3 h1).2.2] at gi; rw [(κO3 g1).2.2] at gj
       exact (hold g3 g4 gj (hnewblk h3 gi)).elim
     · rw [(κO3 h1).2.2] at gi; rw [(κD3 g1).2.2] at gj
       exact (hold h3 h4 gi (hnewblk g3 gj)).elim
     · rw [(κO3 h1).2.2] at gi; rw [(κO3 g1).2.2] at gj
       exact H.inj i j oi oj g h4 g4 gi gj
    snd:=hp'.snd
    sep:=fun p v hp id ob hl=>by
     rcases hback hl with ⟨j,ob',h1,h3,_⟩ | ⟨h1,h3,h4⟩
     · rw [(κD3 h1).2.2]; exact hp'.sep p v hp j ob' h3
     · rw [(κO3 h1).2.2]
       intro hg
       rcases hnew p v hp with h | h
       · exact H.sep p v h id ob h4 hg
       · exact hold h3 h4 hg h
    sub:=⟨fun p v h=>hM p v (H.sub.sub p v h),fun p v h=>hM p v (H.sub.fmS p v h),H.sub.fmN,H.sub.fbn,H.sub.gl⟩
    new:=fun p v h=>by
     rcases hnew p v h with h | h
     · exact H.new p v h
     · exact .inr (hown _ h)
    base:=H.base
    blw:=H.blw.trans ⟨hu.os,hu.tape,hu.output,hu.size,fun k hk hs=>by
     have hkw:k < w.heap.size:=by have:=H.blw.size; rw [←H.base] at this; omega
     refine hu.block k hkw (fun hb=>?_)
     rcases hown k (.inr hb) with h | h
     · omega
     · exact hs h,hu.siz⟩ }
 have:=hk (iV hr) (HZ hp'.heap)
 exact hK _ _ _ _ _ this (hfin.put' hd (Dq V2 hr))
theorem mP {M:Mem} {sz:Nat}:∀ {us:List V} {cs:List Value},bo sz us=true→aa M NX us cs→
 ∀ (i:Nat) (c:Value),cs[i]?=some c→c.cells.size=sz∧(∀ u∈c.cells.toList,ar u)
 | [],cs,_,h,i,c,hi=>by simp only [aa] at h; subst h; simp at hi
 | v::vs,cs,hs,h,i,c,hi=>by
   simp only [aa] at h
   obtain ⟨c0,cs',rfl,h2,h3⟩:=h
   simp only [bo,Bool.and_eq_true,decide_eq_true_eq] at hs
   cases i with
   | zero=>
     simp at hi
     subst hi
     have:=cg h2 lN (lb hs.1.2)
     refine ⟨?_,this.2⟩
     have h4:=aG this.1
     simp at h4; omega
   | succ i=>simp at hi; exact mP hs.2 h3 i c hi
def jE (cs:List Value):List Value:=(cs.map fun c=>c.cells.toList).flatten
theorem tp {M:Mem} {sz:Nat}:∀ {us:List V} {cs:List Value},bo sz us=true→aa M NX us cs→al M sz us (jE cs)
 | [],cs,_,h=>by simp only [aa] at h; subst h; simp [al,jE]
 | v::vs,cs,hs,h=>by
   simp only [aa] at h
   obtain ⟨c0,cs',rfl,h2,h3⟩:=h
   simp only [bo,Bool.and_eq_true,decide_eq_true_eq] at hs
   have hk:=cg h2 lN (lb hs.1.2)
   have h4:=aG hk.1
   simp only [al]
   exact ⟨c0,jE cs',by simp [jE],h2,by simp at h4; omega,hk.2,tp hs.2 h3⟩
theorem rK {t:TypeId} {n:Nat} (hs:dW P t=some n) {b off:Nat} {T:TypeId} {cur:Array Value} (hg:w.heap[b]?=some (.cells cur T (0,0))) {c:Value} (hc:c.cells.size=n) (h1:∀ u∈c.cells.toList,ar u) (hle:off + n≤cur.size):
 (Instr.storeAt t (.pointer (some ⟨b,off,none⟩)) c).run P w=.ok () (w.setRow b (cur.toList.take off++c.cells.toList++cur.toList.drop (off + c.cells.toList.length)).toArray):=by
 have h:=run_storeCells_at P b off T c.cells.toList 0 cur w hg (by simp; omega) h1
 simp only [Nat.add_zero] at h
 simp [Instr.storeAt,Instr.sureAddr,storeVar,aU hs,hc,h]
theorem ww {M:Mem} {sz:Nat}:∀ {l:List V} {xs:List Value} {i:Nat} {v':V} {y':Value},al M sz l xs→i < l.length→rep M NX v' y'→y'.cells.size=sz→(∀ u∈y'.cells.toList,ar u)→
 al M sz (l.set i v') (xs.take (i * sz)++y'.cells.toList++xs.drop (i * sz + sz))
 | [],xs,i,v',y',h,hi,_,_,_=>by simp at hi
 | v::vs,xs,0,v',y',h,hi,h1,h2,h3=>by
   simp only [al] at h
   obtain ⟨y,rest,rfl,g1,g2,g3,g4⟩:=h
   simp only [List.set_cons_zero,al]
   refine ⟨y',rest,?_,h1,h2,h3,g4⟩
   simp [g2,List.drop_append]
 | v::vs,xs,i + 1,v',y',h,hi,h1,h2,h3=>by
   simp only [al] at h
   obtain ⟨y,rest,rfl,g1,g2,g3,g4⟩:=h
   simp only [List.set_cons_succ,al]
   refine ⟨y,_,?_,g1,g2,g3,ww g4 (by simpa using hi) h1 h2 h3⟩
   have e1:(i + 1) * sz=sz + i * sz:=by rw [Nat.add_mul]; omega
   have hy:y.cells.toList.length=sz:=by simpa using g2
   rw [e1,List.take_append,List.drop_append,hy]
   rw [List.take_of_length_le (by omega),List.drop_eq_nil_of_le (by omega)]
   have e2:sz + i * sz - sz=i * sz:=by omega
   have e3:sz + i * sz + sz - sz=i * sz + sz:=by omega
   rw [e2,e3]
   simp
theorem pE {M:Mem} {sz:Nat}:∀ {l m:List V} {xs ys:List Value},al M sz l xs→al M sz m ys→al M sz (l++m) (xs++ys)
 | [],m,xs,ys,h,h'=>by simp only [al] at h; subst h; simpa using h'
 | v::vs,m,xs,ys,h,h'=>by
   simp only [al] at h
   obtain ⟨y,rest,rfl,g1,g2,g3,g4⟩:=h
   simp only [List.cons_append,al]
   exact ⟨y,rest++ys,by simp,g1,g2,g3,pE g4 h'⟩
theorem qC {M:Mem} {sz:Nat}:∀ {l:List V} {b off:Nat},bp M sz l b off→∃ xs,al M sz l xs∧∀ j u,xs[j]?=some u→M ⟨b,off + j,none⟩=some u
 | [],b,off,_=>⟨[],rfl,by simp⟩
 | v::vs,b,off,h=>by
   simp only [bp] at h
   obtain ⟨⟨y,h1,h2,h3,h4⟩,h5⟩:=h
   obtain ⟨xs,g1,g2⟩:=qC h5
   refine ⟨y.cells.toList++xs,by simp only [al]; exact ⟨y,xs,rfl,h1,h2,h3,g1⟩,fun j u hj=>?_⟩
   by_cases hlt:j < sz
   · rw [List.getElem?_append_left (by simp; omega)] at hj
     rw [h4 j hlt]; simpa using hj
   · rw [List.getElem?_append_right (by simp; omega)] at hj
     have:=g2 _ u hj
     rw [←this]
     congr 2
     simp [h2]; omega
theorem k7 {M:Mem} {sz:Nat}:∀ {l:List V} {xs:List Value},al M sz l xs→∀ u∈xs,ar u
 | [],xs,h,u,hu=>by simp only [al] at h; subst h; cases hu
 | v::vs,xs,h,u,hu=>by
   simp only [al] at h
   obtain ⟨y,rest,rfl,g1,g2,g3,g4⟩:=h
   rcases List.mem_append.1 hu with hu | hu
   · exact g3 u hu
   · exact k7 g4 u hu
theorem gI {t ty e:TypeId} {i:TypeInfo} (ht:P.underlying t=some (.slice e)) (hi:P.info? e=some i) (base ad:Option Addr) (n cap c:Nat) (hn:n≤cap) (w:World):
 (Builtin.append_ #[t,t] ty #[.slice base n cap,.slice ad 0 c]).run P w=.ok (.slice base n cap) w:=by
 cases base<;>cases ad<;>simp [Builtin.append_,run_underlying ht,sizeOf,typeInfo,hi,Builtin.lenOf,hn,Builtin.firstCells,loadCells,loadCellsFrom,storeCells]
theorem lR {t ty e:TypeId} {i:TypeInfo} {z:Value} {size bytes base:Nat} (ht:P.underlying t=some (.slice e)) (hi:P.info? e=some i) (hz:i.zero=some z)
 (hsize:i.size=size) (hby:i.bytes=bytes) (hzs:z.cells.size=size) (hsz:0 < size)
 {v:Value} {n:Nat} {xs:List Value} (hown:w.ownsRow base e size v n xs)
 (ad:Addr) (m c:Nat) (news:List Value) (hl:news.length=m * size) (hnews:∀ j u,news[j]?=some u→w.cell? (ad.add j)=some u) (h1:∀ u∈news,u.oneCell'=true)
 (hm:0 < m) (hbytes:(n + m) * bytes≤140737488355328) (h63:n + m≤maxLen) (hbase:base≤w.heap.size):
 ∃ v' w',(Builtin.append_ #[t,t] ty #[v,.slice (some ad) m c]).run P w=.ok v' w'∧w'.ownsRow base e size v' (n + m) (xs++news)∧w.grownBy w' v.ownBlock∧(∀ g,blk v'=some g→blk v=some g∨w.heap.size≤g)∧Siz w w':=by
 rcases hown.2 with ⟨rfl,rfl⟩ | ⟨g,cap,cur,rfl,hbg,hg,hnc,hcm,hcs,htake⟩
 · obtain ⟨v',w',hr,h2,h3,h4⟩:=run_append_own (P:=P) w w.heap.size t ty e i z size bytes ht hi hz hsize hby hzs hsz (.slice none 0 0) 0 [] (World.ownsRow_nil w _ e size) ad m c news hl hnews h1 h63 hbytes (Nat.le_refl _)
   have hx:xs=[]:=List.eq_nil_of_length_eq_zero (by simpa using hown.1)
   subst hx
   refine ⟨v',w',hr,⟨h2.1,?_⟩,h3,fun g hg=>?_,fun k cur T z hc=>⟨cur,T,z,by rw [h3.block k (Array.getElem?_eq_some_iff.1 hc).1 (by simp [Value.ownBlock])]; exact hc,rfl⟩⟩
   · rcases h2.2 with h5 | ⟨g,cap,cur,h5,h6,h7⟩
     · exact .inl h5
     · exact .inr ⟨g,cap,cur,h5,by omega,h7⟩
   · rcases h2.2 with h5 | ⟨g',cap,cur,h5,h6,h7⟩
     · rw [h5.1] at hg; cases hg
     · rw [h5] at hg; cases hg; exact .inr h6
 · by_cases hroom:n + m≤cap
   · subst hsize
     have hfit:n * i.size + news.length≤cur.size:=by rw [hl,hcs,←Nat.add_mul]; exact Nat.mul_le_mul_right _ hroom
     have hr:=run_append_room (P:=P) w t ty e i ht hi g n cap cur hg ad m c news hl hnews h1 hroom hfit
     obtain ⟨v',w',hr',h2,h3,h4⟩:=run_append_own (P:=P) w base t ty e i z i.size bytes ht hi hz rfl hby hzs hsz _ n xs hown ad m c news hl hnews h1 h63 hbytes hbase
     rw [hr] at hr'
     injection hr' with e1 e2
     subst e1 e2
     refine ⟨_,_,hr,h2,h3,fun g' hg'=>.inl hg',fun k cur1 T z hc=>?_⟩
     by_cases hk:k=g
     · subst hk
       refine ⟨_,T,z,setRow_heap w k cur1 _ T z hc,?_⟩
       rw [hg] at hc
       cases hc
       simp only [List.size_toArray,List.length_append,List.length_take,List.length_drop,Array.length_toList]
       omega
     · exact ⟨cur1,T,z,by rw [setRow_other w g k _ hk]; exact hc,rfl⟩
   · obtain ⟨v',w',hr',h2,h3,h4⟩:=run_append_own (P:=P) w base t ty e i z size bytes ht hi hz hsize hby hzs hsz _ n xs hown ad m c news hl hnews h1 h63 hbytes hbase
     subst hsize
     have PP:∀ j u,xs[j]?=some u→w.cell? ((⟨g,0,none⟩:Addr).add j)=some u:=hown.cells (g:=g) rfl
     have hr:=run_append_grow (P:=P) w t ty e i z ht hi hz ⟨g,0,none⟩ n cap xs hown.1 PP ad m c news hl hnews (by omega) (by simp only [maxLen] at h63; omega) (growslice_fits (by omega) (by rw [hby]; exact hbytes))
     rw [hr] at hr'
     injection hr' with e1 e2
     subst e1 e2
     exact ⟨_,_,hr,h2,h3,fun g' hg'=>by cases hg'; exact .inr (Nat.le_refl _),fun k cur1 T z hc=>⟨cur1,T,z,by rw [Below.heap_alloc w.drew _ k (Array.getElem?_eq_some_iff.1 hc).1]; exact hc,rfl⟩⟩
theorem xG (size:Nat):∀ (cs:List Value) (k:Nat) (ds:Array Value),(∀ c∈cs,c.cells.size=size)→(k + cs.length) * size≤ds.size→
 Instr.fill (fun i=>some (i * size,size)) ds ((List.range' k cs.length).zip cs)=some (ds.toList.take (k * size)++jE cs++ds.toList.drop ((k + cs.length) * size)).toArray
 | [],k,ds,_,_=>by simp [Instr.fill,jE]
 | c::cs,k,ds,hc,hle=>by
   have h0:=hc c (by simp)
   simp only [List.length_cons] at hle ⊢
   have e1:(k + (cs.length + 1)) * size=k * size + size + cs.length * size:=by simp only [Nat.add_mul,Nat.one_mul]; omega
   rw [List.range'_succ,List.zip_cons_cons]
   simp only [Instr.fill]
   have hno:¬(c.cells.size≠size || k * size + c.cells.size > ds.size)=true:=by simp; omega
   rw [if_neg hno]
   have hf:=pO (k * size) c.cells ds (by omega)
   rw [hf]
   have hsz:c.cells.toList.length=size:=by simpa using h0
   rw [xG size cs (k + 1) _ (fun c hc'=>hc c (by simp [hc'])) (by simp only [List.size_toArray,List.length_append,List.length_take,List.length_drop,Array.length_toList]; rw [show (k + 1 + cs.length) * size=k * size + size + cs.length * size by simp only [Nat.add_mul,Nat.one_mul]]; omega)]
   congr 2
   have e2:(k + 1) * size=k * size + size:=by simp [Nat.add_mul]
   have e3:(k + 1 + cs.length) * size=k * size + size + cs.length * size:=by simp only [Nat.add_mul,Nat.one_mul]
   rw [e1,e2,e3]
   simp only [jE,List.map_cons,List.flatten_cons]
   have l1:(ds.toList.take (k * size)).length=k * size:=by simp; omega
   have t1:List.take (k * size + size) (ds.toList.take (k * size)++c.cells.toList++ds.toList.drop (k * size + c.cells.toList.length))=ds.toList.take (k * size)++c.cells.toList:=by
    rw [List.take_append_of_le_length (by simp only [List.length_append,l1,hsz]; omega)]
    exact List.take_of_length_le (by simp only [List.length_append,l1,hsz]; omega)
   have t2:List.drop (k * size + size + cs.length * size) (ds.toList.take (k * size)++c.cells.toList++ds.toList.drop (k * size + c.cells.toList.length))=ds.toList.drop (k * size + size + cs.length * size):=by
    rw [List.drop_append,List.drop_eq_nil_of_le (by simp only [List.length_append,l1,hsz]; omega),List.nil_append,List.drop_drop]
    congr 1
    simp only [List.length_append,l1,hsz]; omega
   rw [t1,t2]
   simp
theorem w7 (z:Array Value) (m:Nat) (hz:0 < z.size):(madeCells z (m * z.size)).toList=(List.replicate m z.toList).flatten:=by
 unfold madeCells
 rw [Array.toList_map,Array.toList_range]
 induction m with
 | zero=>simp
 | succ m ih=>
   rw [Nat.add_mul,Nat.one_mul,List.range_add,List.map_append,ih,List.replicate_succ',List.flatten_append]
   congr 1
   simp only [List.flatten_cons,List.flatten_nil,List.append_nil,List.map_map]
   apply List.ext_getElem?
   intro j
   by_cases hj:j < z.size
   · simp [List.getElem?_range hj,hj,Nat.mul_add_mod',Nat.mod_eq_of_lt hj]
   · rw [List.getElem?_eq_none (by simp; omega),List.getElem?_eq_none (by simp; omega)]
theorem kn {M:Mem} {sz:Nat} {v:V} {y:Value} (h:rep M NX v y) (hs:y.cells.size=sz) (hc:∀ u∈y.cells.toList,ar u):∀ m,al M sz (List.replicate m v) (List.replicate m y.cells.toList).flatten
 | 0=>by simp [al]
 | m + 1=>by
   simp only [List.replicate_succ,al,List.flatten_cons]
   exact ⟨y,_,rfl,h,hs,hc,kn h hs hc m⟩
end
end Go.Abs
end
