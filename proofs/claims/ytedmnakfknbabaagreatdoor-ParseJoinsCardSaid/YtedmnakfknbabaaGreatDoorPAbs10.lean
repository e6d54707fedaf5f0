/- Operations in any order: what an operation looks a. -/
import Derived.Test.YtedmnakfknbabaaGreatDoorPAbs7
import Derived.Deep.LoopGhost
import Derived.ScopeJumps
import Derived.RangeFuncRecord
set_option linter.all false
set_option maxHeartbeats 0
open Iff renaming rfl→zAa
open Option.some renaming injEq→zAb
open Option renaming map_eq_some_iff→zAc,map_some→zBd,some→zEe
open Array renaming getElem?_eq_some_iff→zAd,replicate→zAh,ext'→zAi,getElem?_append_left→zAj
open Bool renaming and_eq_true→zAe,false_eq_true→zBe,not_eq_true'→zBh,false_or→zBi,not_true→zCa,or_eq_true→zCg
open List renaming all_eq_true→zAf,getElem?_eq_some_iff→zAg,replicate→zBa,mem_range→zBb,range→zBf,mem_cons_of_mem→zCb,getElem?_eq_getElem→zCe,mapM_cons→zCh,mem_append_left→zCi,drop_eq_nil_iff→zCj,mem_of_getElem?→zDa,mem_cons→zDb,getElem?_map→zDf,any_eq_true→zDh,append_nil→zDi,mem_map→zEb
open Prod.mk renaming injEq→zBc
open Nat renaming le_refl→zBg,zero_le→zBj,lt_or_ge→zCc,sub_zero→zCd,strongRecOn→zCf,lt_of_le_of_lt→zDd,le_trans→zDe,testBit→zDg,not_lt_zero→zDj
open Exists renaming intro→zDc
open Int renaming ofNat_inj→zEa,ofNat_le→zEc,ofNat_lt→zEd
section
namespace Go.Abs
def AO.rd:AO->List Nat
 | .t n=>[n]
 | .v _=>[]
def rdo:Option AO->List Nat
 |none=>[]
 |some x=>x.rd
def rdl:List AO->List Nat
 |[]=>[]
 |x::xs=>x.rd++rdl xs
def rdp:List (Nat×Nat×AO)->List Nat
 |[]=>[]
 |(_,_,x)::ps=>x.rd++rdp ps
def Act'.rds:Act'->List Nat
 | .mov x=>x.rd
 | .pick c a b=>c.rd++(a.rd++b.rd)
 | .fld x _ _ _=>x.rd
 | .fa x _=>x.rd
 | .ia x i _=>x.rd++i.rd
 | .iaa x i _ _=>x.rd++i.rd
 | .ld x _ _=>x.rd
 | .ixs x i=>x.rd++i.rd
 | .ixa x i _ _ _=>x.rd++i.rd
 | .bin _ x y=>x.rd++y.rd
 | .un _ x=>x.rd
 | .cii _ x=>x.rd
 | .r2s x=>x.rd
 | .s2b x=>x.rd
 | .b2s x=>x.rd
 | .sls x lo hi=>x.rd++(rdo lo++rdo hi)
 | .slq x lo hi _=>x.rd++(rdo lo++rdo hi)
 | .lens x=>x.rd
 | .lenq x=>x.rd
 | .beq _ x y=>x.rd++y.rd
 | .ext x _=>x.rd
 | .bld _ ps=>rdp ps
 | .lit _ _ xs=>rdl xs
 | .ltr _ _ xs=>rdl xs
 | .mkf _ a b=>rdl a++rdl b
 | .nlc x=>x.rd
 | .alc _=>[]
 | .box x=>x.rd
 | .st _ a x=>a.rd++x.rd
 | .app x y _ _ _=>x.rd++y.rd
 | .mks _ _ _ _ n=>n.rd
 | .mkm _ _ _ _ n=>n.rd
 | .mk0 _ _ _ n=>n.rd
 | .call _ xs=>rdl xs
 | .callv g xs=>g.rd++rdl xs
 | .callH _ xs=>rdl xs
 | .mki _ x=>x.rd
 | .tya _ _ _ x=>x.rd
 | .aeq _ _ x y=>x.rd++y.rd
 | .mkp _=>[]
 | .lkp _ _ _ x k=>x.rd++k.rd
 | .mup _ x k v=>x.rd++(k.rd++v.rd)
 | .inv _ x xs=>x.rd++rdl xs
 | .ivp _ x xs=>x.rd++rdl xs
 | .mm _ x y=>x.rd++y.rd
 | .trc x hi _=>x.rd++hi.rd
 | .alq _=>[]
 | .bxq x=>x.rd
 | .cvb x=>x.rd
 | .apz y _ _ _=>y.rd
 | .sbq y=>y.rd
 | .aps x y _=>x.rd++y.rd
 | .apb x y _=>x.rd++y.rd
 | .alb _ _ _=>[]
 | .usd x=>x.rd
 | .ust p n _=>p.rd++n.rd
 | .del _ x k=>x.rd++k.rd
 | .mkq _ _ _ _ n=>n.rd
 | .nlq _ _ x=>x.rd
 | .yld g xs=>g.rd++rdl xs
 | .rgs x=>x.rd
 | .nxs x=>x.rd
 | .bad=>[]
def iI:AO->Nat
 | .v (.nil _)=>2
 |_=>3
theorem JM(x:AO):2<=iI x:=by unfold iI;split<;>decide
def Act'.kind:Act'->Nat
 | .fa _ _=>1
 | .ia _ _ _=>1
 | .iaa _ _ _ _=>1
 | .ld _ _ _=>1
 | .b2s _=>1
 | .lenq _=>1
 | .nlc _=>1
 | .call _ _=>1
 | .callv _ _=>1
 | .alc _=>2
 | .box _=>2
 | .mks _ _ _ _ _=>2
 | .mkm _ _ _ _ _=>2
 | .mk0 _ _ _ _=>2
 | .st _ _ _=>3
 | .callH _ _=>3
 | .lkp _ _ _ _ _=>1
 | .mkp _=>2
 | .mup _ _ _ _=>3
 | .inv _ _ _=>3
 | .ivp _ _ _=>3
 | .trc _ _ _=>3
 | .alq _=>3
 | .bxq _=>3
 | .cvb _=>3
 | .apz _ _ _ _=>1
 | .sbq _=>3
 | .aps _ _ _=>3
 | .apb _ _ _=>3
 | .alb _ _ _=>3
 | .usd _=>1
 | .ust _ _ _=>3
 | .del _ _ _=>3
 | .mkq _ _ _ _ _=>3
 | .ltr _ _ _=>3
 | .yld _ _=>3
 | .rgs _=>2
 | .nxs _=>3
 | .nlq _ _ _=>1
 | .app x _ _ _ _=>iI x
 |_=>0
def AOp.rds(o:AOp):List Nat:=o.a.rds++(match o.g with
 |none=>[]
 |some (t,_)=>[t])
def Agr(σ σ':St)(rs:List Nat):Prop:=∀t,t∈rs->lk σ'.r t=lk σ.r t
def Ext(σ σ':St):Prop:=∀(id:Nat)(ob:Ob),σ.h[id]?=some (some ob)->σ'.h[id]?=some (some ob)
section
variable{σ σ':St}
theorem Agr.sub{rs ss:List Nat}(h:Agr σ σ' rs)(hs:∀t,t∈ss->t∈rs):Agr σ σ' ss:=fun t ht=>h t (hs t ht)
theorem Agr.l{rs ss:List Nat}(h:Agr σ σ' (rs++ss)):Agr σ σ' rs:=h.sub fun t ht=>zCi _ ht
theorem Agr.r{rs ss:List Nat}(h:Agr σ σ' (rs++ss)):Agr σ σ' ss:=h.sub fun t ht=>List.mem_append_right _ ht
theorem Agr.ev{x:AO}(h:Agr σ σ' x.rd):σ'.ev x=σ.ev x:=by
 cases x with
 |t n=>exact h n (by simp[AO.rd])
 |v x=>rfl
theorem Agr.evo{d:V}{x:Option AO}(h:Agr σ σ' (rdo x)):σ'.evo d x=σ.evo d x:=by
 cases x with
 |none=>rfl
 |some x=>exact Agr.ev (x:=x) h
theorem Agr.evs:∀{xs:List AO},Agr σ σ' (rdl xs)->σ'.evs xs=σ.evs xs
 |[],_=>rfl
 |x::xs,h=>by simp only[St.evs,Agr.ev (Agr.l h),Agr.evs (Agr.r h)]
theorem Agr.bldV:∀{ps:List (Nat×Nat×AO)}{cs:List V},Agr σ σ' (rdp ps)->bldV σ' cs ps=bldV σ cs ps
 |[],_,_=>rfl
 |(off,n,x)::ps,cs,h=>by
   simp only[Abs.bldV,Agr.ev (Agr.l h)];cases σ.ev x with
   |none=>rfl
   |some v=>
     simp only;split
     ·cases jd cs off (cl v)with
      |none=>rfl
      |some cs'=>exact Agr.bldV (Agr.r h)
     ·rfl
theorem Ext.box(h:Ext σ σ'){id cs}(hb:σ.box? id=some cs):σ'.box? id=some cs:=by
 simp only[St.box?,h _ _ (jP hb)]
theorem Ext.arr(h:Ext σ σ'){id x}(hb:σ.arr? id=some x):σ'.arr? id=some x:=by
 simp only[St.arr?,h _ _ (eh hb)]
theorem Ext.mat(h:Ext σ σ'){id x}(hb:σ.rws? id=some x):σ'.rws? id=some x/\σ'.arr? id=none:=by
 constructor
 ·simp only[St.rws?,h _ _ (fC hb)]
 ·simp only[St.arr?,h _ _ (fC hb)]
theorem Ext.mp(h:Ext σ σ'){id x}(hb:σ.mp? id=some x):σ'.mp? id=some x:=by
 simp only[St.mp?,h _ _ (ux hb)]
theorem UH{ms:List Po}(h:σ.h[0]?=some (some (.pool ms))):σ.pl?=some ms:=by
 unfold St.pl?;cases hh:σ.h with
 |nil=>rw[hh]at h;simp at h
 |cons a l=>rw[hh]at h;simp at h;subst h;rfl
theorem Ext.pl(h:Ext σ σ'){ms}(hb:σ.pl?=some ms):σ'.pl?=some ms:=UH (h _ _ (cC hb))
theorem Ext.live(h:Ext σ σ'){v:V}(hv:σ.live v=true):σ'.live v=true:=by
 cases v<;>simp only[St.live]at hv⊢<;>try assumption
 case ptr id off=>
  obtain⟨cs,hc⟩:=Option.isSome_iff_exists.1 hv;rw[h.box hc];rfl
 case eptr id n i off=>
  split at hv
  ·rename_i e sz l hl
   rw[h.arr hl];exact hv
  ·cases hv
 case mptr id i n k off=>
  split at hv
  ·rename_i e e2 sz l hl
   rw[(h.mat hl).1];exact hv
  ·cases hv
 case q k j n i o=>
  split at hv
  ·rename_i ms hms
   rw[h.pl hms];exact hv
  ·cases hv
 case fn f a b=>cases f<;>exact hv
theorem Ext.fetch(h:Ext σ σ'){p:V}{n:Nat}{us:List V}(hv:σ.fetch p n=some us):σ'.fetch p n=some us:=by
 cases p<;>simp only[St.fetch]at hv⊢<;>try assumption
 case ptr id off=>
  split at hv
  ·rename_i cs hc;rw[h.box hc];exact hv
  ·cases hv
 case eptr id m i off=>
  split at hv
  ·rename_i e sz l hl;rw[h.arr hl];exact hv
  ·split at hv
   ·rename_i e e2 sz l hl;simp only[(h.mat hl).1,(h.mat hl).2];exact hv
   ·cases hv
 case mptr id i n k off=>
  split at hv
  ·rename_i e e2 sz l hl
   rw[(h.mat hl).1];exact hv
  ·cases hv
 case q k j m i o=>
  split at hv
  ·rename_i ms hms
   rw[h.pl hms];exact hv
  ·cases hv
theorem Ext.pur1(h:Ext σ σ'){id n:Nat}{u:V}(hv:pur1 σ.h id n=some u):pur1 σ'.h id n=some u:=by
 unfold Abs.pur1 at hv⊢;split at hv
 ·rename_i hb;rw[h _ _ hb];exact hv
 ·rename_i hb;rw[h _ _ hb];exact hv
 ·cases hv
theorem Ext.pur2(h:Ext σ σ'){id i n:Nat}{u:V}(hv:pur2 σ.h id i n=some u):pur2 σ'.h id i n=some u:=by
 unfold Abs.pur2 at hv⊢;split at hv
 ·rename_i hb;rw[h _ _ hb];exact hv
 ·cases hv
mutual
theorem Ext.pur(h:Ext σ σ'):∀{v u:V},pur σ.h v=some u->pur σ'.h v=some u
 | .nil sz,_,hv=>by simp only[Abs.pur]at hv⊢;exact hv
 | .ref id n,_,hv=>by simp only[Abs.pur]at hv⊢;exact h.pur1 hv
 | .mref id i n,_,hv=>by simp only[Abs.pur]at hv⊢;exact h.pur2 hv
 | .fseq _ _,_,hv=>by simp only[Abs.pur]at hv⊢;exact hv
 | .mptr _ _ _ _ _,_,hv=>by simp only[Abs.pur]at hv;cases hv
 | .strct cs,_,hv=>by
   simp only[Abs.pur,zAc]at hv⊢;obtain⟨us,h1,h2⟩:=hv;exact⟨us,Ext.purs h h1,h2⟩
 | .tup cs,_,hv=>by
   simp only[Abs.pur,zAc]at hv⊢;obtain⟨us,h1,h2⟩:=hv;exact⟨us,Ext.purs h h1,h2⟩
 | .fn f a b,_,hv=>by
   simp only[Abs.pur]at hv⊢;split at hv
   ·rename_i a' b' h1 h2;rw[Ext.purs h h1,Ext.purs h h2];exact hv
   ·cases hv
 | .iface t x,_,hv=>by
   simp only[Abs.pur,zAc]at hv⊢;obtain⟨us,h1,h2⟩:=hv;exact⟨us,Ext.pur h h1,h2⟩
 | .ptr _ _,_,hv=>by simp only[Abs.pur]at hv;cases hv
 | .eptr _ _ _ _,_,hv=>by simp only[Abs.pur]at hv;cases hv
 | .int _ _,_,hv=>by simp only[Abs.pur]at hv⊢;exact hv
 | .bool _,_,hv=>by simp only[Abs.pur]at hv⊢;exact hv
 | .str _,_,hv=>by simp only[Abs.pur]at hv⊢;exact hv
 | .seq _ _,_,hv=>by simp only[Abs.pur]at hv⊢;exact hv
 | .sptr _ _,_,hv=>by simp only[Abs.pur]at hv⊢;exact hv
 | .nilptr,_,hv=>by simp only[Abs.pur]at hv⊢;exact hv
 | .nilfn,_,hv=>by simp only[Abs.pur]at hv⊢;exact hv
 | .nilmp,_,hv=>by simp only[Abs.pur]at hv⊢;exact hv
 | .niliface,_,hv=>by simp only[Abs.pur]at hv⊢;exact hv
 | .junk,_,hv=>by simp only[Abs.pur]at hv⊢;exact hv
theorem Ext.purs(h:Ext σ σ'):∀{v u:List V},purs σ.h v=some u->purs σ'.h v=some u
 |[],_,hv=>by simp only[Abs.purs]at hv⊢;exact hv
 |v::vs,_,hv=>by
   simp only[Abs.purs]at hv⊢;split at hv
   ·rename_i a' b' h1 h2;rw[Ext.pur h h1,Ext.purs h h2];exact hv
   ·cases hv
end
theorem Ru{a:Act'}(hk:a.kind=0)(h:Agr σ σ' a.rds):σ'.val a=σ.val a:=by
 cases a<;>simp only[Act'.kind]at hk<;>first|exact absurd hk (by decide)|skip
 all_goals simp only[Act'.rds]at h
 all_goals simp only[St.val]
 case mov x=>exact h.ev
 case pick c a b=>rw[h.l.ev,h.r.l.ev,h.r.r.ev]
 case fld=>rw[h.ev]
 case ixs=>rw[h.l.ev,h.r.ev]
 case ixa=>rw[h.l.ev,h.r.ev]
 case bin=>rw[h.l.ev,h.r.ev]
 case un=>rw[h.ev]
 case cii=>rw[h.ev]
 case r2s=>rw[h.ev]
 case sls=>simp only[h.l.ev,h.r.l.evo,h.r.r.evo]
 case slq=>simp only[h.l.ev,h.r.l.evo,h.r.r.evo]
 case lens=>rw[h.ev]
 case beq=>rw[h.l.ev,h.r.ev]
 case ext=>rw[h.ev]
 case bld=>rw[h.bldV]
 case mkf=>rw[h.l.evs,h.r.evs]
 case mki=>rw[h.ev]
 case tya=>rw[h.ev]
 case aeq=>rw[h.l.ev,h.r.ev]
 case mm=>rw[h.l.ev,h.r.ev]
theorem Ext.isNil(h:Ext σ σ'){k:Nat}{v:V}{b:Bool}(hb:St.isNil k (σ.live v) v=some b):St.isNil k (σ'.live v) v=some b:=by
 cases hl:σ.live v with
 |true=>rw[h.live hl];rw[hl]at hb;exact hb
 |false=>
   rw[hl]at hb;cases v<;>simp[St.isNil]at hb⊢<;>exact hb
theorem Ext.isNilB(h:Ext σ σ'){k:Nat}{v:V}{b:Bool}(hb:(if k=3 then St.isNilM σ v else St.isNil k (σ.live v) v)=some b):(if k=3 then St.isNilM σ' v else St.isNil k (σ'.live v) v)=some b:=by
 by_cases hk:k=3
 ·rw[if_pos hk]at hb⊢
  cases v<;>simp only[St.isNilM]at hb⊢<;>first|exact hb|skip
  split at hb
  ·rename_i hm
   cases hq:σ.mp? _ with
   |none=>rw[hq]at hm;simp at hm
   |some q=>
     obtain⟨kt,l⟩:=q;rw[h.mp hq];exact hb
  ·cases hb
 ·rw[if_neg hk]at hb⊢
  exact h.isNil hb
theorem K8{a:Act'}(hk:a.kind=1)(h:Agr σ σ' a.rds)(hx:Ext σ σ'){v:V}(hv:σ.val a=some v):σ'.val a=some v:=by
 cases a<;>simp only[Act'.kind]at hk<;>first|exact absurd hk (by decide)|skip
 all_goals simp only[Act'.rds]at h
 all_goals simp only[St.val]at hv⊢
 case call=>cases hv
 case callv=>cases hv
 case app=>cases hv
 case apz=>cases hv
 case usd=>cases hv
 case fa x off=>
  rw[h.ev];split at hv
  ·rename_i u hu
   split at hv
   ·rename_i hl;rw[if_pos (hx.live hl)];exact hv
   ·cases hv
  ·cases hv
 case ia x i sz=>
  rw[h.l.ev,h.r.ev];split at hv
  ·exact hv
  ·exact hv
  ·rename_i id m k n h1 h2
   split at hv
   ·rename_i e sz' l hl;rw[hx.arr hl];exact hv
   ·split at hv
    ·rename_i e e2 sz l hl;simp only[(hx.mat hl).1,(hx.mat hl).2];exact hv
    ·cases hv
  ·split at hv
   ·rename_i e e2 sz l hl;rw[(hx.mat hl).1];exact hv
   ·cases hv
  ·split at hv
   ·rename_i ms hms;rw[hx.pl hms];exact hv
   ·cases hv
  ·cases hv
 case iaa x i len sz=>
  rw[h.l.ev,h.r.ev];split at hv
  ·rename_i u k n h1 h2
   split at hv
   ·rename_i hl;rw[if_pos ⟨hx.live hl.1,hl.2⟩];exact hv
   ·cases hv
  ·cases hv
 case ld x n agg=>
  rw[h.ev];split at hv
  ·rename_i p hp
   split at hv
   ·rename_i us hus;simp only[hx.fetch hus];exact hv
   ·cases hv
  ·cases hv
 case b2s x=>
  rw[h.ev];split at hv
  ·split at hv
   ·rename_i ms hms;simp only[hx.pl hms];exact hv
   ·cases hv
  ·rename_i u _ hu
   split at hv
   ·rename_i l hl;simp only[hx.pur hl];exact hv
   ·cases hv
  ·cases hv
 case lenq x=>
  rw[h.ev];split at hv
  ·exact hv
  ·exact hv
  ·exact hv
  ·rename_i id n hu
   split at hv
   ·rename_i e sz l hl;simp only[hx.arr hl];exact hv
   ·split at hv
    ·rename_i e e2 sz l hl;simp only[(hx.mat hl).1,(hx.mat hl).2];exact hv
    ·cases hv
  ·split at hv
   ·rename_i e e2 sz l hl;simp only[(hx.mat hl).1];exact hv
   ·cases hv
  ·split at hv
   ·rename_i ms hms;simp only[hx.pl hms];exact hv
   ·cases hv
  ·cases hv
 case nlc x=>
  rw[h.ev];split at hv
  ·rename_i u hu
   split at hv
   ·rename_i hl;rw[if_pos (hx.live hl)];exact hv
   ·cases hv
  ·cases hv
 case nlq k neg x=>
  rw[h.ev];split at hv
  ·rename_i u hu
   split at hv
   ·rename_i b hb;simp only[hx.isNilB hb];exact hv
   ·cases hv
  ·cases hv
 case lkp kt z okk x k=>
  rw[h.l.ev,h.r.ev];split at hv
  ·rename_i id n kv h1 h2
   split at hv
   ·rename_i kt' l hm
    simp only[hx.mp hm];exact hv
   ·cases hv
  ·exact hv
  ·cases hv
def WG(k:Nat)(σ σ':St):Prop:=k=0\/(k=1/\Ext σ σ')\/σ'.h=σ.h
def post(k:Nat)(σ':St)(h':List (Option Ob))(d:Option Nat)(v:V):St:=St.put { σ' with h:=if k<=1 then σ'.h else h' } d v
def H6(T:(St->Prop)->St->Prop)(k:Nat)(rs:List Nat)(d:Option Nat)(σ:St)(K:St->Prop):Prop:=
 ∃h' v,(k<=1->h'=σ.h)/\(k=2->∀(id:Nat)(ob:Ob),σ.h[id]?=some (some ob)->h'[id]?=some (some ob))/\K (St.put { σ with h:=h' } d v)/\
   ∀(σ':St)(K':St->Prop),Agr σ σ' rs->WG k σ σ'->K' (post k σ' h' d v)->T K' σ'
theorem WG.ext{k:Nat}(h:WG k σ σ')(hk:k=1):Ext σ σ':=by
 rcases h with h|h|h
 ·omega
 ·exact h.2
 ·intro i ob h';rw[h];exact h'
theorem WG.heq{k:Nat}(h:WG k σ σ')(hk:2<=k):σ'.h=σ.h:=by
 rcases h with h|h|h
 ·omega
 ·omega
 ·exact h
variable{Φ:Ctr}{d:Option Nat}{K:St->Prop}
theorem K5{a:Act'}{v:V}(h:σ.val a=some v)(hK:K (σ.put d v))(hk:a.kind<=1):ag Φ d a K σ:=by
 cases a<;>simp only[ag,af]<;>simp only[Act'.kind]at hk<;>first|(simp only[h];exact hK)|(exfalso;revert hk;decide)|(simp[St.val]at h)
theorem Pw{a:Act'}(hk:a.kind<=1){v:V}(h:σ.val a=some v)(hK:K (σ.put d v)):H6 (ag Φ d a) a.kind a.rds d σ K:=by
 refine⟨σ.h,v,fun _=>rfl,fun _ _ _ h=>h,hK,fun σ' K' ha hf hK'=>?_⟩;simp only[post,if_pos hk]at hK';refine K5 (v:=v) ?_ hK' hk;rcases Nat.le_one_iff_eq_zero_or_eq_one.1 hk with h0|h1
 ·rw[Ru h0 ha];exact h
 ·exact K8 h1 ha (hf.ext h1) h
theorem cF{α:Type}{l:List α}{x y:α}{i:Nat}(h:l[i]?=some x):(l++[y])[i]?=some x:=by
 rw[List.getElem?_append_left (zAg.1 h).1];exact h
theorem OU(r:List (Nat×V)):∀(ids:List Nat)(σ:St),({ σ with r:=r }:St).kill ids={ (σ.kill ids)with r:=r }
 |[],σ=>rfl
 |id::ids,σ=>by simp only[St.kill];exact OU r ids { σ with h:=σ.h.set id none }
theorem RE(r:List (Nat×V))(σ:St)(n id m i off:Nat)(us:List V):({ σ with r:=r }:St).storM n id m i off us=(σ.storM n id m i off us).map fun τ=>{ τ with r:=r }:=by
 have e1:∀id,St.arr? { σ with r:=r } id=σ.arr? id:=fun _=>rfl
 have e2:∀id,St.rws? { σ with r:=r } id=σ.rws? id:=fun _=>rfl
 unfold St.storM;split
 ·simp only[e1,e2]
  split
  ·split
   ·split<;>rfl
   ·rfl
  ·rfl
 ·rfl
theorem NV(r:List (Nat×V))(σ:St)(n:Nat)(p:V)(us:List V):({ σ with r:=r }:St).stor n p us=(σ.stor n p us).map fun τ=>{ τ with r:=r }:=by
 have e1:∀(τ:St)id,St.arr? { τ with r:=r } id=τ.arr? id:=fun _ _=>rfl
 have e2:∀(τ:St)id,St.rws? { τ with r:=r } id=τ.rws? id:=fun _ _=>rfl
 have e3:∀(τ:St)id,St.box? { τ with r:=r } id=τ.box? id:=fun _ _=>rfl
 have e4:∀(τ:St),St.pl? { τ with r:=r }=τ.pl?:=fun _=>rfl
 cases p<;>simp only[St.stor,OU,e1,e2,e3,e4,RE]<;>try rfl
 ·split
  ·split
   ·split<;>rfl
   ·rfl
  ·rfl
 ·split
  ·split
   ·split
    ·split
     ·split
      ·split<;>rfl
      ·rfl
     ·rfl
    ·rfl
   ·rfl
  ·rfl
 ·split
  ·split
   ·split
    ·split
     ·split
      ·split
       ·split<;>rfl
       ·rfl
      ·rfl
     ·rfl
    ·rfl
   ·rfl
  ·rfl
 ·split
  ·split
   ·split
    ·split<;>rfl
    ·rfl
   ·split
    ·split
     ·split
      ·split<;>rfl
      ·rfl
     ·rfl
    ·rfl
   ·split
    ·split<;>rfl
    ·rfl
   ·rfl
  ·rfl
theorem RD(σ:St)(n:Nat)(p:V)(us:List V){τ:St}(h:σ.stor n p us=some τ):τ.r=σ.r:=by
 have h1:=NV σ.r σ n p us;have h2:({ σ with r:=σ.r }:St)=σ:=rfl
 rw[h2,h]at h1;simp only[zBd,zAb]at h1;rw[h1]
theorem bb{σ σ':St}(he:σ'.h=σ.h)(v:V):σ'.cur0 v=σ.cur0 v:=by
 cases v<;>simp only[St.cur0,St.box?,St.arr?,St.gh?,St.pl?,he]
mutual
theorem uW{σ σ':St}(he:σ'.h=σ.h):∀v:V,σ'.cur v=σ.cur v
 | .fn _ a b=>by simp only[St.cur,kD he a,kD he b]
 | .strct a=>by simp only[St.cur,kD he a]
 | .tup a=>by simp only[St.cur,kD he a]
 | .iface _ x=>by simp only[St.cur,uW he x]
 | .int _ _=>by simp only[St.cur,bb he]
 | .bool _=>by simp only[St.cur,bb he]
 | .str _=>by simp only[St.cur,bb he]
 | .nil _=>by simp only[St.cur,bb he]
 | .seq _ _=>by simp only[St.cur,bb he]
 | .fseq _ _=>by simp only[St.cur,bb he]
 | .sptr _ _=>by simp only[St.cur,bb he]
 | .nilptr=>by simp only[St.cur,bb he]
 | .nilfn=>by simp only[St.cur,bb he]
 | .nilmp=>by simp only[St.cur,bb he]
 | .niliface=>by simp only[St.cur,bb he]
 | .junk=>by simp only[St.cur,bb he]
 | .mref _ _ _=>by simp only[St.cur,bb he]
 | .mptr _ _ _ _ _=>by simp only[St.cur,bb he]
 | .ref _ _=>by simp only[St.cur,bb he]
 | .ptr _ _=>by simp only[St.cur,bb he]
 | .eptr _ _ _ _=>by simp only[St.cur,bb he]
 | .q _ _ _ _ _=>by simp only[St.cur,bb he]
theorem kD{σ σ':St}(he:σ'.h=σ.h):∀v:List V,σ'.curA v=σ.curA v
 |[]=>rfl
 |v::vs=>by simp only[St.curA,uW he v,kD he vs]
end
theorem za{σ σ':St}(he:σ'.h=σ.h):∀l:List V,σ'.curs l=σ.curs l
 |[]=>rfl
 |v::l=>by simp only[St.curs,uW he,za he l]
theorem yj:∀(l:List Nat){σ σ':St},σ'.h=σ.h->(σ'.kill l).h=(σ.kill l).h
 |[],_,_,he=>he
 |id::l,σ,σ',he=>by
   simp only[St.kill];exact yj l (by simp only[he])
theorem JI{σ σ':St}(he:σ'.h=σ.h){q:Nat}{m:List Nat}{H':List (Option Ob)}:σ'.back q m H'=σ.back q m H':=by
 simp only[St.back,yj m he,he]
theorem vF:∀(ids:List Nat){σ σ':St},σ'.h=σ.h->(σ'.kill ids).h=(σ.kill ids).h
 |[],_,_,he=>he
 |id::ids,σ,σ',he=>by
   simp only[St.kill];exact vF ids (by simp only[he])
theorem Ext.src(h:Ext σ σ'){v u:V}(hv:src σ.h v=some u):src σ'.h v=some u:=by
 cases v<;>simp only[Abs.src]at hv⊢<;>try exact h.pur hv
 split at hv
 ·rename_i e sz l hl;rw[h _ _ hl];exact hv
 ·cases hv
theorem xu{a:Act'}(h:ag Φ d a K σ):H6 (ag Φ d a) a.kind a.rds d σ K:=by
 cases a with
 |lit e0 sz xs=>
   simp only[ag]at h;split at h
   ·rename_i vs hvs
    split at h
    ·rename_i us hus
     refine⟨σ.h,.seq sz us,fun _=>rfl,fun _ _ _ h=>h,h.2.2,fun σ' K' ha hf hK'=>?_⟩;simp only[Act'.rds]at ha;simp only[ag,ha.evs,hvs,hus];exact⟨h.1,h.2.1,hK'⟩
    ·exact h.elim
   ·exact h.elim
 |call f xs=>
   simp only[ag]at h;split at h
   ·rename_i vs hvs
    split at h
    ·rename_i us hus
     obtain⟨r,h1,h3⟩:=h;refine⟨σ.h,r,fun _=>rfl,fun _ _ _ h=>h,h3,fun σ' K' ha hf hK'=>?_⟩;simp only[Act'.rds]at ha;simp only[ag,ha.evs,hvs,(hf.ext rfl).purs hus];exact zDc r ⟨h1,hK'⟩
    ·exact h.elim
   ·exact h.elim
 |callv g xs=>
   simp only[ag]at h;split at h
   ·rename_i f a b vs hg hvs
    split at h
    ·rename_i us hus
     obtain⟨r,h1,h3⟩:=h;refine⟨σ.h,r,fun _=>rfl,fun _ _ _ h=>h,h3,fun σ' K' ha hf hK'=>?_⟩;simp only[Act'.rds]at ha;simp only[ag,ha.l.ev,hg,ha.r.evs,hvs,(hf.ext rfl).purs hus];exact zDc r ⟨h1,hK'⟩
    ·exact h.elim
   ·exact h.elim
 |alc z=>
   simp only[ag,af]at h;refine⟨_,_,fun h=>absurd h (by simp[Act'.kind]),fun _ id ob h=>cF h,h,fun σ' K' ha hf hK'=>?_⟩
   simp only[ag,af];rw[hf.heq (by simp[Act'.kind])]
   exact hK'
 |box x=>
   simp only[ag,af]at h;split at h
   ·rename_i v hv
    split at h
    ·rename_i hn
     refine⟨_,_,fun h=>absurd h (by simp[Act'.kind]),fun _ id ob h=>cF h,h,fun σ' K' ha hf hK'=>?_⟩
     simp only[Act'.rds]at ha;simp only[ag,af,ha.ev,hv,if_pos hn];rw[hf.heq (by simp[Act'.kind])]
     exact hK'
    ·exact h.elim
   ·exact h.elim
 |mkm e by' e2 sz n=>
   simp only[ag,af]at h;split at h
   ·rename_i k m hm
    obtain⟨h1,h2,h3⟩:=h;refine⟨_,_,fun h=>absurd h (by simp[Act'.kind]),fun _ id ob h=>cF h,h3,fun σ' K' ha hf hK'=>?_⟩
    simp only[Act'.rds]at ha;simp only[ag,af,ha.ev,hm];rw[hf.heq (by simp[Act'.kind])]
    exact⟨h1,h2,hK'⟩
   ·exact h.elim
 |mk0 e sz by' n=>
   simp only[ag,af]at h;split at h
   ·rename_i k m hm
    obtain⟨h1,h2,h3⟩:=h;refine⟨_,_,fun h=>absurd h (by simp[Act'.kind]),fun _ id ob h=>cF h,h3,fun σ' K' ha hf hK'=>?_⟩
    simp only[Act'.rds]at ha;simp only[ag,af,ha.ev,hm];rw[hf.heq (by simp[Act'.kind])]
    exact⟨h1,h2,hK'⟩
   ·exact h.elim
 |mks e sz by' z n=>
   simp only[ag,af]at h;split at h
   ·rename_i k m hm
    obtain⟨h1,h2,h3⟩:=h;refine⟨_,_,fun h=>absurd h (by simp[Act'.kind]),fun _ id ob h=>cF h,h3,fun σ' K' ha hf hK'=>?_⟩
    simp only[Act'.rds]at ha;simp only[ag,af,ha.ev,hm];rw[hf.heq (by simp[Act'.kind])]
    exact⟨h1,h2,hK'⟩
   ·exact h.elim
 |s2b x=>
   simp only[ag,af]at h;split at h
   ·rename_i s hs
    refine⟨σ.h,_,fun _=>rfl,fun _ _ _ h=>h,h.2,fun σ' K' ha hf hK'=>?_⟩;simp only[Act'.rds]at ha;simp only[ag,af,ha.ev,hs];exact⟨h.1,hK'⟩
   ·exact h.elim
 |st n p x=>
   simp only[ag,af]at h;split at h
   ·rename_i a v ha hv
    split at h
    ·rename_i hn
     split at h
     ·rename_i σ1 hs
      have hr:σ1.r=σ.r/\∀σ':St,σ'.h=σ.h->σ'.stor n a (cl v)=some { σ' with h:=σ1.h }:=by
       refine⟨RD _ _ _ _ hs,fun σ' he=>?_⟩;have h1:=NV σ'.r σ n a (cl v);have h2:({ σ with r:=σ'.r }:St)=σ':=by rw[<-he]
       rw[h2,hs]at h1;rw[h1,zBd]
      refine⟨σ1.h,.tup [],fun h=>absurd h (by simp[Act'.kind]),fun h=>absurd h (by simp[Act'.kind]),?_,fun σ' K' hg hf hK'=>?_⟩
      ·have:({ σ with h:=σ1.h }:St)=σ1:=by rw[<-hr.1]
       rw[this];exact h
      ·simp only[Act'.rds]at hg
       simp only[ag,af,hg.l.ev,ha,hg.r.ev,hv,if_pos hn,hr.2 σ' (hf.heq (by simp[Act'.kind]))]
       exact hK'
     ·exact h.elim
    ·exact h.elim
   ·exact h.elim
 |app x y e sz by'=>
   have hk2:∀y' e' sz' b',2<=(Act'.app x y' e' sz' b').kind:=fun _ _ _ _=>JM x;have hne:¬(Act'.app x y e sz by').kind<=1:=by have:=hk2 y e sz by';omega
   simp only[ag]at h;split at h
   ·rename_i vy hvy
    split at h
    ·exact h.elim
    rename_i hbad;have hbad:u6 x vy=false:=by simpa using hbad
    simp only[af]at h;split at h
    ·rename_i k j n i0 o0 v hu hv
     rw[hvy]at hv;cases hv;unfold EM at h;split at h
     ·rename_i ms hms
      split at h
      ·rename_i e1 sz1 l0 l hj hsrc
       obtain⟨h1,h2,h3,h4,h5,h6⟩:=h
       have hn2:(Act'.app x y e sz by').kind≠2:=by
        cases x with
        |t n=>simp[Act'.kind,iI]
        |v x=>
          simp only[St.ev,zAb]at hu;subst hu;simp[Act'.kind,iI]
       refine⟨_,_,fun h=>absurd h hne,fun h=>absurd h hn2,h6,fun σ' K' hg hf hK'=>?_⟩;simp only[post,if_neg hne]at hK';simp only[Act'.rds]at hg;have he:=hf.heq (hk2 y e sz by');have hms':σ'.pl?=some ms:=by simp only[St.pl?,he];exact hms
       have hsrc':zI σ' ms sz vy=some l:=by
        rw[<-hsrc];cases vy<;>simp only[zI,NW,he]
       simp only[ag,hg.r.ev,hvy,hbad,zBe,if_false,af,hg.l.ev,hu,EM,hms',hj,hsrc'];refine⟨h1,h2,h3,h4,h5,?_⟩;simp only[St.setP,he];exact hK'
      ·exact h.elim
     ·exact h.elim
    ·rename_i s0 k j n i0 o0 hu hv
     rw[hvy]at hv;cases hv;unfold EN at h;split at h
     ·rename_i ms hms
      split at h
      ·rename_i e1 sz1 l hj
       obtain⟨h1,h2,h3,h4,h5⟩:=h
       have hn2:(Act'.app x y e sz by').kind≠2:=by
        cases x with
        |t n=>simp[Act'.kind,iI]
        |v x=>
          simp only[St.ev,zAb]at hu;subst hu;simp[u6]at hbad
       refine⟨_,_,fun h=>absurd h hne,fun h=>absurd h hn2,h5,fun σ' K' hg hf hK'=>?_⟩;simp only[post,if_neg hne]at hK';simp only[Act'.rds]at hg;have he:=hf.heq (hk2 y e sz by');have hms':σ'.pl?=some ms:=by simp only[St.pl?,he];exact hms
       simp only[ag,hg.r.ev,hvy,hbad,zBe,if_false,af,hg.l.ev,hu,EN,hms',hj];refine⟨h1,h2,h3,h4,?_⟩;simp only[St.setP,he];exact hK'
      ·exact h.elim
     ·exact h.elim
    rotate_left
    ·exact h.elim
    rename_i u v hn1 hn2' hu hv;rw[hvy]at hv;cases hv;have hv:=hvy;split at h
    ·rename_i sz' l hl
     obtain⟨h0,h⟩:=h;split at h
     ·rename_i sz2
      refine⟨_,_,fun h=>absurd h (by have:=hk2 y e sz by';omega),fun _ id ob h=>cF h,h.2,fun σ' K' hg hf hK'=>?_⟩
      simp only[post,if_neg hne]at hK';simp only[Act'.rds]at hg;have he:=hf.heq (hk2 y e sz by');simp only[ag,hg.r.ev,hv,hbad,zBe,if_false,af,hg.l.ev,hu];rw[he];simp only[hl];exact⟨h0,h.1,hK'⟩
     ·rename_i id n
      split at h
      ·rename_i e' sz2 l0 ha
       obtain⟨h1,h2,h3,h4,h5⟩:=h
       have hn2:(Act'.app x y e sz by').kind≠2:=by
        cases x with
        |t n=>simp[Act'.kind,iI]
        |v x=>
          simp only[St.ev,zAb]at hu;subst hu;simp[Act'.kind,iI]
       refine⟨_,_,fun h=>absurd h hne,fun h=>absurd h hn2,h5,fun σ' K' hg hf hK'=>?_⟩;simp only[post,if_neg hne]at hK';simp only[Act'.rds]at hg;have he:=hf.heq (hk2 y e sz by');have ha':σ'.arr? id=some (e',sz2,l0):=by simp only[St.arr?,he];exact ha
       simp only[ag,hg.r.ev,hv,hbad,zBe,if_false,af,hg.l.ev,hu,ha'];rw[he];simp only[hl];exact⟨h0,h1,h2,h3,h4,hK'⟩
      ·exact h.elim
     ·rename_i id i n
      split at h
      ·rename_i e1 e2 sz2 rows ha
       split at h
       ·rename_i r hr
        obtain⟨h1,h2,h3,h4,h5⟩:=h
        have hn2:(Act'.app x y e sz by').kind≠2:=by
         cases x with
         |t n=>simp[Act'.kind,iI]
         |v x=>
           simp only[St.ev,zAb]at hu;subst hu;simp[Act'.kind,iI]
        refine⟨_,_,fun h=>absurd h hne,fun h=>absurd h hn2,h5,fun σ' K' hg hf hK'=>?_⟩;simp only[post,if_neg hne]at hK';simp only[Act'.rds]at hg;have he:=hf.heq (hk2 y e sz by');have ha':σ'.rws? id=some (e1,e2,sz2,rows):=by simp only[St.rws?,he];exact ha
        simp only[ag,hg.r.ev,hv,hbad,zBe,if_false,af,hg.l.ev,hu,ha',hr];rw[he];simp only[hl];exact⟨h0,h1,h2,h3,h4,hK'⟩
       ·exact h.elim
      ·exact h.elim
     ·exact h.elim
    ·exact h.elim
   ·exact h.elim
 |callH f xs=>
   simp only[ag]at h;split at h
   ·rename_i vs hvs
    obtain⟨ps,h1,r,H',h2,h3,h4⟩:=h;refine⟨_,_,fun h=>absurd h (by simp[Act'.kind]),fun h=>absurd h (by simp[Act'.kind]),h4,fun σ' K' ha hf hK'=>?_⟩
    simp only[Act'.rds]at ha;have he:=hf.heq (show 2<=(Act'.callH f xs).kind by simp[Act'.kind])
    simp only[ag,ha.evs,hvs];refine⟨ps,by rw[za he];exact h1,r,H',by rw[he];exact h2,by rw[he];exact h3,?_⟩
    rw[he,JI he];exact hK'
   ·exact h.elim
 |inv tbl x xs=>
   simp only[ag]at h;split at h
   ·rename_i t v vs hx hvs
    split at h
    ·rename_i f hf'
     split at h
     ·rename_i us hus
      obtain⟨r,h1,h3⟩:=h;refine⟨σ.h,r,fun _=>rfl,fun _ _ _ h=>h,h3,fun σ' K' ha hf hK'=>?_⟩;simp only[Act'.rds]at ha;have he:=hf.heq (show 2<=(Act'.inv tbl x xs).kind by simp[Act'.kind])
      simp only[ag,ha.l.ev,hx,ha.r.evs,hvs,hf',he,hus];refine zDc r ⟨h1,?_⟩
      have:post (Act'.inv tbl x xs).kind σ' σ.h d r=St.put σ' d r:=by
       simp only[post,Act'.kind,show ¬(3<=1) by omega,if_false,<-he]
      rw[this]at hK';exact hK'
     ·exact h.elim
    ·exact h.elim
   ·exact h.elim
 |ivp tbl x xs=>exact(show False from h).elim
 |rgs x=>
   simp only[ag,af]at h;split at h
   ·rename_i s hs
    refine⟨_,_,fun h=>absurd h (by simp[Act'.kind]),fun _ id ob h=>cF h,h,fun σ' K' ha hf hK'=>?_⟩
    simp only[Act'.rds]at ha;simp only[ag,af,ha.ev,hs];rw[hf.heq (by simp[Act'.kind])]
    exact hK'
   ·exact h.elim
 |nxs x=>
   simp only[ag,af]at h;split at h
   ·rename_i id n hs
    split at h
    ·rename_i s p hi
     split at h
     ·rename_i hp
      refine⟨_,_,fun h=>absurd h (by simp[Act'.kind]),fun h=>absurd h (by simp[Act'.kind]),h,fun σ' K' ha hf hK'=>?_⟩
      simp only[Act'.rds]at ha;have he:=hf.heq (show 2<=(Act'.nxs x).kind by simp[Act'.kind])
      have hi':σ'.itr? id=some (s,p):=by simp only[St.itr?,he];exact hi
      simp only[ag,af,ha.ev,hs,hi',if_pos hp,he];exact hK'
     ·rename_i hp
      refine⟨σ.h,_,fun h=>absurd h (by simp[Act'.kind]),fun h=>absurd h (by simp[Act'.kind]),h,fun σ' K' ha hf hK'=>?_⟩
      simp only[Act'.rds]at ha;have he:=hf.heq (show 2<=(Act'.nxs x).kind by simp[Act'.kind])
      have hi':σ'.itr? id=some (s,p):=by simp only[St.itr?,he];exact hi
      simp only[ag,af,ha.ev,hs,hi',if_neg hp];simp only[post,show ¬(Act'.nxs x).kind<=1 by simp[Act'.kind],if_false]at hK'
      rw[<-he]at hK';exact hK'
    ·exact h.elim
   ·exact h.elim
 |yld g xs=>
   simp only[ag,af]at h;split at h
   ·rename_i id n vs hg hvs
    split at h
    ·rename_i v b l us hgh hus
     obtain⟨h1,h2,h3⟩:=h;refine⟨_,_,fun h=>absurd h (by simp[Act'.kind]),fun h=>absurd h (by simp[Act'.kind]),h3,fun σ' K' ha hf hK'=>?_⟩
     simp only[Act'.rds]at ha;have he:=hf.heq (show 2<=(Act'.yld g xs).kind by simp[Act'.kind])
     have hgh':σ'.gh? id=some ((v,b)::l):=by simp only[St.gh?,he];exact hgh
     simp only[ag,af,ha.l.ev,hg,ha.r.evs,hvs,hgh',he,hus];exact⟨h1,h2,hK'⟩
    ·exact h.elim
   ·exact h.elim
 |trc x hi sz=>exact(show False from h).elim
 |ltr e sz xs=>
   simp only[ag,af]at h;split at h
   ·rename_i vs hvs
    split at h
    ·rename_i us hus
     obtain⟨h1,h2,h3⟩:=h;rw[Ko]at h3;refine⟨(σ.kill (am vs)).h++[some (Ob.arr e sz us)],.ref (σ.kill (am vs)).h.length us.length,fun h=>absurd h (by simp[Act'.kind]),fun h=>absurd h (by simp[Act'.kind]),h3,fun σ' K' ha hf hK'=>?_⟩
     simp only[Act'.rds]at ha;have he:=hf.heq (show 2<=(Act'.ltr e sz xs).kind by simp[Act'.kind])
     have hk:(σ'.kill (am vs)).h=(σ.kill (am vs)).h:=vF _ he;simp only[ag,af,ha.evs,hvs,he,hus,hk,Ko];exact⟨h1,h2,hK'⟩
    ·rename_i hpn
     unfold Ab at h;split at h
     ·rename_i ms us hms hus
      obtain⟨h1,h2,h3,h4⟩:=h;refine⟨_,_,fun h=>absurd h (by simp[Act'.kind]),fun h=>absurd h (by simp[Act'.kind]),h4,fun σ' K' ha hf hK'=>?_⟩
      simp only[Act'.rds]at ha;have he:=hf.heq (show 2<=(Act'.ltr e sz xs).kind by simp[Act'.kind])
      have hms':σ'.pl?=some ms:=by simp only[St.pl?,he];exact hms
      simp only[ag,af,ha.evs,hvs,he,hpn,Ab,hms',hus];refine⟨h1,h2,h3,?_⟩;simp only[St.setP,he];exact hK'
     ·exact h.elim
   ·exact h.elim
 |apz y e sz by'=>
   simp only[ag,af]at h;split at h
   ·rename_i v hv
    split at h
    ·rename_i sz' l hl
     obtain⟨h1,h2,h3⟩:=h;refine⟨σ.h,.seq sz l,fun _=>rfl,fun _ _ _ h=>h,h3,fun σ' K' ha hf hK'=>?_⟩;simp only[Act'.rds]at ha;simp only[ag,af,ha.ev,hv,(hf.ext rfl).src hl];exact⟨h1,h2,hK'⟩
    ·exact h.elim
   ·exact h.elim
 |sbq y=>
   simp only[ag,af]at h;split at h
   ·rename_i s ms hs hms
    refine⟨_,_,fun h=>absurd h (by simp[Act'.kind]),fun h=>absurd h (by simp[Act'.kind]),h.2,fun σ' K' ha hf hK'=>?_⟩
    simp only[Act'.rds]at ha;have he:=hf.heq (show 2<=(Act'.sbq y).kind by simp[Act'.kind])
    have hms':σ'.pl?=some ms:=by simp only[St.pl?,he];exact hms
    simp only[ag,af,ha.ev,hs,hms'];refine⟨h.1,?_⟩;simp only[St.setP,he];exact hK'
   ·exact h.elim
 |aps x y e=>
   simp only[ag,af]at h;split at h
   ·rename_i k j n i0 o0 s hx hs
    unfold tY at h;split at h
    ·rename_i ms hms
     split at h
     ·rename_i e0 s0 hj
      obtain⟨h1,h2,h3,h4,h5⟩:=h;refine⟨_,_,fun h=>absurd h (by simp[Act'.kind]),fun h=>absurd h (by simp[Act'.kind]),h5,fun σ' K' ha hf hK'=>?_⟩
      simp only[Act'.rds]at ha;have he:=hf.heq (show 2<=(Act'.aps x y e).kind by simp[Act'.kind])
      have hms':σ'.pl?=some ms:=by simp only[St.pl?,he];exact hms
      simp only[ag,af,ha.l.ev,hx,ha.r.ev,hs,tY,hms',hj];refine⟨h1,h2,h3,h4,?_⟩;simp only[St.setP,he];exact hK'
     ·exact h.elim
    ·exact h.elim
   ·exact h.elim
 |apb x y e=>
   simp only[ag,af]at h;split at h
   ·rename_i k j n i0 o0 v hx hs
    split at h
    ·rename_i s hsrc
     unfold tY at h;split at h
     ·rename_i ms hms
      split at h
      ·rename_i e0 s0 hj
       obtain⟨h1,h2,h3,h4,h5⟩:=h;refine⟨_,_,fun h=>absurd h (by simp[Act'.kind]),fun h=>absurd h (by simp[Act'.kind]),h5,fun σ' K' ha hf hK'=>?_⟩
       simp only[Act'.rds]at ha;have he:=hf.heq (show 2<=(Act'.apb x y e).kind by simp[Act'.kind])
       have hms':σ'.pl?=some ms:=by simp only[St.pl?,he];exact hms
       have hsrc':Fe σ' v=some s:=by simp only[Fe,he];exact hsrc
       simp only[ag,af,ha.l.ev,hx,ha.r.ev,hs,hsrc',tY,hms',hj];refine⟨h1,h2,h3,h4,?_⟩;simp only[St.setP,he];exact hK'
      ·exact h.elim
     ·exact h.elim
    ·exact h.elim
   ·exact h.elim
 |alb t e z=>
   simp only[ag,af]at h;split at h
   ·rename_i ms hms
    refine⟨_,_,fun h=>absurd h (by simp[Act'.kind]),fun h=>absurd h (by simp[Act'.kind]),h.2,fun σ' K' ha hf hK'=>?_⟩
    have he:=hf.heq (show 2<=(Act'.alb t e z).kind by simp[Act'.kind])
    have hms':σ'.pl?=some ms:=by simp only[St.pl?,he];exact hms
    simp only[ag,af,hms'];refine⟨h.1,?_⟩;simp only[St.setP,he];exact hK'
   ·exact h.elim
 |usd x=>
   simp only[ag,af]at h;split at h
   ·rename_i k j n i0 o0 ms hx hms
    split at h
    ·rename_i e0 s hj
     obtain⟨h1,h2,h3⟩:=h;refine⟨σ.h,_,fun _=>rfl,fun _ _ _ h=>h,h3,fun σ' K' ha hf hK'=>?_⟩;simp only[Act'.rds]at ha;simp only[ag,af,ha.ev,hx,(hf.ext rfl).pl hms,hj];exact⟨h1,h2,hK'⟩
    ·exact h.elim
   ·exact h.elim
 |ust p n e=>
   simp only[ag,af]at h;split at h
   ·rename_i m hp hn
    refine⟨σ.h,_,fun h=>absurd h (by simp[Act'.kind]),fun h=>absurd h (by simp[Act'.kind]),h.2,fun σ' K' ha hf hK'=>?_⟩
    simp only[Act'.rds]at ha;have he:=hf.heq (show 2<=(Act'.ust p n e).kind by simp[Act'.kind])
    simp only[ag,af,ha.l.ev,hp,ha.r.ev,hn];refine⟨h.1,?_⟩;simp only[post,show ¬(Act'.ust p n e).kind<=1 by simp[Act'.kind],if_false]at hK'
    rw[<-he]at hK';exact hK'
   ·rename_i k j m i0 o0 q hp hn
    split at h
    ·rename_i ms hms
     split at h
     ·rename_i e0 s hj
      obtain⟨h1,h2,h3,h4,h5,h6,h7,h8,h9⟩:=h;refine⟨_,_,fun h=>absurd h (by simp[Act'.kind]),fun h=>absurd h (by simp[Act'.kind]),h9,fun σ' K' ha hf hK'=>?_⟩
      simp only[Act'.rds]at ha;have he:=hf.heq (show 2<=(Act'.ust p n e).kind by simp[Act'.kind])
      have hms':σ'.pl?=some ms:=by simp only[St.pl?,he];exact hms
      simp only[ag,af,ha.l.ev,hp,ha.r.ev,hn,hms',hj];refine⟨h1,h2,h3,h4,h5,h6,h7,h8,?_⟩;simp only[St.setP,he];exact hK'
     ·exact h.elim
    ·exact h.elim
   ·exact h.elim
 |del kt x k=>
   simp only[ag,af]at h;split at h
   ·rename_i id n kv h1 h2
    split at h
    ·rename_i kt' l hm
     obtain⟨g1,g2,g5⟩:=h;refine⟨_,_,fun h=>absurd h (by simp[Act'.kind]),fun h=>absurd h (by simp[Act'.kind]),g5,fun σ' K' hg hf hK'=>?_⟩
     simp only[Act'.rds]at hg;have he:=hf.heq (show 2<=(Act'.del kt x k).kind by simp[Act'.kind])
     have hm':σ'.mp? id=some (kt',l):=by simp only[St.mp?,he];exact hm
     simp only[ag,af,hg.l.ev,h1,hg.r.ev,h2,hm'];rw[he];exact⟨g1,g2,hK'⟩
    ·exact h.elim
   ·exact h.elim
 |alq z=>
   simp only[ag,af]at h;split at h
   ·rename_i ms z' hms hz
    refine⟨_,_,fun h=>absurd h (by simp[Act'.kind]),fun h=>absurd h (by simp[Act'.kind]),h,fun σ' K' ha hf hK'=>?_⟩
    have he:=hf.heq (show 2<=(Act'.alq z).kind by simp[Act'.kind])
    have hms':σ'.pl?=some ms:=by simp only[St.pl?,he];exact hms
    simp only[ag,af,hms',hz];simp only[St.setP,he];exact hK'
   ·exact h.elim
 |cvb x=>
   simp only[ag,af]at h;split at h
   ·rename_i id n hv
    split at h
    ·rename_i e' sz l ha
     obtain⟨h1,h2,h3,h4⟩:=h;refine⟨_,_,fun h=>absurd h (by simp[Act'.kind]),fun h=>absurd h (by simp[Act'.kind]),h4,fun σ' K' hg hf hK'=>?_⟩
     simp only[Act'.rds]at hg;have he:=hf.heq (show 2<=(Act'.cvb x).kind by simp[Act'.kind])
     have ha':σ'.arr? id=some (e',sz,l):=by simp only[St.arr?,he];exact ha
     simp only[ag,af,hg.ev,hv,ha'];rw[he];exact⟨h1,h2,h3,hK'⟩
    ·exact h.elim
   ·exact h.elim
 |bxq x=>
   simp only[ag,af]at h;split at h
   ·rename_i p hp
    obtain⟨pσ,pv⟩:=p
    have hr:pσ.r=σ.r:=by
     simp only[EJ]at hp;split at hp
     ·split at hp
      ·split at hp
       ·cases hp;rfl
       ·cases hp
      ·cases hp
     ·cases hp
    have hr':pσ=⟨σ.r,pσ.h⟩:=by rw[<-hr]
    simp only at h;rw[hr']at h;refine⟨_,_,fun h=>absurd h (by simp[Act'.kind]),fun h=>absurd h (by simp[Act'.kind]),h,fun σ' K' ha hf hK'=>?_⟩
    have he:=hf.heq (show 2<=(Act'.bxq x).kind by simp[Act'.kind])
    simp only[Act'.rds]at ha
    have hb:EJ σ' x=(EJ σ x).map fun q=>({ q.1 with r:=σ'.r },q.2):=by
     have e2:σ'.pl?=σ.pl?:=by simp only[St.pl?,he]
     simp only[EJ,ha.ev,e2];cases σ.ev x with
     |none=>rfl
     |some v=>
       cases σ.pl? with
       |none=>rfl
       |some ms=>
         by_cases hn:nt v=true
         ·simp only[if_pos hn]
          cases ol (cl v)with
          |none=>rfl
          |some z=>simp[St.setP,he]
         ·simp only[if_neg hn]
          rfl
    simp only[ag,af,hb,hp,zBd];exact hK'
   ·exact h.elim
 |mkq e sz by' z n=>
   simp only[ag,af]at h;split at h
   ·rename_i k m ms z' hn hms hz
    obtain⟨h1,h2,h3⟩:=h;refine⟨_,_,fun h=>absurd h (by simp[Act'.kind]),fun h=>absurd h (by simp[Act'.kind]),h3,fun σ' K' ha hf hK'=>?_⟩
    simp only[Act'.rds]at ha;have he:=hf.heq (show 2<=(Act'.mkq e sz by' z n).kind by simp[Act'.kind])
    have hms':σ'.pl?=some ms:=by simp only[St.pl?,he];exact hms
    simp only[ag,af,ha.ev,hn,hms',hz];refine⟨h1,h2,?_⟩;simp only[St.setP,he];exact hK'
   ·exact h.elim
 |mkp kt=>
   simp only[ag,af]at h;refine⟨_,_,fun h=>absurd h (by simp[Act'.kind]),fun _ id ob h=>cF h,h,fun σ' K' ha hf hK'=>?_⟩
   simp only[ag,af];rw[hf.heq (by simp[Act'.kind])]
   exact hK'
 |mup kt x k v=>
   simp only[ag,af]at h;split at h
   ·rename_i id n kv u h1 h2 h3
    split at h
    ·rename_i kt' l u' hm hp
     obtain⟨g1,g2,g3,g4,g5⟩:=h;refine⟨_,_,fun h=>absurd h (by simp[Act'.kind]),fun h=>absurd h (by simp[Act'.kind]),g5,fun σ' K' hg hf hK'=>?_⟩
     simp only[Act'.rds]at hg;have he:=hf.heq (show 2<=(Act'.mup kt x k v).kind by simp[Act'.kind])
     have hm':σ'.mp? id=some (kt',l):=by simp only[St.mp?,he];exact hm
     simp only[ag,af,hg.l.ev,h1,hg.r.l.ev,h2,hg.r.r.ev,h3,hm'];rw[he];simp only[hp];exact⟨g1,g2,g3,g4,hK'⟩
    ·exact h.elim
   ·exact h.elim
 |_=>
   simp only[ag,af]at h;split at h
   ·rename_i v hv
    exact Pw (by simp only[Act'.kind];decide) hv h
   ·exact h.elim
theorem jS{x:AOp}(h:aR Φ x K σ):H6 (aR Φ x) x.a.kind x.rds x.d σ K:=by
 have sk:(∀σ'(K':St->Prop),Agr σ σ' x.rds->K' (σ'.put x.d (.tup []))->aR Φ x K' σ')->K (σ.put x.d (.tup []))->H6 (aR Φ x) 0 x.rds x.d σ K:=
  fun h1 h2=>⟨σ.h,.tup [],fun _=>rfl,fun _ _ _ h=>h,h2,fun σ' K' ha _ hK'=>h1 σ' K' ha hK'⟩
 have up:∀{T:(St->Prop)->St->Prop},H6 T 0 x.rds x.d σ K->H6 T x.a.kind x.rds x.d σ K:=by
  rintro T ⟨h',v,h1,_,h3,h4⟩;have e:=h1 (by decide)
  subst e;refine⟨σ.h,v,fun _=>rfl,fun _ _ _ h=>h,h3,fun σ' K' ha hf hK'=>h4 σ' K' ha (.inl rfl) ?_⟩;simp only[post,zBj,if_true]at hK'⊢;split at hK'
  ·exact hK'
  ·rw[hf.heq (by omega)]
   exact hK'
 have lift:∀{T:(St->Prop)->St->Prop}{rs:List Nat},H6 (ag Φ x.d x.a) x.a.kind rs x.d σ K->(∀t,t∈rs->t∈x.rds)->(∀σ' K',Agr σ σ' x.rds->ag Φ x.d x.a K' σ'->T K' σ')->H6 T x.a.kind x.rds x.d σ K:=by
  rintro T rs ⟨h',v,h1,h2,h3,h4⟩ hs hT;exact⟨h',v,h1,h2,h3,fun σ' K' ha hf hK'=>hT _ _ ha (h4 σ' K' (ha.sub hs) hf hK')⟩
 have hsub:∀t,t∈x.a.rds->t∈x.rds:=fun t ht=>zCi _ ht;unfold aR at h;cases hg:x.g with
 |none=>
   simp only[hg]at h;refine lift (xu h) hsub fun σ' K' _ h'=>?_;unfold aR;simp only[hg];exact h'
 |some tb=>
   obtain⟨t,b⟩:=tb;have ht:t∈x.rds:=by simp[AOp.rds,hg]
   simp only[hg]at h;split at h
   ·rename_i y hy
    have hgo:∀σ'(K':St->Prop),Agr σ σ' x.rds->y=b->ag Φ x.d x.a K' σ'->aR Φ x K' σ':=by
     intro σ' K' ha hyb h';subst hyb;unfold aR;simp only[hg,ha t ht,hy];cases y<;>simp[Br,h']
    have hsk:∀σ'(K':St->Prop),Agr σ σ' x.rds->y≠b->K' (σ'.put x.d (.tup []))->aR Φ x K' σ':=by
     intro σ' K' ha hyb h';unfold aR;simp only[hg,ha t ht,hy];cases y<;>cases b<;>first|exact absurd rfl hyb|simp[Br,h']
    by_cases hyb:y=b
    ·have h':ag Φ x.d x.a K σ:=by subst hyb;cases y<;>simp[Br]at h<;>exact h
     exact lift (xu h') hsub fun σ' K' ha h''=>hgo σ' K' ha hyb h''
    ·have h':K (σ.put x.d (.tup [])):=by cases y<;>cases b<;>first|exact absurd rfl hyb|(simp[Br]at h;exact h)
     exact up (sk (fun σ' K' ha h''=>hsk σ' K' ha hyb h'') h')
   ·rename_i hy
    refine up (sk (fun σ' K' ha h''=>?_) h);unfold aR;simp only[hg,ha t ht,hy];exact h''
   ·exact h.elim
def Eqv(σ τ:St):Prop:=τ.h=σ.h/\∀t,lk τ.r t=lk σ.r t
def Inv(R:St->Prop):Prop:=∀σ τ,Eqv σ τ->R σ->R τ
theorem Dn(σ:St)(h':List (Option Ob))(d:Option Nat)(v:V)(t:Nat):lk (St.put { σ with h:=h' } d v).r t=if d=some t then some v else lk σ.r t:=by
 cases d with
 |none=>simp[St.put]
 |some k=>simp only[St.put,lk,zAb]
theorem vH(σ:St)(d:Option Nat)(v:V):(σ.put d v).h=σ.h:=by cases d<;>rfl
theorem NG{x:AOp}{R:St->Prop}(hR:Inv R):Inv (aR Φ x R):=by
 intro σ τ he h;obtain⟨h',v,h1,h2,h3,h4⟩:=jS h;refine h4 τ R (fun t _=>he.2 t) (.inr (.inr he.1)) (hR _ _ ⟨?_,fun t=>?_⟩ h3)
 ·simp only[post,vH]
  split
  ·rename_i hk;rw[h1 hk];exact he.1
  ·rfl
 ·simp only[post,Dn,he.2]
def u7(x y:AOp):Bool:=
 (match x.d with
  |some d=>!(gS d y.rds)&&decide (y.d≠some d)
  |none=>true)&&
 (match y.d with
  |some d=>!(gS d x.rds)
  |none=>true)&&
 (x.a.kind == 0||y.a.kind == 0||(x.a.kind == 1&&decide (y.a.kind<=2)))
theorem HU{x y:AOp}(h:u7 x y=true):
 (∀d,x.d=some d->d ∉ y.rds/\y.d≠some d)/\(∀d,y.d=some d->d ∉ x.rds)/\(x.a.kind=0\/y.a.kind=0\/(x.a.kind=1/\y.a.kind<=2)):=by
 simp only[u7,zAe]at h;obtain⟨⟨h1,h2⟩,h3⟩:=h;refine⟨fun d hd=>?_,fun d hd=>?_,by simpa[or_assoc]using h3⟩
 ·simp only[hd,zAe,zBh,decide_eq_true_eq]at h1
  exact⟨fun hm=>by rw[iS.2 hm]at h1;simp at h1,h1.2⟩
 ·simp only[hd,zBh]at h2
  exact fun hm=>by rw[iS.2 hm]at h2;simp at h2
theorem KY{x y:AOp}(hap:u7 x y=true){R:St->Prop}(hR:Inv R)(h:aR Φ x (aR Φ y R) σ):aR Φ y (aR Φ x R) σ:=by
 obtain⟨a1,a2,a3⟩:=HU hap;obtain⟨hx,vx,x1,x2,x3,x4⟩:=jS h;obtain⟨hy,vy,y1,y2,y3,y4⟩:=jS x3;rw[vH]at y1 y2
 have key:Eqv (St.put { (St.put { σ with h:=hx } x.d vx)with h:=hy } y.d vy) (post x.a.kind (post y.a.kind σ hy y.d vy) hx x.d vx)->aR Φ y (aR Φ x R) σ:=by
  intro he;refine y4 σ _ ?_ ?_ ?_
  ·intro t ht
   rw[Dn];split
   ·rename_i hd;exact absurd ht (a1 t hd).1
   ·rfl
  ·rcases a3 with h|h|h
   ·refine .inr (.inr ?_);rw[vH];exact(x1 (by omega)).symm
   ·exact .inl h
   ·refine .inr (.inr ?_);rw[vH];exact(x1 (by omega)).symm
  ·refine x4 _ _ ?_ ?_ (hR _ _ he y3)
   ·intro t ht
    simp only[post,Dn];split
    ·rename_i hd;exact absurd ht (a2 t hd)
    ·rfl
   ·rcases a3 with h|h|h
    ·exact .inl h
    ·refine .inr (.inr ?_)
     simp only[post,vH,h,zBj,if_true]
    ·by_cases hk:y.a.kind<=1
     ·refine .inr (.inr ?_)
      simp only[post,vH,if_pos hk]
     ·refine .inr (.inl ⟨h.1,?_⟩)
      intro id ob hid;simp only[post,vH,if_neg hk];exact y2 (by omega) id ob (by rw[x1 (by omega)];exact hid)
 apply key;constructor
 ·simp only[post,vH]
  rcases a3 with h|h|h
  ·rw[if_pos (by omega)]
   split
   ·rename_i hk;rw[y1 hk,x1 (by omega)]
   ·rfl
  ·simp only[h,zBj,if_true]
   rw[y1 (by omega)]
   split
   ·rename_i hk;rw[x1 hk]
   ·rfl
  ·rw[if_pos (by omega)]
   split
   ·rename_i hk;rw[y1 hk,x1 (by omega)]
   ·rfl
 ·intro t
  simp only[post,Dn];by_cases hxd:x.d=some t
  ·rw[if_pos hxd,if_neg (a1 t hxd).2,if_pos hxd]
  ·simp only[if_neg hxd]
end
end Go.Abs
end
section
namespace Go.Abs
open Go.RowKit
section
variable{P:Program}{N:Nat}{M0:Mem}{B:Bas}{w0:World}{Φ:Ctr}
theorem jR{x:AOp}{σ:St}{K K':St->Prop}(h:aR Φ x K σ)(hk:∀τ,K τ->K' τ):aR Φ x K' σ:=by
 obtain⟨h',v,h1,h2,h3,h4⟩:=jS h;refine h4 σ K' (fun _ _=>rfl) (.inr (.inr rfl)) (hk _ ?_);simp only[post];split
 ·rename_i hle;rw[h1 hle]at h3;exact h3
 ·exact h3
mutual
theorem FB:∀{v u:V},pur [] v=some u->aF v=[]/\∀h,pur h v=some u
 | .nil sz,_,hv=>⟨rfl,fun h=>by simpa only[pur]using hv⟩
 | .ref id n,_,hv=>by simp[pur,pur1]at hv
 | .strct cs,_,hv=>by
   simp only[pur,zAc]at hv;obtain⟨us,h1,h2⟩:=hv;obtain⟨k1,k2⟩:=fR h1;exact⟨by simpa only[aF]using k1,fun h=>by simp only[pur,k2 h,zBd,h2]⟩
 | .tup cs,_,hv=>by
   simp only[pur,zAc]at hv;obtain⟨us,h1,h2⟩:=hv;obtain⟨k1,k2⟩:=fR h1;exact⟨by simpa only[aF]using k1,fun h=>by simp only[pur,k2 h,zBd,h2]⟩
 | .fn f a b,_,hv=>by
   simp only[pur]at hv;split at hv
   ·rename_i a' b' h1 h2
    obtain⟨k1,k2⟩:=fR h1;obtain⟨k3,k4⟩:=fR h2;exact⟨by simp only[aF,k1,k3,zDi],fun h=>by simp only[pur,k2 h,k4 h];exact hv⟩
   ·cases hv
 | .iface t x,_,hv=>by
   simp only[pur,zAc]at hv;obtain⟨us,h1,h2⟩:=hv;obtain⟨k1,k2⟩:=FB h1;exact⟨by simpa only[aF]using k1,fun h=>by simp only[pur,k2 h,zBd,h2]⟩
 | .ptr _ _,_,hv=>by simp only[pur]at hv;cases hv
 | .eptr _ _ _ _,_,hv=>by simp only[pur]at hv;cases hv
 | .int _ _,_,hv=>⟨rfl,fun h=>by simpa only[pur]using hv⟩
 | .bool _,_,hv=>⟨rfl,fun h=>by simpa only[pur]using hv⟩
 | .str _,_,hv=>⟨rfl,fun h=>by simpa only[pur]using hv⟩
 | .seq _ _,_,hv=>⟨rfl,fun h=>by simpa only[pur]using hv⟩
 | .fseq _ _,_,hv=>⟨rfl,fun h=>by simpa only[pur]using hv⟩
 | .sptr _ _,_,hv=>⟨rfl,fun h=>by simpa only[pur]using hv⟩
 | .nilptr,_,hv=>⟨rfl,fun h=>by simpa only[pur]using hv⟩
 | .nilfn,_,hv=>⟨rfl,fun h=>by simpa only[pur]using hv⟩
 | .nilmp,_,hv=>⟨rfl,fun h=>by simpa only[pur]using hv⟩
 | .niliface,_,hv=>⟨rfl,fun h=>by simpa only[pur]using hv⟩
 | .junk,_,hv=>⟨rfl,fun h=>by simpa only[pur]using hv⟩
theorem fR:∀{v u:List V},purs [] v=some u->am v=[]/\∀h,purs h v=some u
 |[],_,hv=>⟨rfl,fun h=>by simpa only[purs]using hv⟩
 |v::vs,_,hv=>by
   simp only[purs]at hv;split at hv
   ·rename_i a' b' h1 h2
    obtain⟨k1,k2⟩:=FB h1;obtain⟨k3,k4⟩:=fR h2;exact⟨by simp only[am,k1,k3,zDi],fun h=>by simp only[purs,k2 h,k4 h];exact hv⟩
   ·cases hv
end
theorem qR{d:Option Nat}{a:Act'}{K:St->Prop}{σ:St}(h:ag Φ d a K σ):af Φ d a K σ:=by
 cases a with
 |lit e0 sz xs=>
   simp only[ag]at h;split at h
   ·rename_i vs hvs
    split at h
    ·rename_i us hus
     obtain⟨k1,k2⟩:=fR hus;simp only[af,hvs,k2 σ.h,k1,St.kill];exact h
    ·exact h.elim
   ·exact h.elim
 |call f xs=>
   simp only[ag]at h;split at h
   ·rename_i vs hvs
    split at h
    ·rename_i us hus
     obtain⟨r,h1,h3⟩:=h;simp only[af,hvs,hus];exact⟨r,.inl ⟨h1,fun _=>h3⟩⟩
    ·exact h.elim
   ·exact h.elim
 |callH f xs=>
   simp only[ag]at h;split at h
   ·rename_i vs hvs
    obtain⟨ps,h1,r,H',h2,h3,h4⟩:=h;simp only[af,hvs];exact .inl ⟨ps,h1,r,H',h2,h3,fun _ _=>h4⟩
   ·exact h.elim
 |inv tbl x xs=>
   simp only[ag]at h;split at h
   ·rename_i t v vs hx hvs
    split at h
    ·rename_i f hf
     split at h
     ·rename_i us hus
      obtain⟨r,h1,h3⟩:=h;simp only[af,hx,hvs,hf,hus];exact⟨r,.inl ⟨h1,fun _=>h3⟩⟩
     ·exact h.elim
    ·exact h.elim
   ·exact h.elim
 |ivp tbl x xs=>exact(show False from h).elim
 |trc x hi sz=>exact(show False from h).elim
 |callv g xs=>
   simp only[ag]at h;split at h
   ·rename_i f a b vs hg hvs
    split at h
    ·rename_i us hus
     obtain⟨r,h1,h3⟩:=h;simp only[af,hg,hvs,hus];exact⟨r,.inl ⟨h1,fun _=>h3⟩⟩
    ·exact h.elim
   ·exact h.elim
 |app x y e sz by'=>
   simp only[ag]at h;split at h
   ·split at h
    ·exact h.elim
    ·exact h
   ·exact h.elim
 |_=>exact h
theorem NE{x:AOp}{K:St->Prop}{σ:St}(h:aR Φ x K σ):wop Φ x K σ:=by
 unfold aR at h;unfold wop;split at h
 ·exact qR h
 ·split at h
  ·split
   ·rename_i hb;rw[if_pos hb]at h;exact⟨fun hy=>qR (h.1 hy),h.2⟩
   ·rename_i hb;rw[if_neg hb]at h;exact⟨h.1,fun hy=>qR (h.2 hy)⟩
  ·exact h
  ·exact h
def r9(Φ:Ctr)(ops:Array Oper)(xs:List AOp)(K:St->Prop):Nat->Array Bool->St->Prop
 |0,listed,σ=>Region.ready .any ops listed=[]/\K σ
 |f+1,listed,σ=>(Region.ready .any ops listed=[]->K σ)/\∀i∈Region.ready .any ops listed,∃x,xs[i]?=some x/\aR Φ x (r9 Φ ops xs K f (listed.setIfInBounds i true)) σ
def JV(Φ:Ctr)(ops:Array Oper)(xs:List AOp)(K:St->Prop):Nat->Array Bool->St->Prop
 |0,listed,σ=>Region.ready .any ops listed=[]/\K σ
 |f+1,listed,σ=>(Region.ready .any ops listed=[]->K σ)/\∀i∈Region.ready .any ops listed,∃x,xs[i]?=some x/\wop Φ x (JV Φ ops xs K f (listed.setIfInBounds i true)) σ
variable{ops:Array Oper}{xs:List AOp}{K:St->Prop}
theorem Bk(hK:Inv K):∀(f:Nat)(listed:Array Bool),Inv (r9 Φ ops xs K f listed)
 |0,listed=>fun σ τ he h=>⟨h.1,hK σ τ he h.2⟩
 |f+1,listed=>fun σ τ he h=>⟨fun h0=>hK σ τ he (h.1 h0),fun i hi=>by
   obtain⟨x,hx,hw⟩:=h.2 i hi;exact⟨x,hx,NG (Bk hK f _) σ τ he hw⟩⟩
def r5(ops:Array Oper)(listed:Array Bool):Prop:=∀j oj,ops[j]?=some oj->listed.getD j false=true->∀e∈oj.after,Region.binds .any e=true->listed.getD e.on false=true
def wY(anc:List Nat)(j i:Nat):Bool:=decide (i<j)&&zDg (anc.getD j 0) i
def CC(ops:Array Oper)(anc:List Nat):Prop:=∀j i oj,ops[j]?=some oj->wY anc j i=true->∃e∈oj.after,Region.binds .any e=true/\e.on<j/\(e.on=i\/wY anc e.on i=true)
theorem r5.set{listed:Array Bool}{i:Nat}(h:r5 ops listed)(hi:i∈Region.ready .any ops listed):r5 ops (listed.setIfInBounds i true):=by
 obtain⟨_,oi,hoi,hall⟩:=mem_ready.1 hi;intro j oj hj hl e he hb;by_cases hij:i=j
 ·subst hij
  have:oj=oi:=zEe.inj (hj.symm.trans hoi);subst this;exact getD_set_true (hall e he hb)
 ·rw[getD_set_ne false hij]at hl
  exact getD_set_true (h j oj hj hl e he hb)
theorem CC.listed{anc:List Nat}(ha:CC ops anc){listed:Array Bool}(hc:r5 ops listed){i:Nat}:∀(j:Nat)(oj:Oper),ops[j]?=some oj->(∀e∈oj.after,Region.binds .any e=true->listed.getD e.on false=true)->
 wY anc j i=true->(∀e o',e<ops.size->ops[e]?=some o'->True)->(∀e∈oj.after,Region.binds .any e=true->e.on<j->∃o',ops[e.on]?=some o')->listed.getD i false=true:=by
 intro j
 induction j using zCf with
 |_ j ih=>
   intro oj hj hp hanc _ hex;obtain⟨e,he,hb,hlt,h⟩:=ha j i oj hj hanc;have hl:=hp e he hb;rcases h with h|h
   ·rw[<-h];exact hl
   ·obtain⟨o',ho'⟩:=hex e he hb hlt
    refine ih e.on hlt o' ho' (fun e' he' hb'=>hc e.on o' ho' hl e' he' hb') h (fun _ _ _ _=>trivial) (fun e' he' hb' hlt'=>?_)
    have hs:e'.on<ops.size:=by
     have:=(zAd.1 ho').1;omega
    exact⟨ops[e'.on],by simp[hs]⟩
theorem vj{anc:List Nat}(ha:CC ops anc)(hK:Inv K){i:Nat}{x:AOp}(hi:xs[i]?=some x):
 ∀(f:Nat)(listed:Array Bool)(σ:St),r5 ops listed->
   (∀j y,xs[j]?=some y->j≠i->listed.getD j true=false->wY anc j i=false->u7 x y=true)->
   i∈Region.ready .any ops listed->aR Φ x (r9 Φ ops xs K f (listed.setIfInBounds i true)) σ->r9 Φ ops xs K (f+1) listed σ:=by
 intro f
 induction f with
 |zero=>
   intro listed σ _ _ hr H;refine⟨fun h=>(by rw[h]at hr;cases hr),fun j hj=>?_⟩
   by_cases hji:j=i
   ·subst hji;exact⟨x,hi,H⟩
   ·obtain⟨h',v,_,_,h3,_⟩:=jS H
    have:=ready_mono hj hji;rw[h3.1]at this;cases this
 |succ f ih=>
   intro listed σ hc hfree hr H;refine⟨fun h=>(by rw[h]at hr;cases hr),fun j hj=>?_⟩
   by_cases hji:j=i
   ·subst hji;exact⟨x,hi,H⟩
   ·obtain⟨h',v,_,_,h3,_⟩:=jS H
    obtain⟨y,hy,_⟩:=h3.2 j (ready_mono hj hji);obtain⟨hjun,oj,hoj,hall⟩:=mem_ready.1 hj;have hiun:=(mem_ready.1 hr).1
    have hnot:wY anc j i=false:=by
     cases hb:wY anc j i with
     |false=>rfl
     |true=>
       have hs:j<ops.size:=(zAd.1 hoj).1;have:=ha.listed hc j oj hoj hall hb (fun _ _ _ _=>trivial) (fun e _ _ hlt=>⟨ops[e.on]'(by omega),by simp⟩)
       rcases zCc i listed.size with h'|h'
       ·simp[h']at hiun this;rw[hiun]at this;cases this
       ·simp[Array.getElem?_eq_none h']at this
    have H':aR Φ x (aR Φ y (r9 Φ ops xs K f ((listed.setIfInBounds i true).setIfInBounds j true))) σ:=jR H fun τ hτ=>by
     obtain⟨y',hy',hw⟩:=hτ.2 j (ready_mono hj hji);rw[hy]at hy';cases hy';exact hw
    have H2:=KY (hfree j y hy hji hjun hnot) (Bk hK f _) H';refine⟨y,hy,jR H2 fun τ hτ=>ih (listed.setIfInBounds j true) τ (hc.set hj) ?_ (ready_mono hr (Ne.symm hji)) ?_⟩
    ·intro k z hz hki hun hno
     refine hfree k z hz hki ?_ hno;by_cases hjk:j=k
     ·subst hjk;exact hjun
     ·rw[getD_set_ne true hjk]at hun;exact hun
    ·rw[Array.setIfInBounds_comm _ _ hji]
     exact hτ
def CY(ops:Array Oper)(xs:List AOp)(anc:List Nat):List Nat->Bool
 |[]=>true
 |i::l=>!(gS i l)&&
   (match ops[i]? with
    |some o=>o.after.toList.all fun e=>!(Region.binds .any e)||(decide (e.on<ops.size)&& !(gS e.on (i::l)))
    |none=>false)&&
   (match xs[i]? with
    |some x=>l.all fun j=>wY anc j i||(match xs[j]? with
      |some y=>u7 x y
      |none=>false)
    |none=>false)&&CY ops xs anc l
def uV(ops:Array Oper)(xs:List AOp)(anc perm:List Nat):Bool:=
 decide (ops.size=xs.length)&&decide (perm.length=ops.size)&&
 ((zBf ops.size).all fun j=>gS j perm)&&
 ((zBf ops.size).all fun j=>match ops[j]? with
   |some o=>o.after.toList.all fun e=>!(Region.binds .any e)||decide (e.on<j)
   |none=>true)&&
 ((zBf ops.size).all fun j=>match ops[j]? with
   |some o=>(zBf j).all fun i=>!(zDg (anc.getD j 0) i)||o.after.toList.any fun e=>Region.binds .any e&&(decide (e.on=i)||wY anc e.on i)
   |none=>true)&&CY ops xs anc perm
def jx(xs:List AOp):List Nat->Option (List AOp)
 |[]=>some []
 |i::l=>match xs[i]?,jx xs l with
   |some x,some ys=>some (x::ys)
   |_,_=>none
theorem Jv{anc perm:List Nat}(hd:uV ops xs anc perm=true):CC ops anc:=by
 simp only[uV,zAe,decide_eq_true_eq]at hd;obtain⟨⟨⟨⟨⟨hsz,hpl⟩,hall⟩,hed⟩,hanc⟩,hap⟩:=hd;intro j i oj hj hb;simp only[wY,zAe,decide_eq_true_eq]at hb;have hs:j<ops.size:=(zAd.1 hj).1;have h1:=zAf.1 hanc j (zBb.2 hs);simp only[hj]at h1;have h2:=zAf.1 h1 i (zBb.2 hb.1);simp only[hb.2,zCa,zBi]at h2;obtain⟨e,he,h3⟩:=zDh.1 h2;simp only[zAe,zCg,decide_eq_true_eq]at h3;have h4:=zAf.1 hed j (zBb.2 hs);simp only[hj]at h4;have h5:=zAf.1 h4 e he;simp only[h3.1,zCa,zBi,decide_eq_true_eq]at h5;exact⟨e,by simpa using he,h3.1,h5,h3.2⟩
theorem K0{anc:List Nat}(ha:CC ops anc)(hK:Inv K):∀(l:List Nat)(ys:List AOp)(listed:Array Bool)(σ:St),CY ops xs anc l=true->jx xs l=some ys->
 listed.size=ops.size->(∀j,j<ops.size->listed.getD j false=!(gS j l))->r5 ops listed->vi Φ ys K σ->r9 Φ ops xs K l.length listed σ:=by
 intro l
 induction l with
 |nil=>
   intro ys listed σ _ hys hls hl hc h;simp only[jx,zAb]at hys;subst hys;refine⟨?_,h⟩;rw[List.eq_nil_iff_forall_not_mem];intro j hj;obtain⟨h1,o,ho,_⟩:=mem_ready.1 hj;have hs:j<ops.size:=(zAd.1 ho).1;have h2:=hl j hs;have hlt:j<listed.size:=by omega
   simp[hlt,gS]at h1 h2;rw[h1]at h2;simp at h2
 |cons i l ih=>
   intro ys listed σ hp hys hls hl hc h;simp only[CY,zAe,zBh]at hp;obtain⟨⟨⟨hnd,hpre⟩,hap⟩,hrest⟩:=hp;simp only[jx]at hys;split at hys
   ·rename_i x ys' hx hys'
    cases hys;split at hpre
    ·rename_i o ho
     have hks:i<ops.size:=(zAd.1 ho).1
     have hr:i∈Region.ready .any ops listed:=by
      refine mem_ready.2 ⟨?_,o,ho,fun e he hb=>?_⟩
      ·have:=hl i hks
       have hlt:i<listed.size:=by omega
       simp[hlt,gS]at this⊢;exact this
      ·have h5:=zAf.1 hpre e (by simpa using he)
       simp only[hb,zCa,zBi,zAe,decide_eq_true_eq]at h5;rw[hl e.on h5.1];exact h5.2
     refine vj ha hK hx l.length listed σ hc ?_ hr ?_
     ·intro j y hy hji hun hno
      simp only[hx]at hap;by_cases hjs:j<ops.size
      ·have h2:=hl j hjs
       have hlt:j<listed.size:=by omega
       simp[hlt]at hun h2;rw[hun]at h2
       have h3:gS j (i::l)=true:=by
        cases hm:gS j (i::l)with
        |true=>rfl
        |false=>rw[hm]at h2;cases h2
       simp only[gS,if_neg hji]at h3;have h4:=zAf.1 hap j (iS.1 h3);simp only[hno,hy,zBi]at h4;exact h4
      ·have:¬j<listed.size:=by omega
       simp[this]at hun
     ·refine jR h fun τ hτ=>ih ys' _ τ hrest hys' (by simp[hls]) ?_ (hc.set hr) hτ
      intro j hj;by_cases hkj:i=j
      ·subst hkj
       have hlt:i<listed.size:=by omega
       simp[hlt,hnd]
      ·rw[getD_set_ne false hkj,hl j hj]
       have:j≠i:=fun h=>hkj h.symm;simp only[gS,if_neg this]
    ·cases hpre
   ·cases hys
theorem HC{anc perm:List Nat}{ys:List AOp}{σ:St}(hd:uV ops xs anc perm=true)(hp:jx xs perm=some ys)(hK:Inv K)(h:vi Φ ys K σ):
 r9 Φ ops xs K ops.size (zAh ops.size false) σ:=by
 have ha:=Jv hd;simp only[uV,zAe,decide_eq_true_eq]at hd;obtain⟨⟨⟨⟨⟨hsz,hpl⟩,hall⟩,hed⟩,hanc⟩,hap⟩:=hd
 have:=K0 ha hK perm ys (zAh ops.size false) σ hap hp (by simp) (fun j hj=>by
  have:=zAf.1 hall j (zBb.2 hj);simp[hj,this]) (fun j oj hj hl=>by
  have hs:=(zAd.1 hj).1;simp[hs]at hl) h
 rw[hpl]at this;exact this
def Ac(ops:Array Oper):Nat->Array Bool->List (List Nat)
 |0,listed=>match Region.ready .any ops listed with
   |[]=>[[]]
   |_=>[[ops.size]]
 |f+1,listed=>match Region.ready .any ops listed with
   |[]=>[[]]
   |i::r=>(i::r).flatMap fun i=>(Ac ops f (listed.setIfInBounds i true)).map (i::·)
def uu:List AOp->Bool
 |[]=>true
 |x::xs=>(match x.a with
   | .call _ _=>false
   | .callv _ _=>false
   | .callH _ _=>false
   | .inv _ _ _=>false
   | .ivp _ _ _=>false
   |_=>true)&&uu xs
def xW(xs:List AOp):List (List Nat)->Option (List (List AOp))
 |[]=>some []
 |p::ps=>match jx xs p,xW xs ps with
   |some y,some ys=>some (y::ys)
   |_,_=>none
theorem EV{d:Option Nat}{a:Act'}(hn:(match a with| .call _ _=>false| .callv _ _=>false| .callH _ _=>false| .inv _ _ _=>false| .ivp _ _ _=>false|_=>true)=true){σ:St}{K:St->Prop}(h:af Φ d a K σ):∃τ,∀K',af Φ d a K' σ↔K' τ:=by
 cases a with
 |call=>cases hn
 |callv=>cases hn
 |callH=>cases hn
 |inv=>cases hn
 |ivp=>cases hn
 |mkp kt=>exact⟨_,fun K'=>zAa⟩
 |ltr e sz xs=>
   simp only[af]at h⊢;split at h
   ·split at h
    ·exact⟨_,fun K'=>⟨fun h=>h.2.2,fun h'=>⟨h.1,h.2.1,h'⟩⟩⟩
    ·unfold Ab at h⊢
     split at h
     ·exact⟨_,fun K'=>⟨fun h=>h.2.2.2,fun h'=>⟨h.1,h.2.1,h.2.2.1,h'⟩⟩⟩
     ·exact h.elim
   ·exact h.elim
 |apz y e sz by'=>
   simp only[af]at h⊢;split at h
   ·split at h
    ·exact⟨_,fun K'=>⟨fun h=>h.2.2,fun h'=>⟨h.1,h.2.1,h'⟩⟩⟩
    ·exact h.elim
   ·exact h.elim
 |sbq y=>
   simp only[af]at h⊢;split at h
   ·exact⟨_,fun K'=>⟨fun h=>h.2,fun h'=>⟨h.1,h'⟩⟩⟩
   ·exact h.elim
 |aps x y e=>
   simp only[af]at h⊢;split at h
   ·unfold tY at h⊢
    split at h
    ·split at h
     ·exact⟨_,fun K'=>⟨fun h=>h.2.2.2.2,fun h'=>⟨h.1,h.2.1,h.2.2.1,h.2.2.2.1,h'⟩⟩⟩
     ·exact h.elim
    ·exact h.elim
   ·exact h.elim
 |apb x y e=>
   simp only[af]at h⊢;split at h
   ·split at h
    ·unfold tY at h⊢
     split at h
     ·split at h
      ·exact⟨_,fun K'=>⟨fun h=>h.2.2.2.2,fun h'=>⟨h.1,h.2.1,h.2.2.1,h.2.2.2.1,h'⟩⟩⟩
      ·exact h.elim
     ·exact h.elim
    ·exact h.elim
   ·exact h.elim
 |alb t e z=>
   simp only[af]at h⊢;split at h
   ·exact⟨_,fun K'=>⟨fun h=>h.2,fun h'=>⟨h.1,h'⟩⟩⟩
   ·exact h.elim
 |usd x=>
   simp only[af]at h⊢;split at h
   ·split at h
    ·exact⟨_,fun K'=>⟨fun h=>h.2.2,fun h'=>⟨h.1,h.2.1,h'⟩⟩⟩
    ·exact h.elim
   ·exact h.elim
 |ust p n e=>
   simp only[af]at h⊢;split at h
   ·exact⟨_,fun K'=>⟨fun h=>h.2,fun h'=>⟨h.1,h'⟩⟩⟩
   ·split at h
    ·split at h
     ·exact⟨_,fun K'=>⟨fun h=>h.2.2.2.2.2.2.2.2,fun h'=>⟨h.1,h.2.1,h.2.2.1,h.2.2.2.1,h.2.2.2.2.1,h.2.2.2.2.2.1,h.2.2.2.2.2.2.1,h.2.2.2.2.2.2.2.1,h'⟩⟩⟩
     ·exact h.elim
    ·exact h.elim
   ·exact h.elim
 |del kt x k=>
   simp only[af]at h⊢;split at h
   ·split at h
    ·exact⟨_,fun K'=>⟨fun h=>h.2.2,fun h'=>⟨h.1,h.2.1,h'⟩⟩⟩
    ·exact h.elim
   ·exact h.elim
 |cvb x=>
   simp only[af]at h⊢;split at h
   ·split at h
    ·exact⟨_,fun K'=>⟨fun h=>h.2.2.2,fun h'=>⟨h.1,h.2.1,h.2.2.1,h'⟩⟩⟩
    ·exact h.elim
   ·exact h.elim
 |bxq x=>
   simp only[af]at h⊢;split at h
   ·exact⟨_,fun K'=>zAa⟩
   ·exact h.elim
 |alq z=>
   simp only[af]at h⊢;split at h
   ·exact⟨_,fun K'=>zAa⟩
   ·exact h.elim
 |mkq e sz by' z n=>
   simp only[af]at h⊢;split at h
   ·exact⟨_,fun K'=>⟨fun h=>h.2.2,fun h'=>⟨h.1,h.2.1,h'⟩⟩⟩
   ·exact h.elim
 |trc x hi sz=>
   simp only[af]at h⊢;split at h
   ·split at h
    ·split at h
     ·exact⟨_,fun K'=>⟨fun h=>h.2.2.2.2.2,fun h'=>⟨h.1,h.2.1,h.2.2.1,h.2.2.2.1,h.2.2.2.2.1,h'⟩⟩⟩
     ·exact h.elim
    ·exact h.elim
   ·split at h
    ·exact⟨_,fun K'=>⟨fun h=>h.2.2.2.2,fun h'=>⟨h.1,h.2.1,h.2.2.1,h.2.2.2.1,h'⟩⟩⟩
    ·exact h.elim
   ·exact h.elim
 |mup kt x k v=>
   simp only[af]at h⊢;split at h
   ·split at h
    ·exact⟨_,fun K'=>⟨fun h=>h.2.2.2.2,fun h'=>⟨h.1,h.2.1,h.2.2.1,h.2.2.2.1,h'⟩⟩⟩
    ·exact h.elim
   ·exact h.elim
 |alc z=>exact⟨_,fun K'=>zAa⟩
 |box x=>
   simp only[af]at h⊢;split at h
   ·split at h
    ·rename_i hc;simp only[if_pos hc];exact⟨_,fun K'=>zAa⟩
    ·exact h.elim
   ·exact h.elim
 |st n p x=>
   simp only[af]at h⊢;split at h
   ·split at h
    ·rename_i hc
     simp only[if_pos hc];split at h
     ·exact⟨_,fun K'=>zAa⟩
     ·exact h.elim
    ·exact h.elim
   ·exact h.elim
 |s2b x=>
   simp only[af]at h⊢;split at h
   ·exact⟨_,fun K'=>⟨fun h=>h.2,fun h'=>⟨h.1,h'⟩⟩⟩
   ·exact h.elim
 |lit e0 sz xs=>
   simp only[af]at h⊢;split at h
   ·split at h
    ·exact⟨_,fun K'=>⟨fun h=>h.2.2,fun h'=>⟨h.1,h.2.1,h'⟩⟩⟩
    ·exact h.elim
   ·exact h.elim
 |app x y e sz by'=>
   simp only[af]at h⊢;split at h
   ·unfold EM at h⊢
    split at h
    ·split at h
     ·exact⟨_,fun K'=>⟨fun h=>h.2.2.2.2.2,fun h'=>⟨h.1,h.2.1,h.2.2.1,h.2.2.2.1,h.2.2.2.2.1,h'⟩⟩⟩
     ·exact h.elim
    ·exact h.elim
   ·unfold EN at h⊢
    split at h
    ·split at h
     ·exact⟨_,fun K'=>⟨fun h=>h.2.2.2.2,fun h'=>⟨h.1,h.2.1,h.2.2.1,h.2.2.2.1,h'⟩⟩⟩
     ·exact h.elim
    ·exact h.elim
   ·split at h
    ·obtain⟨h0,h⟩:=h
     split at h
     ·exact⟨_,fun K'=>⟨fun h=>h.2.2,fun h'=>⟨h0,h.1,h'⟩⟩⟩
     ·split at h
      ·exact⟨_,fun K'=>⟨fun h=>h.2.2.2.2.2,fun h'=>⟨h0,h.1,h.2.1,h.2.2.1,h.2.2.2.1,h'⟩⟩⟩
      ·exact h.elim
     ·split at h
      ·split at h
       ·exact⟨_,fun K'=>⟨fun h=>h.2.2.2.2.2,fun h'=>⟨h0,h.1,h.2.1,h.2.2.1,h.2.2.2.1,h'⟩⟩⟩
       ·exact h.elim
      ·exact h.elim
     ·exact h.elim
    ·exact h.elim
   ·exact h.elim
 |rgs x=>
   simp only[af]at h⊢;split at h
   ·exact⟨_,fun K'=>zAa⟩
   ·exact h.elim
 |nxs x=>
   simp only[af]at h⊢;split at h
   ·split at h
    ·split at h
     ·rename_i hp;simp only[if_pos hp];exact⟨_,fun K'=>zAa⟩
     ·rename_i hp;simp only[if_neg hp];exact⟨_,fun K'=>zAa⟩
    ·exact h.elim
   ·exact h.elim
 |yld g xs=>
   simp only[af]at h⊢;split at h
   ·split at h
    ·exact⟨_,fun K'=>⟨fun h=>h.2.2,fun h'=>⟨h.1,h.2.1,h'⟩⟩⟩
    ·exact h.elim
   ·exact h.elim
 |mkm e by' e2 sz n=>
   simp only[af]at h⊢;split at h
   ·exact⟨_,fun K'=>⟨fun h=>h.2.2,fun h'=>⟨h.1,h.2.1,h'⟩⟩⟩
   ·exact h.elim
 |mk0 e sz by' n=>
   simp only[af]at h⊢;split at h
   ·exact⟨_,fun K'=>⟨fun h=>h.2.2,fun h'=>⟨h.1,h.2.1,h'⟩⟩⟩
   ·exact h.elim
 |mks e sz by' z n=>
   simp only[af]at h⊢;split at h
   ·exact⟨_,fun K'=>⟨fun h=>h.2.2,fun h'=>⟨h.1,h.2.1,h'⟩⟩⟩
   ·exact h.elim
 |_=>
   simp only[af]at h⊢;split at h
   ·exact⟨_,fun K'=>zAa⟩
   ·exact h.elim
theorem QV{x:AOp}(hn:(match x.a with| .call _ _=>false| .callv _ _=>false| .callH _ _=>false| .inv _ _ _=>false| .ivp _ _ _=>false|_=>true)=true){σ:St}{K:St->Prop}(h:wop Φ x K σ):∃τ,∀K',wop Φ x K' σ↔K' τ:=by
 unfold wop at h⊢;split at h
 ·exact EV hn h
 ·split at h
  ·rename_i t b _ _ y hy
   cases y<;>cases b<;>simp[Br]at h⊢<;>first|exact EV hn h|exact⟨_,fun K'=>zAa⟩
  ·exact⟨_,fun K'=>zAa⟩
  ·exact h.elim
theorem Kt(ops:Array Oper):∀(f:Nat)(listed:Array Bool),Ac ops f listed≠[]
 |0,listed=>by unfold Ac;split<;>simp
 |f+1,listed=>by
   unfold Ac;split
   ·simp
   ·rename_i i r _
    have:=Kt ops f (listed.setIfInBounds i true);intro h;rw[List.flatMap_cons]at h;exact this (List.map_eq_nil_iff.1 (List.append_eq_nil_iff.1 h).1)
theorem x6{i:Nat}{x:AOp}:∀{xs:List AOp},uu xs=true->xs[i]?=some x->(match x.a with| .call _ _=>false| .callv _ _=>false| .callH _ _=>false| .inv _ _ _=>false| .ivp _ _ _=>false|_=>true)=true
 |[],_,h=>by simp at h
 |y::ys,hn,h=>by
   simp only[uu,zAe]at hn;revert h;revert i;intro i h;cases i with
   |zero=>simp at h;subst h;exact hn.1
   |succ i=>simp at h;exact x6 hn.2 h
theorem LZ (hn:uu xs=true) (hsz:ops.size=xs.length):∀ (f:Nat) (listed:Array Bool) (σ:St),(∀ p∈Ac ops f listed,∃ ys,jx xs p=some ys∧wq Φ ys K σ)→
 JV Φ ops xs K f listed σ:=by
 intro f
 induction f with
 | zero=>
   intro listed σ h
   unfold Ac at h
   split at h
   · rename_i hr
     obtain ⟨ys,h1,h2⟩:=h [] (by simp)
     simp only [jx,zAb] at h1
     subst h1
     exact ⟨hr,h2⟩
   · obtain ⟨ys,h1,_⟩:=h [ops.size] (by simp)
     simp [jx,hsz] at h1
 | succ f ih=>
   intro listed σ h
   unfold Ac at h
   split at h
   · rename_i hr
     obtain ⟨ys,h1,h2⟩:=h [] (by simp)
     simp only [jx,zAb] at h1
     subst h1
     refine ⟨fun _=>h2,fun i hi=>?_⟩
     rw [hr] at hi
     cases hi
   · rename_i i0 r hr
     refine ⟨fun h0=>(by rw [hr] at h0; cases h0),fun i hi=>?_⟩
     rw [hr] at hi
     have hall:∀ p∈Ac ops f (listed.setIfInBounds i true),∃ ys,jx xs (i::p)=some ys∧wq Φ ys K σ:=fun p hp=>h (i::p) (List.mem_flatMap.2 ⟨i,hi,zEb.2 ⟨p,hp,rfl⟩⟩)
     obtain ⟨p0,hp0⟩:=List.exists_mem_of_ne_nil _ (Kt ops f (listed.setIfInBounds i true))
     obtain ⟨ys0,h0,hw0⟩:=hall p0 hp0
     simp only [jx] at h0
     split at h0
     · rename_i x ys1 hx hy1
       cases h0
       obtain ⟨τ,hτ⟩:=QV (x6 hn hx) hw0
       refine ⟨x,hx,(hτ _).2 (ih _ τ (fun p hp=>?_))⟩
       obtain ⟨ys,h2,hw⟩:=hall p hp
       simp only [jx,hx] at h2
       split at h2
       · rename_i x' ys2 hx' hy2
         cases hx'
         cases h2
         exact ⟨ys2,hy2,(hτ _).1 hw⟩
       · cases h2
     · cases h0
theorem NC{x:AOp}{σ:St}{K K':St->Prop}(h:aR Φ x K σ)(hk:∀τ,K τ->K' τ):wop Φ x K' σ:=NE (jR h hk)
theorem CG:∀(f:Nat)(listed:Array Bool){σ:St},r9 Φ ops xs K f listed σ->JV Φ ops xs K f listed σ
 |0,_,_,h=>h
 |f+1,_,_,h=>⟨h.1,fun i hi=>by
   obtain⟨x,hx,hw⟩:=h.2 i hi;exact⟨x,hx,NC hw fun τ hτ=>CG f _ hτ⟩⟩
def Jn(xs:List AOp)(anc:List Nat)(listed:Array Bool)(i:Nat):Bool:=match xs[i]? with
 |some x=>(zBf xs.length).all fun j=>decide (j=i)||listed.getD j true||wY anc j i||(match xs[j]? with
   |some y=>u7 x y
   |none=>true)
 |none=>false
def Em(xs:List AOp)(anc:List Nat)(listed:Array Bool):List Nat->Option Nat
 |[]=>none
 |i::l=>if Jn xs anc listed i=true then some i else Em xs anc listed l
def B6:List (Option OT)->Option OT
 |[]=>none
 |[t]=>t
 |t::ts=>match t,B6 ts with
   |some a,some b=>some (.both a b)
   |_,_=>none
def opT:Option AOp->Option OT->Option OT
 |some x,some t=>some (.op x t)
 |_,_=>none
def IT(ops:Array Oper)(xs:List AOp)(anc:List Nat):Nat->Array Bool->Option OT
 |0,listed=>match Region.ready .any ops listed with
   |[]=>some .nil
   |_=>none
 |f+1,listed=>match Region.ready .any ops listed with
   |[]=>some .nil
   |i::r=>match Em xs anc listed (i::r)with
     |some k=>opT xs[k]? (IT ops xs anc f (listed.setIfInBounds k true))
     |none=>B6 ((i::r).map fun k=>opT xs[k]? (IT ops xs anc f (listed.setIfInBounds k true)))
theorem FH{x:Option AOp}{t:Option OT}{u:OT}(h:opT x t=some u):∃y v,x=some y/\t=some v/\u=.op y v:=by
 unfold opT at h;split at h
 ·cases h;exact⟨_,_,rfl,rfl,rfl⟩
 ·cases h
theorem B5{K:St->Prop}{σ:St}:∀{ts:List (Option OT)}{t:OT},B6 ts=some t->jr Φ t K σ->∀u∈ts,∃v,u=some v/\jr Φ v K σ
 |[],_,h,_,_,_=>by cases h
 |[t0],t,h,hW,u,hu=>by
   simp only[B6]at h;simp only[List.mem_singleton]at hu;subst hu;exact⟨t,h,hW⟩
 |t0::t1::ts,t,h,hW,u,hu=>by
   simp only[B6]at h;cases t0 with
   |none=>cases h
   |some a=>
     cases h2:B6 (t1::ts)with
     |none=>simp[h2]at h
     |some b=>
       simp only[h2,zAb]at h;subst h;rcases zDb.1 hu with rfl|hu
       ·exact⟨a,rfl,hW.1⟩
       ·exact B5 h2 hW.2 u hu
theorem Jo{anc:List Nat}{listed:Array Bool}{l:List Nat}{k:Nat}(h:Em xs anc listed l=some k):k∈l/\Jn xs anc listed k=true:=by
 induction l with
 |nil=>cases h
 |cons i l ih=>
   simp only[Em]at h;split at h
   ·rename_i hf;cases h;exact⟨by simp,hf⟩
   ·exact⟨zCb _ (ih h).1,(ih h).2⟩
theorem LY{anc:List Nat}(ha:CC ops anc)(hK:Inv K):∀(f:Nat)(listed:Array Bool)(σ:St)(t:OT),r5 ops listed->IT ops xs anc f listed=some t->jr Φ t K σ->
 r9 Φ ops xs K f listed σ:=by
 intro f
 induction f with
 |zero=>
   intro listed σ l hc h hW;unfold IT at h;split at h
   ·rename_i hr
    cases h;exact⟨hr,hW⟩
   ·cases h
 |succ f ih=>
   intro listed σ l hc h hW;unfold IT at h;split at h
   ·rename_i hr
    cases h;exact⟨fun _=>hW,fun i hi=>by rw[hr]at hi;cases hi⟩
   ·rename_i i r hr
    split at h
    ·rename_i k hk
     obtain⟨x,l',hx,hl',rfl⟩:=FH h;obtain⟨hk1,hfree⟩:=Jo hk;have hkr:k∈Region.ready .any ops listed:=by rw[hr];exact hk1
     refine vj ha hK hx f listed σ hc ?_ hkr (jR hW fun τ hτ=>ih _ τ l' (hc.set hkr) hl' hτ);intro j y hy hjk hun hno;unfold Jn at hfree;rw[hx]at hfree;have:=zAf.1 hfree j (zBb.2 (zAg.1 hy).1);simp only[hun,hno,hy,Bool.or_false,zCg,decide_eq_true_eq,hjk,false_or]at this;exact this
    ·refine⟨fun h0=>(by rw[hr]at h0;cases h0),fun k hk=>?_⟩
     obtain⟨v,hv,hWv⟩:=B5 h hW _ (zEb.2 ⟨k,by rw[hr]at hk;exact hk,rfl⟩)
     obtain⟨x,l',hx,hl',rfl⟩:=FH hv;exact⟨x,hx,jR hWv fun τ hτ=>ih _ τ l' (hc.set hk) hl' hτ⟩
def EP(ops:Array Oper)(anc:List Nat):Bool:=
 ((zBf ops.size).all fun j=>match ops[j]? with
   |some o=>o.after.toList.all fun e=>!(Region.binds .any e)||decide (e.on<j)
   |none=>true)&&
 ((zBf ops.size).all fun j=>match ops[j]? with
   |some o=>(zBf j).all fun i=>!(zDg (anc.getD j 0) i)||o.after.toList.any fun e=>Region.binds .any e&&(decide (e.on=i)||wY anc e.on i)
   |none=>true)
theorem JN{anc:List Nat}(hd:EP ops anc=true):CC ops anc:=by
 simp only[EP,zAe]at hd;obtain⟨hed,hanc⟩:=hd;intro j i oj hj hb;simp only[wY,zAe,decide_eq_true_eq]at hb;have hs:j<ops.size:=(zAd.1 hj).1;have h1:=zAf.1 hanc j (zBb.2 hs);simp only[hj]at h1;have h2:=zAf.1 h1 i (zBb.2 hb.1);simp only[hb.2,zCa,zBi]at h2;obtain⟨e,he,h3⟩:=zDh.1 h2;simp only[zAe,zCg,decide_eq_true_eq]at h3;have h4:=zAf.1 hed j (zBb.2 hs);simp only[hj]at h4;have h5:=zAf.1 h4 e he;simp only[h3.1,zCa,zBi,decide_eq_true_eq]at h5;exact⟨e,by simpa using he,h3.1,h5,h3.2⟩
theorem r5.start{n:Nat}:r5 ops (zAh n false):=by
 intro j oj hj hl;by_cases hjn:j<n
 ·simp[hjn]at hl
 ·simp[hjn]at hl
theorem Ta{ps:List Nat}{os:List Oper}{ys:List AOp}(h:LOs P N ps ops os ys):∀{i:Nat}{o:Oper}{y:AOp},os[i]?=some o->ys[i]?=some y->LO P N ps ops o y:=by
 induction h with
 |nil=>intro i o y h;simp at h
 |cons hl hs ih=>
   intro i o y h1 h2;cases i with
   |zero=>simp at h1 h2;subst h1;subst h2;exact hl
   |succ i=>simp at h1 h2;exact ih h1 h2
theorem pM(hJC:jE P M0 B){ρ:Option Nat}{Q:Exit->Act->World->Prop}{K:St->Prop}(hL:LOs P N B.ps ops ops.toList xs)(hK:∀κ' M' σ' a' w',K σ'->Rel N M0 B w0 κ' M' σ' a' w'->Q .normal a' w'):
 ∀(f:Nat)(listed:Array Bool){κ:Kap}{M:Mem}{σ:St}{a:Act}{w:World},Rel N M0 B w0 κ M σ a w->JV (Cn P) ops xs K f listed σ->wpAnyIn (FR ρ) 0 P .any ops Q f listed a w
 |0,_,_,_,_,_,_,H,hW=>⟨hW.1,hK _ _ _ _ _ hW.2 H⟩
 |f+1,listed,_,_,_,_,_,H,hW=>by
   refine⟨fun h0=>hK _ _ _ _ _ (hW.1 h0) H,fun i hi=>?_⟩;obtain⟨x,hx,hw⟩:=hW.2 i hi;obtain⟨_,o,ho,_⟩:=mem_ready.1 hi;have hl:=Ta hL (by simpa using ho) hx
   have:=FG hJC (ρ:=ρ) H hl hw (Q:=Q) (fun κ' M' σ' a' w' hk H'=>pM (ρ:=ρ) hJC hL hK f _ H' hk);unfold wpOpIn;simp only[ho];split
   ·rename_i hwd;rw[if_pos hwd]at this;exact this
   ·rename_i hwd;rw[if_neg hwd]at this;exact⟨fun _ _=>trivial,this⟩
theorem Rel.draw{κ:Kap}{M:Mem}{σ:St}{a:Act}{w:World}(H:Rel N M0 B w0 κ M σ a w)(n:Nat):Rel N M0 B w0 κ M σ a { w with drawn:=n }:=
 { dfr:=H.dfr,jst:=H.jst,pin:=H.pin,size:=H.size,regs:=H.regs,heap:=fun id ob h=>by
    have:=H.heap id ob h;cases ob with
    |gh l=>
      simp only[aG]at this⊢;obtain⟨k,h1,h2,h3⟩:=this;exact⟨k,h1,H.jst _ _ _ _ _ _ _ h2 ⟨rfl,rfl,rfl,zBg _,fun _ _ _=>rfl,fun _ cur T z h=>⟨cur,T,z,h,rfl⟩⟩ (fun _ _=>rfl) (fun _ _ h=>h) H.snd,h3⟩
    |_=>exact this
   inj:=H.inj,snd:=H.snd,sep:=H.sep,sub:=H.sub,new:=H.new,base:=H.base,blw:=⟨H.blw.os,H.blw.tape,H.blw.output,H.blw.size,H.blw.block,H.blw.siz⟩ }
inductive LC (P:Program) (N:Nat) (ps:List Nat):Code->AC->Prop
 |skip:LC P N ps .skip .skip
 |reg {id ops xs ks}:LOs P N ps ops ops.toList xs->LC P N ps (.region id ops false) (.reg xs ks)
 |regD {id ops xs ys anc perm ks}:LOs P N ps ops ops.toList xs->uV ops xs anc perm=true->jx xs perm=some ys->LC P N ps (.region id ops true) (.regD ys ks)
 |regE {id ops xs yss ks}:LOs P N ps ops ops.toList xs->uu xs=true->ops.size=xs.length->xW xs (Ac ops ops.size (zAh ops.size false))=some yss->LC P N ps (.region id ops true) (.regE yss ks)
 |regF {id ops xs yss anc ks}:LOs P N ps ops ops.toList xs->EP ops anc=true->IT ops xs anc ops.size (zAh ops.size false)=some yss->LC P N ps (.region id ops true) (.regF yss ks)
 |scope {c rest a b l ks}:LC P N ps c a->findLabel c l=some rest->LC P N ps rest b->LC P N ps (.scope c) (.scope l ks a b)
 |label {l}:LC P N ps (.label l) (.label l)
 |goto {l}:LC P N ps (.goto l) (.goto l)
 |bad {x}:LC P N ps x .bad
 |seq {x y a b}:LC P N ps x a->LC P N ps y b->LC P N ps (.seq x y) (.seq a b)
 |cond {c c' x y a b t}:cO P t c=some c'->LC P N ps x a->LC P N ps y b->LC P N ps (.cond c x y) (.cond c' a b)
 |block {id x a}:LC P N ps x a->LC P N ps (.block id x) (.block id a)
 |loop {x a ks}:LC P N ps x a->LC P N ps (.loop x) (.loop ks a)
 |exit {id}:LC P N ps (.exit id) (.exit id)
 |ret:LC P N ps .ret .ret
def Ex.out:Ex->Exit
 | .norm=>.normal
 | .exit id=>.exit id
 | .goto l=>.goto l
 | .ret=>.ret
theorem uX{κ:Kap}{M:Mem}{σ σ':St}{a:Act}{w:World}(H:Rel N M0 B w0 κ M σ' a w)(ks:List Nat):Rel N M0 B w0 κ M (σ.cls σ' ks) a w:=H.forget _ fun t v h=>F6 h
theorem xV{r s:List (Nat×V)}(h:∀t,lk s t=lk r t):∀ks,pk s ks=pk r ks
 |[]=>rfl
 |k::ks=>by simp only[pk,h k,xV h ks]
theorem R7{R:St->Prop}(ks:List Nat):Inv (fun σ'=>R (σ'.nrm ks)):=by
 intro σ1 τ he h1
 have:τ.nrm ks=σ1.nrm ks:=by
  simp only[St.nrm,he.1,xV he.2]
 show R (τ.nrm ks)
 rw[this];exact h1
theorem F9{p:Nat->Prop}(h:∃n,p n):∃n,p n/\∀m,p m->n<=m:=by
 obtain⟨n,hn⟩:=h
 induction n using zCf with
 |_ n ih=>
   by_cases hm:∃m,m<n/\p m
   ·obtain⟨m,h1,h2⟩:=hm
    exact ih m h1 h2
   ·exact⟨n,hn,fun m h=>by
     rcases zCc m n with h1|h1
     ·exact(hm ⟨m,h1,h⟩).elim
     ·exact h1⟩
open Classical in
noncomputable def rg(p:Nat->Prop):Nat:=if h:∃n,p n then(F9 h).choose else 0
theorem lp{p:Nat->Prop}(h:∃n,p n):p (rg p)/\∀m,p m->rg p<=m:=by
 unfold rg;rw[dif_pos h];exact(F9 h).choose_spec
theorem Fa{b:Frame}{a:Act}{c:Code}{k:List Item}{cs:List Frame}{w:World}:step P (lone (b.atR a (.code (.scope c)::k)) cs w)=.next (lone (b.atR a (.code c::.inScope c::k)) cs w):=
 step_lone_go (by simp[stepG,stepG.exec,Frame.atR])
theorem qd{b:Frame}{a:Act}{c:Code}{k:List Item}{cs:List Frame}{w:World}:step P (lone (b.atR a (.inScope c::k)) cs w)=.next (lone (b.atR a k) cs w):=
 step_lone_go (by simp[stepG,stepG.exec,Frame.atR])
theorem ua{F:Fence}{n:Nat}{Q:Exit->Act->World->Prop}{a:Act}{w:World}{c rest:Code}(l:Nat)(J:Act->World->Prop)(μ:Act->World->Nat)(hf:findLabel c l=some rest)
 (first:c.wpIn F n P (Exit.jump l J Q) a w)
 (pass:∀a w,J a w->rest.wpIn F n P (Exit.jump l (fun a' w'=>J a' w'/\μ a' w'<μ a w) Q) a w):(Code.scope c).wpIn F n P Q a w:=by
 intro b k cs hro hb hr;have hg:gotoIn l (.inScope c::k)=some (.code rest::.inScope c::k):=by simp[gotoIn,hf]
 have hS:∀{I:Machine->Prop}{m:Machine}{e:Exit}{a₁:Act}{w₁:World},(∀l',e≠.goto l')->e≠.normal->ArrivesIn I P m b (.inScope c::k) cs e a₁ w₁->ArrivesIn I P m b k cs e a₁ w₁:=by
  intro I m e a₁ w₁ hng hnn harr;cases e with
  |normal=>exact absurd rfl hnn
  |exit id=>exact⟨fun k' hk=>harr.1 k' (by simp[exitTo,hk]),fun hr hk=>harr.2 hr (by simp[exitTo,hk])⟩
  |goto l'=>exact absurd rfl (hng l')
  |ret=>exact harr
  |panic ch=>exact harr
  |outgrown=>exact harr
 have key:∀n a w,μ a w=n->J a w->∃e a' w',Q e a' w'/\ArrivesIn (Machine.fenced P F) P (lone (b.atR a (.code rest::.inScope c::k)) cs w) b k cs e a' w':=by
  intro n
  induction n using zCf with
  |_ n ih=>
    intro a w hn hJ;obtain⟨e,a₁,w₁,hq,harr⟩:=pass a w hJ b (.inScope c::k) cs hro hb hr;cases e with
    |normal=>exact⟨.normal,a₁,w₁,hq,StepsIn.trans harr (.one (fenced_calm hb hr rfl) qd)⟩
    |exit id=>exact⟨.exit id,a₁,w₁,hq,hS (fun _ h=>by cases h) (fun h=>by cases h) harr⟩
    |goto l'=>
      obtain⟨rfl,hJ',hlt⟩:=hq;obtain⟨e₂,a₂,w₂,hq₂,harr₂⟩:=ih _ (by omega) a₁ w₁ rfl hJ'
      exact⟨e₂,a₂,w₂,hq₂,.of_steps (harr.1 _ hg) harr₂⟩
    |ret=>exact⟨_,a₁,w₁,hq,hS (fun _ h=>by cases h) (fun h=>by cases h) harr⟩
    |panic ch=>exact⟨_,a₁,w₁,hq,hS (fun _ h=>by cases h) (fun h=>by cases h) harr⟩
    |outgrown=>exact⟨_,a₁,w₁,hq,hS (fun _ h=>by cases h) (fun h=>by cases h) harr⟩
 have h0:StepsIn (Machine.fenced P F) P (lone (b.atR a (.code (.scope c)::k)) cs w) (lone (b.atR a (.code c::.inScope c::k)) cs w):=.one (fenced_calm hb hr rfl) Fa;obtain⟨e,a₁,w₁,hq,harr⟩:=first b (.inScope c::k) cs hro hb hr
 cases e with
 |normal=>exact⟨.normal,a₁,w₁,hq,StepsIn.trans h0 (StepsIn.trans harr (.one (fenced_calm hb hr rfl) qd))⟩
 |exit id=>exact⟨.exit id,a₁,w₁,hq,.of_steps h0 (hS (fun _ h=>by cases h) (fun h=>by cases h) harr)⟩
 |goto l'=>
   obtain⟨rfl,hJ'⟩:=hq;obtain⟨e₂,a₂,w₂,hq₂,harr₂⟩:=key _ a₁ w₁ rfl hJ';exact⟨e₂,a₂,w₂,hq₂,.of_steps (StepsIn.trans h0 (harr.1 _ hg)) harr₂⟩
 |ret=>exact⟨_,a₁,w₁,hq,.of_steps h0 (hS (fun _ h=>by cases h) (fun h=>by cases h) harr)⟩
 |panic ch=>exact⟨_,a₁,w₁,hq,.of_steps h0 (hS (fun _ h=>by cases h) (fun h=>by cases h) harr)⟩
 |outgrown=>exact⟨_,a₁,w₁,hq,.of_steps h0 (hS (fun _ h=>by cases h) (fun h=>by cases h) harr)⟩
theorem wo{F:Fence}{n:Nat}{Q:Exit->Act->World->Prop}{a:Act}{w:World}{c:Code}(I:Nat->Act->World->Prop)(n₀:Nat)(h₀:I n₀ a w)
 (round:∀k a w,I k a w->c.wpIn F n P (Exit.then (fun a' w'=>∃k',k'<k/\I k' a' w') Q) a w):(Code.loop c).wpIn F n P Q a w:=by
 refine wpIn_loop (fun a w=>∃k,I k a w) (fun a w=>rg (fun k=>I k a w)) ⟨n₀,h₀⟩ ?_;intro a w hI;refine wpIn_mono (round _ a w (lp hI).1) ?_;intro e a' w' hq;cases e with
 |normal=>
   obtain⟨k',hlt,hI'⟩:=hq;exact show(∃k,I k a' w')/\rg (fun k=>I k a' w')<rg (fun k=>I k a w)from⟨⟨k',hI'⟩,zDd ((lp ⟨k',hI'⟩).2 k' hI') hlt⟩
 |exit id=>exact hq
 |goto l=>exact hq
 |ret=>exact hq
 |panic ch=>exact hq
 |outgrown=>exact hq
theorem nk(hm:P.follows .mixedOrders=true)(hJC:jE P M0 B){ρ:Option Nat}{c:Code}{x:AC}(h:LC P N B.ps c x):∀{Q:Exit->Act->World->Prop}{R:Ex->St->Prop},
 (∀e κ M σ a w,R e σ->Rel N M0 B w0 κ M σ a w->Q e.out a w)->∀{κ:Kap}{M:Mem}{σ:St}{a:Act}{w:World},Rel N M0 B w0 κ M σ a w->W (Cn P) x R σ->c.wpIn (FR ρ) 0 P Q a w:=by
 induction h with
 |skip=>intro Q R hQ κ M σ a w H hW;exact wpIn_skip (hQ .norm _ _ _ _ _ hW H)
 |reg hL=>
   intro Q R hQ κ M σ a w H hW;refine wpIn_region_list (BL hJC (fun κ' M' σ' a' w' hk H'=>?_) hL H hW);exact hQ .norm _ _ _ _ _ hk (uX H' _)
 | @regD id ops xs ys anc perm ks hL hd hp=>
   intro Q R hQ κ M σ a w H hW;refine wpIn_region_any hm ?_
   have hinv:Inv (fun σ'=>R .norm (σ.cls σ' ks)):=by
    intro σ1 τ he h1
    have:σ.cls τ ks=σ.cls σ1 ks:=by
     simp only[St.cls,he.1,xV he.2]
    rw[this];exact h1
   refine pM hJC hL (fun κ' M' σ' a' w' hk H'=>?_) _ _ (H.draw _) (CG _ _ (HC hd hp hinv hW));exact hQ .norm _ _ _ _ _ hk (uX H' _)
 | @regE id ops xs yss ks hL hn hsz hp=>
   intro Q R hQ κ M σ a w H hW;refine wpIn_region_any hm ?_
   have key:∀(ps:List (List Nat))(yss:List (List AOp)),xW xs ps=some yss->Ic (Cn P) yss (fun σ'=>R .norm (σ.cls σ' ks)) σ->∀p∈ps,∃ys,jx xs p=some ys/\wq (Cn P) ys (fun σ'=>R .norm (σ.cls σ' ks)) σ:=by
    intro ps
    induction ps with
    |nil=>intro _ _ _ p hp;cases hp
    |cons q ps ih=>
      intro yss h1 h2 p hp;simp only[xW]at h1;split at h1
      ·rename_i y ys hy hys
       cases h1;rcases zDb.1 hp with rfl|hp
       ·exact⟨y,hy,h2.1⟩
       ·exact ih ys hys h2.2 p hp
      ·cases h1
   refine pM hJC hL (fun κ' M' σ' a' w' hk H'=>?_) _ _ (H.draw _) (LZ hn hsz _ _ σ (key _ _ hp hW));exact hQ .norm _ _ _ _ _ hk (uX H' _)
 | @regF id ops xs yss anc ks hL hanc hp=>
   intro Q R hQ κ M σ a w H hW;refine wpIn_region_any hm ?_;refine pM hJC hL (fun κ' M' σ' a' w' hk H'=>?_) _ _ (H.draw _) (CG _ _ (LY (JN hanc) (R7 (R:=R .norm) ks) _ _ σ _ r5.start hp hW));obtain⟨κ2,H2⟩:=H'.nrm ks;exact hQ .norm _ _ _ _ _ hk H2
 | @scope c rest x y l ks _ hf _ iha ihb=>
   intro Q R hQ κ M σ a w H hW;obtain⟨I,h1,h2⟩:=hW;have G:∀a w,(∃n κ M τ,I n τ/\Rel N M0 B w0 κ M τ a w)->∃n,∃κ M τ,I n τ/\Rel N M0 B w0 κ M τ a w:=fun _ _ h=>h;refine ua l (fun a w=>∃n κ M τ,I n τ/\Rel N M0 B w0 κ M τ a w) (fun a w=>rg fun n=>∃κ M τ,I n τ/\Rel N M0 B w0 κ M τ a w) hf (iha ?_ H h1) ?_
   ·intro e κ M σ a w hR H
    cases e with
    |norm=>exact hQ .norm _ _ _ _ _ hR H
    |exit id=>exact hQ (.exit id) _ _ _ _ _ hR H
    |ret=>exact hQ .ret _ _ _ _ _ hR H
    |goto l'=>
      obtain⟨rfl,n,ms,τ'',g1,g2⟩:=hR;obtain⟨κ',M',H'⟩:=H.mats g1;obtain⟨κ2,H2⟩:=H'.nrm ks;exact⟨rfl,n,_,_,_,g2,H2⟩
   ·intro a w hJ
    obtain⟨⟨κ,M,τ,hI,H⟩,hmin⟩:=lp hJ;refine ihb ?_ H (h2 _ τ hI);intro e κ M σ a w hR H;cases e with
    |norm=>exact hQ .norm _ _ _ _ _ hR H
    |exit id=>exact hQ (.exit id) _ _ _ _ _ hR H
    |ret=>exact hQ .ret _ _ _ _ _ hR H
    |goto l'=>
      obtain⟨rfl,m,ms,τ'',g1,g2,g3⟩:=hR;obtain⟨κ',M',H'⟩:=H.mats g1;obtain⟨κ2,H2⟩:=H'.nrm ks;have hJ':∃n,∃κ M τ,I n τ/\Rel N M0 B w0 κ M τ a w:=⟨m,_,_,_,g2,H2⟩;exact⟨rfl,hJ',zDd ((lp hJ').2 m ⟨_,_,_,g2,H2⟩) g3⟩
 |label=>intro Q R hQ κ M σ a w H hW;exact wpIn_label (hQ .norm _ _ _ _ _ hW H)
 |goto=>intro Q R hQ κ M σ a w H hW;exact wpIn_goto (hQ (.goto _) _ _ _ _ _ hW H)
 |bad=>
   intro Q R hQ κ M σ a w H hW;exact hW.elim
 |seq _ _ iha ihb=>
   intro Q R hQ κ M σ a w H hW;refine wpIn_seq (iha ?_ H hW);intro e κ M σ a w hR H;cases e with
   |norm=>exact ihb hQ H hR
   |exit id=>exact hQ (.exit id) _ _ _ _ _ hR H
   |goto l=>exact hQ (.goto l) _ _ _ _ _ hR H
   |ret=>exact hQ .ret _ _ _ _ _ hR H
 |cond hc _ _ iha ihb=>
   intro Q R hQ κ M σ a w H hW;simp only[W]at hW;split at hW
   ·rename_i t ht
    have hv:=H.op hc ht;exact wpIn_cond_split (iM hv) (fun h=>iha hQ H (hW.1 h)) (fun h=>ihb hQ H (hW.2 h))
   ·exact hW.elim
 | @block id x a _ ih=>
   intro Q R hQ κ M σ a w H hW;refine wpIn_block (ih ?_ H hW);intro e κ M σ a w hR H;cases e with
   |norm=>exact hQ .norm _ _ _ _ _ hR H
   |exit id'=>
     simp only[Ex.inBlock]at hR;simp only[Ex.out,Exit.inBlock];split
     ·rename_i he;rw[if_pos he]at hR;exact hQ .norm _ _ _ _ _ hR H
     ·rename_i he;rw[if_neg he]at hR;exact hQ (.exit id') _ _ _ _ _ hR H
   |goto l=>exact hQ (.goto l) _ _ _ _ _ hR H
   |ret=>exact hQ .ret _ _ _ _ _ hR H
 | @loop x a ks _ ih=>
   intro Q R hQ κ M σ a w H hW;obtain⟨I,⟨n,ms,σ',hms,hI⟩,hr⟩:=hW;obtain⟨κ',M',H'⟩:=H.mats hms;obtain⟨κ2,H2⟩:=H'.nrm ks;refine wo (fun n a w=>∃κ M τ,I n τ/\Rel N M0 B w0 κ M τ a w) n ⟨_,_,_,hI,H2⟩ ?_;rintro n a w ⟨κ,M,τ,hI,H⟩;refine ih ?_ H (hr n τ hI);intro e κ M σ a w hR H;cases e with
   |norm=>
     obtain⟨m,ms,τ',h1,h2,h3⟩:=hR;obtain⟨κ',M',H'⟩:=H.mats h1;obtain⟨κ2,H2⟩:=H'.nrm ks;exact⟨m,h3,_,_,_,h2,H2⟩
   |exit id=>exact hQ (.exit id) _ _ _ _ _ hR H
   |goto l=>exact hQ (.goto l) _ _ _ _ _ hR H
   |ret=>exact hQ .ret _ _ _ _ _ hR H
 |exit=>intro Q R hQ κ M σ a w H hW;exact wpIn_exit (hQ (.exit _) _ _ _ _ _ hW H)
 |ret=>intro Q R hQ κ M σ a w H hW;exact wpIn_ret (hQ .ret _ _ _ _ _ hW H)
end
def Va(P:Program)(op:BinOp)(xt:TypeId)(u v:AO):Act':=
 match P.underlying xt,op with
 |some .bool,.eql=>.beq false u v
 |some .bool,.neq=>.beq true u v
 |some (.struct _),.eql=>match ktT P xt with
   |some kt=>if kt.agg=true then .aeq false kt u v else .bin op u v
   |none=>.bin op u v
 |some (.struct _),.neq=>match ktT P xt with
   |some kt=>if kt.agg=true then .aeq true kt u v else .bin op u v
   |none=>.bin op u v
 |some (.array _ _),.eql=>match ktT P xt with
   |some kt=>if kt.agg=true then .aeq false kt u v else .bin op u v
   |none=>.bin op u v
 |some (.array _ _),.neq=>match ktT P xt with
   |some kt=>if kt.agg=true then .aeq true kt u v else .bin op u v
   |none=>.bin op u v
 |_,_=>.bin op u v
def Bq(P:Program)(t:TypeId):Option (Nat×Bool):=
 match d7 P t,qM P t with
 |some n,some g=>if g=true\/n=1 then some (n,g)else none
 |_,_=>none
def KJ(P:Program)(t:TypeId)(i:Nat):Option (Nat×TypeId):=
 match P.underlying t with
 |some (.struct fs)=>match fs[i]? with
   |some f=>some (f.offset,f.type)
   |none=>none
 |_=>none
def PR(P:Program)(c:Call):Option Act':=
 match c with
 | { callee:=.builtin .len,args:=args,argTypes:=ts }=>match args.toList,ts.toList with
   |[x],[t]=>match cO P t x,P.underlying t with
     |some u,some .string=>some (.lens u)
     |some u,some (.slice _)=>some (.lenq u)
     |_,_=>none
   |_,_=>none
 | { callee:=.builtin .append,args:=args,argTypes:=ts }=>match args.toList,ts.toList with
   |[x,y],[t,t']=>if t=t' then(match P.underlying t with
     |some (.slice e)=>match P.info? e with
       |some i=>match i.zero,cO P t x,cO P t y with
         |some z,some x',some y'=>if 0<i.bytes/\z.cells.size=i.size/\0<i.size then some (.app x' y' e i.size i.bytes)else none
         |_,_,_=>none
       |none=>none
     |_=>none)else(match P.underlying t,P.underlying t' with
     |some (.slice e),some .string=>match P.info? e with
       |some i=>match i.zero,cO P t x,cO P t' y with
         |some (.int .u8 0),some x',some y'=>if i.size=1/\i.bytes=1 then some (.aps x' y' e)else none
         |_,_,_=>none
       |none=>none
     |_,_=>none)
   |_,_=>none
 | { callee:=.builtin .delete,args:=args,argTypes:=ts }=>match args.toList,ts.toList with
   |[x,k],[t,t']=>match P.underlying t with
     |some (.map K _)=>if t'=K then(match ktT P K,cO P t x,cO P K k with
       |some kt,some u,some b=>some (.del kt u b)
       |_,_,_=>none)else none
     |_=>none
   |_,_=>none
 | { callee:=.builtin .unsafeSliceData,args:=args,argTypes:=ts }=>match args.toList,ts.toList with
   |[x],[t]=>match cO P t x,P.underlying t with
     |some u,some (.slice _)=>some (.usd u)
     |_,_=>none
   |_,_=>none
 | { callee:=.builtin .unsafeString,args:=args,argTypes:=ts }=>match args.toList,ts.toList with
   |[p,n],[pt,it]=>match P.underlying pt,cO P pt p,cO P it n with
     |some (.pointer e),some u,some v=>if P.cellsOf e=1 then some (.ust u v e)else none
     |_,_,_=>none
   |_,_=>none
 | { callee:=.builtin .max,args:=args,argTypes:=ts }=>match args.toList,ts.toList with
   |[x,y],[t,t']=>match cO P t x,cO P t' y with
     |some u,some v=>some (.mm true u v)
     |_,_=>none
   |_,_=>none
 | { callee:=.builtin .min,args:=args,argTypes:=ts }=>match args.toList,ts.toList with
   |[x,y],[t,t']=>match cO P t x,cO P t' y with
     |some u,some v=>some (.mm false u v)
     |_,_=>none
   |_,_=>none
 | { callee:=.invoke r name,args:=args,argTypes:=ts }=>match cO P 0 r,cOs P ts.toList args.toList with
   |some x,some xs=>some (if((So P name).any fun y=>y.2.2.isSome)=true then .ivp (So P name) x xs else .inv (UY P name) x xs)
   |_,_=>none
 | { callee:=.value (.func f),args:=args,argTypes:=ts }=>match cOs P ts.toList args.toList with
   |some xs=>some (.call f xs)
   |none=>none
 | { callee:=.value (.tmp g),args:=args,argTypes:=ts }=>match cOs P ts.toList args.toList with
   |some xs=>some (.callv (.t g) xs)
   |none=>none
 |_=>none
def N1:Operand->Operand->Bool
 | .tmp a,.tmp b=>decide (a=b)
 | .const (.int k n),.const (.int k' n')=>decide (k=k'/\n=n')
 |_,_=>false
theorem Il{x y:Operand}(h:N1 x y=true):x=y:=by
 unfold N1 at h;split at h
 ·simp at h;rw[h]
 ·simp at h;rw[h.1,h.2]
 ·cases h
def U9(P:Program)(op:BinOp)(xt:TypeId)(y:Operand):Option (Nat×Bool):=match y,op with
 | .const c,.eql=>match C3 P xt c with
   |some k=>some (k,false)
   |none=>none
 | .const c,.neq=>match C3 P xt c with
   |some k=>some (k,true)
   |none=>none
 |_,_=>none
theorem MN{P:Program}{op:BinOp}{xt:TypeId}{y:Operand}{k:Nat}{neg:Bool}(h:U9 P op xt y=some (k,neg)):∃c,y=.const c/\C3 P xt c=some k/\((op=.eql/\neg=false)\/(op=.neq/\neg=true)):=by
 unfold U9 at h;split at h
 ·split at h
  ·cases h;exact⟨_,rfl,‹_›,.inl ⟨rfl,rfl⟩⟩
  ·cases h
 ·split at h
  ·cases h;exact⟨_,rfl,‹_›,.inr ⟨rfl,rfl⟩⟩
  ·cases h
 ·cases h
def dC(P:Program)(ty:TypeId):Op->Option Act'
 | .move x=>(cO P ty x).map .mov
 | .assign x=>(cO P ty x).map .mov
 | .pick c a b=>match cO P ty c,cO P ty a,cO P ty b with
   |some c',some a',some b'=>some (.pick c' a' b')
   |_,_,_=>none
 | .field t x i=>match cO P t x,KJ P t i with
   |some y,some (off,ft)=>match Bq P ft with
     |some (n,g)=>some (.fld y off n g)
     |none=>none
   |_,_=>none
 | .fieldAddr t x i=>match cO P 0 x,KJ P t i with
   |some y,some (off,ft)=>match d7 P ft with
     |some n=>if n≠0 then some (.fa y off)else none
     |none=>none
   |_,_=>none
 | .indexAddr t x i=>match cO P 0 i,P.underlying t with
   |some j,some (.slice e)=>match cO P t x,d7 P e with
     |some y,some n=>some (.ia y j n)
     |_,_=>none
   |some j,some (.array m e)=>match cO P 0 x,d7 P e with
     |some y,some n=>some (.iaa y j m n)
     |_,_=>none
   |_,_=>none
 | .load t x=>match cO P 0 x,Bq P t with
   |some y,some (n,g)=>some (.ld y n g)
   |_,_=>none
 | .index t x i=>match cO P t x,cO P 0 i,P.underlying t with
   |some y,some j,some .string=>some (.ixs y j)
   |some y,some j,some (.array m e)=>match Bq P e with
     |some (n,g)=>some (.ixa y j m n g)
     |none=>none
   |_,_,_=>none
 | .binOp op xt x y yt=>match cO P xt x,U9 P op xt y with
   |some u,some (k,neg)=>some (.nlq k neg u)
   |some u,none=>match cO P yt y with
     |some v=>some (Va P op xt u v)
     |none=>none
   |none,_=>none
 | .unOp op t x=>(cO P t x).map (.un op)
 | .convert s d x=>match cO P s x,P.underlying s,P.underlying d with
   |some u,some (.slice e),some .string=>match P.underlying e with
     |some (.int .u8)=>some (.b2s u)
     |_=>none
   |some u,some _,some (.int k)=>some (.cii k u)
   |some u,some (.int _),some .string=>some (.r2s u)
   |some u,some .string,some (.slice e)=>match P.underlying e with
     |some (.int .u8)=>some (.s2b u)
     |_=>none
   |some u,some (.slice e),some (.slice _)=>match P.underlying e with
     |some (.int .u8)=>if s=d then some (.cvb u)else none
     |_=>none
   |_,_,_=>none
 | .slice t x lo hi none=>match cO P t x,cOo P 0 lo,cOo P 0 hi with
   |some u,some lo',some hi'=>match P.underlying t with
     |some .string=>some (.sls u lo' hi')
     |some (.slice e)=>match d7 P e with
       |some n=>some (.slq u lo' hi' n)
       |none=>none
     |_=>none
   |_,_,_=>none
 | .extract x i=>(cO P 0 x).map fun u=>.ext u i
 | .build t parts=>match P.built t [],P.info? t with
   |some _,some i=>match i.zero with
     |some (.agg z)=>match G4 P 20 t with
       |some zc=>match cSs P zc z.toList,uZ P t parts.toList with
         |some zs,some ps=>some (.bld zs ps)
         |_,_=>none
       |none=>none
     |_=>none
   |_,_=>none
 | .makeFunc f a b=>match cOs P (zBa a.size 0) a.toList,cOs P (zBa b.size 0) b.toList with
   |some a',some b'=>some (.mkf f a' b')
   |_,_=>none
 | .nilCheck x=>(cO P 0 x).map .nlc
 | .alloc e=>match P.info? e with
   |some i=>match i.zero with
     |some z=>match cV P e z with
       |some v=>if nt v=true then some (.alb e 0 (cl v))else none
       |none=>none
     |none=>none
   |none=>none
 | .box e x=>(cO P e x).map .box
 | .store t p x=>match cO P 0 p,cO P t x,d7 P t with
   |some p',some x',some n=>some (.st n p' x')
   |_,_,_=>none
 | .buildSlice t len parts=>match P.underlying t with
   |some (.slice e)=>match P.info? e with
     |some i=>match i.zero with
       |some z=>match cOs P (zBa len e) (parts.toList.map (·.2))with
         |some xs=>if 0<i.size/\z.cells.size=i.size/\len*i.size<=16777216/\parts.toList.map (·.1)=zBf len then some (.lit e i.size xs)else none
         |none=>none
       |none=>none
     |none=>none
   |_=>none
 | .makeSlice t l l'=>if N1 l l'=true then(match P.underlying t with
    |some (.slice e)=>match P.info? e with
      |some i=>match i.zero with
        |some (.slice none 0 0)=>match P.underlying e with
          |some (.slice e2)=>match P.info? e2,cO P 0 l with
            |some i2,some u=>if 0<i.bytes/\i.size=1/\0<i2.size then some (.mkm e i.bytes e2 i2.size u)else none
            |_,_=>none
          |_=>none
        |some z=>match cV P e z,cO P 0 l with
          |some v,some u=>match pur [] v with
            |some v'=>if nt v=true/\0<i.bytes/\0<i.size/\z.cells.size=i.size then some (.mks e i.size i.bytes v' u)else none
            |none=>none
          |_,_=>none
        |none=>none
      |none=>none
    |_=>none)else(match l with
      | .const (.int _ 0)=>(match P.underlying t with
        |some (.slice e)=>match P.info? e with
          |some i=>match i.zero,cO P 0 l' with
            |some _,some u=>if 0<i.bytes/\0<i.size then some (.mk0 e i.size i.bytes u)else none
            |_,_=>none
          |none=>none
        |_=>none)
      |_=>none)
 | .makeInterface t x=>match cO P t x,P.underlying t with
   |some u,some ds=>match ds with
     | .interface _=>none
     |_=>some (.mki t u)
   |_,_=>none
 | .typeAssert x xt t okk=>match P.underlying t,cO P xt x,P.info? t with
   |some ds,some u,some i=>match i.zero with
     |some z=>match cV P t z with
       |some zv=>match ds with
         | .interface _=>none
         |_=>some (.tya t zv okk u)
       |none=>none
     |none=>none
   |_,_,_=>none
 | .range t x=>match cO P t x,P.underlying t with
   |some u,some .string=>some (.rgs u)
   |_,_=>none
 | .next x true=>(cO P 0 x).map .nxs
 | .makeMap t none=>match P.underlying t with
   |some (.map K _)=>match ktT P K with
     |some kt=>some (.mkp kt)
     |none=>none
   |_=>none
 | .lookup t x k okk=>match P.underlying t with
   |some (.map K E)=>match ktT P K,cO P t x,cO P K k,P.info? E with
     |some kt,some u,some v,some i=>match i.zero with
       |some z=>match cV P E z with
         |some zv=>some (.lkp kt zv okk u v)
         |none=>none
       |none=>none
     |_,_,_,_=>none
   |_=>none
 | .mapUpdate t x k v=>match P.underlying t with
   |some (.map K E)=>match ktT P K,cO P t x,cO P K k,cO P E v with
     |some kt,some u,some b,some c=>some (.mup kt u b c)
     |_,_,_,_=>none
   |_=>none
 | .insert t x k v=>match P.underlying t with
   |some (.map K E)=>match ktT P K,cO P t x,cO P K k,cO P E v with
     |some kt,some u,some b,some c=>some (.mup kt u b c)
     |_,_,_,_=>none
   |_=>none
 | .call c=>PR P c
 |_=>none
theorem mE {P:Program} {t:TypeId} {n:Nat} {g:Bool} (h:Bq P t=some (n,g)):d7 P t=some n∧qM P t=some g∧(g=false→n=1):=by
 unfold Bq at h
 split at h
 · rename_i n' g' h1 h2
   split at h
   · rename_i hc
     cases h
     exact ⟨h1,h2,fun hg=>by rcases hc with h | h; · rw [hg] at h; cases h
                             · exact h⟩
   · cases h
 · cases h
theorem zt{P:Program}{t:TypeId}{i off:Nat}{ft:TypeId}(h:KJ P t i=some (off,ft)):∃fs f,P.underlying t=some (.struct fs)/\fs[i]?=some f/\off=f.offset/\ft=f.type:=by
 unfold KJ at h;split at h
 ·rename_i fs h1
  split at h
  ·rename_i f h2;cases h;exact⟨fs,f,h1,h2,rfl,rfl⟩
  ·cases h
 ·cases h
theorem MO {P:Program} {ty xt yt:TypeId} {op:BinOp} {x y:Operand} {u v:AO} (hu:cO P xt x=some u) (hv:cO P yt y=some v):LV P ty (.binOp op xt x y yt) (Va P op xt u v):=by
 unfold Va
 split
 · exact .beq ‹_› hu hv
 · exact .bne ‹_› hu hv
 all_goals
  first
   | exact .bin hu hv
   | (split
      · split
        · first | exact .aeq ‹_› ‹_› hu hv | exact .ane ‹_› ‹_› hu hv
        · exact .bin hu hv
      · exact .bin hu hv)
theorem JC{P:Program}{ty:TypeId}{c:Call}{x:Act'}(h:PR P c=some x):LV P ty (.call c) x\/LE P ty (.call c) x:=by
 unfold PR at h;split at h
 ·rename_i args ts
  split at h
  ·rename_i x t hx ht
   have e1:args=#[x]:=by apply zAi;simpa using hx
   have e2:ts=#[t]:=by apply zAi;simpa using ht
   subst e1;subst e2;split at h
   ·cases h;exact .inl (.lens ‹_› ‹_›)
   ·cases h;exact .inl (.lenq ‹_› ‹_›)
   ·cases h
  ·cases h
 ·rename_i args ts
  split at h
  ·rename_i x y t t' hx ht
   have e1:args=#[x,y]:=by apply zAi;simpa using hx
   have e2:ts=#[t,t']:=by apply zAi;simpa using ht
   subst e1;subst e2;split at h
   ·rename_i ett
    subst ett;split at h
    ·split at h
     ·split at h
      ·split at h
       ·rename_i hc;cases h;exact .inr (.app ‹_› ‹_› ‹_› rfl rfl hc.1 hc.2.1 hc.2.2 ‹_› ‹_›)
       ·cases h
      ·cases h
     ·cases h
    ·cases h
   ·split at h
    ·rename_i h1 h2
     split at h
     ·rename_i h3
      split at h
      ·rename_i h4 h5 h6
       split at h
       ·rename_i hc;cases h;exact .inr (.aps h1 h2 h3 h4 hc.1 hc.2 h5 h6)
       ·cases h
      ·cases h
     ·cases h
    ·cases h
  ·cases h
 ·rename_i args ts
  split at h
  ·rename_i x k t t' hx ht
   have e1:args=#[x,k]:=by apply zAi;simpa using hx
   have e2:ts=#[t,t']:=by apply zAi;simpa using ht
   subst e1;subst e2;split at h
   ·rename_i h1
    split at h
    ·rename_i ett
     subst ett;split at h
     ·rename_i h2 h3 h4
      cases h;exact .inr (.del h1 h2 h3 h4)
     ·cases h
    ·cases h
   ·cases h
  ·cases h
 ·rename_i args ts
  split at h
  ·rename_i x t hx ht
   have e1:args=#[x]:=by apply zAi;simpa using hx
   have e2:ts=#[t]:=by apply zAi;simpa using ht
   subst e1;subst e2;split at h
   ·rename_i h1 h2
    cases h;exact .inr (.usd h1 h2)
   ·cases h
  ·cases h
 ·rename_i args ts
  split at h
  ·rename_i p n pt it hx ht
   have e1:args=#[p,n]:=by apply zAi;simpa using hx
   have e2:ts=#[pt,it]:=by apply zAi;simpa using ht
   subst e1;subst e2;split at h
   ·rename_i h1 h2 h3
    split at h
    ·rename_i hc
     cases h;exact .inr (.ust h1 hc h2 h3)
    ·cases h
   ·cases h
  ·cases h
 ·rename_i args ts
  split at h
  ·rename_i x y t t' hx ht
   have e1:args=#[x,y]:=by apply zAi;simpa using hx
   have e2:ts=#[t,t']:=by apply zAi;simpa using ht
   subst e1;subst e2;split at h
   ·cases h;exact .inl (.mmx ‹_› ‹_›)
   ·cases h
  ·cases h
 ·rename_i args ts
  split at h
  ·rename_i x y t t' hx ht
   have e1:args=#[x,y]:=by apply zAi;simpa using hx
   have e2:ts=#[t,t']:=by apply zAi;simpa using ht
   subst e1;subst e2;split at h
   ·cases h;exact .inl (.mmn ‹_› ‹_›)
   ·cases h
  ·cases h
 ·split at h
  ·simp only[zAb]at h
   subst h;split
   ·exact .inr (.ivp ‹_› rfl ‹_›)
   ·exact .inr (.inv ‹_› rfl ‹_›)
  ·cases h
 ·split at h
  ·cases h;exact .inr (.call ‹_›)
  ·cases h
 ·split at h
  ·cases h;exact .inr (.callv ‹_›)
  ·cases h
 ·cases h
theorem MP{P:Program}{ty:TypeId}{o:Op}{x:Act'}(h:dC P ty o=some x):LV P ty o x\/LE P ty o x:=by
 cases o with
 |move x=>simp only[dC,zAc]at h;obtain⟨y,hy,rfl⟩:=h;exact .inl (.move hy)
 |assign x=>simp only[dC,zAc]at h;obtain⟨y,hy,rfl⟩:=h;exact .inl (.assign hy)
 |pick c a b=>
   simp only[dC]at h;split at h
   ·cases h;exact .inl (.pick ‹_› ‹_› ‹_›)
   ·cases h
 |field t x i=>
   simp only[dC]at h;split at h
   ·rename_i y off ft hy hs
    obtain⟨fs,f,h1,h2,rfl,rfl⟩:=zt hs;split at h
    ·rename_i n g hn
     obtain⟨k1,k2,k3⟩:=mE hn;cases h;exact .inl (.field hy h1 h2 k1 k2 k3)
    ·cases h
   ·cases h
 |fieldAddr t x i=>
   simp only[dC]at h;split at h
   ·rename_i y off ft hy hs
    obtain⟨fs,f,h1,h2,rfl,rfl⟩:=zt hs;split at h
    ·split at h
     ·cases h;exact .inl (.fieldAddr hy h1 h2 ‹_› ‹_›)
     ·cases h
    ·cases h
   ·cases h
 |indexAddr t x i=>
   simp only[dC]at h;split at h
   ·split at h
    ·cases h;exact .inl (.indexAddr ‹_› ‹_› ‹_› ‹_›)
    ·cases h
   ·split at h
    ·cases h;exact .inl (.indexAddrA ‹_› ‹_› ‹_› ‹_›)
    ·cases h
   ·cases h
 |load t x=>
   simp only[dC]at h;split at h
   ·rename_i y n g hy hs
    obtain⟨k1,k2,k3⟩:=mE hs;cases h;exact .inl (.load hy k1 k2 k3)
   ·cases h
 |index t x i=>
   simp only[dC]at h;split at h
   ·cases h;exact .inl (.indexS ‹_› ‹_› ‹_›)
   ·split at h
    ·rename_i n g hs
     obtain⟨k1,k2,k3⟩:=mE hs;cases h;exact .inl (.indexA ‹_› ‹_› ‹_› k1 k2 k3)
    ·cases h
   ·cases h
 |binOp op xt x y yt=>
   simp only[dC]at h;split at h
   ·rename_i hn
    cases h;obtain⟨c,rfl,h1,h2⟩:=MN hn;exact .inl (.nlq h1 h2 ‹_›)
   ·split at h
    ·cases h;exact .inl (MO ‹_› ‹_›)
    ·cases h
   ·cases h
 |unOp op t x=>simp only[dC,zAc]at h;obtain⟨y,hy,rfl⟩:=h;exact .inl (.un hy)
 |convert s d x=>
   simp only[dC]at h;split at h
   ·split at h
    ·cases h;exact .inr (.b2s ‹_› ‹_› ‹_› ‹_›)
    ·cases h
   ·cases h;exact .inl (.cii ‹_› ‹_› ‹_›)
   ·cases h;exact .inl (.r2s ‹_› ‹_› ‹_›)
   ·split at h
    ·cases h;exact .inr (.s2b ‹_› ‹_› ‹_› ‹_›)
    ·cases h
   ·split at h
    ·split at h
     ·rename_i e
      subst e;cases h;have h8:=‹P.underlying _=some (TypeDesc.int IntKind.u8)›;exact .inr (.cvb ‹_› (by assumption) h8)
     ·cases h
    ·cases h
   ·cases h
 |slice t x lo hi m=>
   cases m with
   |some m=>simp only[dC]at h;cases h
   |none=>
     simp only[dC]at h;split at h
     ·split at h
      ·cases h;exact .inl (.sls ‹_› ‹_› ‹_› ‹_›)
      ·split at h
       ·cases h;exact .inl (.slq ‹_› ‹_› ‹_› ‹_› ‹_›)
       ·cases h
      ·cases h
     ·cases h
 |extract x i=>simp only[dC,zAc]at h;obtain⟨y,hy,rfl⟩:=h;exact .inl (.ext hy)
 |build t parts=>
   simp only[dC]at h;split at h
   ·split at h
    ·split at h
     ·split at h
      ·cases h;exact .inl (.bld ‹_› ‹_› ‹_› ‹_› ‹_› ‹_›)
      ·cases h
     ·cases h
    ·cases h
   ·cases h
 |makeFunc f a b=>
   simp only[dC]at h;split at h
   ·cases h;exact .inl (.mkf ‹_› ‹_›)
   ·cases h
 |nilCheck x=>simp only[dC,zAc]at h;obtain⟨y,hy,rfl⟩:=h;exact .inl (.nlc hy)
 |alloc e=>
   simp only[dC]at h;split at h
   ·split at h
    ·split at h
     ·split at h
      ·cases h;exact .inr (.alb ‹_› ‹_› ‹_› ‹_›)
      ·cases h
     ·cases h
    ·cases h
   ·cases h
 |box e x=>simp only[dC,zAc]at h;obtain⟨y,hy,rfl⟩:=h;exact .inr (.box hy)
 |store t p x=>
   simp only[dC]at h;split at h
   ·cases h;exact .inr (.store ‹_› ‹_› ‹_›)
   ·cases h
 |buildSlice t len parts=>
   simp only[dC]at h;split at h
   ·split at h
    ·split at h
     ·split at h
      ·split at h
       ·rename_i hc;cases h;exact .inr (.lit ‹_› ‹_› rfl hc.1 ‹_› hc.2.1 hc.2.2.1 hc.2.2.2 ‹_›)
       ·cases h
      ·cases h
     ·cases h
    ·cases h
   ·cases h
 |makeSlice t l l'=>
   simp only[dC]at h;split at h
   ·rename_i hab
    have hab:=Il hab;subst hab;split at h
    ·split at h
     ·split at h
      ·split at h
       ·split at h
        ·split at h
         ·rename_i hc;cases h;exact .inr (.mkm ‹_› ‹_› ‹_› hc.2.1 rfl hc.1 ‹_› ‹_› rfl hc.2.2 ‹_›)
         ·cases h
        ·cases h
       ·cases h
      ·split at h
       ·split at h
        ·split at h
         ·rename_i hc;cases h;exact .inr (.mks ‹_› ‹_› ‹_› ‹_› hc.1 ‹_› rfl rfl hc.2.1 hc.2.2.1 ‹_› hc.2.2.2)
         ·cases h
        ·cases h
       ·cases h
      ·cases h
     ·cases h
    ·cases h
   ·split at h
    ·split at h
     ·split at h
      ·split at h
       ·split at h
        ·rename_i hc;cases h;exact .inr (.mk0 ‹_› ‹_› ‹_› rfl rfl hc.1 hc.2 ‹_›)
        ·cases h
       ·cases h
      ·cases h
     ·cases h
    ·cases h
 |makeInterface t x=>
   simp only[dC]at h;split at h
   ·rename_i u ds hu hds
    split at h
    ·cases h
    ·rename_i hne
     cases h;exact .inl (.mki hu hds (fun ms e=>hne ms e))
   ·cases h
 |typeAssert x xt t okk=>
   simp only[dC]at h;split at h
   ·rename_i ds u i hds hu hi
    split at h
    ·rename_i z hz
     split at h
     ·rename_i zv hzv
      split at h
      ·cases h
      ·rename_i hne
       cases h;exact .inl (.tya hds (fun ms e=>hne ms e) hu hi hz hzv)
     ·cases h
    ·cases h
   ·cases h
 |range t x=>
   simp only[dC]at h;split at h
   ·cases h;exact .inr (.rgs ‹_› ‹_›)
   ·cases h
 |next x b=>
   cases b with
   |true=>
     simp only[dC,zAc]at h;obtain⟨u,hu,rfl⟩:=h;exact .inr (.nxs hu)
   |false=>simp only[dC]at h;cases h
 |makeMap t r=>
   cases r with
   |some r=>simp only[dC]at h;cases h
   |none=>
     simp only[dC]at h;split at h
     ·split at h
      ·cases h;exact .inr (.mkp ‹_› ‹_›)
      ·cases h
     ·cases h
 |lookup t x k okk=>
   simp only[dC]at h;split at h
   ·split at h
    ·split at h
     ·split at h
      ·cases h;exact .inl (.lkp ‹_› ‹_› ‹_› ‹_› ‹_› ‹_› ‹_›)
      ·cases h
     ·cases h
    ·cases h
   ·cases h
 |mapUpdate t x k v=>
   simp only[dC]at h;split at h
   ·split at h
    ·cases h;exact .inr (.mup ‹_› ‹_› ‹_› ‹_› ‹_›)
    ·cases h
   ·cases h
 |insert t x k v=>
   simp only[dC]at h;split at h
   ·split at h
    ·cases h;exact .inr (.mui ‹_› ‹_› ‹_› ‹_› ‹_›)
    ·cases h
   ·cases h
 |call c=>simp only[dC]at h;exact JC h
 |_=>simp only[dC]at h;cases h
def PO(P:Program)(N:Nat)(ps:List Nat)(ops:Array Oper)(o:Oper):Option AOp:=
 match(dC P o.type o.op).getD .bad,(match o.dst with
  |some t=>decide (t<N)&& !gS t ps
  |none=>true)with
 |a,true=>match o.guard with
   |none=>some ⟨o.dst,a,none⟩
   |some (j,b)=>match ops[j]? with
     |some oj=>match oj.dst with
       |some t=>some ⟨o.dst,a,some (t,b)⟩
       |none=>none
     |none=>none
 |_,_=>none
def ni(P:Program)(N:Nat)(ps:List Nat)(ops:Array Oper):List Oper->Option (List AOp)
 |[]=>some []
 |o::os=>match PO P N ps ops o,ni P N ps ops os with
   |some x,some xs=>some (x::xs)
   |_,_=>none
def mkD(E:List Nat)(d:Option Nat):Bool:=match d with
 |some t=>gS (3000000+t) E
 |none=>false
def mkC(E:List Nat)(d:Option Nat):Bool:=match d with
 |some t=>gS (5000000+t) E
 |none=>false
def mkB(E:List Nat)(d:Option Nat):Option Nat:=match d with
 |some t=>(E.find? fun m=>decide (m/1000000=1000000+t)).map (· %1000000)
 |none=>none
def U1(E:List Nat)(x:AOp):AOp:=match x.a with
 | .call f xs=>if(gS f E||mkC E x.d)=true then⟨x.d,.callH f xs,x.g⟩else x
 | .slq y none (some hi) sz=>if gS 1000000 E=true then⟨x.d,.trc y hi sz,x.g⟩else x
 | .callv g xs=>if gS 1000002 E=true then⟨x.d,.yld g xs,x.g⟩else x
 | .lit e sz ys=>if(gS 1000001 E||(gS (2000000+e) E||mkD E x.d))=true then⟨x.d,.ltr e sz ys,x.g⟩else x
 | .alb t _ z=>if mkD E x.d=true then⟨x.d,.alq z,x.g⟩else match mkB E x.d with
   |some e=>⟨x.d,.alb t e z,x.g⟩
   |none=>⟨x.d,.alc z,x.g⟩
 | .mks e sz by' z n=>if mkD E x.d=true then⟨x.d,.mkq e sz by' z n,x.g⟩else x
 | .s2b y=>if mkD E x.d=true then⟨x.d,.sbq y,x.g⟩else x
 | .box y=>if mkD E x.d=true then⟨x.d,.bxq y,x.g⟩else x
 | .app (.v (.nil _)) y e sz by'=>if mkD E x.d=true then⟨x.d,.apz y e sz by',x.g⟩else x
 | .app (.t r) y e sz by'=>if(mkD E x.d&&(decide (sz=1)&&decide (by'=1)))=true then⟨x.d,.apb (.t r) y e,x.g⟩else x
 |_=>x
def fHs(E:List Nat):List AOp->List AOp
 |[]=>[]
 |x::xs=>U1 E x::fHs E xs
section
variable{P:Program}
theorem S9{ty:TypeId}{op:Op}{f:FuncId}{xs:List AO}(h:LV P ty op (.call f xs)):False:=by cases h
theorem Qq{ty:TypeId}{op:Op}{f:FuncId}{xs:List AO}(h:LE P ty op (.call f xs)):LE P ty op (.callH f xs):=by
 cases h;exact .callH ‹_›
theorem Qn{ty:TypeId}{op:Op}{f:AO}{xs:List AO}(h:LV P ty op (.callv f xs)):False:=by cases h
theorem Wt{ty:TypeId}{op:Op}{f:AO}{xs:List AO}(h:LE P ty op (.callv f xs)):LE P ty op (.yld f xs):=by
 cases h;exact .yld ‹_›
theorem Wq{ty:TypeId}{op:Op}{e sz:Nat}{xs:List AO}(h:LV P ty op (.lit e sz xs)):False:=by cases h
theorem Wx{ty:TypeId}{op:Op}{e sz:Nat}{xs:List AO}(h:LE P ty op (.lit e sz xs)):LE P ty op (.ltr e sz xs):=by
 cases h with
 |lit h1 h2 h3 h4 h5 h6 h7 h8 h9=>exact .ltr h1 h2 h3 h4 h5 h6 h7 h8 h9
theorem JQ{ty:TypeId}{op:Op}{z:List V}{t q:Nat}(h:LV P ty op (.alb t q z)):False:=by cases h
theorem WB{ty:TypeId}{op:Op}{z:List V}{t q:Nat}(h:LE P ty op (.alb t q z)):LE P ty op (.alq z):=by
 cases h with
 |alb h1 h2 h3 h4=>exact .alq h1 h2 h3 h4
theorem WC{ty:TypeId}{op:Op}{z:List V}{t q:Nat}(h:LE P ty op (.alb t q z)):LE P ty op (.alc z):=by
 cases h with
 |alb h1 h2 h3 h4=>exact .alloc h1 h2 h3 h4
theorem WD{ty:TypeId}{op:Op}{z:List V}{t p q:Nat}(h:LE P ty op (.alb t p z)):LE P ty op (.alb t q z):=by
 cases h with
 |alb h1 h2 h3 h4=>exact .alb h1 h2 h3 h4
theorem WA{ty:TypeId}{op:Op}{x y:AO}{e:Nat}(h:LE P ty op (.app x y e 1 1)):LE P ty op (.apb x y e):=by
 cases h with
 |app h1 h2 h3 h4 h5 h6 h7 h8 h9 h10=>exact .apb h1 h2 h3 h4 h5 h7 h9 h10
theorem Wp{ty:TypeId}{op:Op}{e sz by':Nat}{z:V}{n:AO}(h:LV P ty op (.mks e sz by' z n)):False:=by cases h
theorem Ww{ty:TypeId}{op:Op}{e sz by':Nat}{z:V}{n:AO}(h:LE P ty op (.mks e sz by' z n)):LE P ty op (.mkq e sz by' z n):=by
 cases h with
 |mks h1 h2 h3 h4 h5 h6 h7 h8 h9 h10 h11 h12=>exact .mkq h1 h2 h3 h4 h5 h6 h7 h8 h9 h10 h11 h12
theorem Wo{ty:TypeId}{op:Op}{y:AO}(h:LV P ty op (.s2b y)):False:=by cases h
theorem Wv{ty:TypeId}{op:Op}{y:AO}(h:LE P ty op (.s2b y)):LE P ty op (.sbq y):=by
 cases h with
 |s2b h1 h2 h3 h4=>exact .sbq h1 h2 h3 h4
theorem Ws{ty:TypeId}{op:Op}{y:AO}(h:LV P ty op (.box y)):False:=by cases h
theorem Wy{ty:TypeId}{op:Op}{y:AO}(h:LE P ty op (.box y)):LE P ty op (.bxq y):=by
 cases h with
 |box h1=>exact .bxq h1
theorem Qo{ty:TypeId}{op:Op}{x y:AO}{e sz by':Nat}(h:LV P ty op (.app x y e sz by')):False:=by cases h
theorem Wz{ty:TypeId}{op:Op}{s0:Nat}{y:AO}{e sz by':Nat}(h:LE P ty op (.app (.v (.nil s0)) y e sz by')):LE P ty op (.apz y e sz by'):=by
 cases h with
 |app h1 h2 h3 h4 h5 h6 h7 h8 h9 h10=>exact .apz h1 h2 h3 h4 h5 h6 h7 h8 h9 h10
theorem Wu{ty:TypeId}{op:Op}{y:AO}{lo hi:Option AO}{sz:Nat}(h:LE P ty op (.slq y lo hi sz)):False:=by cases h
theorem PQ{t:TypeId}{o:Option Operand}(h:cOo P t o=some none):o=none:=by
 cases o with
 |none=>rfl
 |some o=>simp only[cOo,zAc]at h;obtain⟨_,_,h⟩:=h;cases h
theorem PP{t:TypeId}{o:Option Operand}{y:AO}(h:cOo P t o=some (some y)):∃o',o=some o'/\cO P t o'=some y:=by
 cases o with
 |none=>simp only[cOo,zAb]at h;cases h
 |some o=>simp only[cOo,zAc]at h;obtain⟨z,h,e⟩:=h;cases e;exact⟨o,rfl,h⟩
theorem Wn{ty:TypeId}{op:Op}{y hi:AO}{sz:Nat}(h:LV P ty op (.slq y none (some hi) sz)):LE P ty op (.trc y hi sz):=by
 cases h with
 |slq h1 h2 h3 h4 h5=>
   have e1:=PQ h2;obtain⟨o',e2,h6⟩:=PP h3;subst e1;subst e2;exact .trc h1 h6 h4 h5
theorem Mw{E ps:List Nat}{N:Nat}{ops:Array Oper}{o:Oper}{x:AOp}(h:LO P N ps ops o x):LO P N ps ops o (U1 E x):=by
 unfold U1;split
 ·rename_i f xs hx
  split
  ·refine⟨h.dst,h.lt,.inr (.inl ?_),h.grd⟩
   rcases h.act with h1|h1|h1
   ·rw[hx]at h1;exact(S9 h1).elim
   ·rw[hx]at h1;exact Qq h1
   ·rw[hx]at h1;cases h1
  ·exact h
 ·rename_i y hi sz hx
  split
  ·refine⟨h.dst,h.lt,.inr (.inl ?_),h.grd⟩
   rcases h.act with h1|h1|h1
   ·rw[hx]at h1;exact Wn h1
   ·rw[hx]at h1;exact(Wu h1).elim
   ·rw[hx]at h1;cases h1
  ·exact h
 ·rename_i g xs hx
  split
  ·refine⟨h.dst,h.lt,.inr (.inl ?_),h.grd⟩
   rcases h.act with h1|h1|h1
   ·rw[hx]at h1;exact(Qn h1).elim
   ·rw[hx]at h1;exact Wt h1
   ·rw[hx]at h1;cases h1
  ·exact h
 ·rename_i e sz ys hx
  split
  ·refine⟨h.dst,h.lt,.inr (.inl ?_),h.grd⟩
   rcases h.act with h1|h1|h1
   ·rw[hx]at h1;exact(Wq h1).elim
   ·rw[hx]at h1;exact Wx h1
   ·rw[hx]at h1;cases h1
  ·exact h
 ·rename_i t q z hx
  split
  ·refine⟨h.dst,h.lt,.inr (.inl ?_),h.grd⟩
   rcases h.act with h1|h1|h1
   ·rw[hx]at h1;exact(JQ h1).elim
   ·rw[hx]at h1;exact WB h1
   ·rw[hx]at h1;cases h1
  ·split
   ·refine⟨h.dst,h.lt,.inr (.inl ?_),h.grd⟩
    rcases h.act with h1|h1|h1
    ·rw[hx]at h1;exact(JQ h1).elim
    ·rw[hx]at h1;exact WD h1
    ·rw[hx]at h1;cases h1
   ·refine⟨h.dst,h.lt,.inr (.inl ?_),h.grd⟩
    rcases h.act with h1|h1|h1
    ·rw[hx]at h1;exact(JQ h1).elim
    ·rw[hx]at h1;exact WC h1
    ·rw[hx]at h1;cases h1
 ·rename_i e sz by' z n hx
  split
  ·refine⟨h.dst,h.lt,.inr (.inl ?_),h.grd⟩
   rcases h.act with h1|h1|h1
   ·rw[hx]at h1;exact(Wp h1).elim
   ·rw[hx]at h1;exact Ww h1
   ·rw[hx]at h1;cases h1
  ·exact h
 ·rename_i y hx
  split
  ·refine⟨h.dst,h.lt,.inr (.inl ?_),h.grd⟩
   rcases h.act with h1|h1|h1
   ·rw[hx]at h1;exact(Wo h1).elim
   ·rw[hx]at h1;exact Wv h1
   ·rw[hx]at h1;cases h1
  ·exact h
 ·rename_i y hx
  split
  ·refine⟨h.dst,h.lt,.inr (.inl ?_),h.grd⟩
   rcases h.act with h1|h1|h1
   ·rw[hx]at h1;exact(Ws h1).elim
   ·rw[hx]at h1;exact Wy h1
   ·rw[hx]at h1;cases h1
  ·exact h
 ·rename_i s0 y e sz by' hx
  split
  ·refine⟨h.dst,h.lt,.inr (.inl ?_),h.grd⟩
   rcases h.act with h1|h1|h1
   ·rw[hx]at h1;exact(Qo h1).elim
   ·rw[hx]at h1;exact Wz h1
   ·rw[hx]at h1;cases h1
  ·exact h
 ·rename_i r y e sz by' hx
  split
  ·rename_i hc
   simp only[zAe,decide_eq_true_eq]at hc;obtain⟨_,rfl,rfl⟩:=hc;refine⟨h.dst,h.lt,.inr (.inl ?_),h.grd⟩;rcases h.act with h1|h1|h1
   ·rw[hx]at h1;exact(Qo h1).elim
   ·rw[hx]at h1;exact WA h1
   ·rw[hx]at h1;cases h1
  ·exact h
 ·exact h
theorem Ps{E ps:List Nat}{N:Nat}{ops:Array Oper}{os:List Oper}{xs:List AOp}(h:LOs P N ps ops os xs):LOs P N ps ops os (fHs E xs):=by
 induction h with
 |nil=>exact .nil
 |cons h1 _ ih=>exact .cons (Mw h1) ih
end
def x5:AC->Bool
 | .seq a b=>x5 a&&x5 b
 | .label _=>false
 | .bad=>false
 |_=>true
def rF(l:Nat):AC->Option AC
 | .seq a b=>match rF l a with
   |some r=>some (.seq r b)
   |none=>if x5 a=true then rF l b else none
 | .label l'=>if(l' == l)=true then some .skip else none
 |_=>none
theorem ID{P:Program}{N:Nat}{ps:List Nat}{c:Code}{a:AC}(h:LC P N ps c a)(l:Nat):x5 a=true->findLabel c l=none:=by
 induction h with
 |seq _ _ ih1 ih2=>
   intro hn;simp only[x5,zAe]at hn;simp only[findLabel,ih1 hn.1,ih2 hn.2]
 |label=>intro hn;simp[x5]at hn
 |bad=>intro hn;simp[x5]at hn
 |_=>intro _;rfl
theorem Hf{P:Program}{N:Nat}{ps:List Nat}{c:Code}{a:AC}(h:LC P N ps c a){l:Nat}:∀{b:AC},rF l a=some b->∃rest,findLabel c l=some rest/\LC P N ps rest b:=by
 induction h with
 |seq h1 h2 ih1 ih2=>
   intro b hb;simp only[rF]at hb;split at hb
   ·cases hb
    obtain⟨r,g1,g2⟩:=ih1 ‹_›;exact⟨_,by simp only[findLabel,g1],.seq g2 h2⟩
   ·split at hb
    ·rename_i hn
     obtain⟨r,g1,g2⟩:=ih2 hb;exact⟨r,by simp only[findLabel,ID h1 l hn,g1],g2⟩
    ·cases hb
 | @label l'=>
   intro b hb;simp only[rF]at hb;split at hb
   ·rename_i he
    cases hb;exact⟨.skip,by simp only[findLabel,he,if_true],.skip⟩
   ·cases hb
 |_=>intro b hb;simp[rF]at hb
def bS(P:Program)(N:Nat)(ps E:List Nat):Code->List (List Nat)->Option (AC×List (List Nat))
 | .skip,K=>some (.skip,K)
 | .region _ ops false,ks::K=>match(ni P N ps ops ops.toList).map (fHs E)with
   |some xs=>some (.reg xs ks,K)
   |none=>none
 | .region _ ops true,[]::ks::K=>match(ni P N ps ops ops.toList).map (fHs E)with
   |some xs=>if uu xs=true/\ops.size=xs.length then(match xW xs (Ac ops ops.size (zAh ops.size false))with
     |some yss=>some (.regE yss ks,K)
     |none=>none)else some (.bad,K)
   |none=>none
 | .region _ ops true,(1::anc)::ks::K=>match(ni P N ps ops ops.toList).map (fHs E)with
   |some xs=>if EP ops anc=true then(match IT ops xs anc ops.size (zAh ops.size false)with
     |some yss=>some (.regF yss ks,K)
     |none=>none)else none
   |none=>none
 | .region _ ops true,(0::anc)::perm::ks::K=>match(ni P N ps ops ops.toList).map (fHs E)with
   |some xs=>if uV ops xs anc perm=true then(match jx xs perm with
     |some ys=>some (.regD ys ks,K)
     |none=>none)else none
   |none=>none
 | .seq x y,K=>match bS P N ps E x K with
   |some (a,K')=>match bS P N ps E y K' with
     |some (b,K'')=>some (.seq a b,K'')
     |none=>none
   |none=>none
 | .cond c x y,K=>match cO P 0 c,bS P N ps E x K with
   |some c',some (a,K')=>match bS P N ps E y K' with
     |some (b,K'')=>some (.cond c' a b,K'')
     |none=>none
   |_,_=>none
 | .block id x,K=>match bS P N ps E x K with
   |some (a,K')=>some (.block id a,K')
   |none=>none
 | .loop x,ks::K=>match bS P N ps E x K with
   |some (a,K')=>some (.loop ks a,K')
   |none=>none
 | .exit id,K=>some (.exit id,K)
 | .ret,K=>some (.ret,K)
 | .rangeFunc _ _ _ _,K=>some (.bad,K)
 | .scope x,(l::ks)::K=>match bS P N ps E x K with
   |some (a,K')=>match rF l a with
     |some b=>some (.scope l ks a b,K')
     |none=>some (.bad,K')
   |none=>none
 | .scope _,[]::K=>some (.bad,K)
 | .label l,K=>some (.label l,K)
 | .goto l,K=>some (.goto l,K)
 | .refuse _,K=>some (.bad,K)
 | .region _ _ _,_=>none
 | .loop _,_=>none
 | .scope _,_=>none
section
variable{P:Program}{N:Nat}{ps:List Nat}
theorem JB{ops:Array Oper}{o:Oper}{x:AOp}(h:PO P N ps ops o=some x):LO P N ps ops o x:=by
 unfold PO at h;split at h
 ·rename_i a hd
  have ha:LV P o.type o.op ((dC P o.type o.op).getD .bad)\/LE P o.type o.op ((dC P o.type o.op).getD .bad)\/(dC P o.type o.op).getD .bad=.bad:=by
   cases hc:dC P o.type o.op with
   |none=>exact .inr (.inr rfl)
   |some y=>exact(MP hc).elim .inl (fun h=>.inr (.inl h))
  have hlt:∀t,o.dst=some t->t<N/\t ∉ ps:=by
   intro t ht;rw[ht]at hd;simp only[zAe,decide_eq_true_eq,zBh]at hd;exact⟨hd.1,fun hm=>by rw[iS.2 hm]at hd;cases hd.2⟩
  split at h
  ·rename_i hg
   cases h;exact⟨rfl,hlt,ha,.inl ⟨hg,rfl⟩⟩
  ·rename_i j b hg
   split at h
   ·rename_i oj hj
    split at h
    ·rename_i t ht
     cases h;exact⟨rfl,hlt,ha,.inr ⟨j,b,oj,t,hg,hj,ht,rfl⟩⟩
    ·cases h
   ·cases h
 ·cases h
theorem wj{ops:Array Oper}:∀{os:List Oper}{xs:List AOp},ni P N ps ops os=some xs->LOs P N ps ops os xs
 |[],xs,h=>by simp only[ni,zAb]at h;subst h;exact .nil
 |o::os,xs,h=>by
   simp only[ni]at h;split at h
   ·rename_i x ys hx hy;cases h;exact .cons (JB hx) (wj hy)
   ·cases h
theorem sH{E:List Nat}{ops:Array Oper}{xs:List AOp}(h:(ni P N ps ops ops.toList).map (fHs E)=some xs):LOs P N ps ops ops.toList xs:=by
 obtain⟨ys,h1,rfl⟩:=zAc.1 h;exact Ps (wj h1)
theorem eN{E:List Nat}:∀{c:Code}{K K':List (List Nat)}{a:AC},bS P N ps E c K=some (a,K')->LC P N ps c a:=by
 intro c
 induction c with
 |skip=>intro K K' a h;simp only[bS,zAb,zBc]at h;rw[<-h.1];exact .skip
 |region id ops d=>
   intro K K' a h;cases d with
   |false=>
     cases K with
     |nil=>simp only[bS]at h;cases h
     |cons ks K=>
       simp only[bS]at h;split at h
       ·cases h;exact .reg (sH ‹_›)
       ·cases h
   |true=>
     match K,h with
     |[],h=>simp only[bS]at h;cases h
     |[[]],h=>simp only[bS]at h;cases h
     |[_::_],h=>simp only[bS]at h;cases h
     |[]::ks::K,h=>
       simp only[bS]at h;split at h
       ·split at h
        ·rename_i hc
         split at h
         ·cases h;exact .regE (sH ‹_›) hc.1 hc.2 ‹_›
         ·cases h
        ·cases h;exact .bad
       ·cases h
     |[0::anc,perm],h=>simp only[bS]at h;cases h
     |(1::anc)::ks::K,h=>
       simp only[bS]at h;split at h
       ·split at h
        ·rename_i hc
         split at h
         ·cases h;exact .regF (sH ‹_›) hc ‹_›
         ·cases h
        ·cases h
       ·cases h
     |((n+2)::l)::k::K,h=>simp only[bS]at h;cases h
     |(0::anc)::perm::ks::K,h=>
       simp only[bS]at h;split at h
       ·split at h
        ·rename_i hc
         split at h
         ·cases h;exact .regD (sH ‹_›) hc ‹_›
         ·cases h
        ·cases h
       ·cases h
 |seq x y ihx ihy=>
   intro K K' a h;simp only[bS]at h;split at h
   ·split at h
    ·cases h;exact .seq (ihx ‹_›) (ihy ‹_›)
    ·cases h
   ·cases h
 |cond c x y ihx ihy=>
   intro K K' a h;simp only[bS]at h;split at h
   ·split at h
    ·cases h;exact .cond (t:=0) ‹_› (ihx ‹_›) (ihy ‹_›)
    ·cases h
   ·cases h
 |block id x ih=>
   intro K K' a h;simp only[bS]at h;split at h
   ·cases h;exact .block (ih ‹_›)
   ·cases h
 |loop x ih=>
   intro K K' a h;cases K with
   |nil=>simp only[bS]at h;cases h
   |cons ks K=>
     simp only[bS]at h;split at h
     ·cases h;exact .loop (ih ‹_›)
     ·cases h
 |scope x ih=>
   intro K K' a h
   match K,h with
   |[],h=>simp only[bS]at h;cases h
   |[]::K,h=>simp only[bS,zAb,zBc]at h;rw[<-h.1];exact .bad
   |(l::ks)::K,h=>
     simp only[bS]at h;split at h
     ·split at h
      ·cases h
       have hx:=ih ‹_›;obtain⟨rest,g1,g2⟩:=Hf hx ‹_›;exact .scope hx g1 g2
      ·cases h;exact .bad
     ·cases h
 |label l=>intro K K' a h;simp only[bS,zAb,zBc]at h;rw[<-h.1];exact .label
 |goto l=>intro K K' a h;simp only[bS,zAb,zBc]at h;rw[<-h.1];exact .goto
 |exit id=>intro K K' a h;simp only[bS,zAb,zBc]at h;rw[<-h.1];exact .exit
 |ret=>intro K K' a h;simp only[bS,zAb,zBc]at h;rw[<-h.1];exact .ret
 |_=>intro K K' a h;simp only[bS,zAb,zBc]at h;rw[<-h.1];exact .bad
inductive RV where
 |t (n:Nat)
 |c (a n:Nat) (agg:Bool)
def tU(P:Program):List ResultVar->Option (List RV)
 |[]=>some []
 | .tmp t::rs=>(tU P rs).map (.t t::·)
 | .cell a t::rs=>match Bq P t,tU P rs with
   |some (n,g),some xs=>some (.c a n g::xs)
   |_,_=>none
def St.rv(σ:St):RV->Option V
 | .t n=>match lk σ.r n with
   |some v=>if nt v=true then some v else none
   |none=>none
 | .c a n g=>match lk σ.r a with
   |some p=>match σ.fetch p n with
     |some us=>mkc g us
     |none=>none
   |none=>none
def St.rvs(σ:St):List RV->Option (List V)
 |[]=>some []
 |x::xs=>match σ.rv x,σ.rvs xs with
   |some v,some vs=>some (v::vs)
   |_,_=>none
def jc:List V->V
 |[v]=>v
 |vs=>.tup vs
def Res(rs:List RV)(post:V->Prop):Ex->St->Prop:=fun e σ=>(match e with
    | .exit _=>False
    | .goto _=>False
    |_=>True)/\match σ.rvs rs with
    |some vs=>match purs σ.h vs with
      |some us=>post (jc us)
      |none=>False
    |none=>False
def ent:Nat->List V->List (Nat×V)
 |_,[]=>[]
 |k,v::vs=>(k,v)::ent (k+1) vs
theorem uA:∀{vs:List V}{k t:Nat}{v:V},lk (ent k vs) t=some v->k<=t/\vs[t-k]?=some v
 |[],k,t,v,h=>by simp[ent,lk]at h
 |u::us,k,t,v,h=>by
   simp only[ent,lk]at h;split at h
   ·rename_i he;subst he;cases h;exact⟨zBg _,by simp⟩
   ·rename_i he
    obtain⟨h1,h2⟩:=uA h;refine⟨by omega,?_⟩
    rw[show t-k=(t-(k+1))+1 by omega]
    simpa using h2
variable{M0:Mem}{B:Bas}{w0:World}{κ:Kap}{M:Mem}{σ:St}{a:Act}{w:World}
def Fu(a:Act):ResultVar->Sem Value
 | .tmp t=>pure (a.tmps.getD t undef)
 | .cell x t=>do loadVar t (<-asAddr (a.tmps.getD x undef))
theorem iL{fn:Func}{rs:List RV}(hr:tU P fn.results.toList=some rs)(H:Rel N M0 B w0 κ M σ a w){vs:List V}(hv:σ.rvs rs=some vs):
 ∃cs:List Value,ae M (XX κ σ.h) vs cs/\(results fn a.tmps).run P w=.ok (if h:cs.length=1 then cs[0]else .tuple cs.toArray) w:=by
 have key:∀(l:List ResultVar)(rs:List RV)(vs:List V),tU P l=some rs->σ.rvs rs=some vs->
  ∃cs:List Value,ae M (XX κ σ.h) vs cs/\(l.mapM (Fu a)).run P w=.ok cs w:=by
  intro l
  induction l with
  |nil=>
    intro rs vs h1 h2;simp only[tU,zAb]at h1;subst h1;simp only[St.rvs,zAb]at h2;subst h2;exact⟨[],by simp[ae],by simp⟩
  |cons x l ih=>
    intro rs vs h1 h2;cases x with
    |tmp t=>
      simp only[tU,zAc]at h1;obtain⟨rs',h1,rfl⟩:=h1;simp only[St.rvs]at h2;split at h2
      ·rename_i v us g1 g2
       cases h2;obtain⟨cs,k1,k2⟩:=ih rs' us h1 g2;simp only[St.rv]at g1;split at g1
       ·rename_i u hu
        split at g1
        ·cases g1
         obtain⟨_,c,e1,e2⟩:=H.regs _ _ hu;refine⟨c::cs,by simp only[ae];exact⟨c,cs,rfl,e2,k1⟩,?_⟩
         have hF:(Fu a (.tmp t)).run P w=.ok c w:=by simp[Fu,e1]
         rw[zCh,Sem.run_bind,hF,Result.andThen_ok,Sem.run_bind,k2,Result.andThen_ok,Sem.run_pure]
        ·cases g1
       ·cases g1
      ·cases h2
    |cell t ty=>
      simp only[tU]at h1;split at h1
      ·rename_i n g xs hs hx
       cases h1;simp only[St.rvs]at h2;split at h2
       ·rename_i v us g1 g2
        cases h2;obtain⟨cs,k1,k2⟩:=ih _ us hx g2;simp only[St.rv]at g1;split at g1
        ·rename_i p hp
         split at g1
         ·rename_i vs' hf
          obtain⟨s1,s2,s3⟩:=mE hs;obtain⟨_,c,e1,e2⟩:=H.regs _ _ hp;obtain⟨b,o',ds,e,f1,f2,f3,f4⟩:=oA H e2 hf;subst e;rcases pA g1 f1 f2 with⟨rfl,hk⟩|⟨rfl,c,hk1,hk2⟩
          ·refine⟨.agg ds.toArray::cs,by simp only[ae];exact⟨_,cs,rfl,hk,k1⟩,?_⟩
           have:=run_loadCells_list (P:=P) w ⟨b,o',none⟩ ds f4;rw[f3]at this;have hF:(Fu a (.cell t ty)).run P w=.ok (.agg ds.toArray) w:=by simp[Fu,e1,asAddr,loadVar,fQ s2,aT s1,this]
           rw[zCh,Sem.run_bind,hF,Result.andThen_ok,Sem.run_bind,k2,Result.andThen_ok,Sem.run_pure]
          ·refine⟨c::cs,by simp only[ae];exact⟨c,cs,rfl,hk2,k1⟩,?_⟩
           have:=f4 0 c (by simp[hk1])
           rw[Addr.add_lit]at this;simp at this;have hF:(Fu a (.cell t ty)).run P w=.ok c w:=by simp[Fu,e1,asAddr,loadVar,fQ s2,this]
           rw[zCh,Sem.run_bind,hF,Result.andThen_ok,Sem.run_bind,k2,Result.andThen_ok,Sem.run_pure]
         ·cases g1
        ·cases g1
       ·cases h2
      ·cases h1
 obtain⟨cs,k1,k2⟩:=key _ _ _ hr hv;refine⟨cs,k1,?_⟩
 have e:results fn a.tmps=(do
  let vs <-fn.results.mapM (Fu a)
  pure (if h:vs.size=1 then vs[0]else .tuple vs)):=by
  unfold results;congr 2
 rw[e,Array.mapM_eq_mapM_toList];simp[Sem.run_bind,k2]
theorem r7{c:Code}{Q:Exit->Act->World->Prop}{a:Act}{w:World}(h:c.wpIn (FR none) 0 P Q a w):c.wp P Q a w:=wpIn_wide.1 h
theorem FnE.of_W{f:FuncId}{fn:Func}{c:Code}{us:List V}{r:V}{x:AC}{rs:List RV}(hm:P.follows .mixedOrders=true)(hf:P.funcs[f]?=some fn)(hb:fn.body=some c)
 (hn:(fn.name == "runtime.NumGoroutine")=false) (hc:LC P fn.ntmps [] c x) (hr:tU P fn.results.toList=some rs) (hs:us.length<=fn.ntmps)
 (hW:oks us->W (Cn P) x (Res rs (·=r)) ⟨ent 0 us,[]⟩):FnE P f us r where
 call:=fun args w=>by
  unfold callFunc;simp only[beq_eq_false_iff_ne,ne_eq]at hn;simp[Sem.run_bind,hf,hb,hn]
 does:=fun M w cs hM hus=>by
  have hl:cs.size=us.length:=by have:=aB hus;simpa using this
  refine calls_of_wp hf hb ?_
  have H:Rel fn.ntmps M ⟨w.heap.size,fun _=>False,[],#[],w.heap.size,noJ,[],fun _ _ _ _ _ _=>False⟩ w ⟨fun _=>undef,fun _ _=>undef,fun _ _=>False,fun _=>none⟩ M ⟨ent 0 us,[]⟩ { tmps:=cs++zAh (fn.ntmps-cs.size) undef,defers:=[] } w:=
   { dfr:=rfl,jst:=l9 rfl,pin:=fun i hi=>by cases hi
     size:=by simp;omega
     regs:=fun t v ht=>by
      obtain⟨_,h2⟩:=uA ht;simp only[zCd]at h2;have hlt:t<us.length:=(zAg.1 h2).1;obtain⟨c,h3,h4⟩:=cI hus h2;refine⟨by omega,c,?_,ax (fun _ _ h=>h) (fun _ _ h=>h.elim) _ _ h4⟩
      rw[zAj (by omega)]
      simpa using h3
     heap:=fun id ob h=>by simp at h
     inj:=fun i j oi oj g h=>by simp at h
     snd:=hM.snd
     sep:=fun p v _ id ob h=>by simp at h
     sub:=⟨fun _ _ h=>h,fun _ _ h=>(by cases h),fun _ _ h=>(by cases h),zBg _,hM.gl⟩
     new:=fun _ _ h=>.inl h
     base:=rfl
     blw:=Und.refl _ _ }
  refine r7 (nk hm (ma rfl) (B:=⟨w.heap.size,fun _=>False,[],#[],w.heap.size,noJ,[],fun _ _ _ _ _ _=>False⟩) hc ?_ H (hW (du hus)));intro e κ M1 σ a w1 hR H1;simp only[Res]at hR;obtain⟨he,hR⟩:=hR;split at hR
  ·rename_i vs hvs
   split at hR
   ·rename_i ws hws
    obtain⟨ds,k1,k2⟩:=iL hr H1 hvs;obtain⟨H2,hM1⟩:=H1.kill (am vs) (ee hws)
    have k3:ae (ext M1 w1 (jq κ (am vs))) NX ws ds:=by
     refine bR H1 hM1 (fun id hid g hg p hpb=>?_) k1 hws;unfold ext;rw[if_pos (dx.2 ⟨id,hid,by rw[hpb];exact hg⟩)]
    have fin:bodyPost P fn (fun e w'=>∃(c:Value)(M':Mem),e=.returned c/\rep M' NX r c/\Below w.heap.size w w'/\(∀p v,M' p=some v->w'.cell? p=some v)/\
     (∀p v,M p=some v->M' p=some v)/\∀p v,M' p=some v->M p=some v\/w.heap.size<=p.block) .normal a w1:=by
     refine⟨H1.dfr,_,k2,_,_,rfl,?_,⟨H1.blw.os,H1.blw.tape,H1.blw.output,H1.blw.size,fun k hk=>H1.blw.block k hk id⟩,H2.snd,H2.sub.sub,fun p v h=>(H2.new p v h).imp_right fun h=>h.elim id False.elim⟩;subst hR
     match ws,ds,k3 with
     |[],[],k3=>simp only[jc,rep];exact⟨#[],rfl,by simp[ae]⟩
     |[v],[d],k3=>
       simp only[ae]at k3;obtain⟨_,_,h1,h2,_⟩:=k3;cases h1;simpa[jc]using h2
     |v::v'::vs',d::d'::ds',k3=>
       have e:(if h:(d::d'::ds').length=1 then(d::d'::ds')[0]else .tuple (d::d'::ds').toArray)=.tuple (d::d'::ds').toArray:=dif_neg (by simp)
       rw[e];simp only[jc,rep];exact⟨_,rfl,by simpa using k3⟩
     |[],d::ds,k3=>simp[ae]at k3
     |v::vs,[],k3=>simp[ae]at k3
     |[v],d::d'::ds,k3=>simp[ae]at k3
     |v::v'::vs,[d],k3=>
       simp only[ae]at k3;obtain⟨c,cs',h1,_,c2,cs2,h2,_⟩:=k3;cases h1;cases h2
    cases e with
    |norm=>exact fin
    |ret=>exact fin
    |exit id=>exact he.elim
    |goto l=>exact he.elim
   ·exact hR.elim
  ·exact hR.elim
def JP(rs:List RV)(r:V):Ex->St->Prop:=fun e σ=>(match e with
    | .exit _=>False
    | .goto _=>False
    |_=>True)/\match σ.rvs rs with
    |some vs=>Ek σ.h vs=true/\(match purs σ.h vs with
      |some us=>jc us=r
      |none=>False)
    |none=>False
theorem E1{M:Mem}{X:V->Value->Prop}:∀{ws:List V}{ds:List Value},ae M X ws ds->rep M X (jc ws) (if h:ds.length=1 then ds[0]else .tuple ds.toArray)
 |[],[],k3=>by simp only[jc,rep];exact⟨#[],rfl,by simp[ae]⟩
 |[v],[d],k3=>by
   simp only[ae]at k3;obtain⟨_,_,h1,h2,_⟩:=k3;cases h1;simpa[jc]using h2
 |v::v'::vs',d::d'::ds',k3=>by
   have e:(if h:(d::d'::ds').length=1 then(d::d'::ds')[0]else .tuple (d::d'::ds').toArray)=.tuple (d::d'::ds').toArray:=dif_neg (by simp)
   rw[e];simp only[jc,rep];exact⟨_,rfl,by simpa using k3⟩
 |[],d::ds,k3=>by simp[ae]at k3
 |v::vs,[],k3=>by simp[ae]at k3
 |[v],d::d'::ds,k3=>by simp[ae]at k3
 |v::v'::vs,[d],k3=>by
   simp only[ae]at k3;obtain⟨c,cs',h1,_,c2,cs2,h2,_⟩:=k3;cases h1;cases h2
theorem FnN.of_W{f:FuncId}{fn:Func}{c:Code}{us:List V}{r:V}{x:AC}{rs:List RV}(hm:P.follows .mixedOrders=true)(hf:P.funcs[f]?=some fn)(hb:fn.body=some c)
 (hn:(fn.name == "runtime.NumGoroutine")=false) (hc:LC P fn.ntmps [] c x) (hr:tU P fn.results.toList=some rs) (hs:us.length<=fn.ntmps)
 (hW:oks us->W (Cn P) x (JP rs r) ⟨ent 0 us,[]⟩):FnN P f us r:=by
 intro M w cs hM hus o a Nx Q hN
 have hcall:(callFunc f cs).run P w=.ok (.enter f cs) w:=by
  unfold callFunc;simp only[beq_eq_false_iff_ne,ne_eq]at hn;simp[Sem.run_bind,hf,hb,hn]
 have hl:cs.size=us.length:=by have:=aB hus;simpa using this
 rw[hcall,Oper.upon_enter]
 have key:Calls P f cs w fun e w'=>∃(c:Value)(M':Mem),e=.returned c/\rep (q9 w M') NX r c/\Below w.heap.size w w'/\∀p v,M' p=some v->w'.cell? p=some v:=by
  refine calls_of_wp hf hb ?_
  have H:Rel fn.ntmps M ⟨w.heap.size,fun _=>False,[],#[],w.heap.size,noJ,[],fun _ _ _ _ _ _=>False⟩ w ⟨fun _=>undef,fun _ _=>undef,fun _ _=>False,fun _=>none⟩ M ⟨ent 0 us,[]⟩ { tmps:=cs++zAh (fn.ntmps-cs.size) undef,defers:=[] } w:=
   { dfr:=rfl,jst:=l9 rfl,pin:=fun i hi=>by cases hi
     size:=by simp;omega
     regs:=fun t v ht=>by
      obtain⟨_,h2⟩:=uA ht;simp only[zCd]at h2;have hlt:t<us.length:=(zAg.1 h2).1;obtain⟨c,h3,h4⟩:=cI hus h2;refine⟨by omega,c,?_,ax (fun _ _ h=>h) (fun _ _ h=>h.elim) _ _ h4⟩
      rw[zAj (by omega)]
      simpa using h3
     heap:=fun id ob h=>by simp at h
     inj:=fun i j oi oj g h=>by simp at h
     snd:=hM.snd
     sep:=fun p v _ id ob h=>by simp at h
     sub:=⟨fun _ _ h=>h,fun _ _ h=>(by cases h),fun _ _ h=>(by cases h),zBg _,hM.gl⟩
     new:=fun _ _ h=>.inl h
     base:=rfl
     blw:=Und.refl _ _ }
  refine r7 (nk hm (ma rfl) (B:=⟨w.heap.size,fun _=>False,[],#[],w.heap.size,noJ,[],fun _ _ _ _ _ _=>False⟩) hc ?_ H (hW (du hus)));intro e κ M1 σ a w1 hR H1;simp only[JP]at hR;obtain⟨he,hR⟩:=hR;split at hR
  ·rename_i vs hvs
   obtain⟨hfr,hR⟩:=hR;split at hR
   ·rename_i ws hws
    obtain⟨ds,k1,k2⟩:=iL hr H1 hvs;obtain⟨H2,hM1⟩:=H1.kill (am vs) (ee hws)
    have k3:ae (q9 w (ext M1 w1 (jq κ (am vs)))) NX ws ds:=by
     refine sY H1 (fun p v hp=>by unfold q9;rw[if_pos (H1.sub.fmN p v hp)];exact hM1 p v (H1.sub.fmS p v hp)) (fun id hid g hg p hpb=>?_) hfr k1 hws
     obtain⟨ob,hob⟩:=ee hws id hid
     have hgw:w.heap.size<=g:=by
      rcases(H1.blk_lt hob hg).1 with h|h
      ·exact h
      ·exact h.elim
     unfold q9;rw[if_pos (by omega)]
     unfold ext;rw[if_pos (dx.2 ⟨id,hid,by rw[hpb];exact hg⟩)]
    have fin:bodyPost P fn (fun e w'=>∃(c:Value)(M':Mem),e=.returned c/\rep (q9 w M') NX r c/\Below w.heap.size w w'/\∀p v,M' p=some v->w'.cell? p=some v) .normal a w1:=by
     refine⟨H1.dfr,_,k2,_,_,rfl,?_,⟨H1.blw.os,H1.blw.tape,H1.blw.output,H1.blw.size,fun k hk=>H1.blw.block k hk id⟩,H2.snd⟩;subst hR;exact E1 k3
    cases e with
    |norm=>exact fin
    |ret=>exact fin
    |exit id=>exact he.elim
    |goto l=>exact he.elim
   ·exact hR.elim
  ·exact hR.elim
 refine key.mono ?_;rintro e w' ⟨c,M',rfl,h1,h2,h3⟩;exact hN c M' w' h1 h2 h3
mutual
def jk:V->V
 | .seq sz l=>if l.isEmpty=true then .seq sz l else .junk
 | .strct cs=>.strct (jks cs)
 | .tup cs=>.tup (jks cs)
 | .sptr _ _=>.junk
 |v=>v
def jks:List V->List V
 |[]=>[]
 |v::vs=>jk v::jks vs
end
def au(P:Program)(fn:Func)(K:List (List Nat))(n:Nat):Option (AC×List RV):=
 match fn.body with
 |some c=>match bS P fn.ntmps [] [] c K,tU P fn.results.toList with
   |some (x,[]),some rs=>if(fn.name == "runtime.NumGoroutine")=false/\n<=fn.ntmps then some (x,rs)else none
   |_,_=>none
 |none=>none
theorem FnE.of_image{f:FuncId}{fn:Func}{us:List V}{r:V}{x:AC}{K:List (List Nat)}{rs:List RV}{n:Nat}(hm:P.follows .mixedOrders=true)(hf:P.funcs[f]?=some fn)
 (hi:au P fn K n=some (x,rs)) (hn:us.length=n) (hW:oks us->W (Cn P) x (Res rs (·=r)) ⟨ent 0 us,[]⟩):FnE P f us r:=by
 unfold au at hi;split at hi
 ·split at hi
  ·split at hi
   ·rename_i hc
    cases hi;exact FnE.of_W hm hf ‹_› hc.1 (eN ‹_›) ‹_› (by rw[hn];exact hc.2) hW
   ·cases hi
  ·cases hi
 ·cases hi
theorem Fn.of_image{f:FuncId}{fn:Func}{us:List V}{r:V}{x:AC}{K:List (List Nat)}{rs:List RV}{n:Nat}(hm:P.follows .mixedOrders=true)(hf:P.funcs[f]?=some fn)
 (hi:au P fn K n=some (x,rs)) (hn:us.length=n) (hW:oks us->W (Cn P) x (Res rs (·=r)) ⟨ent 0 us,[]⟩):Fn P f us r:=(FnE.of_image hm hf hi hn hW).fn
theorem FnN.of_image{f:FuncId}{fn:Func}{us:List V}{r:V}{x:AC}{K:List (List Nat)}{rs:List RV}{n:Nat}(hm:P.follows .mixedOrders=true)(hf:P.funcs[f]?=some fn)
 (hi:au P fn K n=some (x,rs)) (hn:us.length=n) (hW:oks us->W (Cn P) x (JP rs r) ⟨ent 0 us,[]⟩):FnN P f us r:=by
 unfold au at hi;split at hi
 ·split at hi
  ·split at hi
   ·rename_i hc
    cases hi;exact FnN.of_W hm hf ‹_› hc.1 (eN ‹_›) ‹_› (by rw[hn];exact hc.2) hW
   ·cases hi
  ·cases hi
 ·cases hi
def xU:List (Nat×V)->List V
 |[]=>[]
 |(_,v)::r=>v::xU r
def FE(m:List Nat)(r:List (Nat×V))(us:List V):List Nat->Prop
 |[]=>True
 |i::is=>(match lk r i,us[i]? with
   |some v,some u=>ren m v=u
   |_,_=>False)/\FE m r us is
def Kb(σ:St)(ps:List Nat)(us:List V)(r:V)(H':List (Option Ob))(vs:List V)(m:List Nat):Prop:=
 FE m σ.r us ps/\jc (jH m vs)=r/\jI σ.h m m=H'
def ET(rs:List RV)(ps:List Nat)(us:List V)(r:V)(H':List (Option Ob)):Ex->St->Prop:=fun e σ=>(match e with
    | .exit _=>False
    | .goto _=>False
    |_=>True)/\match σ.rvs rs with
    |some vs=>Kb σ ps us r H' vs (gT σ.h (xU (pk σ.r ps)) vs).2
    |none=>False
theorem BK{m:List Nat}{r:List (Nat×V)}{us:List V}:∀{is:List Nat},FE m r us is->∀i,i∈is->∃v u,lk r i=some v/\us[i]?=some u/\ren m v=u
 |[],_,i,hi=>by cases hi
 |j::is,h,i,hi=>by
   simp only[FE]at h;rcases zDb.1 hi with rfl|hi
   ·have h1:=h.1
    split at h1
    ·exact⟨_,_,by assumption,by assumption,h1⟩
    ·exact h1.elim
   ·exact BK h.2 i hi
theorem FnH.of_W{f:FuncId}{fn:Func}{c:Code}{ps:List Nat}{us:List V}{H H':List (Option Ob)}{r:V}{x:AC}{rs:List RV}(hm:P.follows .mixedOrders=true)(hf:P.funcs[f]?=some fn)(hb:fn.body=some c)
 (hn:(fn.name == "runtime.NumGoroutine")=false) (hc:LC P fn.ntmps ps c x) (hr:tU P fn.results.toList=some rs) (hs:us.length<=fn.ntmps) (hps:∀i∈ps,i<us.length)
 (hW:oks us->okH H->W (Cn P) x (ET rs ps us r H') ⟨ent 0 us,H⟩):FnH P f ps us H r H':=by
 intro M w κ cs J hJC hp hus o a Nx Q hN
 have hcall:(callFunc f cs).run P w=.ok (.enter f cs) w:=by
  unfold callFunc;simp only[beq_eq_false_iff_ne,ne_eq]at hn;simp[Sem.run_bind,hf,hb,hn]
 have hl:cs.size=us.length:=by have:=aB hus;simpa using this
 rw[hcall,Oper.upon_enter]
 have key:Calls P f cs w fun e w'=>∃(c:Value)(M':Mem)(κ':Kap),e=.returned c/\rep M' (XX κ' H') r c/\Und (fx κ H w ps cs J) w w'/\Heap κ' M' (fx κ H w ps cs J) w' H'/\
  (∀p v,M p=some v->M' p=some v)/\(∀p v,M' p=some v->M p=some v\/(fx κ H w ps cs J).own p.block)/\
  (∀i,i∈ps->∀u d,us[i]?=some u->cs[i]?=some d->rep M' (XX κ' H') u d):=by
  refine calls_of_wp hf hb ?_
  have H0:Rel fn.ntmps M (fx κ H w ps cs J) w κ M ⟨ent 0 us,H⟩ { tmps:=cs++zAh (fn.ntmps-cs.size) undef,defers:=[] } w:=
   { dfr:=rfl
     jst:=hp.jst
     pin:=fun i hi=>by
      have hi:i∈ps:=hi;have:=hps i hi
      show(cs++zAh (fn.ntmps-cs.size) undef)[i]?=cs[i]?
      rw[zAj (by omega)]
     size:=by simp;omega
     regs:=fun t v ht=>by
      obtain⟨_,h2⟩:=uA ht;simp only[zCd]at h2;have hlt:t<us.length:=(zAg.1 h2).1;obtain⟨c,h3,h4⟩:=cI hus h2;refine⟨by omega,c,?_,h4⟩
      rw[zAj (by omega)]
      simpa using h3
     heap:=hp.heap
     inj:=hp.inj
     snd:=hp.snd
     sep:=hp.sep
     sub:=⟨fun _ _ h=>h,hp.fmS,fun _ _ _=>zBj _,zBj _,hp.gl⟩
     new:=fun _ _ h=>.inl h
     base:=rfl
     blw:=Und.refl _ _ }
  refine r7 (nk hm hJC (B:=fx κ H w ps cs J) hc ?_ H0 (hW (du hus) (Kw hp.heap)));intro e κ1 M1 σ a w1 hR H1;simp only[ET]at hR;obtain⟨he,hR⟩:=hR;split at hR
  ·rename_i vs hvs
   obtain⟨ds,k1,k2⟩:=iL hr H1 hvs;obtain⟨hmn,_,_,hpf⟩:=BY (h:=σ.h) (pvs:=xU (pk σ.r ps)) (vs:=vs);generalize(gT σ.h (xU (pk σ.r ps)) vs).2=m at *;obtain⟨hR1,hR2,hR3⟩:=hR;have H2:=H1.ren hmn hpf [] (fun t v h=>by simp[lk]at h)
   have k3:=iO (vf (M:=M1) (κ:=κ1) (h:=σ.h) hmn) k1;simp only[zK]at H2;rw[hR3]at H2 k3
   have hpin:∀i,i∈ps->∀u d,us[i]?=some u->cs[i]?=some d->rep M1 (XX (κ1.ren m) H') u d:=by
    intro i hi u d hu hd;obtain⟨v,u',e1,e2,e3⟩:=BK hR1 i hi;rw[hu]at e2;cases e2;obtain⟨_,c,g2,g3⟩:=H1.regs i v e1;rw[H1.pin i hi]at g2;have g2:cs[i]?=some c:=g2;rw[hd]at g2;cases g2;rw[<-e3,<-hR3];exact xd (vf hmn) g3
   generalize hk':κ1.ren m=κ' at *
   have fin:bodyPost P fn (fun e w'=>∃(c:Value)(M':Mem)(κ':Kap),e=.returned c/\rep M' (XX κ' H') r c/\Und (fx κ H w ps cs J) w w'/\Heap κ' M' (fx κ H w ps cs J) w' H'/\
    (∀p v,M p=some v->M' p=some v)/\(∀p v,M' p=some v->M p=some v\/(fx κ H w ps cs J).own p.block)/\
    (∀i,i∈ps->∀u d,us[i]?=some u->cs[i]?=some d->rep M' (XX κ' H') u d)) .normal a w1:=by
    refine⟨H1.dfr,_,k2,_,M1,κ',rfl,?_,H1.blw,⟨H2.heap,H2.inj,H2.snd,H2.sep,H2.sub.fmS,H2.sub.gl.mono H2.sub.sub,H2.jst⟩,H1.sub.sub,H1.new,hpin⟩;subst hR2;generalize jH m vs=ws at *
    match ws,ds,k3 with
    |[],[],k3=>simp only[jc,rep];exact⟨#[],rfl,by simp[ae]⟩
    |[v],[d],k3=>
      simp only[ae]at k3;obtain⟨_,_,h1,h2,_⟩:=k3;cases h1;simpa[jc]using h2
    |v::v'::vs',d::d'::ds',k3=>
      have e:(if h:(d::d'::ds').length=1 then(d::d'::ds')[0]else .tuple (d::d'::ds').toArray)=.tuple (d::d'::ds').toArray:=dif_neg (by simp)
      rw[e];simp only[jc,rep];exact⟨_,rfl,by simpa using k3⟩
    |[],d::ds,k3=>simp[ae]at k3
    |v::vs,[],k3=>simp[ae]at k3
    |[v],d::d'::ds,k3=>simp[ae]at k3
    |v::v'::vs,[d],k3=>
      simp only[ae]at k3;obtain⟨c,cs',h1,_,c2,cs2,h2,_⟩:=k3;cases h1;cases h2
   cases e with
   |norm=>exact fin
   |ret=>exact fin
   |exit id=>exact he.elim
   |goto l=>exact he.elim
  ·exact hR.elim
 refine key.mono ?_;rintro e w' ⟨c,M',κ',rfl,h1,h2,h3,h4,h5,h6⟩;exact hN c M' w' κ' h1 h2 h3 h4 h5 h6
def aP(P:Program)(fn:Func)(ps E:List Nat)(K:List (List Nat))(n:Nat):Option (AC×List RV):=
 match fn.body with
 |some c=>match bS P fn.ntmps ps E c K,tU P fn.results.toList with
   |some (x,[]),some rs=>if(fn.name == "runtime.NumGoroutine")=false/\n<=fn.ntmps/\ps.all (fun i=>decide (i<n))=true then some (x,rs)else none
   |_,_=>none
 |none=>none
theorem FnH.of_image{f:FuncId}{fn:Func}{ps E:List Nat}{us:List V}{H H':List (Option Ob)}{r:V}{x:AC}{K:List (List Nat)}{rs:List RV}{n:Nat}(hm:P.follows .mixedOrders=true)(hf:P.funcs[f]?=some fn)
 (hi:aP P fn ps E K n=some (x,rs)) (hn:us.length=n) (hW:oks us->okH H->W (Cn P) x (ET rs ps us r H') ⟨ent 0 us,H⟩):FnH P f ps us H r H':=by
 unfold aP at hi;split at hi
 ·split at hi
  ·split at hi
   ·rename_i hc
    cases hi;exact FnH.of_W hm hf ‹_› hc.1 (eN ‹_›) ‹_› (by rw[hn];exact hc.2.1) (fun i hi=>by have:=zAf.1 hc.2.2 i hi;simp at this;omega) hW
   ·cases hi
  ·cases hi
 ·cases hi
theorem Fn.of_imageE{f:FuncId}{fn:Func}{E:List Nat}{us:List V}{r:V}{x:AC}{K:List (List Nat)}{rs:List RV}{n:Nat}(hm:P.follows .mixedOrders=true)(hf:P.funcs[f]?=some fn)
 (hi:aP P fn [] E K n=some (x,rs)) (hn:us.length=n) (hW:oks us->W (Cn P) x (Res rs (·=r)) ⟨ent 0 us,[]⟩):Fn P f us r:=by
 unfold aP at hi;split at hi
 ·split at hi
  ·split at hi
   ·rename_i hc
    cases hi;exact(FnE.of_W hm hf ‹_› hc.1 (eN ‹_›) ‹_› (by rw[hn];exact hc.2.1) hW).fn
   ·cases hi
  ·cases hi
 ·cases hi
end
end Go.Abs
end
section
namespace Go.Abs
def oM{α:Type}(x:Option α)(k:α->Prop):Prop:=match x with
 |some v=>k v
 |none=>False
def oN{α:Type}(x:Option α)(k:α->Prop)(e:Prop):Prop:=match x with
 |some v=>k v
 |none=>e
theorem R3{α:Type}{v:α}{k:α->Prop}{e:Prop}:oN (some v) k e=k v:=propext zAa
theorem R4{α:Type}{k:α->Prop}{e:Prop}:oN none k e=e:=propext zAa
def BrK(t:Bool)(A B:St->Prop)(σ:St):Prop:=Br t (A σ) (B σ)
def rqK(p:Prop)(K:St->Prop)(σ:St):Prop:=p/\K σ
def cM(x:Option V)(A B:St->Prop)(σ:St):Prop:=match x with
 |some (.bool t)=>Br t (A σ) (B σ)
 |_=>False
def gM(x:Option V)(b:Bool)(A B:St->Prop)(σ:St):Prop:=match x with
 |some (.bool y)=>if b=true then Br y (A σ) (B σ)else Br y (B σ) (A σ)
 |some (.tup [])=>B σ
 |_=>False
def SI(Q:Ex->St->Prop)(ks:List Nat)(σ:St):Prop:=Q .norm { σ with r:=pk σ.r ks }
def skK(d:Option Nat)(K:St->Prop)(σ:St):Prop:=K (σ.put d (.tup []))
def fj(σ:St)(d:Option Nat)(K:St->Prop)(v:V):Prop:=K (σ.put d v)
theorem BrK.mk{t:Bool}{A B:St->Prop}{σ:St}(h:t=true->A σ)(h':t=false->B σ):BrK t A B σ:=⟨h,h'⟩
theorem H7{A B:St->Prop}{σ:St}:BrK true A B σ=A σ:=by simp[BrK,Br]
theorem CB{A B:St->Prop}{σ:St}:BrK false A B σ=B σ:=by simp[BrK,Br]
theorem BrKd.mk{p:Prop}[Decidable p]{A B:St->Prop}{σ:St}(h:p->A σ)(h':¬p->B σ):BrK (decide p) A B σ:=⟨fun e=>h (of_decide_eq_true e),fun e=>h' (of_decide_eq_false e)⟩
theorem BrK_t{p:Prop}[Decidable p]{A B:St->Prop}{σ:St}(h:p):BrK (decide p) A B σ=A σ:=by rw[decide_eq_true h];exact H7
theorem BrK_f{p:Prop}[Decidable p]{A B:St->Prop}{σ:St}(h:¬p):BrK (decide p) A B σ=B σ:=by rw[decide_eq_false h];exact CB
theorem BrK_n{b:Bool}{A B:St->Prop}{σ:St}:BrK (!b) A B σ=BrK b B A σ:=by cases b<;>simp[BrK,Br]
theorem rqK_t{p:Prop}{K:St->Prop}{σ:St}(h:p):rqK p K σ=K σ:=by simp[rqK,h]
theorem N7{K:St->Prop}{σ:St}:rqK True K σ=K σ:=by simp[rqK]
theorem R5{α:Type}{v:α}{k:α->Prop}:oM (some v) k=k v:=propext zAa
theorem R6{α:Type}{k:α->Prop}:oM none k=False:=propext zAa
theorem SP{t:Bool}{A B:St->Prop}{σ:St}:cM (some (.bool t)) A B σ=BrK t A B σ:=propext zAa
theorem Ss{y:Bool}{A B:St->Prop}{σ:St}:gM (some (.bool y)) true A B σ=BrK y A B σ:=propext zAa
theorem Ph{y:Bool}{A B:St->Prop}{σ:St}:gM (some (.bool y)) false A B σ=BrK y B A σ:=propext zAa
theorem U0{b:Bool}{A B:St->Prop}{σ:St}:gM (some (.tup [])) b A B σ=B σ:=by cases b<;>rfl
section
variable{Φ:Ctr}{Q:Ex->St->Prop}{σ:St}{K:St->Prop}{d:Option Nat}
theorem PD{ks:List Nat}:SI Q ks σ=Q .norm { σ with r:=pk σ.r ks }:=propext zAa
theorem RM:skK d K σ=K (σ.put d (.tup [])):=propext zAa
theorem Ol{v:V}:fj σ d K v=K (σ.put d v):=propext zAa
theorem Wi{ops ks}:W Φ (.reg ops ks) Q σ=wq Φ ops (SI Q ks) σ:=propext zAa
theorem S4{ops ks}:W Φ (.regD ops ks) Q σ=vi Φ ops (SI Q ks) σ:=propext zAa
theorem S3{alts ks}:W Φ (.regE alts ks) Q σ=Ic Φ alts (SI Q ks) σ:=propext zAa
theorem S6{c:AO}{a b:AC}:W Φ (.cond c a b) Q σ=cM (σ.ev c) (W Φ a Q) (W Φ b Q) σ:=propext zAa
theorem Wh{a b:AC}:W Φ (.seq a b) Q σ=W Φ a (Ex.then (W Φ b Q) Q) σ:=propext zAa
theorem NB:wq Φ [] K σ=K σ:=propext zAa
theorem KW{o:AOp}{os:List AOp}:wq Φ (o::os) K σ=wop Φ o (wq Φ os K) σ:=propext zAa
theorem wop_n{d:Option Nat}{a:Act'}:wop Φ ⟨d,a,none⟩ K σ=af Φ d a K σ:=propext zAa
theorem ND{d:Option Nat}{a:Act'}{t:Nat}{b:Bool}:wop Φ ⟨d,a,some (t,b)⟩ K σ=gM (lk σ.r t) b (af Φ d a K) (skK d K) σ:=by
 simp only[wop,gM];split<;>rename_i heq<;>simp only[heq]<;>rfl
theorem KX:vi Φ [] K σ=K σ:=propext zAa
theorem Ia{o:AOp}{os:List AOp}:vi Φ (o::os) K σ=aR Φ o (vi Φ os K) σ:=propext zAa
theorem TT{d:Option Nat}{a:Act'}:aR Φ ⟨d,a,none⟩ K σ=ag Φ d a K σ:=propext zAa
theorem Ib{d:Option Nat}{a:Act'}{t:Nat}{b:Bool}:aR Φ ⟨d,a,some (t,b)⟩ K σ=gM (lk σ.r t) b (ag Φ d a K) (skK d K) σ:=by
 simp only[aR,gM];split<;>rename_i heq<;>simp only[heq]<;>rfl
theorem KU:jr Φ .nil K σ=K σ:=propext zAa
theorem M7{x:AOp}{t:OT}:jr Φ (.op x t) K σ=aR Φ x (jr Φ t K) σ:=propext zAa
def CF(Φ:Ctr)(a b:OT)(K:St->Prop)(σ:St):Prop:=jr Φ a K σ/\jr Φ b K σ
theorem H8{a b:OT}:jr Φ (.both a b) K σ=CF Φ a b K σ:=propext zAa
theorem CF.mk{a b:OT}(h:jr Φ a K σ)(h':jr Φ b K σ):CF Φ a b K σ:=⟨h,h'⟩
def R8(Q:Ex->St->Prop)(ks:List Nat)(σ:St):Prop:=Q .norm (σ.nrm ks)
theorem OA{ks:List Nat}:R8 Q ks σ=Q .norm (σ.nrm ks):=propext zAa
theorem S2{t ks}:W Φ (.regF t ks) Q σ=jr Φ t (R8 Q ks) σ:=propext zAa
theorem NH:Ic Φ [] K σ=True:=propext zAa
def wallK(Φ:Ctr)(o:List AOp)(os:List (List AOp))(K:St->Prop)(σ:St):Prop:=wq Φ o K σ/\Ic Φ os K σ
theorem K4{o:List AOp}{os:List (List AOp)}:Ic Φ (o::os) K σ=wallK Φ o os K σ:=propext zAa
def Tl:Act'->Bool
 | .s2b _=>false
 | .lit _ _ _=>false
 | .ltr _ _ _=>false
 | .alc _=>false
 | .box _=>false
 | .st _ _ _=>false
 | .app _ _ _ _ _=>false
 | .mks _ _ _ _ _=>false
 | .mk0 _ _ _ _=>false
 | .mkm _ _ _ _ _=>false
 | .call _ _=>false
 | .callv _ _=>false
 | .callH _ _=>false
 | .mkp _=>false
 | .mup _ _ _ _=>false
 | .inv _ _ _=>false
 | .ivp _ _ _=>false
 | .trc _ _ _=>false
 | .alq _=>false
 | .bxq _=>false
 | .cvb _=>false
 | .apz _ _ _ _=>false
 | .sbq _=>false
 | .aps _ _ _=>false
 | .apb _ _ _=>false
 | .alb _ _ _=>false
 | .usd _=>false
 | .ust _ _ _=>false
 | .del _ _ _=>false
 | .mkq _ _ _ _ _=>false
 | .yld _ _=>false
 | .rgs _=>false
 | .nxs _=>false
 |_=>true
theorem de{a:Act'}(h:Tl a=true):af Φ d a K σ=oM (σ.val a) (fj σ d K):=by
 cases a<;>first|(exfalso;revert h;simp only[Tl];decide)|skip
 all_goals
  simp only[af,oM];split<;>rename_i heq<;>simp only[heq]<;>rfl
theorem a_mov{x}:af Φ d (.mov x) K σ=oM (σ.val (.mov x)) (fj σ d K):=de rfl
theorem VF{x}:ag Φ d (.mov x) K σ=af Φ d (.mov x) K σ:=propext zAa
theorem Vn{x y z}:af Φ d (.pick x y z) K σ=oM (σ.val (.pick x y z)) (fj σ d K):=de rfl
theorem SX{x y z}:ag Φ d (.pick x y z) K σ=af Φ d (.pick x y z) K σ:=propext zAa
theorem a_fld{x y z w}:af Φ d (.fld x y z w) K σ=oM (σ.val (.fld x y z w)) (fj σ d K):=de rfl
theorem VU{x y z w}:ag Φ d (.fld x y z w) K σ=af Φ d (.fld x y z w) K σ:=propext zAa
theorem a_fa{x y}:af Φ d (.fa x y) K σ=oM (σ.val (.fa x y)) (fj σ d K):=de rfl
theorem aD_fa{x y}:ag Φ d (.fa x y) K σ=af Φ d (.fa x y) K σ:=propext zAa
theorem a_ia{x y z}:af Φ d (.ia x y z) K σ=oM (σ.val (.ia x y z)) (fj σ d K):=de rfl
theorem aD_ia{x y z}:ag Φ d (.ia x y z) K σ=af Φ d (.ia x y z) K σ:=propext zAa
theorem a_iaa{x y z w}:af Φ d (.iaa x y z w) K σ=oM (σ.val (.iaa x y z w)) (fj σ d K):=de rfl
theorem VT{x y z w}:ag Φ d (.iaa x y z w) K σ=af Φ d (.iaa x y z w) K σ:=propext zAa
theorem a_ld{x y z}:af Φ d (.ld x y z) K σ=oM (σ.val (.ld x y z)) (fj σ d K):=de rfl
theorem aD_ld{x y z}:ag Φ d (.ld x y z) K σ=af Φ d (.ld x y z) K σ:=propext zAa
theorem a_ixs{x y}:af Φ d (.ixs x y) K σ=oM (σ.val (.ixs x y)) (fj σ d K):=de rfl
theorem VQ{x y}:ag Φ d (.ixs x y) K σ=af Φ d (.ixs x y) K σ:=propext zAa
theorem a_ixa{x y z w u}:af Φ d (.ixa x y z w u) K σ=oM (σ.val (.ixa x y z w u)) (fj σ d K):=de rfl
theorem VR{x y z w u}:ag Φ d (.ixa x y z w u) K σ=af Φ d (.ixa x y z w u) K σ:=propext zAa
theorem a_bin{x y z}:af Φ d (.bin x y z) K σ=oM (σ.val (.bin x y z)) (fj σ d K):=de rfl
theorem V4{x y z}:ag Φ d (.bin x y z) K σ=af Φ d (.bin x y z) K σ:=propext zAa
theorem a_un{x y}:af Φ d (.un x y) K σ=oM (σ.val (.un x y)) (fj σ d K):=de rfl
theorem aD_un{x y}:ag Φ d (.un x y) K σ=af Φ d (.un x y) K σ:=propext zAa
theorem a_cii{x y}:af Φ d (.cii x y) K σ=oM (σ.val (.cii x y)) (fj σ d K):=de rfl
theorem VY{x y}:ag Φ d (.cii x y) K σ=af Φ d (.cii x y) K σ:=propext zAa
theorem a_r2s{x}:af Φ d (.r2s x) K σ=oM (σ.val (.r2s x)) (fj σ d K):=de rfl
theorem VA{x}:ag Φ d (.r2s x) K σ=af Φ d (.r2s x) K σ:=propext zAa
theorem a_b2s{x}:af Φ d (.b2s x) K σ=oM (σ.val (.b2s x)) (fj σ d K):=de rfl
theorem V6{x}:ag Φ d (.b2s x) K σ=af Φ d (.b2s x) K σ:=propext zAa
theorem a_sls{x y z}:af Φ d (.sls x y z) K σ=oM (σ.val (.sls x y z)) (fj σ d K):=de rfl
theorem Vv{x y z}:ag Φ d (.sls x y z) K σ=af Φ d (.sls x y z) K σ:=propext zAa
theorem a_slq{x y z w}:af Φ d (.slq x y z w) K σ=oM (σ.val (.slq x y z w)) (fj σ d K):=de rfl
theorem Vw{x y z w}:ag Φ d (.slq x y z w) K σ=af Φ d (.slq x y z w) K σ:=propext zAa
theorem Vo{x}:af Φ d (.lens x) K σ=oM (σ.val (.lens x)) (fj σ d K):=de rfl
theorem SY{x}:ag Φ d (.lens x) K σ=af Φ d (.lens x) K σ:=propext zAa
theorem Vp{x}:af Φ d (.lenq x) K σ=oM (σ.val (.lenq x)) (fj σ d K):=de rfl
theorem SZ{x}:ag Φ d (.lenq x) K σ=af Φ d (.lenq x) K σ:=propext zAa
theorem a_beq{x y z}:af Φ d (.beq x y z) K σ=oM (σ.val (.beq x y z)) (fj σ d K):=de rfl
theorem V5{x y z}:ag Φ d (.beq x y z) K σ=af Φ d (.beq x y z) K σ:=propext zAa
theorem a_ext{x y}:af Φ d (.ext x y) K σ=oM (σ.val (.ext x y)) (fj σ d K):=de rfl
theorem VV{x y}:ag Φ d (.ext x y) K σ=af Φ d (.ext x y) K σ:=propext zAa
theorem a_bld{x y}:af Φ d (.bld x y) K σ=oM (σ.val (.bld x y)) (fj σ d K):=de rfl
theorem V3{x y}:ag Φ d (.bld x y) K σ=af Φ d (.bld x y) K σ:=propext zAa
theorem a_mkf{x y z}:af Φ d (.mkf x y z) K σ=oM (σ.val (.mkf x y z)) (fj σ d K):=de rfl
theorem VL{x y z}:ag Φ d (.mkf x y z) K σ=af Φ d (.mkf x y z) K σ:=propext zAa
theorem a_nlc{x}:af Φ d (.nlc x) K σ=oM (σ.val (.nlc x)) (fj σ d K):=de rfl
theorem VD{x}:ag Φ d (.nlc x) K σ=af Φ d (.nlc x) K σ:=propext zAa
theorem a_tya{x y z w}:af Φ d (.tya x y z w) K σ=oM (σ.val (.tya x y z w)) (fj σ d K):=de rfl
theorem Vu{x y z w}:ag Φ d (.tya x y z w) K σ=af Φ d (.tya x y z w) K σ:=propext zAa
theorem a_mki{x y}:af Φ d (.mki x y) K σ=oM (σ.val (.mki x y)) (fj σ d K):=de rfl
theorem VK{x y}:ag Φ d (.mki x y) K σ=af Φ d (.mki x y) K σ:=propext zAa
theorem a_aeq{x y z w}:af Φ d (.aeq x y z w) K σ=oM (σ.val (.aeq x y z w)) (fj σ d K):=de rfl
theorem Wf{x y z w}:ag Φ d (.aeq x y z w) K σ=af Φ d (.aeq x y z w) K σ:=propext zAa
theorem a_lkp{x y z w u}:af Φ d (.lkp x y z w u) K σ=oM (σ.val (.lkp x y z w u)) (fj σ d K):=de rfl
theorem VO{x y z w u}:ag Φ d (.lkp x y z w u) K σ=af Φ d (.lkp x y z w u) K σ:=propext zAa
theorem a_mm{x y z}:af Φ d (.mm x y z) K σ=oM (σ.val (.mm x y z)) (fj σ d K):=de rfl
theorem aD_mm{x y z}:ag Φ d (.mm x y z) K σ=af Φ d (.mm x y z) K σ:=propext zAa
theorem a_nlq{x y z}:af Φ d (.nlq x y z) K σ=oM (σ.val (.nlq x y z)) (fj σ d K):=de rfl
theorem VC{x y z}:ag Φ d (.nlq x y z) K σ=af Φ d (.nlq x y z) K σ:=propext zAa
theorem Wd{x}:ag Φ d (.alc x) K σ=af Φ d (.alc x) K σ:=propext zAa
theorem V0{x}:ag Φ d (.box x) K σ=af Φ d (.box x) K σ:=propext zAa
theorem aD_st{x y z}:ag Φ d (.st x y z) K σ=af Φ d (.st x y z) K σ:=propext zAa
def EO(σ:St)(x y:AO):Option Bool:=match σ.ev y with
 |some v=>some (u6 x v)
 |none=>none
def P7(A:Prop)(b:Bool):Prop:=match b with
 |true=>False
 |false=>A
theorem MV{A:Prop}:P7 A false=A:=propext zAa
theorem V9{x y z w u}:ag Φ d (.app x y z w u) K σ=oM (EO σ x y) (P7 (af Φ d (.app x y z w u) K σ)):=by
 simp only[ag,EO];cases σ.ev y with
 |none=>rfl
 |some v=>simp only[oM];cases u6 x v<;>simp[P7]
theorem Wc{z}:ag Φ d (.alq z) K σ=af Φ d (.alq z) K σ:=propext zAa
theorem VH{e sz by' z n}:ag Φ d (.mkq e sz by' z n) K σ=af Φ d (.mkq e sz by' z n) K σ:=propext zAa
theorem VN{e sz xs}:ag Φ d (.ltr e sz xs) K σ=af Φ d (.ltr e sz xs) K σ:=propext zAa
theorem VG{x y z w u}:ag Φ d (.mks x y z w u) K σ=af Φ d (.mks x y z w u) K σ:=propext zAa
theorem VM{x y z w}:ag Φ d (.mk0 x y z w) K σ=af Φ d (.mk0 x y z w) K σ:=propext zAa
theorem VJ{x y z w u}:ag Φ d (.mkm x y z w u) K σ=af Φ d (.mkm x y z w u) K σ:=propext zAa
theorem Vy{x}:ag Φ d (.s2b x) K σ=af Φ d (.s2b x) K σ:=propext zAa
theorem a_alc{z}:af Φ d (.alc z) K σ=K ({ σ with h:=σ.h++[some (Ob.box z)] }.put d (.ptr σ.h.length 0)):=propext zAa
def Vb(σ:St)(x:AO):Option (List V):=match σ.ev x with
 |some v=>if nt v=true then some (cl v)else none
 |none=>none
def boxK(σ:St)(d:Option Nat)(K:St->Prop)(cs:List V):Prop:=K ({ σ with h:=σ.h++[some (Ob.box cs)] }.put d (.ptr σ.h.length 0))
theorem PU{cs:List V}:boxK σ d K cs=K ({ σ with h:=σ.h++[some (Ob.box cs)] }.put d (.ptr σ.h.length 0)):=propext zAa
theorem a_box{x}:af Φ d (.box x) K σ=oM (Vb σ x) (boxK σ d K):=by
 simp only[af,Vb];cases σ.ev x with
 |none=>rfl
 |some v=>simp only;split<;>rfl
def stV(σ:St)(n:Nat)(p x:AO):Option St:=match σ.ev p,σ.ev x with
 |some a,some v=>if nt v=true then σ.stor n a (cl v)else none
 |_,_=>none
theorem a_st{n p x}:af Φ d (.st n p x) K σ=oM (stV σ n p x) (skK d K):=by
 simp only[af,stV];cases σ.ev p with
 |none=>rfl
 |some a=>cases σ.ev x with
   |none=>rfl
   |some v=>
     simp only;split
     ·cases σ.stor n a (cl v)<;>rfl
     ·rfl
def Ud(σ:St)(x:AO):Option (List UInt8):=match σ.ev x with
 |some (.str s)=>some s
 |_=>none
def s2bK(σ:St)(d:Option Nat)(K:St->Prop)(s:List UInt8):Prop:=rqK (s.length<=140737488355328) K (σ.put d (.seq 1 (fL s)))
theorem N4{s:List UInt8}:s2bK σ d K s=rqK (s.length<=140737488355328) K (σ.put d (.seq 1 (fL s))):=propext zAa
theorem a_s2b{x}:af Φ d (.s2b x) K σ=oM (Ud σ x) (s2bK σ d K):=by
 simp only[af,Ud,oM];cases σ.ev x with
 |none=>rfl
 |some v=>cases v<;>rfl
def Se(σ:St)(d:Option Nat)(sz:Nat)(K:St->Prop)(vs us:List V):Prop:=rqK (bv sz us=true/\us.length<=16777216) K ((σ.kill (am vs)).put d (.seq sz us))
theorem OP{sz:Nat}{vs us:List V}:Se σ d sz K vs us=rqK (bv sz us=true/\us.length<=16777216) K ((σ.kill (am vs)).put d (.seq sz us)):=propext zAa
def OR(σ:St)(d:Option Nat)(sz:Nat)(K:St->Prop)(vs:List V):Prop:=oM (purs σ.h vs) (Se σ d sz K vs)
theorem LW{sz:Nat}{vs:List V}:OR σ d sz K vs=oM (purs σ.h vs) (Se σ d sz K vs):=propext zAa
theorem a_lit{e sz xs}:af Φ d (.lit e sz xs) K σ=oM (σ.evs xs) (OR σ d sz K):=by
 simp only[af,oM];cases σ.evs xs with
 |none=>rfl
 |some vs=>
   simp only[OR,oM];cases purs σ.h vs with
   |none=>rfl
   |some us=>simp only[Se,rqK,and_assoc]
def Ks(σ:St)(d:Option Nat)(sz:Nat)(K:St->Prop)(us:List V):Prop:=rqK (bv sz us=true/\us.length<=16777216) K (σ.put d (.seq sz us))
theorem LX{sz:Nat}{us:List V}:Ks σ d sz K us=rqK (bv sz us=true/\us.length<=16777216) K (σ.put d (.seq sz us)):=propext zAa
def IS(σ:St)(d:Option Nat)(sz:Nat)(K:St->Prop)(vs:List V):Prop:=oM (purs [] vs) (Ks σ d sz K)
theorem IR{sz:Nat}{vs:List V}:IS σ d sz K vs=oM (purs [] vs) (Ks σ d sz K):=propext zAa
theorem VP{e sz xs}:ag Φ d (.lit e sz xs) K σ=oM (σ.evs xs) (IS σ d sz K):=by
 simp only[ag,oM];cases σ.evs xs with
 |none=>rfl
 |some vs=>
   simp only[IS,oM];cases purs [] vs with
   |none=>rfl
   |some us=>simp only[Ks,rqK,and_assoc]
def HT(σ:St)(e sz by':Nat)(u v:V):Option (St×V×Nat):=match src σ.h v with
 |some (.seq sz' l)=>if sz'=sz then
   (match u with
   | .nil _=>some ({ σ with h:=σ.h++[some (Ob.arr e sz l)] },.ref σ.h.length l.length,l.length*by')
   | .ref id n=>match σ.arr? id with
     |some (e',sz',l0)=>if e'=e/\sz'=sz/\n=l0.length then
       some ({ σ with h:=σ.h.set id (some (Ob.arr e sz (l0++l))) },.ref id (n+l.length),(n+l.length)*by')else none
     |none=>none
   | .mref id i n=>match σ.rws? id with
     |some (e1,e2,sz2,rows)=>match aY rows i with
       |some r=>if e2=e/\sz2=sz/\n=r.length then
         some ({ σ with h:=σ.h.set id (some (Ob.mat e1 e2 sz2 (rows.set i (.g r.length))))++[some (Ob.arr e sz (r++l))] },.ref σ.h.length (n+l.length),(n+l.length)*by')else none
       |none=>none
     |none=>none
   |_=>none)else none
 |_=>none
def HP(σ:St)(e sz by' k j n:Nat)(v:V):Option (St×V×Nat):=match σ.pl? with
 |some ms=>match ms[j]?,zI σ ms sz v with
   |some (.rw e' sz' l0),some l=>if k=1/\e'=e/\sz'=sz/\n=l0.length then some (σ.setP (ms.set j (.rw e sz (l0++l))),.q 1 j (n+l.length) 0 0,(n+l.length)*by')else none
   |_,_=>none
 |none=>none
def HQ(σ:St)(e sz by' k j n:Nat):Option (St×V×Nat):=match σ.pl? with
 |some ms=>match ms[j]? with
   |some (.rw _ sz' l)=>if k=1/\sz'=sz/\n=l.length then some (σ.setP (ms++[.rw e sz l]),.q 1 ms.length n 0 0,n*by')else none
   |_=>none
 |none=>none
def Vk(σ:St)(x y:AO)(e sz by':Nat):Option (St×V×Nat):=match σ.ev x,σ.ev y with
 |some (.q k j n _ _),some v=>HP σ e sz by' k j n v
 |some (.nil _),some (.q k j n _ _)=>HQ σ e sz by' k j n
 |some u,some v=>HT σ e sz by' u v
 |_,_=>none
def Bg(d:Option Nat)(K:St->Prop)(p:St×V×Nat):Prop:=rqK (p.2.2<=140737488355328) K (p.1.put d p.2.1)
theorem P6{τ:St}{v:V}{n:Nat}:Bg d K (τ,v,n)=rqK (n<=140737488355328) K (τ.put d v):=propext zAa
theorem SS{e sz by' k j n v}:EM σ d e sz by' k j n v K=oM (HP σ e sz by' k j n v) (Bg d K):=by
 simp only[EM,HP];cases σ.pl? with
 |none=>rfl
 |some ms=>
   simp only;cases ms[j]? with
   |none=>rfl
   |some m=>
     cases m with
     |bx e cs=>rfl
     |byt e s=>rfl
     |no=>rfl
     |rw e' sz' l0=>
       cases zI σ ms sz v with
       |none=>rfl
       |some l=>
         simp only;split
         ·rename_i hc
          simp only[oM,Bg,rqK,hc.1,hc.2.1,hc.2.2.1,hc.2.2.2,true_and]
         ·rename_i hc
          simp only[oM];exact propext ⟨fun h=>hc ⟨h.1,h.2.1,h.2.2.1,h.2.2.2.1⟩,fun h=>h.elim⟩
theorem ST{e sz by' k j n}:EN σ d e sz by' k j n K=oM (HQ σ e sz by' k j n) (Bg d K):=by
 simp only[EN,HQ];cases σ.pl? with
 |none=>rfl
 |some ms=>
   simp only;cases ms[j]? with
   |none=>rfl
   |some m=>
     cases m with
     |bx e cs=>rfl
     |byt e s=>rfl
     |no=>rfl
     |rw e' sz' l=>
       simp only;split
       ·rename_i hc
        simp only[oM,Bg,rqK,hc.1,hc.2.1,hc.2.2,true_and]
       ·rename_i hc
        simp only[oM];exact propext ⟨fun h=>hc ⟨h.1,h.2.1,h.2.2.1⟩,fun h=>h.elim⟩
def P8(σ:St)(d:Option Nat)(e sz by':Nat)(u v:V)(K:St->Prop):Prop:=match src σ.h v with
 |some (.seq sz' l)=>sz'=sz/\
   (match u with
   | .nil _=>l.length*by'<=140737488355328/\K ({ σ with h:=σ.h++[some (Ob.arr e sz l)] }.put d (.ref σ.h.length l.length))
   | .ref id n=>match σ.arr? id with
     |some (e',sz',l0)=>e'=e/\sz'=sz/\n=l0.length/\(n+l.length)*by'<=140737488355328/\
       K ({ σ with h:=σ.h.set id (some (Ob.arr e sz (l0++l))) }.put d (.ref id (n+l.length)))
     |none=>False
   | .mref id i n=>match σ.rws? id with
     |some (e1,e2,sz2,rows)=>match aY rows i with
       |some r=>e2=e/\sz2=sz/\n=r.length/\(n+l.length)*by'<=140737488355328/\
         K ({ σ with h:=σ.h.set id (some (Ob.mat e1 e2 sz2 (rows.set i (.g r.length))))++[some (Ob.arr e sz (r++l))] }.put d (.ref σ.h.length (n+l.length)))
       |none=>False
     |none=>False
   |_=>False)
 |_=>False
theorem KN{e sz by' u v}:P8 σ d e sz by' u v K=oM (HT σ e sz by' u v) (Bg d K):=by
 simp only[P8,HT];cases src σ.h v with
 |none=>rfl
 |some w=>
   cases w<;>try rfl
   rename_i sz' l;simp only;by_cases hs:sz'=sz
   ·simp only[hs,true_and,if_true]
    cases u<;>try rfl
    ·rename_i id n
     cases ha:σ.arr? id with
     |none=>simp only[ha];rfl
     |some p=>
       obtain⟨e',sz2,l0⟩:=p;simp only[ha];split
       ·rename_i hc
        simp only[oM,Bg,rqK,hc.1,hc.2.1,hc.2.2,true_and]
       ·rename_i hc
        simp only[oM];exact propext ⟨fun h=>hc ⟨h.1,h.2.1,h.2.2.1⟩,fun h=>h.elim⟩
    ·rename_i id i n
     cases ha:σ.rws? id with
     |none=>simp only[ha];rfl
     |some p=>
       obtain⟨e1,e2,sz2,rows⟩:=p;simp only[ha];cases hr:aY rows i with
       |none=>simp only[hr];rfl
       |some r=>
         simp only[hr];split
         ·rename_i hc
          simp only[oM,Bg,rqK,hc.1,hc.2.1,hc.2.2,true_and]
         ·rename_i hc
          simp only[oM];exact propext ⟨fun h=>hc ⟨h.1,h.2.1,h.2.2.1⟩,fun h=>h.elim⟩
   ·rw[if_neg hs]
    simp only[oM];exact propext ⟨fun h=>hs h.1,fun h=>h.elim⟩
theorem a_app{x y e sz by'}:af Φ d (.app x y e sz by') K σ=oM (Vk σ x y e sz by') (Bg d K):=by
 have key:∀u v:V,(∀k j n i o,u≠V.q k j n i o)->(∀z k j n i o,u=V.nil z->v≠V.q k j n i o)->(match some u,some v with
  |some (.q k j n i o),some v=>EM σ d e sz by' k j n v K
  |some (.nil _),some (.q k j n i o)=>EN σ d e sz by' k j n K
  |some u,some v=>P8 σ d e sz by' u v K
  |_,_=>False)=oM (match some u,some v with
  |some (.q k j n _ _),some v=>HP σ e sz by' k j n v
  |some (.nil _),some (.q k j n _ _)=>HQ σ e sz by' k j n
  |some u,some v=>HT σ e sz by' u v
  |_,_=>none) (Bg d K):=by
  intro u v h1 h2;cases u<;>try exact KN
  ·cases v<;>first|exact KN|exact(h2 _ _ _ _ _ _ rfl rfl).elim
  ·exact(h1 _ _ _ _ _ rfl).elim
 simp only[af,Vk];cases σ.ev x with
 |none=>cases σ.ev y<;>rfl
 |some u=>cases σ.ev y with
   |none=>cases u<;>rfl
   |some v=>
     by_cases hq:∃k j n i o,u=.q k j n i o
     ·obtain⟨k,j,n,i,o,rfl⟩:=hq
      exact SS
     ·by_cases hn:∃z k j n i o,u=.nil z/\v=.q k j n i o
      ·obtain⟨z,k,j,n,i,o,rfl,rfl⟩:=hn
       exact ST
      ·exact key u v (fun k j n i o e=>hq ⟨k,j,n,i,o,e⟩) (fun z k j n i o e e'=>hn ⟨z,k,j,n,i,o,e,e'⟩)
def pK(d:Option Nat)(K:St->Prop)(p:St×V):Prop:=K (p.1.put d p.2)
theorem UI{τ:St}{v:V}:pK d K (τ,v)=K (τ.put d v):=propext zAa
def Vl(σ:St)(z:List V):Option (St×V):=match σ.pl?,ol z with
 |some ms,some z'=>some (σ.setP (ms++[.bx 0 z']),.q 0 ms.length 0 0 0)
 |_,_=>none
def U5(σ:St)(x:AO):Option (Nat×Nat×Nat×List V):=match σ.ev x with
 |some (.ref id n)=>match σ.arr? id with
   |some (_,sz,l)=>some (id,n,sz,l)
   |none=>none
 |_=>none
def cvbK(σ:St)(d:Option Nat)(K:St->Prop)(p:Nat×Nat×Nat×List V):Prop:=rqK (p.2.2.1=1/\p.2.1=p.2.2.2.length/\p.2.2.2≠[]) K ({ σ with h:=σ.h.set p.1 none }.put d (.seq 1 p.2.2.2))
theorem HG{id n sz l}:cvbK σ d K (id,n,sz,l)=rqK (sz=1/\n=l.length/\l≠[]) K ({ σ with h:=σ.h.set id none }.put d (.seq 1 l)):=propext zAa
theorem a_cvb{x}:af Φ d (.cvb x) K σ=oM (U5 σ x) (cvbK σ d K):=by
 simp only[af,U5];cases σ.ev x with
 |none=>rfl
 |some v=>
   cases v with
   |ref id n=>
     simp only;cases σ.arr? id with
     |none=>rfl
     |some p=>
       obtain⟨e,sz,l⟩:=p;simp only[oM,HG,rqK,and_assoc]
   |_=>rfl
theorem VX{x}:ag Φ d (.cvb x) K σ=af Φ d (.cvb x) K σ:=propext zAa
theorem a_bxq{x}:af Φ d (.bxq x) K σ=oM (EJ σ x) (pK d K):=by
 simp only[af];cases EJ σ x<;>rfl
theorem VZ{x}:ag Φ d (.bxq x) K σ=af Φ d (.bxq x) K σ:=propext zAa
theorem a_alq{z}:af Φ d (.alq z) K σ=oM (Vl σ z) (pK d K):=by
 simp only[af,Vl];cases σ.pl?<;>cases ol z<;>rfl
def UR(σ:St)(z:V)(n:AO):Option (Int×List Po×V):=match σ.ev n,σ.pl?,low z with
 |some (.int _ m),some ms,some z'=>some (m,ms,z')
 |_,_,_=>none
def US(σ:St)(d:Option Nat)(e sz by':Nat)(K:St->Prop)(p:Int×List Po×V):Prop:=rqK (0<=p.1/\p.1*by'<=140737488355328) K ((σ.setP (p.2.1++[.rw e sz (zBa p.1.toNat p.2.2)])).put d (.q 1 p.2.1.length p.1.toNat 0 0))
theorem OF{e sz by'}{m:Int}{ms z}:US σ d e sz by' K (m,ms,z)=rqK (0<=m/\m*by'<=140737488355328) K ((σ.setP (ms++[.rw e sz (zBa m.toNat z)])).put d (.q 1 ms.length m.toNat 0 0)):=propext zAa
theorem a_mkq{e sz by' z n}:af Φ d (.mkq e sz by' z n) K σ=oM (UR σ z n) (US σ d e sz by' K):=by
 simp only[af,UR];cases σ.ev n with
 |none=>cases σ.pl?<;>cases low z<;>rfl
 |some v=>cases v<;>cases σ.pl?<;>cases low z<;>first|rfl|simp only[oM,US,rqK,and_assoc]
def OL(σ:St)(e sz:Nat)(vs:List V):Option (St×V×List V):=match σ.pl?,ol vs with
 |some ms,some us=>some (σ.setP (ms++[.rw e sz us]),.q 1 ms.length us.length 0 0,us)
 |_,_=>none
def OM(d:Option Nat)(sz:Nat)(K:St->Prop)(p:St×V×List V):Prop:=rqK (bv sz p.2.2=true/\p.2.2.length<=16777216/\0<sz) K (p.1.put d p.2.1)
theorem LR{sz:Nat}{τ:St}{v:V}{us:List V}:OM d sz K (τ,v,us)=rqK (bv sz us=true/\us.length<=16777216/\0<sz) K (τ.put d v):=propext zAa
theorem OK{e sz:Nat}{vs:List V}:Ab σ d e sz vs K=oM (OL σ e sz vs) (OM d sz K):=by
 simp only[Ab,OL];cases σ.pl?<;>cases ol vs<;>first|rfl|simp only[oM,OM,rqK,and_assoc]
def Sb(σ:St)(d:Option Nat)(e sz:Nat)(K:St->Prop)(vs us:List V):Prop:=rqK (bv sz us=true/\us.length<=16777216) K (St.put ⟨(σ.kill (am vs)).r,(σ.kill (am vs)).h++[some (Ob.arr e sz us)]⟩ d (.ref (σ.kill (am vs)).h.length us.length))
theorem ON{e sz:Nat}{vs us:List V}:Sb σ d e sz K vs us=rqK (bv sz us=true/\us.length<=16777216) K (St.put ⟨(σ.kill (am vs)).r,(σ.kill (am vs)).h++[some (Ob.arr e sz us)]⟩ d (.ref (σ.kill (am vs)).h.length us.length)):=propext zAa
def OO(σ:St)(d:Option Nat)(e sz:Nat)(K:St->Prop)(vs:List V):Prop:=oN (purs σ.h vs) (Sb σ d e sz K vs) (Ab σ d e sz vs K)
theorem LS{e sz:Nat}{vs:List V}:OO σ d e sz K vs=oN (purs σ.h vs) (Sb σ d e sz K vs) (Ab σ d e sz vs K):=propext zAa
theorem a_ltr{e sz xs}:af Φ d (.ltr e sz xs) K σ=oM (σ.evs xs) (OO σ d e sz K):=by
 simp only[af];cases σ.evs xs with
 |none=>rfl
 |some vs=>
   simp only[OO,oM];cases purs σ.h vs with
   |none=>rfl
   |some us=>simp only[oN,Sb,rqK,and_assoc]
def Vd(σ:St)(y:AO)(sz:Nat):Option (List V):=match σ.ev y with
 |some v=>match src σ.h v with
   |some (.seq sz' l)=>if sz'=sz then some l else none
   |_=>none
 |none=>none
def Ve(σ:St)(d:Option Nat)(sz by':Nat)(K:St->Prop)(l:List V):Prop:=rqK (l.length*by'<=140737488355328) K (σ.put d (.seq sz l))
theorem P2{sz by':Nat}{l:List V}:Ve σ d sz by' K l=rqK (l.length*by'<=140737488355328) K (σ.put d (.seq sz l)):=propext zAa
theorem a_apz{y e sz by'}:af Φ d (.apz y e sz by') K σ=oM (Vd σ y sz) (Ve σ d sz by' K):=by
 simp only[af,Vd];cases σ.ev y with
 |none=>rfl
 |some v=>
   simp only;cases src σ.h v with
   |none=>rfl
   |some u=>
     cases u<;>try rfl
     simp only;split
     ·rename_i h;simp only[oM,Ve,rqK,h,true_and]
     ·rename_i h;simp only[oM];exact propext ⟨fun g=>h g.1,fun g=>g.elim⟩
theorem V7{y e sz by'}:ag Φ d (.apz y e sz by') K σ=af Φ d (.apz y e sz by') K σ:=propext zAa
def Ur(σ:St)(y:AO):Option (List UInt8×List Po):=match σ.ev y,σ.pl? with
 |some (.str s),some ms=>some (s,ms)
 |_,_=>none
def sbqK(σ:St)(d:Option Nat)(K:St->Prop)(p:List UInt8×List Po):Prop:=rqK (p.1≠[]/\p.1.length<=140737488355328) K ((σ.setP (p.2++[.byt 0 p.1])).put d (.q 1 p.2.length p.1.length 0 0))
theorem N0{s ms}:sbqK σ d K (s,ms)=rqK (s≠[]/\s.length<=140737488355328) K ((σ.setP (ms++[.byt 0 s])).put d (.q 1 ms.length s.length 0 0)):=propext zAa
theorem a_sbq{y}:af Φ d (.sbq y) K σ=oM (Ur σ y) (sbqK σ d K):=by
 simp only[af,Ur];cases σ.ev y with
 |none=>cases σ.pl?<;>rfl
 |some v=>cases v<;>cases σ.pl?<;>rfl
theorem Vx{y}:ag Φ d (.sbq y) K σ=af Φ d (.sbq y) K σ:=propext zAa
def Vf(σ:St)(e k j n:Nat)(s:List UInt8):Option (Nat×Nat×St×V):=match σ.pl? with
 |some ms=>match ms[j]? with
   |some (.byt e0 s0)=>if k=1/\n=s0.length then some (e0,n+s.length,σ.setP (ms.set j (.byt e0 (s0++s))),.q 1 j (n+s.length) 0 0)else none
   |_=>none
 |none=>none
def Vg(d:Option Nat)(e:Nat)(K:St->Prop)(p:Nat×Nat×St×V):Prop:=rqK ((p.1=0\/p.1=e)/\p.2.1<=140737488355328) K (p.2.2.1.put d p.2.2.2)
theorem P4{e e0 n:Nat}{τ:St}{v:V}:Vg d e K (e0,n,τ,v)=rqK ((e0=0\/e0=e)/\n<=140737488355328) K (τ.put d v):=propext zAa
theorem P3{e k j n s}:tY σ d e k j n s K=oM (Vf σ e k j n s) (Vg d e K):=by
 simp only[tY,Vf];cases σ.pl? with
 |none=>rfl
 |some ms=>
   simp only;cases ms[j]? with
   |none=>rfl
   |some m=>
     cases m<;>try rfl
     simp only;split
     ·rename_i hc
      simp only[oM,Vg,rqK,hc.1,hc.2,true_and,and_assoc]
     ·rename_i hc
      simp only[oM];exact propext ⟨fun h=>hc ⟨h.1,h.2.2.1⟩,fun h=>h.elim⟩
def Vj(σ:St)(x y:AO):Option (Nat×Nat×Nat×List UInt8):=match σ.ev x,σ.ev y with
 |some (.q k j n _ _),some (.str s)=>some (k,j,n,s)
 |_,_=>none
def Vi(σ:St)(x y:AO):Option (Nat×Nat×Nat×List UInt8):=match σ.ev x,σ.ev y with
 |some (.q k j n _ _),some v=>match Fe σ v with
   |some s=>some (k,j,n,s)
   |none=>none
 |_,_=>none
def Vh(σ:St)(d:Option Nat)(e:Nat)(K:St->Prop)(p:Nat×Nat×Nat×List UInt8):Prop:=tY σ d e p.1 p.2.1 p.2.2.1 p.2.2.2 K
theorem P5{e k j n:Nat}{s:List UInt8}:Vh σ d e K (k,j,n,s)=tY σ d e k j n s K:=propext zAa
theorem a_aps{x y e}:af Φ d (.aps x y e) K σ=oM (Vj σ x y) (Vh σ d e K):=by
 simp only[af,Vj];cases σ.ev x with
 |none=>cases σ.ev y<;>rfl
 |some u=>cases u<;>(cases σ.ev y with|none=>rfl|some v=>cases v<;>rfl)
theorem V8{x y e}:ag Φ d (.aps x y e) K σ=af Φ d (.aps x y e) K σ:=propext zAa
theorem a_apb{x y e}:af Φ d (.apb x y e) K σ=oM (Vi σ x y) (Vh σ d e K):=by
 simp only[af,Vi];cases σ.ev x with
 |none=>cases σ.ev y<;>rfl
 |some u=>cases u<;>(cases σ.ev y with|none=>rfl|some v=>first|rfl|(simp only;cases Fe σ v<;>rfl))
theorem Wb{x y e}:ag Φ d (.apb x y e) K σ=af Φ d (.apb x y e) K σ:=propext zAa
def albK(σ:St)(d:Option Nat)(t e:Nat)(z:List V)(K:St->Prop)(ms:List Po):Prop:=rqK (z=[.nilptr,.nil 1]) K ((σ.setP (ms++[.byt e [],.bx t [.nilptr,.q 1 ms.length 0 0 0]])).put d (.q 0 (ms.length+1) 0 0 0))
theorem Qb{t e z ms}:albK σ d t e z K ms=rqK (z=[.nilptr,.nil 1]) K ((σ.setP (ms++[.byt e [],.bx t [.nilptr,.q 1 ms.length 0 0 0]])).put d (.q 0 (ms.length+1) 0 0 0)):=propext zAa
theorem a_alb{t e z}:af Φ d (.alb t e z) K σ=oM σ.pl? (albK σ d t e z K):=by
 simp only[af];cases σ.pl?<;>rfl
theorem We{t e z}:ag Φ d (.alb t e z) K σ=af Φ d (.alb t e z) K σ:=propext zAa
def Ub(σ:St)(x:AO):Option V:=match σ.ev x,σ.pl? with
 |some (.q k j n _ _),some ms=>match ms[j]? with
   |some (.byt _ s)=>if k=1/\n=s.length then some (if s=[]then .nilptr else .q 2 j n 0 0)else none
   |_=>none
 |_,_=>none
theorem a_usd{x}:af Φ d (.usd x) K σ=oM (Ub σ x) (fj σ d K):=by
 simp only[af,Ub];split
 ·rename_i k j n i0 o0 ms hx hms
  simp only[hx,hms];cases ms[j]? with
  |none=>rfl
  |some m=>
    cases m<;>try rfl
    rename_i e0 s;by_cases hc:k=1/\n=s.length
    ·simp only[if_pos hc,oM,fj]
     exact propext ⟨fun h=>h.2.2,fun h=>⟨hc.1,hc.2,h⟩⟩
    ·simp only[if_neg hc,oM]
     exact propext ⟨fun h=>hc ⟨h.1,h.2.1⟩,fun h=>h.elim⟩
 ·rename_i h
  split
  ·rename_i k j n i0 o0 ms hx hms
   exact(h _ _ _ _ _ _ hx hms).elim
  ·rfl
theorem Vt{x}:ag Φ d (.usd x) K σ=af Φ d (.usd x) K σ:=propext zAa
def NN(σ:St)(p n:AO):Option (Prop×Nat×St×List UInt8):=match σ.ev p,σ.ev n with
 |some .nilptr,some (.int .i64 m)=>some (m=0,0,σ,[])
 |some (.q k j m i o),some (.int .i64 q)=>match σ.pl? with
   |some ms=>match ms[j]? with
     |some (.byt e0 s)=>some (k=2/\i=0/\o=0/\m=s.length/\q=s.length/\s≠[],e0,σ.setP (ms.set j .no),s)
     |_=>none
   |none=>none
 |_,_=>none
def Rv(d:Option Nat)(e:Nat)(K:St->Prop)(p:Prop×Nat×St×List UInt8):Prop:=rqK (p.1/\(p.2.2.2=[]\/(e≠0/\p.2.1=e))) K (p.2.2.1.put d (.str p.2.2.2))
theorem NO{e:Nat}{c:Prop}{e0:Nat}{τ:St}{s:List UInt8}:Rv d e K (c,e0,τ,s)=rqK (c/\(s=[]\/(e≠0/\e0=e))) K (τ.put d (.str s)):=propext zAa
theorem a_ust{p n e}:af Φ d (.ust p n e) K σ=oM (NN σ p n) (Rv d e K):=by
 refine propext ⟨fun h=>?_,fun h=>?_⟩
 ·simp only[af]at h
  split at h
  ·rename_i m h1 h2
   simp only[NN,h1,h2,oM,Rv];exact⟨⟨h.1,.inl trivial⟩,h.2⟩
  ·rename_i k j m i0 o0 q h1 h2
   split at h
   ·rename_i ms h3
    split at h
    ·rename_i e0 s hj
     obtain⟨g1,g2,g3,g4,g5,g6,g7,g8,g9⟩:=h;simp only[NN,h1,h2,h3,hj,oM,Rv];exact⟨⟨⟨g1,g2,g3,g6,g7,g8⟩,.inr ⟨g4,g5⟩⟩,g9⟩
    ·exact h.elim
   ·exact h.elim
  ·exact h.elim
 ·unfold NN at h
  split at h
  ·rename_i m h1 h2
   simp only[af,h1,h2];exact⟨h.1.1,h.2⟩
  ·rename_i k j m i0 o0 q h1 h2
   split at h
   ·rename_i ms h3
    split at h
    ·rename_i e0 s hj
     obtain⟨⟨⟨g1,g2,g3,g6,g7,g8⟩,g45⟩,g9⟩:=h;have g45:=g45.resolve_left g8;simp only[af,h1,h2,h3,hj];exact⟨g1,g2,g3,g45.1,g45.2,g6,g7,g8,g9⟩
    ·exact h.elim
   ·exact h.elim
  ·exact h.elim
theorem Vs{p n e}:ag Φ d (.ust p n e) K σ=af Φ d (.ust p n e) K σ:=propext zAa
def SD(σ:St)(kt:KT)(x k:AO):Option (V×St):=match σ.ev x,σ.ev k with
 |some (.ref id _),some kv=>match σ.mp? id with
   |some (kt',l)=>if kt'=kt then some (kv,{ σ with h:=σ.h.set id (some (Ob.mp kt (sF kv l))) })else none
   |none=>none
 |_,_=>none
def delK(d:Option Nat)(kt:KT)(K:St->Prop)(p:V×St):Prop:=rqK (be kt p.1=true) K (p.2.put d (.tup []))
theorem Px{kt:KT}{kv:V}{τ:St}:delK d kt K (kv,τ)=rqK (be kt kv=true) K (τ.put d (.tup [])):=propext zAa
theorem a_del{kt x k}:af Φ d (.del kt x k) K σ=oM (SD σ kt x k) (delK d kt K):=by
 refine propext ⟨fun h=>?_,fun h=>?_⟩
 ·simp only[af]at h
  split at h
  ·rename_i id n kv h1 h2
   split at h
   ·rename_i kt' l hm
    simp only[SD,h1,h2,hm];rw[if_pos h.1];exact⟨h.2.1,h.2.2⟩
   ·exact h.elim
  ·exact h.elim
 ·unfold SD at h
  split at h
  ·rename_i id n kv h1 h2
   split at h
   ·rename_i kt' l hm
    split at h
    ·rename_i hc
     simp only[af,h1,h2,hm];exact⟨hc,h.1,h.2⟩
    ·exact h.elim
   ·exact h.elim
  ·exact h.elim
theorem VW{kt x k}:ag Φ d (.del kt x k) K σ=af Φ d (.del kt x k) K σ:=propext zAa
def La(σ:St)(x hi:AO)(sz:Nat):Option (Int×Nat×St×V):=match σ.ev x,σ.ev hi with
 |some (.q k j n _ _),some (.int _ b)=>match σ.pl? with
   |some ms=>match ms[j]? with
     |some (.rw e sz' l)=>if k=1/\sz'=sz/\n=l.length then some (b,n,σ.setP (ms.set j .no++[.rw e sz (l.take b.toNat)]),.q 1 ms.length b.toNat 0 0)else none
     |_=>none
   |none=>none
 |some (.ref id n),some (.int _ b)=>match σ.arr? id with
   |some (e,sz',l)=>if sz'=sz/\n=l.length then some (b,n,{ σ with h:=σ.h.set id none++[some (Ob.arr e sz (l.take b.toNat))] },.ref σ.h.length b.toNat)else none
   |none=>none
 |_,_=>none
def trcK(d:Option Nat)(K:St->Prop)(p:Int×Nat×St×V):Prop:=rqK (0<=p.1/\p.1<=p.2.1) K (p.2.2.1.put d p.2.2.2)
theorem E4{b:Int}{n:Nat}{τ:St}{v:V}:trcK d K (b,n,τ,v)=rqK (0<=b/\b<=n) K (τ.put d v):=propext zAa
theorem a_trc{x hi sz}:af Φ d (.trc x hi sz) K σ=oM (La σ x hi sz) (trcK d K):=by
 refine propext ⟨fun h=>?_,fun h=>?_⟩
 ·simp only[af]at h
  split at h
  ·rename_i k j n i0 o0 kk b h1 h2
   split at h
   ·rename_i ms hms
    split at h
    ·rename_i e sz' l hj
     obtain⟨g1,g2,g3,g4,g5,g6⟩:=h;simp only[La,h1,h2,hms,hj,g1,g2,and_self,if_true,true_and];rw[if_pos g3];exact⟨⟨g4,g5⟩,g6⟩
    ·exact h.elim
   ·exact h.elim
  ·rename_i id n kk b h1 h2
   split at h
   ·rename_i e sz' l ha
    obtain⟨g2,g3,g4,g5,g6⟩:=h;simp only[La,h1,h2,ha,g2,true_and];rw[if_pos g3];exact⟨⟨g4,g5⟩,g6⟩
   ·exact h.elim
  ·exact h.elim
 ·unfold La at h
  split at h
  ·rename_i k j n i0 o0 kk b h1 h2
   split at h
   ·rename_i ms hms
    split at h
    ·rename_i e sz' l hj
     split at h
     ·rename_i hc
      simp only[af,h1,h2,hms,hj];exact⟨hc.1,hc.2.1,hc.2.2,h.1.1,h.1.2,h.2⟩
     ·exact h.elim
    ·exact h.elim
   ·exact h.elim
  ·rename_i id n kk b h1 h2
   split at h
   ·rename_i e sz' l ha
    split at h
    ·rename_i hc
     simp only[af,h1,h2,ha];exact⟨hc.1,hc.2,h.1.1,h.1.2,h.2⟩
    ·exact h.elim
   ·exact h.elim
  ·exact h.elim
def IL(σ:St)(n:AO):Option Int:=match σ.ev n with
 |some (.int _ m)=>some m
 |_=>none
def UQ(σ:St)(d:Option Nat)(e sz by':Nat)(z:V)(K:St->Prop)(m:Int):Prop:=
 rqK (0<=m/\m*by'<=140737488355328) K ({ σ with h:=σ.h++[some (Ob.arr e sz (zBa m.toNat z))] }.put d (.ref σ.h.length m.toNat))
theorem OE{e sz by' z}{m:Int}:UQ σ d e sz by' z K m=
 rqK (0<=m/\m*by'<=140737488355328) K ({ σ with h:=σ.h++[some (Ob.arr e sz (zBa m.toNat z))] }.put d (.ref σ.h.length m.toNat)):=propext zAa
theorem a_mks{e sz by' z n}:af Φ d (.mks e sz by' z n) K σ=oM (IL σ n) (UQ σ d e sz by' z K):=by
 simp only[af,IL,oM];cases σ.ev n with
 |none=>rfl
 |some v=>cases v<;>first|rfl|simp only[UQ,rqK,and_assoc]
def sm(l:List (List V)):List Rw:=l.map .a
theorem Uo{l:List (List V)}:(sm l).length=l.length:=by simp[sm]
theorem NZ{l:List (List V)}{i:Nat}:aY (sm l) i=l[i]?:=by
 unfold aY sm;rw[zDf];cases l[i]?<;>rfl
theorem xH{sz:Nat}:∀{l:List (List V)},jQ sz (sm l)=some (l.map (.seq sz))
 |[]=>rfl
 |r::l=>by
   have:=xH (sz:=sz) (l:=l);simp only[sm]at this;simp[sm,jQ,this]
theorem NY{l:List (List V)}{i:Nat}{r:List V}:(sm l).set i (.a r)=sm (l.set i r):=by simp[sm]
theorem Ll{l:List (List V)}{i:Nat}:nU (sm l) i=(l[i]?).map List.length:=by
 unfold nU sm;rw[zDf];cases l[i]?<;>rfl
theorem RJ{l:List (List V)}{i k:Nat}(h:i<l.length):nU ((sm l).set i (.g k)) i=some k:=by
 unfold nU;rw[List.getElem?_set_self (by simpa[sm]using h)]
theorem RK{l:List (List V)}{i k:Nat}{r:List V}:((sm l).set i (.g k)).set i (.a r)=sm (l.set i r):=by rw[List.set_set,NY]
theorem J7:∀{l:List (List V)},vK (sm l)=l.all fun r=>fT r
 |[]=>rfl
 |r::l=>by
   have:=J7 (l:=l);simp only[sm]at this;simp[sm,vK,this]
def R9(σ:St)(d:Option Nat)(e by' e2 sz:Nat)(K:St->Prop)(m:Int):Prop:=
 rqK (0<=m/\m*by'<=140737488355328) K ({ σ with h:=σ.h++[some (Ob.mat e e2 sz (zBa m.toNat (.a [])))] }.put d (.ref σ.h.length m.toNat))
theorem OG{e by' e2 sz}{m:Int}:R9 σ d e by' e2 sz K m=
 rqK (0<=m/\m*by'<=140737488355328) K ({ σ with h:=σ.h++[some (Ob.mat e e2 sz (sm (zBa m.toNat [])))] }.put d (.ref σ.h.length m.toNat)):=by simp[R9,sm]
def UT(σ:St)(d:Option Nat)(e sz by':Nat)(K:St->Prop)(m:Int):Prop:=
 rqK (0<=m/\m*by'<=140737488355328) K ({ σ with h:=σ.h++[some (Ob.arr e sz [])] }.put d (.ref σ.h.length 0))
theorem OH{e sz by'}{m:Int}:UT σ d e sz by' K m=
 rqK (0<=m/\m*by'<=140737488355328) K ({ σ with h:=σ.h++[some (Ob.arr e sz [])] }.put d (.ref σ.h.length 0)):=propext zAa
theorem a_mk0{e sz by' n}:af Φ d (.mk0 e sz by' n) K σ=oM (IL σ n) (UT σ d e sz by' K):=by
 simp only[af,IL,oM];cases σ.ev n with
 |none=>rfl
 |some v=>cases v<;>first|rfl|simp only[UT,rqK,and_assoc]
theorem a_mkm{e by' e2 sz n}:af Φ d (.mkm e by' e2 sz n) K σ=oM (IL σ n) (R9 σ d e by' e2 sz K):=by
 simp only[af,IL,oM];cases σ.ev n with
 |none=>rfl
 |some v=>cases v<;>first|rfl|simp only[R9,rqK,and_assoc]
theorem a_mkp{kt}:af Φ d (.mkp kt) K σ=K ({ σ with h:=σ.h++[some (Ob.mp kt [])] }.put d (.ref σ.h.length 0)):=propext zAa
theorem VI{kt}:ag Φ d (.mkp kt) K σ=af Φ d (.mkp kt) K σ:=propext zAa
theorem VE{x y z w}:ag Φ d (.mup x y z w) K σ=af Φ d (.mup x y z w) K σ:=propext zAa
def UP(σ:St)(kt:KT)(x k v:AO):Option St:=match σ.ev x,σ.ev k,σ.ev v with
 |some (.ref id _),some kv,some u=>match σ.mp? id,pur σ.h u with
   |some (kt',l),some u'=>if kt'=kt/\be kt kv=true/\aF u=[]/\nt u'=true then some { σ with h:=σ.h.set id (some (Ob.mp kt (mc kv u' l))) }else none
   |_,_=>none
 |_,_,_=>none
theorem a_mup{kt x k v}:af Φ d (.mup kt x k v) K σ=oM (UP σ kt x k v) (skK d K):=by
 simp only[af,UP];cases σ.ev x with
 |none=>rfl
 |some a=>
   cases σ.ev k with
   |none=>cases a<;>rfl
   |some b=>
     cases σ.ev v with
     |none=>cases a<;>rfl
     |some c=>
       cases a<;>try rfl
       rename_i id n;simp only;cases σ.mp? id with
       |none=>rfl
       |some p=>
         obtain⟨kt',l⟩:=p;cases pur σ.h c with
         |none=>rfl
         |some u'=>
           simp only;by_cases hc:kt'=kt/\be kt b=true/\aF c=[]/\nt u'=true
           ·rw[if_pos hc]
            exact propext ⟨fun h=>h.2.2.2.2,fun h=>⟨hc.1,hc.2.1,hc.2.2.1,hc.2.2.2,h⟩⟩
           ·rw[if_neg hc]
            exact propext ⟨fun h=>(hc ⟨h.1,h.2.1,h.2.2.1,h.2.2.2.1⟩).elim,fun h=>h.elim⟩
theorem Ms{k:IntKind}{n:Int}:be ⟨false,[.i k]⟩ (.int k n)=true:=by simp[be,fB,cl,bG,kOf,aS]
theorem Mq{s:List UInt8}:be ⟨false,[.s]⟩ (.str s)=true:=by simp[be,fB,cl,bG,kOf,aS]
def clK(Φ:Ctr)(d:Option Nat)(f:FuncId)(vs:List V)(σ:St)(K:St->Prop)(us:List V):Prop:=nl Φ d f vs us K σ
def U7(Φ:Ctr)(d:Option Nat)(f:FuncId)(σ:St)(K:St->Prop)(vs:List V):Prop:=oN (purs σ.h vs) (clK Φ d f vs σ K) (fi Φ d f vs K σ)
theorem SN{f vs us}:clK Φ d f vs σ K us=nl Φ d f vs us K σ:=propext zAa
theorem PE{f vs}:U7 Φ d f σ K vs=oN (purs σ.h vs) (clK Φ d f vs σ K) (fi Φ d f vs K σ):=propext zAa
theorem Vq{f xs}:af Φ d (.call f xs) K σ=oM (σ.evs xs) (U7 Φ d f σ K):=by
 simp only[af,oM];cases σ.evs xs with
 |none=>rfl
 |some vs=>simp only[U7,oN];cases purs σ.h vs<;>rfl
def chK(Φ:Ctr)(d:Option Nat)(f:FuncId)(σ:St)(K:St->Prop)(vs:List V):Prop:=fi Φ d f vs K σ
theorem SO{f vs}:chK Φ d f σ K vs=fi Φ d f vs K σ:=propext zAa
theorem SW{f xs}:af Φ d (.callH f xs) K σ=oM (σ.evs xs) (chK Φ d f σ K):=by
 simp only[af,oM];cases σ.evs xs<;>rfl
def Tp(σ:St)(g:AO)(xs:List AO):Option (V×List V×List V×St×Bool):=match σ.ev g,σ.evs xs with
 |some (.ref id _),some vs=>match σ.gh? id,purs σ.h vs with
   |some ((v,b)::l),some us=>some (v,us,vs,{ σ with h:=σ.h.set id (some (Ob.gh l)) },b)
   |_,_=>none
 |_,_=>none
def yldK(d:Option Nat)(K:St->Prop)(p:V×List V×List V×St×Bool):Prop:=p.1=.tup p.2.1/\am p.2.2.1=[]/\K (p.2.2.2.1.put d (.bool p.2.2.2.2))
theorem M6{v:V}{us vs:List V}{τ:St}{b:Bool}:yldK d K (v,us,vs,τ,b)=(v=.tup us/\am vs=[]/\K (τ.put d (.bool b))):=propext zAa
theorem a_yld{g xs}:af Φ d (.yld g xs) K σ=oM (Tp σ g xs) (yldK d K):=by
 simp only[af,Tp];cases σ.ev g with
 |none=>rfl
 |some u=>
   cases σ.evs xs with
   |none=>cases u<;>rfl
   |some vs=>
     cases u<;>try rfl
     rename_i id n;simp only;cases σ.gh? id with
     |none=>rfl
     |some l=>
       cases l with
       |nil=>rfl
       |cons x l=>
         obtain⟨v,b⟩:=x;cases purs σ.h vs<;>rfl
theorem Vr{g xs}:ag Φ d (.yld g xs) K σ=af Φ d (.yld g xs) K σ:=propext zAa
def Ux(σ:St)(x:AO):Option (St×V):=match σ.ev x with
 |some (.str s)=>some ({ σ with h:=σ.h++[some (Ob.itr s 0)] },.ref σ.h.length 0)
 |_=>none
def Uy(d:Option Nat)(K:St->Prop)(p:St×V):Prop:=K (p.1.put d p.2)
theorem Od{τ:St}{v:V}:Uy d K (τ,v)=K (τ.put d v):=propext zAa
theorem a_rgs{x}:af Φ d (.rgs x) K σ=oM (Ux σ x) (Uy d K):=by
 simp only[af,Ux];cases σ.ev x with
 |none=>rfl
 |some u=>cases u<;>rfl
theorem Vz{x}:ag Φ d (.rgs x) K σ=af Φ d (.rgs x) K σ:=propext zAa
def UK(σ:St)(x:AO):Option (St×V):=match σ.ev x with
 |some (.ref id _)=>match σ.itr? id with
   |some (s,p)=>some (if p<s.length then({ σ with h:=σ.h.set id (some (Ob.itr s (p+(oQ s p).2))) },.tup [.bool true,.int .i64 p,.int .i32 (oQ s p).1])else(σ,.tup [.bool false]))
   |none=>none
 |_=>none
theorem a_nxs{x}:af Φ d (.nxs x) K σ=oM (UK σ x) (Uy d K):=by
 simp only[af,UK];cases σ.ev x with
 |none=>rfl
 |some u=>
   cases u<;>try rfl
   rename_i id n;simp only;cases σ.itr? id with
   |none=>rfl
   |some p=>
     obtain⟨s,p⟩:=p;simp only[oM];split<;>rfl
theorem VB{x}:ag Φ d (.nxs x) K σ=af Φ d (.nxs x) K σ:=propext zAa
def MM(Φ:Ctr)(d:Option Nat)(f:FuncId)(vs:List V)(σ:St)(K:St->Prop)(us:List V):Prop:=qQ Φ d f vs us K σ
def PG(Φ:Ctr)(d:Option Nat)(f:FuncId)(σ:St)(K:St->Prop)(vs:List V):Prop:=oM (purs σ.h vs) (MM Φ d f vs σ K)
theorem PF{f vs us}:MM Φ d f vs σ K us=qQ Φ d f vs us K σ:=propext zAa
theorem ML{f vs}:PG Φ d f σ K vs=oM (purs σ.h vs) (MM Φ d f vs σ K):=propext zAa
theorem S1{f xs}:ag Φ d (.call f xs) K σ=oM (σ.evs xs) (PG Φ d f σ K):=by
 simp only[ag,oM];cases σ.evs xs with
 |none=>rfl
 |some vs=>simp only[PG,oM];cases purs σ.h vs<;>rfl
def fnV(σ:St)(g:AO)(xs:List AO):Option (FuncId×List V):=match σ.ev g,σ.evs xs with
 |some (.fn (.func f) a b),some vs=>some (f,a++vs++b)
 |_,_=>none
def cvK(Φ:Ctr)(d:Option Nat)(σ:St)(K:St->Prop)(p:FuncId×List V):Prop:=oN (purs σ.h p.2) (clK Φ d p.1 p.2 σ K) (fi Φ d p.1 p.2 K σ)
def O2(σ:St)(tbl:List (Nat×FuncId))(x:AO)(xs:List AO):Option (FuncId×List V):=match σ.ev x,σ.evs xs with
 |some (.iface t v),some vs=>match lkF tbl t with
   |some f=>some (f,v::vs)
   |none=>none
 |_,_=>none
theorem a_inv{tbl x xs}:af Φ d (.inv tbl x xs) K σ=oM (O2 σ tbl x xs) (cvK Φ d σ K):=by
 simp only[af,O2];cases σ.ev x with
 |none=>rfl
 |some a=>
   cases σ.evs xs with
   |none=>cases a<;>rfl
   |some vs=>
     cases a<;>try rfl
     rename_i t v;simp only;cases lkF tbl t with
     |none=>rfl
     |some f=>simp only[oM,cvK,oN];cases purs σ.h (v::vs)<;>rfl
def ivK(Φ:Ctr)(d:Option Nat)(σ:St)(K:St->Prop)(p:FuncId×List V):Prop:=Sk Φ d p.1 p.2 K σ
theorem a_ivp{tbl x xs}:af Φ d (.ivp tbl x xs) K σ=oM (σ.ivpV tbl x xs) (ivK Φ d σ K):=by
 simp only[af];cases σ.ivpV tbl x xs with
 |none=>rfl
 |some p=>rfl
theorem Sl{f vs}:ivK Φ d σ K (f,vs)=oN (purs σ.h vs) (fun us=>nl Φ d f vs us K σ\/fi Φ d f vs K σ) (fi Φ d f vs K σ):=by
 simp only[ivK,Sk,oN];cases purs σ.h vs<;>rfl
theorem SG{f vs}:cvK Φ d σ K (f,vs)=oN (purs σ.h vs) (clK Φ d f vs σ K) (fi Φ d f vs K σ):=propext zAa
theorem SV{g xs}:af Φ d (.callv g xs) K σ=oM (fnV σ g xs) (cvK Φ d σ K):=by
 simp only[af,fnV,oM];cases σ.ev g with
 |none=>rfl
 |some v=>
   cases v with
   |fn f a b=>
     cases f<;>cases σ.evs xs<;>try rfl
     rename_i vs;simp only[cvK,oN];cases purs σ.h (a++vs++b)<;>rfl
   |_=>rfl
theorem VS{tbl x xs}:ag Φ d (.inv tbl x xs) K σ=oM (O2 σ tbl x xs) (fun p=>oM (purs σ.h p.2) (MM Φ d p.1 p.2 σ K)):=by
 simp only[ag,O2];cases σ.ev x with
 |none=>rfl
 |some a=>
   cases σ.evs xs with
   |none=>cases a<;>rfl
   |some vs=>
     cases a<;>try rfl
     rename_i t v;simp only;cases lkF tbl t with
     |none=>rfl
     |some f=>simp only[oM];cases purs σ.h (v::vs)<;>rfl
def U6(Φ:Ctr)(d:Option Nat)(σ:St)(K:St->Prop)(p:FuncId×List V):Prop:=oM (purs σ.h p.2) (MM Φ d p.1 p.2 σ K)
theorem Py{f vs}:U6 Φ d σ K (f,vs)=oM (purs σ.h vs) (MM Φ d f vs σ K):=propext zAa
theorem Qc{g xs}:ag Φ d (.callv g xs) K σ=oM (fnV σ g xs) (U6 Φ d σ K):=by
 simp only[ag,fnV,oM];cases σ.ev g with
 |none=>rfl
 |some v=>
   cases v with
   |fn f a b=>
     cases f<;>cases σ.evs xs<;>try rfl
     rename_i vs;simp only[U6,oM];cases purs σ.h (a++vs++b)<;>rfl
   |_=>rfl
end
def Of(post:V->Prop)(us:List V):Prop:=post (jc us)
theorem Oe{post:V->Prop}{us:List V}:Of post us=post (jc us):=propext zAa
def Fs(post:V->Prop)(σ:St)(vs:List V):Prop:=oM (purs σ.h vs) (Of post)
theorem Lu{post:V->Prop}{σ:St}{vs:List V}:Fs post σ vs=oM (purs σ.h vs) (Of post):=propext zAa
theorem Qf{rs:List RV}{post:V->Prop}{σ:St}:Res rs post .norm σ=oM (σ.rvs rs) (Fs post σ):=by
 unfold Res Fs oM;cases σ.rvs rs with
 |none=>simp
 |some vs=>simp only;cases purs σ.h vs<;>simp[Of]
theorem S8{rs:List RV}{post:V->Prop}{σ:St}:Res rs post .ret σ=oM (σ.rvs rs) (Fs post σ):=by
 unfold Res Fs oM;cases σ.rvs rs with
 |none=>simp
 |some vs=>simp only;cases purs σ.h vs<;>simp[Of]
def Ft(σ:St)(ps:List Nat)(us:List V)(r:V)(H':List (Option Ob))(vs:List V):Prop:=Kb σ ps us r H' vs (gT σ.h (xU (pk σ.r ps)) vs).2
theorem Lw{σ:St}{ps:List Nat}{us:List V}{r:V}{H':List (Option Ob)}{vs:List V}:Ft σ ps us r H' vs=Kb σ ps us r H' vs (gT σ.h (xU (pk σ.r ps)) vs).2:=propext zAa
theorem MZ{rs:List RV}{σ:St}{ps:List Nat}{us:List V}{r:V}{H':List (Option Ob)}:ET rs ps us r H' .norm σ=oM (σ.rvs rs) (Ft σ ps us r H'):=by
 unfold ET oM;cases σ.rvs rs<;>simp[Ft]
theorem Qi{rs:List RV}{σ:St}{ps:List Nat}{us:List V}{r:V}{H':List (Option Ob)}:ET rs ps us r H' .ret σ=oM (σ.rvs rs) (Ft σ ps us r H'):=by
 unfold ET oM;cases σ.rvs rs<;>simp[Ft]
section
variable{Φ:Ctr}{σ:St}{K:St->Prop}{d:Option Nat}
def UZ(σ:St)(d:Option Nat)(K:St->Prop)(q:Nat)(m:List Nat)(r:V)(H':List (Option Ob)):Prop:=K (St.put ⟨σ.r,σ.back q m H'⟩ d (bck (y6 q m σ.h.length H'.length) r))
theorem Pb{q:Nat}{m:List Nat}{r:V}{H':List (Option Ob)}:UZ σ d K q m r H'=K (St.put ⟨σ.r,σ.back q m H'⟩ d (bck (y6 q m σ.h.length H'.length) r)):=propext zAa
theorem ah(ps:List Nat)(q:Nat)(m:List Nat){f:FuncId}{vs us:List V}{H H':List (Option Ob)}{r:V}(hc:σ.curs (dl vs ps)=true)(hl:gT σ.h (dl vs ps) vs=(q,m))(hu:jH m vs=us)(hH:jI σ.h m m=H)
 (h:Φ.e f ps us H r H') (hk:kin q H H'=true) (k:ok r->okH H'->UZ σ d K q m r H'):fi Φ d f vs K σ:=by
 refine .inl ⟨ps,hc,r,H',?_,?_,?_⟩
 ·rw[hl,hH];exact hk
 ·rw[hl,hu,hH];exact h
 ·rw[hl];exact k
end
def Fq(r:V)(us:List V):Prop:=jc us=r
theorem Lt{r:V}{us:List V}:Fq r us=(jc us=r):=propext zAa
def xP(r:V)(σ:St)(vs:List V):Prop:=Ek σ.h vs=true/\oM (purs σ.h vs) (Fq r)
theorem Ir{r:V}{σ:St}{vs:List V}:xP r σ vs=(Ek σ.h vs=true/\oM (purs σ.h vs) (Fq r)):=propext zAa
theorem MY{rs:List RV}{r:V}{σ:St}:JP rs r .norm σ=oM (σ.rvs rs) (xP r σ):=by
 unfold JP xP oM;cases σ.rvs rs with
 |none=>simp
 |some vs=>simp only;cases purs σ.h vs<;>simp[Fq]
theorem Qh{rs:List RV}{r:V}{σ:St}:JP rs r .ret σ=oM (σ.rvs rs) (xP r σ):=by
 unfold JP xP oM;cases σ.rvs rs with
 |none=>simp
 |some vs=>simp only;cases purs σ.h vs<;>simp[Fq]
theorem tupV0:jc []=.tup []:=rfl
theorem tupV1{v:V}:jc [v]=v:=rfl
theorem tupV2{v w:V}{l:List V}:jc (v::w::l)=.tup (v::w::l):=rfl
theorem Um{cs}:obI (some (some (.box cs)))=am cs:=by simp only[obI]
theorem Uh{m}{cs}:bP m (some (.box cs))=some (.box (jH m cs)):=by simp only[bP]
theorem Uv{m}{cs}:dm m (some (.box cs))=some (.box (Bc m cs)):=by simp only[dm]
theorem Un{e sz l}:obI (some (some (.arr e sz l)))=[]:=by simp only[obI]
theorem Ui{m}{e sz l}:bP m (some (.arr e sz l))=some (.arr e sz l):=by simp only[bP]
theorem Uw{m}{e sz l}:dm m (some (.arr e sz l))=some (.arr e sz l):=by simp only[dm]
theorem Uk{e e2 sz l}:obI (some (some (.mat e e2 sz l)))=[]:=by simp only[obI]
theorem Uf{m}{e e2 sz l}:bP m (some (.mat e e2 sz l))=some (.mat e e2 sz l):=by simp only[bP]
theorem Ut{m}{e e2 sz l}:dm m (some (.mat e e2 sz l))=some (.mat e e2 sz l):=by simp only[dm]
theorem so_mp{kt l}:obI (some (some (.mp kt l)))=[]:=by simp only[obI]
theorem sr_mp{m}{kt l}:bP m (some (.mp kt l))=some (.mp kt l):=by simp only[bP]
theorem sb_mp{m}{kt l}:dm m (some (.mp kt l))=some (.mp kt l):=by simp only[dm]
theorem so_gh{l}:obI (some (some (.gh l)))=[]:=by simp only[obI]
theorem sr_gh{m}{l}:bP m (some (.gh l))=some (.gh l):=by simp only[bP]
theorem sb_gh{m}{l}:dm m (some (.gh l))=some (.gh l):=by simp only[dm]
theorem Ul{s p}:obI (some (some (.itr s p)))=[]:=by simp only[obI]
theorem Ug{m}{s p}:bP m (some (.itr s p))=some (.itr s p):=by simp only[bP]
theorem Uu{m}{s p}:dm m (some (.itr s p))=some (.itr s p):=by simp only[dm]
theorem Uj{c}:obI (some (some (.tok c)))=[]:=by simp only[obI]
theorem Ue{m}{c}:bP m (some (.tok c))=some (.tok c):=by simp only[bP]
theorem Us{m}{c}:dm m (some (.tok c))=some (.tok c):=by simp only[dm]
theorem RH{ms}:obI (some (some (.pool ms)))=[]:=by simp only[obI]
theorem RG{m}{ms}:bP m (some (.pool ms))=some (.pool ms):=by simp only[bP]
theorem RP{m}{ms}:dm m (some (.pool ms))=some (.pool ms):=by simp only[dm]
theorem RI:obI none=[]:=by simp only[obI]
theorem so_no:obI (some none)=[]:=by simp only[obI]
theorem sr_no{m}:bP m none=none:=by simp only[bP]
theorem sb_no{m}:dm m none=none:=by simp only[dm]
attribute [simp] KU M7 H8 OA S2 S5 Wj Ld Dy L7 OZ L9 L8 Wg Wi S4 S3 Wh S7 Wk W_ret S6 Bm Le NS Dx Gi Dz H7 CB BrK_t BrK_f BrK_n rqK_t N7 R5 R6 SP Ss Ph U0 PD RM Ol NB KW wop_n ND KX Ia TT Ib NH K4 PU N4 OP LW LX IR P6 OE OH OG Uo NZ Ll RJ RK xH NY J7 a_mkm a_yld Vr M6 a_rgs Vz a_nxs VB Od a_mkp VI VE a_mup a_inv VS a_ivp Sl St.ivpV St.recv lkG Ms Mq SN PE PF ML SG Py Oe Lu R3 R4 SO fz fzs SW Lw MZ Qi Pb Lt Ir MY Qh jk jks fre Ek a_mov Vn a_fld a_fa a_ia a_iaa a_ld a_ixs a_ixa a_bin a_un a_cii a_r2s a_b2s a_sls a_slq Vo Vp a_beq a_ext a_bld a_mkf a_nlc a_mki a_tya Vu a_aeq a_lkp a_mm a_nlq VF SX VU aD_fa aD_ia VT aD_ld VQ VR V4 aD_un VY VA V6 Vv Vw SY SZ V5 VV V3 VL VD VK Wf VO aD_mm VC Wd V0 aD_st V9 VG VM VJ Vy a_alc a_box a_st a_s2b a_lit a_app a_mks a_mk0 Vq SV VP S1 Qc Vb stV Ud Vk IL fnV UP O2 Tp St.gh? Ux UK St.itr? lkF Qf S8 tupV0 tupV1 tupV2 St.ev St.evs St.evo St.val St.put lk pk St.fetch St.box? St.arr? St.rws? St.mp? cut jd cl mkc Rs TY St.live St.fwd St.stor St.storM St.kill bldV isS nt gU fT aF am pur purs pur1 pur2 src vK ui bv aK gS St.isNilM J4 St.hide St.nowR St.nrm Iq Um Uh Uv Un Ui Uw Uk Uf Ut so_mp sr_mp sb_mp so_gh sr_gh sb_gh Ul Ug Uu Uj Ue Us RH RG RP RI so_no sr_no sb_no sQ zK ren jH jI ce idx St.mats St.mat ent St.rv St.rvs ok oks okH dl St.cur St.curA St.cur0 St.curs gT bck Bc EL wr y6 St.back Kb xU FE kin l8 dG St.pl? St.setP low ol zI NW HP HQ HT EO u6 MV UI Vl a_alq Wc EJ a_bxq VZ U5 HG a_cvb VX UR OF a_mkq VH OL LR OK La E4 Vd P2 a_apz V7 Ur N0 a_sbq Vx Vf P4 P3 Vj Vi P5 Fe a_aps V8 a_apb Wb Qb a_alb We Ub a_usd Vt NN NO a_ust Vs SD Px a_del VW sF
theorem qN(n:Int)(h1:-9223372036854775808<=n)(h2:n<=9223372036854775807):IntKind.i64.wrap n=n:=by
 rw[Go.IntKind.wrap_i64];omega
theorem max64:IntKind.i64.max=9223372036854775807:=by decide
theorem min64:IntKind.i64.min=-9223372036854775808:=by decide
theorem maxU8:IntKind.u8.max=255:=by decide
theorem minU8:IntKind.u8.min=0:=by decide
theorem t8(n:Int)(h1:0<=n)(h2:n<=255):IntKind.u8.wrap n=n:=by
 rw[Go.IntKind.wrap_u8];omega
theorem r6(n:Int)(h1:-2147483648<=n)(h2:n<=2147483647):IntKind.i32.wrap n=n:=by
 rw[Go.IntKind.wrap_i32];omega
theorem T9{a b:Int}(h1:-9223372036854775808<=a+b)(h2:a+b<=9223372036854775807):dA .add .i64 a b=some (.int .i64 (a+b)):=by simp only[dA,qN _ h1 h2]
theorem TW{a b:Int}(h1:-9223372036854775808<=a-b)(h2:a-b<=9223372036854775807):dA .sub .i64 a b=some (.int .i64 (a-b)):=by simp only[dA,qN _ h1 h2]
theorem T4{a b:Int}(h1:-9223372036854775808<=a*b)(h2:a*b<=9223372036854775807):dA .mul .i64 a b=some (.int .i64 (a*b)):=by simp only[dA,qN _ h1 h2]
theorem vadd8{a b:Int}(h1:0<=a+b)(h2:a+b<=255):dA .add .u8 a b=some (.int .u8 (a+b)):=by simp only[dA,t8 _ h1 h2]
theorem vsub8{a b:Int}(h1:0<=a-b)(h2:a-b<=255):dA .sub .u8 a b=some (.int .u8 (a-b)):=by simp only[dA,t8 _ h1 h2]
theorem Ua{a b:Int}(h1:-2147483648<=a+b)(h2:a+b<=2147483647):dA .add .i32 a b=some (.int .i32 (a+b)):=by simp only[dA,r6 _ h1 h2]
theorem TX{a b:Int}(h1:-2147483648<=a-b)(h2:a-b<=2147483647):dA .sub .i32 a b=some (.int .i32 (a-b)):=by simp only[dA,r6 _ h1 h2]
theorem T5{a b:Int}(h1:-2147483648<=a*b)(h2:a*b<=2147483647):dA .mul .i32 a b=some (.int .i32 (a*b)):=by simp only[dA,r6 _ h1 h2]
theorem T6{n:Int}(h1:-9223372036854775808<=n)(h2:n<=9223372036854775807):qS .i64 n=some (.int .i64 n):=by simp only[qS,qN _ h1 h2]
theorem nn{n:Int}(h1:0<=n)(h2:n<=255):qS .u8 n=some (.int .u8 n):=by simp only[qS,t8 _ h1 h2]
theorem Rq{n:Int}(h1:0<=n)(h2:n<128):Rr n=some (.str [UInt8.ofNat n.toNat]):=by simp only[Rr,if_pos (And.intro h1 h2)]
theorem T7{n:Int}(h1:-2147483648<=n)(h2:n<=2147483647):qS .i32 n=some (.int .i32 n):=by simp only[qS,r6 _ h1 h2]
theorem T3{n:Int}(h1:-9223372036854775808<=0-n)(h2:0-n<=9223372036854775807):vun .neg (.int .i64 n)=some (.int .i64 (0-n)):=by simp only[vun,qN _ h1 h2]
attribute [simp high] T9 TW T4 vadd8 vsub8 Ua TX T5 T6 nn T7 Rq T3
theorem T0{a b:Int}(h0:0<=a)(h1:0<b)(h2:a<=9223372036854775807):dA .quo .i64 a b=some (.int .i64 (a/b)):=by
 have h3:0<=a/b:=Int.ediv_nonneg h0 (by omega)
 have h4:a/b<=a:=Int.ediv_le_self _ h0;simp only[dA];rw[if_neg (by omega),Int.tdiv_eq_ediv_of_nonneg h0,qN _ (by omega) (by omega)]
theorem TZ{k:IntKind}{a b:Int}(h0:0<=a)(h1:0<b):dA .rem k a b=some (.int k (a%b)):=by
 simp only[dA];rw[if_neg (by omega),Int.tmod_eq_emod_of_nonneg h0]
theorem vremt{k:IntKind}{a b:Int}(h1:b≠0):dA .rem k a b=some (.int k (a.tmod b)):=by
 simp only[dA];rw[if_neg h1]
theorem veql{k:IntKind}{a b:Int}:dA .eql k a b=some (.bool (decide (a=b))):=rfl
theorem vneq{k:IntKind}{a b:Int}:dA .neq k a b=some (.bool (!decide (a=b))):=rfl
theorem vlss{k:IntKind}{a b:Int}:dA .lss k a b=some (.bool (decide (a<b))):=rfl
theorem vleq{k:IntKind}{a b:Int}:dA .leq k a b=some (.bool (decide (a<=b))):=rfl
theorem vgtr{k:IntKind}{a b:Int}:dA .gtr k a b=some (.bool (decide (b<a))):=rfl
theorem vgeq{k:IntKind}{a b:Int}:dA .geq k a b=some (.bool (decide (b<=a))):=rfl
theorem vnot{b:Bool}:vun .not (.bool b)=some (.bool !b):=rfl
attribute [simp high] T0 TZ
attribute [simp] veql vneq vlss vleq vgtr vgeq vnot vremt qN t8 r6 max64 min64 maxU8 minU8
theorem UM(m n:Nat):((no_index (@OfNat.ofNat Int m instOfNat))<=(n:Int))↔(@OfNat.ofNat Nat m (instOfNatNat m))<=n:=zEc
theorem UV(m n:Nat):((n:Int)<=(no_index (@OfNat.ofNat Int m instOfNat)))↔n<=(@OfNat.ofNat Nat m (instOfNatNat m)):=zEc
theorem UL(m n:Nat):((no_index (@OfNat.ofNat Int m instOfNat))<(n:Int))↔(@OfNat.ofNat Nat m (instOfNatNat m))<n:=zEd
theorem UU(m n:Nat):((n:Int)<(no_index (@OfNat.ofNat Int m instOfNat)))↔n<(@OfNat.ofNat Nat m (instOfNatNat m)):=zEd
theorem UN(m n:Nat):((no_index (@OfNat.ofNat Int m instOfNat))=(n:Int))↔(@OfNat.ofNat Nat m (instOfNatNat m))=n:=zEa
theorem U3(m n:Nat):((n:Int)=(no_index (@OfNat.ofNat Int m instOfNat)))↔n=(@OfNat.ofNat Nat m (instOfNatNat m)):=zEa
attribute [simp] UM UV UL UU UN U3
theorem get0{α:Type}{x:α}{l:List α}:(x::l)[0]?=some x:=rfl
attribute [simp] get0
theorem ite_t{p:Prop}[Decidable p]{α:Sort _}{a b:α}(h:p):(if p then a else b)=a:=if_pos h
theorem ite_f{p:Prop}[Decidable p]{α:Sort _}{a b:α}(h:¬p):(if p then a else b)=b:=if_neg h
attribute [simp] ite_t ite_f
theorem Kh:∀{l:List V},oks l↔∀v∈l,ok v
 |[]=>by simp
 |v::vs=>by simp[Kh]
theorem uU{α:Type}{l:List α}{k:Nat}{x:α}(h:l[k]?=some x):l.drop k=x::l.drop (k+1):=by
 obtain⟨h1,h2⟩:=zAg.1 h;rw[List.drop_eq_getElem_cons h1,h2]
theorem bH{α:Type}{l:List α}{k:Nat}(h:k<l.length):∃x,l[k]?=some x:=⟨_,zCe h⟩
theorem place{α:Type}(l:List α)(k:Nat)(h:k<=l.length):(k=l.length/\l.drop k=[])\/(k<l.length/\∃x,l[k]?=some x/\l.drop k=x::l.drop (k+1)):=by
 rcases zCc k l.length with h'|h'
 ·obtain⟨x,hx⟩:=bH h'
  exact .inr ⟨h',x,hx,uU hx⟩
 ·have:k=l.length:=by omega
  exact .inl ⟨this,by simp[this]⟩
def Hid(p:Prop):Prop:=p
theorem Hid.out{p:Prop}(h:Hid p):p:=h
theorem hid{p:Prop}(h:p):Hid p:=h
theorem Cn_p{P:Program}:(Cn P).p=Fn P:=rfl
theorem Cn_n{P:Program}:(Cn P).n=FnN P:=rfl
theorem Cn_e{P:Program}:(Cn P).e=FnH P:=rfl
def o1(d:Nat)(a:Act'):AOp:=⟨some d,a,none⟩
def o0(a:Act'):AOp:=⟨none,a,none⟩
def gt(t:Nat)(o:AOp):AOp:=⟨o.d,o.a,some (t,true)⟩
def gf(t:Nat)(o:AOp):AOp:=⟨o.d,o.a,some (t,false)⟩
def ts:List Nat->List AO
 |[]=>[]
 |t::l=>.t t::ts l
def m(d x:Nat):AOp:=⟨some d,.mov (.t x),none⟩
def mv(d:Nat)(v:V):AOp:=⟨some d,.mov (.v v),none⟩
def mi(d:Nat)(n:Int):AOp:=⟨some d,.mov (.v (.int .i64 n)),none⟩
def mb(d:Nat)(b:Bool):AOp:=⟨some d,.mov (.v (.bool b)),none⟩
def bt(d:Nat)(op:BinOp)(x y:Nat):AOp:=⟨some d,.bin op (.t x) (.t y),none⟩
def bi(d:Nat)(op:BinOp)(x:Nat)(n:Int):AOp:=⟨some d,.bin op (.t x) (.v (.int .i64 n)),none⟩
def bu(d:Nat)(op:BinOp)(x:Nat)(n:Int):AOp:=⟨some d,.bin op (.t x) (.v (.int .u8 n)),none⟩
def bs(d:Nat)(op:BinOp)(x:Nat)(s:List UInt8):AOp:=⟨some d,.bin op (.t x) (.v (.str s)),none⟩
def nt'(d x:Nat):AOp:=⟨some d,.un .not (.t x),none⟩
def ls(d x:Nat):AOp:=⟨some d,.lens (.t x),none⟩
def lq(d x:Nat):AOp:=⟨some d,.lenq (.t x),none⟩
def fa(d x o:Nat):AOp:=⟨some d,.fa (.t x) o,none⟩
def fl(d x o:Nat):AOp:=⟨some d,.fld (.t x) o 1 false,none⟩
def l1(d x:Nat):AOp:=⟨some d,.ld (.t x) 1 false,none⟩
def la(d x n:Nat):AOp:=⟨some d,.ld (.t x) n true,none⟩
def ia(d x i s:Nat):AOp:=⟨some d,.ia (.t x) (.t i) s,none⟩
def ix(d x i:Nat):AOp:=⟨some d,.ixs (.t x) (.t i),none⟩
def pa(d x y:Nat):AOp:=⟨some d,.pick (.t x) (.t y) (.v (.bool false)),none⟩
def po(d x y:Nat):AOp:=⟨some d,.pick (.t x) (.v (.bool true)) (.t y),none⟩
def ex(d x i:Nat):AOp:=⟨some d,.ext (.t x) i,none⟩
def bx(d x:Nat):AOp:=⟨some d,.box (.t x),none⟩
def st(n x y:Nat):AOp:=⟨none,.st n (.t x) (.t y),none⟩
def ca(d f:Nat)(l:List Nat):AOp:=⟨some d,.call f (ts l),none⟩
def ch(d f:Nat)(l:List Nat):AOp:=⟨some d,.callH f (ts l),none⟩
def cv(d g:Nat)(l:List Nat):AOp:=⟨some d,.callv (.t g) (ts l),none⟩
def Q:List AC->AC
 |[]=>.skip
 |[a]=>a
 |a::l=>.seq a (Q l)
def OQ:List AOp->OT->OT
 |[],t=>t
 |x::xs,t=>.op x (OQ xs t)
def C(c:Nat)(a b:AC):AC:=.cond (.t c) a b
theorem OQ0{t:OT}:OQ [] t=t:=rfl
theorem OQ1{x:AOp}{xs:List AOp}{t:OT}:OQ (x::xs) t=.op x (OQ xs t):=rfl
attribute [simp] OQ0 OQ1
section
variable{Φ:Ctr}{K:St->Prop}{σ:St}{Q':Ex->St->Prop}
theorem Tv{d:Nat}{a:Act'}:wop Φ (o1 d a) K σ=af Φ (some d) (a) K σ:=propext zAa
theorem QZ{d:Nat}{a:Act'}:aR Φ (o1 d a) K σ=ag Φ (some d) (a) K σ:=propext zAa
theorem Tw{a:Act'}:wop Φ (o0 a) K σ=af Φ (none) (a) K σ:=propext zAa
theorem Q0{a:Act'}:aR Φ (o0 a) K σ=ag Φ (none) (a) K σ:=propext zAa
theorem wop_m{d x:Nat}:wop Φ (m d x) K σ=af Φ (some d) (.mov (.t x)) K σ:=propext zAa
theorem TU{d x:Nat}:aR Φ (m d x) K σ=ag Φ (some d) (.mov (.t x)) K σ:=propext zAa
theorem Tx{d:Nat}{v:V}:wop Φ (mv d v) K σ=af Φ (some d) (.mov (.v v)) K σ:=propext zAa
theorem Q1{d:Nat}{v:V}:aR Φ (mv d v) K σ=ag Φ (some d) (.mov (.v v)) K σ:=propext zAa
theorem Ty{d:Nat}{n:Int}:wop Φ (mi d n) K σ=af Φ (some d) (.mov (.v (.int .i64 n))) K σ:=propext zAa
theorem Q2{d:Nat}{n:Int}:aR Φ (mi d n) K σ=ag Φ (some d) (.mov (.v (.int .i64 n))) K σ:=propext zAa
theorem Tz{d:Nat}{b:Bool}:wop Φ (mb d b) K σ=af Φ (some d) (.mov (.v (.bool b))) K σ:=propext zAa
theorem Q3{d:Nat}{b:Bool}:aR Φ (mb d b) K σ=ag Φ (some d) (.mov (.v (.bool b))) K σ:=propext zAa
theorem TQ{d:Nat}{op:BinOp}{x y:Nat}:wop Φ (bt d op x y) K σ=af Φ (some d) (.bin op (.t x) (.t y)) K σ:=propext zAa
theorem Rk{d:Nat}{op:BinOp}{x y:Nat}:aR Φ (bt d op x y) K σ=ag Φ (some d) (.bin op (.t x) (.t y)) K σ:=propext zAa
theorem TS{d:Nat}{op:BinOp}{x:Nat}{n:Int}:wop Φ (bi d op x n) K σ=af Φ (some d) (.bin op (.t x) (.v (.int .i64 n))) K σ:=propext zAa
theorem Rm{d:Nat}{op:BinOp}{x:Nat}{n:Int}:aR Φ (bi d op x n) K σ=ag Φ (some d) (.bin op (.t x) (.v (.int .i64 n))) K σ:=propext zAa
theorem TP{d:Nat}{op:BinOp}{x:Nat}{n:Int}:wop Φ (bu d op x n) K σ=af Φ (some d) (.bin op (.t x) (.v (.int .u8 n))) K σ:=propext zAa
theorem Rj{d:Nat}{op:BinOp}{x:Nat}{n:Int}:aR Φ (bu d op x n) K σ=ag Φ (some d) (.bin op (.t x) (.v (.int .u8 n))) K σ:=propext zAa
theorem TR{d:Nat}{op:BinOp}{x:Nat}{s:List UInt8}:wop Φ (bs d op x s) K σ=af Φ (some d) (.bin op (.t x) (.v (.str s))) K σ:=propext zAa
theorem Rl{d:Nat}{op:BinOp}{x:Nat}{s:List UInt8}:aR Φ (bs d op x s) K σ=ag Φ (some d) (.bin op (.t x) (.v (.str s))) K σ:=propext zAa
theorem QU{d x:Nat}:wop Φ (nt' d x) K σ=af Φ (some d) (.un .not (.t x)) K σ:=propext zAa
theorem NF{d x:Nat}:aR Φ (nt' d x) K σ=ag Φ (some d) (.un .not (.t x)) K σ:=propext zAa
theorem TA{d x:Nat}:wop Φ (ls d x) K σ=af Φ (some d) (.lens (.t x)) K σ:=propext zAa
theorem Q4{d x:Nat}:aR Φ (ls d x) K σ=ag Φ (some d) (.lens (.t x)) K σ:=propext zAa
theorem TB{d x:Nat}:wop Φ (lq d x) K σ=af Φ (some d) (.lenq (.t x)) K σ:=propext zAa
theorem Q5{d x:Nat}:aR Φ (lq d x) K σ=ag Φ (some d) (.lenq (.t x)) K σ:=propext zAa
theorem TJ{d x o:Nat}:wop Φ (fa d x o) K σ=af Φ (some d) (.fa (.t x) o) K σ:=propext zAa
theorem Rd{d x o:Nat}:aR Φ (fa d x o) K σ=ag Φ (some d) (.fa (.t x) o) K σ:=propext zAa
theorem TI{d x o:Nat}:wop Φ (fl d x o) K σ=af Φ (some d) (.fld (.t x) o 1 false) K σ:=propext zAa
theorem Rc{d x o:Nat}:aR Φ (fl d x o) K σ=ag Φ (some d) (.fld (.t x) o 1 false) K σ:=propext zAa
theorem TD{d x:Nat}:wop Φ (l1 d x) K σ=af Φ (some d) (.ld (.t x) 1 false) K σ:=propext zAa
theorem Q7{d x:Nat}:aR Φ (l1 d x) K σ=ag Φ (some d) (.ld (.t x) 1 false) K σ:=propext zAa
theorem TC{d x n:Nat}:wop Φ (la d x n) K σ=af Φ (some d) (.ld (.t x) n true) K σ:=propext zAa
theorem Q6{d x n:Nat}:aR Φ (la d x n) K σ=ag Φ (some d) (.ld (.t x) n true) K σ:=propext zAa
theorem TF{d x i s:Nat}:wop Φ (ia d x i s) K σ=af Φ (some d) (.ia (.t x) (.t i) s) K σ:=propext zAa
theorem Q9{d x i s:Nat}:aR Φ (ia d x i s) K σ=ag Φ (some d) (.ia (.t x) (.t i) s) K σ:=propext zAa
theorem TE{d x i:Nat}:wop Φ (ix d x i) K σ=af Φ (some d) (.ixs (.t x) (.t i)) K σ:=propext zAa
theorem Q8{d x i:Nat}:aR Φ (ix d x i) K σ=ag Φ (some d) (.ixs (.t x) (.t i)) K σ:=propext zAa
theorem Tu{d x y:Nat}:wop Φ (pa d x y) K σ=af Φ (some d) (.pick (.t x) (.t y) (.v (.bool false))) K σ:=propext zAa
theorem QY{d x y:Nat}:aR Φ (pa d x y) K σ=ag Φ (some d) (.pick (.t x) (.t y) (.v (.bool false))) K σ:=propext zAa
theorem Tt{d x y:Nat}:wop Φ (po d x y) K σ=af Φ (some d) (.pick (.t x) (.v (.bool true)) (.t y)) K σ:=propext zAa
theorem QX{d x y:Nat}:aR Φ (po d x y) K σ=ag Φ (some d) (.pick (.t x) (.v (.bool true)) (.t y)) K σ:=propext zAa
theorem TK{d x i:Nat}:wop Φ (ex d x i) K σ=af Φ (some d) (.ext (.t x) i) K σ:=propext zAa
theorem Re{d x i:Nat}:aR Φ (ex d x i) K σ=ag Φ (some d) (.ext (.t x) i) K σ:=propext zAa
theorem TO{d x:Nat}:wop Φ (bx d x) K σ=af Φ (some d) (.box (.t x)) K σ:=propext zAa
theorem Ri{d x:Nat}:aR Φ (bx d x) K σ=ag Φ (some d) (.box (.t x)) K σ:=propext zAa
theorem Ts{n x y:Nat}:wop Φ (st n x y) K σ=af Φ (none) (.st n (.t x) (.t y)) K σ:=propext zAa
theorem QW{n x y:Nat}:aR Φ (st n x y) K σ=ag Φ (none) (.st n (.t x) (.t y)) K σ:=propext zAa
theorem TN{d f:Nat}{l:List Nat}:wop Φ (ca d f l) K σ=af Φ (some d) (.call f (ts l)) K σ:=propext zAa
theorem Rh{d f:Nat}{l:List Nat}:aR Φ (ca d f l) K σ=ag Φ (some d) (.call f (ts l)) K σ:=propext zAa
theorem TM{d f:Nat}{l:List Nat}:wop Φ (ch d f l) K σ=af Φ (some d) (.callH f (ts l)) K σ:=propext zAa
theorem Rg{d f:Nat}{l:List Nat}:aR Φ (ch d f l) K σ=ag Φ (some d) (.callH f (ts l)) K σ:=propext zAa
theorem TL{d g:Nat}{l:List Nat}:wop Φ (cv d g l) K σ=af Φ (some d) (.callv (.t g) (ts l)) K σ:=propext zAa
theorem Rf{d g:Nat}{l:List Nat}:aR Φ (cv d g l) K σ=ag Φ (some d) (.callv (.t g) (ts l)) K σ:=propext zAa
def skO(o:AOp)(K:St->Prop)(σ:St):Prop:=K (σ.put o.d (.tup []))
theorem RL{o:AOp}:skO o K σ=K (σ.put o.d (.tup [])):=propext zAa
def un(o:AOp):AOp:=⟨o.d,o.a,none⟩
theorem TG{t:Nat}{o:AOp}:wop Φ (gt t o) K σ=gM (lk σ.r t) true (wop Φ (un o) K) (skO o K) σ:=by
 simp only[gt,ND];rfl
theorem TH{t:Nat}{o:AOp}:wop Φ (gf t o) K σ=gM (lk σ.r t) false (wop Φ (un o) K) (skO o K) σ:=by
 simp only[gf,ND];rfl
theorem Ra{t:Nat}{o:AOp}:aR Φ (gt t o) K σ=gM (lk σ.r t) true (aR Φ (un o) K) (skO o K) σ:=by
 simp only[gt,Ib];rfl
theorem Rb{t:Nat}{o:AOp}:aR Φ (gf t o) K σ=gM (lk σ.r t) false (aR Φ (un o) K) (skO o K) σ:=by
 simp only[gf,Ib];rfl
theorem Qx{d:Nat}{a:Act'}:wop Φ (un (o1 d a)) K σ=af Φ (some d) (a) K σ:=propext zAa
theorem Ne{d:Nat}{a:Act'}:aR Φ (un (o1 d a)) K σ=ag Φ (some d) (a) K σ:=propext zAa
theorem Qy{a:Act'}:wop Φ (un (o0 a)) K σ=af Φ (none) (a) K σ:=propext zAa
theorem Nf{a:Act'}:aR Φ (un (o0 a)) K σ=ag Φ (none) (a) K σ:=propext zAa
theorem Tr{d x:Nat}:wop Φ (un (m d x)) K σ=af Φ (some d) (.mov (.t x)) K σ:=propext zAa
theorem QT{d x:Nat}:aR Φ (un (m d x)) K σ=ag Φ (some d) (.mov (.t x)) K σ:=propext zAa
theorem Qz{d:Nat}{v:V}:wop Φ (un (mv d v)) K σ=af Φ (some d) (.mov (.v v)) K σ:=propext zAa
theorem Ng{d:Nat}{v:V}:aR Φ (un (mv d v)) K σ=ag Φ (some d) (.mov (.v v)) K σ:=propext zAa
theorem QA{d:Nat}{n:Int}:wop Φ (un (mi d n)) K σ=af Φ (some d) (.mov (.v (.int .i64 n))) K σ:=propext zAa
theorem Nh{d:Nat}{n:Int}:aR Φ (un (mi d n)) K σ=ag Φ (some d) (.mov (.v (.int .i64 n))) K σ:=propext zAa
theorem QB{d:Nat}{b:Bool}:wop Φ (un (mb d b)) K σ=af Φ (some d) (.mov (.v (.bool b))) K σ:=propext zAa
theorem Ni{d:Nat}{b:Bool}:aR Φ (un (mb d b)) K σ=ag Φ (some d) (.mov (.v (.bool b))) K σ:=propext zAa
theorem QQ{d:Nat}{op:BinOp}{x y:Nat}:wop Φ (un (bt d op x y)) K σ=af Φ (some d) (.bin op (.t x) (.t y)) K σ:=propext zAa
theorem Ny{d:Nat}{op:BinOp}{x y:Nat}:aR Φ (un (bt d op x y)) K σ=ag Φ (some d) (.bin op (.t x) (.t y)) K σ:=propext zAa
theorem QS{d:Nat}{op:BinOp}{x:Nat}{n:Int}:wop Φ (un (bi d op x n)) K σ=af Φ (some d) (.bin op (.t x) (.v (.int .i64 n))) K σ:=propext zAa
theorem NA{d:Nat}{op:BinOp}{x:Nat}{n:Int}:aR Φ (un (bi d op x n)) K σ=ag Φ (some d) (.bin op (.t x) (.v (.int .i64 n))) K σ:=propext zAa
theorem QP{d:Nat}{op:BinOp}{x:Nat}{n:Int}:wop Φ (un (bu d op x n)) K σ=af Φ (some d) (.bin op (.t x) (.v (.int .u8 n))) K σ:=propext zAa
theorem Nw{d:Nat}{op:BinOp}{x:Nat}{n:Int}:aR Φ (un (bu d op x n)) K σ=ag Φ (some d) (.bin op (.t x) (.v (.int .u8 n))) K σ:=propext zAa
theorem QR{d:Nat}{op:BinOp}{x:Nat}{s:List UInt8}:wop Φ (un (bs d op x s)) K σ=af Φ (some d) (.bin op (.t x) (.v (.str s))) K σ:=propext zAa
theorem Nz{d:Nat}{op:BinOp}{x:Nat}{s:List UInt8}:aR Φ (un (bs d op x s)) K σ=ag Φ (some d) (.bin op (.t x) (.v (.str s))) K σ:=propext zAa
theorem Na{d x:Nat}:wop Φ (un (nt' d x)) K σ=af Φ (some d) (.un .not (.t x)) K σ:=propext zAa
theorem KV{d x:Nat}:aR Φ (un (nt' d x)) K σ=ag Φ (some d) (.un .not (.t x)) K σ:=propext zAa
theorem QC{d x:Nat}:wop Φ (un (ls d x)) K σ=af Φ (some d) (.lens (.t x)) K σ:=propext zAa
theorem Nj{d x:Nat}:aR Φ (un (ls d x)) K σ=ag Φ (some d) (.lens (.t x)) K σ:=propext zAa
theorem QD{d x:Nat}:wop Φ (un (lq d x)) K σ=af Φ (some d) (.lenq (.t x)) K σ:=propext zAa
theorem Nk{d x:Nat}:aR Φ (un (lq d x)) K σ=ag Φ (some d) (.lenq (.t x)) K σ:=propext zAa
theorem QJ{d x o:Nat}:wop Φ (un (fa d x o)) K σ=af Φ (some d) (.fa (.t x) o) K σ:=propext zAa
theorem Nq{d x o:Nat}:aR Φ (un (fa d x o)) K σ=ag Φ (some d) (.fa (.t x) o) K σ:=propext zAa
theorem QI{d x o:Nat}:wop Φ (un (fl d x o)) K σ=af Φ (some d) (.fld (.t x) o 1 false) K σ:=propext zAa
theorem Np{d x o:Nat}:aR Φ (un (fl d x o)) K σ=ag Φ (some d) (.fld (.t x) o 1 false) K σ:=propext zAa
theorem QF{d x:Nat}:wop Φ (un (l1 d x)) K σ=af Φ (some d) (.ld (.t x) 1 false) K σ:=propext zAa
theorem Nm{d x:Nat}:aR Φ (un (l1 d x)) K σ=ag Φ (some d) (.ld (.t x) 1 false) K σ:=propext zAa
theorem QE{d x n:Nat}:wop Φ (un (la d x n)) K σ=af Φ (some d) (.ld (.t x) n true) K σ:=propext zAa
theorem Nl{d x n:Nat}:aR Φ (un (la d x n)) K σ=ag Φ (some d) (.ld (.t x) n true) K σ:=propext zAa
theorem QH{d x i s:Nat}:wop Φ (un (ia d x i s)) K σ=af Φ (some d) (.ia (.t x) (.t i) s) K σ:=propext zAa
theorem No{d x i s:Nat}:aR Φ (un (ia d x i s)) K σ=ag Φ (some d) (.ia (.t x) (.t i) s) K σ:=propext zAa
theorem QG{d x i:Nat}:wop Φ (un (ix d x i)) K σ=af Φ (some d) (.ixs (.t x) (.t i)) K σ:=propext zAa
theorem Nn{d x i:Nat}:aR Φ (un (ix d x i)) K σ=ag Φ (some d) (.ixs (.t x) (.t i)) K σ:=propext zAa
theorem Qw{d x y:Nat}:wop Φ (un (pa d x y)) K σ=af Φ (some d) (.pick (.t x) (.t y) (.v (.bool false))) K σ:=propext zAa
theorem Nd{d x y:Nat}:aR Φ (un (pa d x y)) K σ=ag Φ (some d) (.pick (.t x) (.t y) (.v (.bool false))) K σ:=propext zAa
theorem Qv{d x y:Nat}:wop Φ (un (po d x y)) K σ=af Φ (some d) (.pick (.t x) (.v (.bool true)) (.t y)) K σ:=propext zAa
theorem Nc{d x y:Nat}:aR Φ (un (po d x y)) K σ=ag Φ (some d) (.pick (.t x) (.v (.bool true)) (.t y)) K σ:=propext zAa
theorem QK{d x i:Nat}:wop Φ (un (ex d x i)) K σ=af Φ (some d) (.ext (.t x) i) K σ:=propext zAa
theorem Nr{d x i:Nat}:aR Φ (un (ex d x i)) K σ=ag Φ (some d) (.ext (.t x) i) K σ:=propext zAa
theorem QO{d x:Nat}:wop Φ (un (bx d x)) K σ=af Φ (some d) (.box (.t x)) K σ:=propext zAa
theorem Nv{d x:Nat}:aR Φ (un (bx d x)) K σ=ag Φ (some d) (.box (.t x)) K σ:=propext zAa
theorem Qu{n x y:Nat}:wop Φ (un (st n x y)) K σ=af Φ (none) (.st n (.t x) (.t y)) K σ:=propext zAa
theorem Nb{n x y:Nat}:aR Φ (un (st n x y)) K σ=ag Φ (none) (.st n (.t x) (.t y)) K σ:=propext zAa
theorem QN{d f:Nat}{l:List Nat}:wop Φ (un (ca d f l)) K σ=af Φ (some d) (.call f (ts l)) K σ:=propext zAa
theorem Nu{d f:Nat}{l:List Nat}:aR Φ (un (ca d f l)) K σ=ag Φ (some d) (.call f (ts l)) K σ:=propext zAa
theorem QM{d f:Nat}{l:List Nat}:wop Φ (un (ch d f l)) K σ=af Φ (some d) (.callH f (ts l)) K σ:=propext zAa
theorem Nt{d f:Nat}{l:List Nat}:aR Φ (un (ch d f l)) K σ=ag Φ (some d) (.callH f (ts l)) K σ:=propext zAa
theorem QL{d g:Nat}{l:List Nat}:wop Φ (un (cv d g l)) K σ=af Φ (some d) (.callv (.t g) (ts l)) K σ:=propext zAa
theorem Ns{d g:Nat}{l:List Nat}:aR Φ (un (cv d g l)) K σ=ag Φ (some d) (.callv (.t g) (ts l)) K σ:=propext zAa
theorem d_o1{d:Nat}{a:Act'}:(o1 d a).d=some d:=rfl
theorem d_o0{a:Act'}:(o0 a).d=none:=rfl
theorem d_m{d x:Nat}:(m d x).d=some d:=rfl
theorem d_mv{d:Nat}{v:V}:(mv d v).d=some d:=rfl
theorem d_mi{d:Nat}{n:Int}:(mi d n).d=some d:=rfl
theorem d_mb{d:Nat}{b:Bool}:(mb d b).d=some d:=rfl
theorem d_bt{d:Nat}{op:BinOp}{x y:Nat}:(bt d op x y).d=some d:=rfl
theorem d_bi{d:Nat}{op:BinOp}{x:Nat}{n:Int}:(bi d op x n).d=some d:=rfl
theorem d_bu{d:Nat}{op:BinOp}{x:Nat}{n:Int}:(bu d op x n).d=some d:=rfl
theorem d_bs{d:Nat}{op:BinOp}{x:Nat}{s:List UInt8}:(bs d op x s).d=some d:=rfl
theorem d_ntp{d x:Nat}:(nt' d x).d=some d:=rfl
theorem d_ls{d x:Nat}:(ls d x).d=some d:=rfl
theorem d_lq{d x:Nat}:(lq d x).d=some d:=rfl
theorem d_fa{d x o:Nat}:(fa d x o).d=some d:=rfl
theorem d_fl{d x o:Nat}:(fl d x o).d=some d:=rfl
theorem d_l1{d x:Nat}:(l1 d x).d=some d:=rfl
theorem d_la{d x n:Nat}:(la d x n).d=some d:=rfl
theorem d_ia{d x i s:Nat}:(ia d x i s).d=some d:=rfl
theorem d_ix{d x i:Nat}:(ix d x i).d=some d:=rfl
theorem d_pa{d x y:Nat}:(pa d x y).d=some d:=rfl
theorem d_po{d x y:Nat}:(po d x y).d=some d:=rfl
theorem d_ex{d x i:Nat}:(ex d x i).d=some d:=rfl
theorem d_bx{d x:Nat}:(bx d x).d=some d:=rfl
theorem d_st{n x y:Nat}:(st n x y).d=none:=rfl
theorem d_ca{d f:Nat}{l:List Nat}:(ca d f l).d=some d:=rfl
theorem d_ch{d f:Nat}{l:List Nat}:(ch d f l).d=some d:=rfl
theorem d_cv{d g:Nat}{l:List Nat}:(cv d g l).d=some d:=rfl
theorem d_un{o:AOp}:(un o).d=o.d:=rfl
theorem W_Q1{a:AC}:W Φ (Q [a]) Q' σ=W Φ a Q' σ:=propext zAa
theorem W_Q2{a b:AC}{l:List AC}:W Φ (Q (a::b::l)) Q' σ=W Φ a (Ex.then (W Φ (Q (b::l)) Q') Q') σ:=propext zAa
theorem W_C{c:Nat}{a b:AC}:W Φ (C c a b) Q' σ=cM (lk σ.r c) (W Φ a Q') (W Φ b Q') σ:=propext zAa
end
attribute [simp] RL TG TH Ra Rb W_Q1 W_Q2 W_C Tv QZ Qx Ne Tw Q0 Qy Nf wop_m TU Tr QT Tx Q1 Qz Ng Ty Q2 QA Nh Tz Q3 QB Ni TQ Rk QQ Ny TS Rm QS NA TP Rj QP Nw TR Rl QR Nz QU NF Na KV TA Q4 QC Nj TB Q5 QD Nk TJ Rd QJ Nq TI Rc QI Np TD Q7 QF Nm TC Q6 QE Nl TF Q9 QH No TE Q8 QG Nn Tu QY Qw Nd Tt QX Qv Nc TK Re QK Nr TO Ri QO Nv Ts QW Qu Nb TN Rh QN Nu TM Rg QM Nt TL Rf QL Ns
attribute [simp] Cn_p Cn_n Cn_e ts d_o1 d_o0 d_m d_mv d_mi d_mb d_bt d_bi d_bu d_bs d_ntp d_ls d_lq d_fa d_fl d_l1 d_la d_ia d_ix d_pa d_po d_ex d_bx d_st d_ca d_ch d_cv d_un
structure Env where
 p:FuncId->List V->Option (V×Bool)
 ps:FuncId->Option (List Nat)
 h:FuncId->List V->List (Option Ob)->Option (V×List (Option Ob))
structure EnvOK (env:Env) (Φ:Ctr):Prop where
 p:∀f us r nw,env.p f us=some (r,nw)->Φ.p f us r/\(nw=true->Φ.n f us r)
 h:∀f us H r H' ps,env.ps f=some ps->env.h f us H=some (r,H')->Φ.e f ps us H r H'
section
variable{env:Env}{Φ:Ctr}(hE:EnvOK env Φ){d:Option Nat}{σ τ:St}{K:St->Prop}
include hE
end
end Go.Abs
end
section
namespace Go.Abs
open Go.RowKit
end Go.Abs
end
section
namespace Go.Abs
open Go.RowKit
section
variable{P:Program}{N:Nat}{M0:Mem}{B:Bas}{w0:World}{κ:Kap}{M:Mem}{σ:St}{a:Act}{w w':World}
theorem Rel.stay(H:Rel N M0 B w0 κ M σ a w)(hu:Und B w w')(hb:∀g,fM κ σ.h g->w'.heap[g]?=w.heap[g]?)(hs:∀p v,M p=some v->w'.cell? p=some v):Rel N M0 B w0 κ M σ a w':=
 { dfr:=H.dfr,jst:=H.jst,pin:=H.pin,size:=H.size,regs:=H.regs
   heap:=fun id ob h=>dv (fun _ _ h=>h) (fun _ _ h=>h) ⟨rfl,rfl,rfl⟩ (fun g hg=>hb g ⟨id,ob,h,hg⟩) H.jst hu hs (H.heap id ob h)
   inj:=H.inj,snd:=hs,sep:=H.sep,sub:=H.sub,new:=H.new,base:=H.base,blw:=H.blw.trans hu }
def IA(o:Obj):Prop:=∀c e z,o≠.cells c e z
theorem pI{l:Nat}{o:Obj}(hl:w.heap[l]?=some o)(ho:IA o){p:Addr}{v:Value}(h:w.cell? p=some v):p.block≠l:=by
 intro e;unfold World.cell? at h;rw[e,hl]at h;cases o<;>first|exact ho _ _ _ rfl|cases h
theorem oU{l:Nat}{o o':Obj}(hl:w.heap[l]?=some o)(ho:IA o){p:Addr}{v:Value}(h:w.cell? p=some v):(w.putObj l o').cell? p=some v:=by
 rw[World.cell?_of_block (World.putObj_heap_other (pI hl ho h))];exact h
theorem J8{l:Nat}{o o':Obj}(hl:w.heap[l]?=some o)(ho:IA o):Siz w (w.putObj l o'):=by
 intro k cur T z hc;have:k≠l:=by rintro rfl;rw[hl]at hc;exact ho _ _ _ (zEe.inj hc)
 exact⟨cur,T,z,by rw[World.putObj_heap_other this];exact hc,rfl⟩
theorem w7{l:Nat}{o o':Obj}(hl:w.heap[l]?=some o)(ho:IA o)(hB:B.n<=l):Und B w (w.putObj l o'):=
 ⟨rfl,rfl,rfl,by simp,fun k hk hs=>World.putObj_heap_other (by omega),J8 hl ho⟩
theorem dZ{r:Loop}:IA (.loop r):=fun _ _ _ h=>by cases h
theorem oc{d:Option (List Deferred)}:IA (.deferred d):=fun _ _ _ h=>by cases h
def St.ids(σ:St)(ks:List Nat):List Nat:=ce (ce (ce (dG σ.h) (Iq (pk σ.r ks))) (sQ σ.h (ce (dG σ.h) (Iq (pk σ.r ks))))) (sQ σ.h (ce (ce (dG σ.h) (Iq (pk σ.r ks))) (sQ σ.h (ce (dG σ.h) (Iq (pk σ.r ks))))))
theorem Iz{ks:List Nat}:σ.nrm ks={ r:=zK (σ.ids ks) (pk σ.r ks),h:=jI σ.h (σ.ids ks) (σ.ids ks) }:=rfl
theorem Mc{ks:List Nat}:(σ.ids ks).Nodup:=bT _ _ (bT _ _ (bT _ _ lc))
theorem Rel.nrm'(H:Rel N M0 B w0 κ M σ a w)(ks:List Nat):Rel N M0 B w0 (κ.ren (σ.ids ks)) M (σ.nrm ks) a w:=by
 rw[Iz];exact H.ren Mc BI _ (fun t v h=>F6 h)
theorem uz{r:List (Nat×V)}:∀{ks:List Nat}{t:Nat}{v:V},lk (pk r ks) t=some v->t∈ks
 |[],_,_,h=>by simp[pk,lk]at h
 |k::ks,t,v,h=>by
   simp only[pk]at h;split at h
   ·simp only[lk]at h
    split at h
    ·rename_i he;simp[he]
    ·exact zCb _ (uz h)
   ·exact zCb _ (uz h)
theorem IP{ks:List Nat}{t:Nat}{v:V}(h:lk (σ.nrm ks).r t=some v):t∈ks:=by
 rw[Iz]at h;obtain⟨u,h1,_⟩:=Dm h;exact uz h1
def H5(N:Nat)(M0:Mem)(B:Bas)(w0:World)(a:Act)(ks:List Nat)(l D:Nat)(τ:St)(r:Loop)(S:Nat->Prop)(Mm:Mem)(W:World):Prop:=
 ∃κi Mi,Rel N M0 B w0 κi Mi τ a W/\(∀t v,lk τ.r t=some v->t∈ks)/\(∀p v,Mi p=some v->Mm p=some v)/\W.heap[l]?=some (.loop r)/\W.heap[D]?=some (.deferred (some []))/\
   (∀g,S g↔fM κi τ.h g\/g=l\/g=D)/\∀g,fM κi τ.h g->g≠l/\g≠D
theorem H5.stay{ks:List Nat}{l D:Nat}{τ:St}{r:Loop}{S:Nat->Prop}{Mm Mm':Mem}{W W':World}(h:H5 N M0 B w0 a ks l D τ r S Mm W)(hu:Und B W W')(hS:∀g,S g->W'.heap[g]?=W.heap[g]?)
 (hm:∀p v,Mm p=some v->Mm' p=some v) (hs:∀p v,Mm' p=some v->W'.cell? p=some v):H5 N M0 B w0 a ks l D τ r S Mm' W':=by
 obtain⟨κi,Mi,h1,h2,h3,h4,h5,h6,h7⟩:=h;exact⟨κi,Mi,h1.stay hu (fun g hg=>hS g ((h6 g).2 (.inl hg))) (fun p v hp=>hs p v (hm p v (h3 p v hp))),h2,fun p v hp=>hm p v (h3 p v hp),by rw[hS l ((h6 l).2 (.inr (.inl rfl)))];exact h4,by rw[hS D ((h6 D).2 (.inr (.inr rfl)))];exact h5,h6,h7⟩
def xo:List Nat->List V->List (Nat×V)->List (Nat×V)
 |t::ts,v::vs,r=>xo ts vs ((t,v)::r)
 |_,_,r=>r
theorem Rel.zip:∀{ts:List Nat}{us:List V}{cs:List Value}{r:List (Nat×V)}{h:List (Option Ob)}{T:Array Value},Rel N M0 B w0 κ M ⟨r,h⟩ ⟨T,[]⟩ w->ae M NX us cs->(∀t∈ts,t<N/\t ∉ B.ps)->
 Rel N M0 B w0 κ M ⟨xo ts us r,h⟩ ⟨(ts.zip cs).foldl (fun tmps (x:Nat×Value)=>tmps.setIfInBounds x.1 x.2) T,[]⟩ w
 |[],us,cs,r,h,T,H,_,_=>by cases us<;>simpa[xo]using H
 |t::ts,[],cs,r,h,T,H,hu,_=>by
   simp only[ae]at hu;subst hu;simpa[xo]using H
 |t::ts,u::us,cs,r,h,T,H,hu,ht=>by
   simp only[ae]at hu;obtain⟨c,cs',rfl,h1,h2⟩:=hu;have:=H.put (d:=t) (ht t (by simp)) (aE (X:=XX κ h) h1)
   simp only[xo,List.zip_cons_cons,List.foldl_cons];exact Rel.zip (this:Rel N M0 B w0 κ M ⟨(t,u)::r,h⟩ ⟨T.setIfInBounds t c,[]⟩ w) h2 fun t' h'=>ht t' (by simp[h'])
def CT(κi:Kap)(h:List (Option Ob))(W:World)(ks:List Nat)(cs:Array Value)(fb:Nat)(gq:Nat->Nat->Nat->Nat->Nat->Value->Prop):Bas:=⟨W.heap.size,fM κi h,ks,cs,fb,noJ,[],gq⟩
structure Calm (w w':World):Prop where
 os:w'.os=w.os
 tape:w'.tape=w.tape
 output:w'.output=w.output
 size:w.heap.size<=w'.heap.size
 siz:Siz w w'
theorem Calm.refl(w:World):Calm w w:=⟨rfl,rfl,rfl,zBg _,fun _ cur T z h=>⟨cur,T,z,h,rfl⟩⟩
theorem Calm.trans{w1 w2 w3:World}(h:Calm w1 w2)(k:Calm w2 w3):Calm w1 w3:=
 ⟨k.os.trans h.os,k.tape.trans h.tape,k.output.trans h.output,zDe h.size k.size,fun i cur T z hc=>by
   obtain⟨c1,T1,z1,h1,e1⟩:=h.siz i cur T z hc;obtain⟨c2,T2,z2,h2,e2⟩:=k.siz i c1 T1 z1 h1;exact⟨c2,T2,z2,h2,e2.trans e1⟩⟩
theorem Calm.of_und(h:Und B w w'):Calm w w':=⟨h.os,h.tape,h.output,h.size,h.siz⟩
theorem zi{l:Nat}{o o':Obj}(hl:w.heap[l]?=some o)(ho:IA o):Calm w (w.putObj l o'):=⟨rfl,rfl,rfl,by simp,J8 hl ho⟩
theorem ij{B':Bas}{M':Mem}{X:V->Value->Prop}{id:Nat}{ob:Ob}(hJ:B.J=noJ)(hM:∀p v,M p=some v->M' p=some v)(hw:∀g,κ.bl id g->w'.heap[g]?=w.heap[g]?)(hc:Calm w w')(hs:∀p v,M' p=some v->w'.cell? p=some v)(ho:∀g,κ.bl id g->B'.own g)(hJ':B'.J=noJ)(hgq:B'.gq=B.gq)
 (h:aG κ M X B w id ob):aG κ M' X B' w' id ob:=by
 have h1:aG κ M X ⟨0,fun _=>True,[],#[],0,noJ,[],B.gq⟩ w id ob:=cT (B:=B) (fun g hg=>.inl (zBj _)) hJ.symm (fun ms e=>by subst e;exact h.2.2.2.2.2) h
 have h2:aG κ M' X ⟨0,fun _=>True,[],#[],0,noJ,[],B.gq⟩ w' id ob:=dv hM (fun _ _ h=>h) ⟨rfl,rfl,rfl⟩ hw (l9 rfl) ⟨hc.os,hc.tape,hc.output,hc.size,fun k hk=>absurd hk (zDj _),hc.siz⟩ hs h1;exact cT (B':=B') ho hJ' (fun ms e=>by subst e;rw[hgq];exact h2.2.2.2.2.2) h2
theorem Rel.rnd{κi:Kap}{Mi Mm:Mem}{τ:St}{W W':World}{ks:List Nat}{cs:Array Value}(hJ:B.J=noJ)(H:Rel N M0 B w0 κi Mi τ a W)(hpin:∀i,i∈ks->a.tmps[i]?=cs[i]?)(hc:Calm W W')(hb:∀g,fM κi τ.h g->W'.heap[g]?=W.heap[g]?)
 (hm:∀p v,Mi p=some v->Mm p=some v) (hMs:Snd Mm W') (hsep:∀p v,Mm p=some v->¬fM κi τ.h p.block):Rel N Mm (CT κi τ.h W' ks cs B.fb B.gq) W' κi Mm τ ⟨a.tmps,[]⟩ W':=
 { dfr:=rfl
   jst:=l9 rfl
   pin:=hpin
   size:=H.size
   regs:=fun t v ht=>let ⟨h1,c,h2,h3⟩:=H.regs t v ht;⟨h1,c,h2,ax hm (fun _ _ h=>h) _ _ h3⟩
   heap:=fun id ob h=>ij hJ hm (fun g hg=>hb g ⟨id,ob,h,hg⟩) hc hMs.snd (fun g hg=>.inr ⟨id,ob,h,hg⟩) rfl rfl (H.heap id ob h)
   inj:=H.inj,snd:=hMs.snd
   sep:=fun p v hp id ob h hg=>hsep p v hp ⟨id,ob,h,hg⟩
   sub:=⟨fun _ _ h=>h,fun p v h=>hm p v (H.sub.fmS p v h),H.sub.fmN,zDe H.sub.fbn (by show B.n<=W'.heap.size;rw[H.base];exact zDe H.blw.size hc.size),hMs.gl⟩
   new:=fun _ _ h=>.inl h
   base:=rfl
   blw:=Und.refl _ _ }
structure Mid (S:Nat->Prop) (l:Nat) (Mm:Mem) (W:World) (B2:Bas) (M1:Mem) (W1:World):Prop where
 calm:Calm W W1
 block:∀g,g<W.heap.size->¬S g->g≠l->W1.heap[g]?=W.heap[g]?
 own:∀g,B2.own g->W.heap.size<=g\/S g
 mem:∀p v,Mm p=some v->M1 p=some v
 new:∀p v,M1 p=some v->Mm p=some v\/W.heap.size<=p.block\/S p.block
theorem Mid.refl{κi:Kap}{h:List (Option Ob)}{l:Nat}{Mm:Mem}{W:World}{ks:List Nat}{cs:Array Value}{fb:Nat}{gq:Nat->Nat->Nat->Nat->Nat->Value->Prop}:Mid (fM κi h) l Mm W (CT κi h W ks cs fb gq) Mm W:=
 ⟨Calm.refl _,fun _ _ _ _=>rfl,fun g h=>h,fun _ _ h=>h,fun _ _ h=>.inl h⟩
theorem Mid.next{S:Nat->Prop}{l:Nat}{Mm M1 M2:Mem}{W W1 W2 W':World}{B2:Bas}{κ2:Kap}{τ2:St}{a2:Act}{ks:List Nat}{cs:Array Value}{fb:Nat}{gq:Nat->Nat->Nat->Nat->Nat->Value->Prop}(h:Mid S l Mm W B2 M1 W1)(H:Rel N M1 B2 W1 κ2 M2 τ2 a2 W2)(hc:Calm W2 W')(hb:∀g,g≠l->W'.heap[g]?=W2.heap[g]?):
 Mid S l Mm W (CT κ2 τ2.h W' ks cs fb gq) M2 W':=by
 have ho:∀g,B2.own g->W.heap.size<=g\/S g:=h.own;refine⟨(h.calm.trans (.of_und H.blw)).trans hc,fun g hg hS hl=>?_,fun g hg=>?_,fun p v hp=>H.sub.sub p v (h.mem p v hp),fun p v hp=>?_⟩
 ·have hn:B2.n=W1.heap.size:=H.base
  rw[hb g hl,H.blw.block g (by rw[hn];have:=h.calm.size;omega) (fun hs=>(ho g (.inr hs)).elim (fun h=>by omega) hS)]
  exact h.block g hg hS hl
 ·rcases hg with hg|⟨id,ob,h1,h2⟩
  ·have hg:W'.heap.size<=g:=hg
   have:=h.calm.size;have:=H.blw.size;have:=hc.size;exact .inl (by omega)
  ·exact ho g (H.blk_lt h1 h2).1
 ·rcases H.new p v hp with h1|h1
  ·exact h.new p v h1
  ·exact .inr (ho _ h1)
theorem Rel.unrnd{κi κ2:Kap}{Mi Mm M1 M2:Mem}{τ τ2:St}{W W1 W2:World}{ks:List Nat}{a2:Act}{B2:Bas}{l:Nat}(hJ:B.J=noJ)(H:Rel N M0 B w0 κi Mi τ a W)(hm:∀p v,Mi p=some v->Mm p=some v)(hnew:∀p v,Mm p=some v->M0 p=some v\/B.own p.block)(hl:B.n<=l)
 (h:Mid (fM κi τ.h) l Mm W B2 M1 W1) (hps:B2.ps=ks) (hcs:B2.cs=a.tmps) (hfb:B2.fb=B.fb/\B2.gq=B.gq) (hJ2:B2.J=noJ) (H2:Rel N M1 B2 W1 κ2 M2 τ2 a2 W2) (hk:∀t v,lk τ2.r t=some v->t∈ks):Rel N M0 B w0 κ2 M2 τ2 a W2:=by
 have hBn:B.n<=W.heap.size:=by rw[H.base];exact H.blw.size
 have ho:∀g,B2.own g->B.own g:=fun g hg=>(h.own g hg).elim (fun h=>.inl (by omega)) fun⟨id,ob,h1,h2⟩=>(H.blk_lt h1 h2).1
 have hu1:Und B W W1:=⟨h.calm.os,h.calm.tape,h.calm.output,h.calm.size,fun k hk hs=>h.block k (by omega) (fun⟨id,ob,h1,h2⟩=>(H.blk_lt h1 h2).1.elim (fun h=>by omega) hs) (by omega),h.calm.siz⟩
 have hu2:Und B W1 W2:=⟨H2.blw.os,H2.blw.tape,H2.blw.output,H2.blw.size,fun k hk hs=>H2.blw.block k (by rw[H2.base];have:=h.calm.size;omega) (fun h2=>(ho k (.inr h2)).elim (fun h=>by omega) hs),H2.blw.siz⟩
 exact
 { dfr:=H.dfr,jst:=H.jst,pin:=H.pin,size:=H.size
   regs:=fun t v ht=>by
    obtain⟨h1,c,h2,h3⟩:=H2.regs t v ht;rw[H2.pin t (by rw[hps];exact hk t v ht),hcs]at h2
    exact⟨h1,c,h2,h3⟩
   heap:=fun id ob h=>cT (B:=B2) (fun g hg=>ho g (H2.blk_lt h hg).1) (by rw[hJ,hJ2]) (fun ms e=>by subst e;rw[<-hfb.2];exact(H2.heap id _ h).2.2.2.2.2) (H2.heap id ob h)
   inj:=H2.inj,snd:=H2.snd,sep:=H2.sep
   sub:=⟨fun p v hp=>H2.sub.sub p v (h.mem p v (hm p v (H.sub.sub p v hp))),H2.sub.fmS,fun p v hp=>by rw[<-hfb.1];exact H2.sub.fmN p v hp,H.sub.fbn,H.sub.gl⟩
   new:=fun p v hp=>(H2.new p v hp).elim (fun h1=>(h.new p v h1).elim (hnew p v) fun h2=>.inr (h2.elim (fun h=>.inl (by omega)) fun⟨id,ob,h1,h2⟩=>(H.blk_lt h1 h2).1)) fun h=>.inr (ho _ h)
   base:=H.base
   blw:=(H.blw.trans hu1).trans hu2 }
theorem Fp(hmx:P.follows .mixedOrders=true)(hJ:B.J=noJ){ρ:Option Nat}{ks:List Nat}{ps:Array Nat}{assign body:Code}{xa xb:AC}(hLa:LC P N ks assign xa)(hLb:LC P N ks body xb){κi:Kap}{Mi Mm:Mem}{τ:St}{w1:World}{l D fnid:Nat}{r:Loop}
 (H:Rel N M0 B w0 κi Mi τ a w1) (hm:∀p v,Mi p=some v->Mm p=some v) (hl:w1.heap[l]?=some (.loop r)) (hlD:∀g,fM κi τ.h g->g≠l/\g≠D) (hr:r.state=.ready)
 (hMs:Snd Mm w1) (hsep:∀p v,Mm p=some v->¬fM κi τ.h p.block)
 {us:List V} {cs:Array Value} (hus:ae Mm NX us cs.toList) (hps:∀t∈ps.toList,t<N/\t ∉ ks) {R:Ending->World->Prop} {post:Ex->St->Prop}
 (hW:W (Cn P) xa (Ex.then (W (Cn P) xb post) (fun _ _=>False)) ⟨xo ps.toList us τ.r,τ.h⟩)
 (hpost:∀e τ2 κ2 M1 M2 a2 W1 W2 B2,post e τ2->Mid (fM κi τ.h) l Mm w1 B2 M1 W1->B2.ps=ks->B2.cs=a.tmps->(B2.fb=B.fb/\B2.gq=B.gq)->B2.J=noJ->Rel N M1 B2 W1 κ2 M2 τ2 a2 W2->W2.heap[l]?=some (.loop { r with state:=.busy })->roundPost P l R e.out a2 W2):
 RoundIn (FR ρ) 0 P l fnid ((ps.zip cs).foldl (fun tmps (x:Nat×Value)=>tmps.setIfInBounds x.1 x.2) a.tmps) assign body w1 R:=by
 have H0:Rel N Mm (CT κi τ.h w1 ks a.tmps B.fb B.gq) w1 κi Mm τ ⟨a.tmps,[]⟩ w1:=H.rnd hJ (fun _ _=>rfl) (Calm.refl _) (fun _ _=>rfl) hm hMs hsep;have H1:=Rel.zip H0 hus hps
 have e1:(ps.zip cs).foldl (fun tmps (x:Nat×Value)=>tmps.setIfInBounds x.1 x.2) a.tmps=(ps.toList.zip cs.toList).foldl (fun tmps (x:Nat×Value)=>tmps.setIfInBounds x.1 x.2) a.tmps:=by
  rw[<-Array.foldl_toList,Array.toList_zip]
 rw[e1];have hll:l<w1.heap.size:=(zAd.1 hl).1;have hnl:¬fM κi τ.h l:=fun h=>(hlD l h).1 rfl;refine roundIn_of_wpIn (F:=FR ρ) trivial (nk (ρ:=some l) hmx (ma rfl) (B:=CT κi τ.h w1 ks a.tmps B.fb B.gq) hLa ?_ H1 hW);intro e κa Ma τa aa Wa hR Ha;cases e with
 |norm=>
   have hla:Wa.heap[l]?=some (.loop r):=by rw[Ha.blw.block l hll hnl];exact hl
   refine⟨_,run_beginRound hla hr,?_⟩;have hnl2:¬fM κa τa.h l:=fun⟨id,ob,h1,h2⟩=>(Ha.blk_lt h1 h2).1.elim (fun h=>absurd h (Nat.not_le.2 hll)) hnl;have hcp:Calm Wa (Wa.putObj l (.loop { r with state:=.busy })):=zi hla dZ
   have hsn:∀p v,Ma p=some v->(Wa.putObj l (.loop { r with state:=.busy })).cell? p=some v:=fun p v hp=>oU hla dZ (Ha.snd p v hp)
   have Hb:Rel N Ma (CT κa τa.h (Wa.putObj l (.loop { r with state:=.busy })) ks a.tmps B.fb B.gq) (Wa.putObj l (.loop { r with state:=.busy })) κa Ma τa ⟨aa.tmps,[]⟩ (Wa.putObj l (.loop { r with state:=.busy })):=
    Rel.rnd (B:=CT κi τ.h w1 ks a.tmps B.fb B.gq) rfl Ha Ha.pin hcp (fun g hg=>World.putObj_heap_other (fun e=>hnl2 (e ▸ hg))) (fun _ _ h=>h) ⟨hsn,Ha.sub.gl.mono Ha.sub.sub⟩ (fun p v hp ⟨id,ob,h1,h2⟩=>Ha.sep p v hp id ob h1 h2)
   have ea:aa=⟨aa.tmps,[]⟩:=by have:=Ha.dfr;cases aa;simp only at this;rw[this];rfl
   rw[ea];have hMid:Mid (fM κi τ.h) l Mm w1 (CT κa τa.h (Wa.putObj l (.loop { r with state:=.busy })) ks a.tmps B.fb B.gq) Ma (Wa.putObj l (.loop { r with state:=.busy })):=Mid.refl.next Ha hcp (fun g hg=>World.putObj_heap_other hg)
   refine nk (ρ:=some l) hmx (ma rfl) (B:=CT κa τa.h (Wa.putObj l (.loop { r with state:=.busy })) ks a.tmps B.fb B.gq) hLb ?_ Hb hR
   intro e κ2 M2 τ2 a2 W2 hp H2;refine hpost e τ2 κ2 Ma M2 a2 _ W2 _ hp hMid rfl rfl ⟨rfl,rfl⟩ rfl H2 ?_;have hl3:l<Wa.heap.size:=(zAd.1 hla).1;rw[H2.blw.block l (by show l<(Wa.putObj l _).heap.size;simpa using hl3) hnl2]
   exact World.putObj_heap_same hl3
 |exit id=>exact hR.elim
 |goto l=>exact hR.elim
 |ret=>exact hR.elim
end
section
variable{P:Program}{N:Nat}{M0:Mem}{B:Bas}{w0:World}{κ:Kap}{M:Mem}{σ:St}{a:Act}{w w':World}
def HY(st:Nat->St)(stx:St)(ks:List Nat)(i:Nat)(b:Bool):Ex->St->Prop
 | .norm,τ=>b=true/\∃ms τ',τ.mats ms=some τ'/\τ'.nrm ks=st (i+1)
 | .ret,τ=>b=false/\∃ms τ',τ.mats ms=some τ'/\τ'.nrm ks=stx
 |_,_=>False
def og(fn:FuncId)(a:Act)(ps:Array Tmp)(assign body:Code)(D:Nat)(s:LoopState)(p:Option Code):Loop:={ state:=s,pending:=p,fn,tmps:=a.tmps,params:=ps,assign,body,defers:=D }
def WH(N:Nat)(M0:Mem)(B:Bas)(w0:World)(a:Act)(ks:List Nat)(l D:Nat)(full:List (V×Bool))(st:Nat->St)(stx:St)(rec:LoopState->Option Code->Loop):Nat->List (V×Bool)->(Nat->Prop)->Mem->World->Prop:=fun k ann S Mm W=>k=l/\
 ((∃i,ann=full.drop i/\i<=full.length/\(∀(j:Nat)(v:V)(b:Bool),j<i->full[j]?=some (v,b)->b=true)/\H5 N M0 B w0 a ks l D (st i) (rec .ready none) S Mm W)\/
  (ann=[]/\(∃(j:Nat)(v:V),full[j]?=some (v,false))/\H5 N M0 B w0 a ks l D stx (rec .done (some .ret)) S Mm W))
theorem BA {ks:List Nat} {κi κ2:Kap} {Mi Mm M1 M2:Mem} {τ τ2:St} {W1 W2:World} {a2:Act} {B2:Bas} {l D:Nat} {S:Nat→Prop} {r r2:Loop} (hJ:B.J=noJ) (H:Rel N M0 B w0 κi Mi τ a w) (hm:∀ p v,Mi p=some v→Mm p=some v)
 (hnew:∀ p v,Mm p=some v→M0 p=some v∨B.own p.block) (hl:B.n≤l) (hld:l≠D) (hS:∀ g,S g↔fM κi τ.h g∨g=l∨g=D) (hlD:∀ g,fM κi τ.h g→g≠l∧g≠D) (hlw:l < w.heap.size) (hD:w.heap[D]?=some (.deferred (some [])))
 (h:Mid (fM κi τ.h) l Mm w B2 M1 W1) (hps:B2.ps=ks) (hcs:B2.cs=a.tmps) (hfb:B2.fb=B.fb∧B2.gq=B.gq) (hJ2:B2.J=noJ) (H2:Rel N M1 B2 W1 κ2 M2 τ2 a2 W2) (hk:∀ t v,lk τ2.r t=some v→t∈ks) (hl2:W2.heap[l]?=some (.loop r)):
 H5 N M0 B w0 a ks l D τ2 r2 (fun g=>fM κ2 τ2.h g∨g=l∨g=D) M2 (W2.putObj l (.loop r2))∧EnvStep S w (fun g=>fM κ2 τ2.h g∨g=l∨g=D) Mm M2 (W2.putObj l (.loop r2)):=by
 have hDw:D < w.heap.size:=(zAd.1 hD).1
 have hbk:∀ g,fM κ2 τ2.h g→w.heap.size≤g∨fM κi τ.h g:=fun g ⟨id,ob,h1,h2⟩=>h.own g (H2.blk_lt h1 h2).1
 have hb2:∀ g,fM κ2 τ2.h g→g≠l∧g≠D:=fun g hg=>(hbk g hg).elim (fun h=>⟨by omega,by omega⟩) (hlD g)
 have hW:∀ g,g < w.heap.size→¬fM κi τ.h g→g≠l→W2.heap[g]?=w.heap[g]?:=fun g hg hS hl=>by
  rw [H2.blw.block g (by rw [H2.base]; have:=h.calm.size; omega) (fun hs=>(h.own g (.inr hs)).elim (fun h=>by omega) hS)]
  exact h.block g hg hS hl
 have hD2:W2.heap[D]?=some (.deferred (some [])):=by rw [hW D hDw (fun hd=>(hlD D hd).2 rfl) (Ne.symm hld)]; exact hD
 have hl3:l < W2.heap.size:=(zAd.1 hl2).1
 have hcm:Calm w W2:=h.calm.trans (.of_und H2.blw)
 have hcp:=zi (o':=.loop r2) hl2 dZ
 have hR:=Rel.unrnd hJ H hm hnew hl h hps hcs hfb hJ2 H2 hk
 have hs3:∀ p v,M2 p=some v→(W2.putObj l (.loop r2)).cell? p=some v:=fun p v hp=>oU hl2 dZ (H2.snd p v hp)
 have hS3:∀ p v,M2 p=some v→¬(fM κ2 τ2.h p.block∨p.block=l∨p.block=D):=fun p v hp=>by
  rintro (⟨id,ob,h1,h2⟩ | h1 | h1)
  · exact H2.sep p v hp id ob h1 h2
  · exact pI hl2 dZ (H2.snd p v hp) h1
  · exact pI hD2 oc (H2.snd p v hp) h1
 refine ⟨⟨κ2,M2,hR.stay (w7 hl2 dZ hl) (fun g hg=>World.putObj_heap_other (hb2 g hg).1) hs3,hk,fun _ _ h=>h,World.putObj_heap_same hl3,by rw [World.putObj_heap_other (Ne.symm hld)]; exact hD2,fun g=>zAa,hb2⟩,?_⟩
 have hc3:=hcm.trans hcp
 exact { os:=hc3.os,tape:=hc3.tape,output:=hc3.output,size:=hc3.size
         block:=fun g hg hn=>by
          have:g≠l:=fun e=>hn ((hS g).2 (.inr (.inl e)))
          rw [World.putObj_heap_other this]
          exact hW g hg (fun hb=>hn ((hS g).2 (.inl hb))) this
         siz:=hc3.siz
         mem:=fun p v hp=>H2.sub.sub p v (h.mem p v hp)
         snd:=hs3
         new:=fun p v hp=>by
          rcases H2.new p v hp with h1 | h1
          · rcases h.new p v h1 with h2 | h2 | h2
            · exact .inl h2
            · exact .inr (.inl h2)
            · exact .inr (.inr ((hS _).2 (.inl h2)))
          · rcases h.own _ h1 with h2 | h2
            · exact .inr (.inl h2)
            · exact .inr (.inr ((hS _).2 (.inl h2)))
         sep:=hS3
         sub:=fun g hg=>by
          rcases hg with hg | hg | hg
          · exact (hbk g hg).elim .inr fun h=>.inl ((hS g).2 (.inl h))
          · exact .inl ((hS g).2 (.inr (.inl hg)))
          · exact .inl ((hS g).2 (.inr (.inr hg)))
         lt:=fun g hg=>by
          rw [World.putObj_size]
          rcases hg with ⟨id,ob,h1,h2⟩ | hg | hg
          · exact (H2.blk_lt h1 h2).2
          · rw [hg]; exact hl3
          · rw [hg]; exact (zAd.1 hD2).1 }
theorem M5(hmx:P.follows .mixedOrders=true)(hJ:B.J=noJ){ks:List Nat}{ps:Array Nat}{assign body:Code}{xa xb:AC}(hLa:LC P N ks assign xa)(hLb:LC P N ks body xb){l D fnid:Nat}(hl:B.n<=l)(hld:l≠D)
 (hps:∀t∈ps.toList,t<N/\t ∉ ks) {full:List (V×Bool)} {st:Nat->St} {stx:St} (hlen:∀(i:Nat)(us:List V)(b:Bool),full[i]?=some (.tup us,b)->us.length=ps.size) (hfull:∀(i:Nat)(v:V),full[i]?=some (v,false)->i+1=full.length)
 (hround:∀(i:Nat)(us:List V)(b:Bool),full[i]?=some (.tup us,b)->W (Cn P) xa (Ex.then (W (Cn P) xb (HY st stx ks i b)) (fun _ _=>False)) ⟨xo ps.toList us (st i).r,(st i).h⟩)
 {Mst:Mem} {Bit:Bas} (hBJ:Bit.J=WH N M0 B w0 a ks l D full st stx (og fnid a ps assign body D)) (hMst:∀p v,Mst p=some v->M0 p=some v\/B.own p.block) (hown:∀g,Bit.own g->B.own g):jE P Mst Bit:=by
 intro k us b rest S Mm W cs hjj hMs hsep hnew hus o a' Nx Q ρ hN;rw[hBJ]at hjj;obtain⟨rfl,(⟨i,hd,hi,htr,κi,Mi,H,hk,hm,hlW,hDW,hS,hlD⟩|⟨h0,_⟩)⟩:=hjj
 ·have hfi:full[i]?=some (.tup us,b):=by
   have:(full.drop i)[0]?=some (.tup us,b):=by rw[<-hd];rfl
   simpa using this
  have hrest:rest=full.drop (i+1):=by
   have:(full.drop i).drop 1=rest:=by rw[<-hd];rfl
   rw[<-this,List.drop_drop]
  have hil:i<full.length:=(zAg.1 hfi).1
  have hsz:cs.size=ps.size:=by
   have:=aB hus;rw[<-hlen i us b hfi,<-this];simp
  rw[run_yield hlW hsz,Oper.uponIn_round];have hlw:k<W.heap.size:=(zAd.1 hlW).1;refine⟨fun h=>(by cases h),Fp hmx hJ hLa hLb H hm hlW hlD rfl hMs (fun p v hp hb=>hsep p v hp ((hS _).2 (.inl hb))) hus hps (hround i us b hfi) ?_⟩
  intro e τ2 κ2 M1 M2 a2 W1 W2 B2 hp hMid hps2 hcs2 hfb2 hJ2 H2 hl2;have hnew':∀p v,Mm p=some v->M0 p=some v\/B.own p.block:=fun p v hp=>(hnew p v hp).elim (hMst p v) fun h=>.inr (hown _ h);cases e with
  |norm=>
    obtain⟨rfl,ms,τ',h1,h2⟩:=hp;obtain⟨κ3,M3,H3⟩:=H2.mats h1;have H4:=H3.nrm' ks;have hk4:∀t v,lk (st (i+1)).r t=some v->t∈ks:=fun t v h=>IP (by rw[h2];exact h)
    rw[h2]at H4;obtain⟨hE,hst⟩:=BA (r2:=og fnid a ps assign body D .ready none) hJ H hm hnew' hl hld hS hlD hlw hDW hMid hps2 hcs2 hfb2 hJ2 H4 hk4 hl2;refine⟨_,_,run_endRound none hl2,hN _ _ _ ?_ hst⟩;rw[hBJ];refine⟨rfl,.inl ⟨i+1,hrest,hil,fun j v b' hj hjb=>?_,hE⟩⟩;rcases zCc j i with h|h
    ·exact htr j v b' h hjb
    ·obtain rfl:j=i:=by omega
     rw[hfi]at hjb;cases hjb;rfl
  |ret=>
    obtain⟨rfl,ms,τ',h1,h2⟩:=hp;obtain⟨κ3,M3,H3⟩:=H2.mats h1;have H4:=H3.nrm' ks;have hk4:∀t v,lk stx.r t=some v->t∈ks:=fun t v h=>IP (by rw[h2];exact h)
    rw[h2]at H4;obtain⟨hE,hst⟩:=BA (r2:=og fnid a ps assign body D .done (some .ret)) hJ H hm hnew' hl hld hS hlD hlw hDW hMid hps2 hcs2 hfb2 hJ2 H4 hk4 hl2;refine⟨_,_,run_endRound (some .ret) hl2,hN _ _ _ ?_ hst⟩;rw[hBJ];refine⟨rfl,.inr ⟨?_,⟨i,_,hfi⟩,hE⟩⟩;rw[hrest,zCj,hfull i _ hfi];exact zBg _
  |exit id=>exact hp.elim
  |goto t=>exact hp.elim
 ·cases h0
theorem M4{ks:List Nat}{l D:Nat}{full:List (V×Bool)}{st:Nat->St}{stx:St}{rec:LoopState->Option Code->Loop}{Bit:Bas}(hBJ:Bit.J=WH N M0 B w0 a ks l D full st stx rec)(hn:B.n<=Bit.n)(hown:∀g,Bit.own g->B.own g):zE Bit:=by
 intro k ann S Mm Mm' W W' hj hu hS hm hs;rw[hBJ]at hj⊢;have hu':Und B W W':=⟨hu.os,hu.tape,hu.output,hu.size,fun g hg hs=>hu.block g (by omega) (fun h=>(hown g (.inr h)).elim (fun h=>by omega) hs),hu.siz⟩
 obtain⟨rfl,(⟨i,h1,h2,h3,h4⟩|⟨h1,h2,h4⟩)⟩:=hj
 ·exact⟨rfl,.inl ⟨i,h1,h2,h3,h4.stay hu' hS hm hs⟩⟩
 ·exact⟨rfl,.inr ⟨h1,h2,h4.stay hu' hS hm hs⟩⟩
abbrev kn(D:Nat):Deferred:={ target:=.collected D,args:=#[] }
def dqB(B:Bas)(D:Nat):Bas:=⟨B.n,B.S,B.ps,B.cs,B.fb,fun _ l S _ w=>l=[]/\(∀g,S g↔g=D)/\w.heap[D]?=some (.deferred (some [])),kn D::B.df,B.gq⟩
theorem Pv{D:Nat}{Mst:Mem}:jE P Mst (dqB B D):=fun _ _ _ _ _ _ _ _ h=>by cases h.1
theorem Pu{D:Nat}:zE (dqB B D):=fun k l S M M' w w' h hu hS _ _=>⟨h.1,h.2.1,by rw[hS D ((h.2.1 D).2 rfl)];exact h.2.2⟩
theorem UJ{B':Bas}{X:V->Value->Prop}{id:Nat}{ob:Ob}(hJ:B.J=noJ)(ho:∀g,κ.bl id g->B'.own g)(hgq:B'.gq=B.gq)(h:aG κ M X B w id ob):aG κ M X B' w id ob:=by
 cases ob with
 |gh l=>obtain⟨k,_,h1,_⟩:=h;rw[hJ]at h1;exact h1.elim
 |box cs=>exact cT (B:=B) (B':=⟨B'.n,B'.S,B'.ps,B'.cs,B'.fb,B.J,B'.df,B'.gq⟩) ho rfl (fun _ e=>by cases e) h
 |arr e sz l=>exact cT (B:=B) (B':=⟨B'.n,B'.S,B'.ps,B'.cs,B'.fb,B.J,B'.df,B'.gq⟩) ho rfl (fun _ e=>by cases e) h
 |mat e e2 sz l=>exact cT (B:=B) (B':=⟨B'.n,B'.S,B'.ps,B'.cs,B'.fb,B.J,B'.df,B'.gq⟩) ho rfl (fun _ e=>by cases e) h
 |mp kt l=>exact cT (B:=B) (B':=⟨B'.n,B'.S,B'.ps,B'.cs,B'.fb,B.J,B'.df,B'.gq⟩) ho rfl (fun _ e=>by cases e) h
 |tok c=>exact h
 |pool ms=>exact cT (B:=B) (B':=⟨B'.n,B'.S,B'.ps,B'.cs,B'.fb,B.J,B'.df,B'.gq⟩) ho rfl (fun _ e=>by cases e;show ∀k j n i off c,B'.gq k j n i off c->_;rw[hgq];exact h.2.2.2.2.2) h
 |itr s p=>exact cT (B:=B) (B':=⟨B'.n,B'.S,B'.ps,B'.cs,B'.fb,B.J,B'.df,B'.gq⟩) ho rfl (fun _ e=>by cases e) h
theorem Rel.dq{D:Nat}(hJ:B.J=noJ)(H:Rel N M0 B w0 κ M σ a w)(hD:w.heap[D]?=some (.deferred (some [])))(hn:B.n<=D)(hb:∀g,fM κ σ.h g->g≠D):
 Rel N M0 (dqB B D) w0 (cw κ σ.h.length (.func (.yield 0) #[] #[]) (fun _=>Go.undef) (fun g=>g=D)) M ⟨σ.r,σ.h++[some (.gh [])]⟩ { a with defers:=kn D::a.defers } w:=by
 have H':Rel N M0 (dqB B D) w0 κ M σ { a with defers:=kn D::a.defers } w:=
  { dfr:=by show kn D::a.defers=kn D::B.df;rw[H.dfr]
    jst:=Pu,pin:=H.pin,size:=H.size,regs:=H.regs
    heap:=fun id ob h=>UJ hJ (fun g hg=>(H.blk_lt h hg).1) rfl (H.heap id ob h)
    inj:=H.inj,snd:=H.snd,sep:=H.sep,sub:=⟨H.sub.sub,H.sub.fmS,H.sub.fmN,H.sub.fbn,H.sub.gl⟩,new:=H.new,base:=H.base
    blw:=⟨H.blw.os,H.blw.tape,H.blw.output,H.blw.size,H.blw.block,H.blw.siz⟩ }
 refine H'.newOb' (w':=w) (Below.refl _ _) (fun g hg j oj hj hj'=>hb g ⟨j,oj,hj,hj'⟩ hg) (fun p v hp hg=>pI hD oc (H.snd p v hp) hg) ?_;simp only[aG];rw[bk,aL];exact⟨0,rfl,⟨rfl,fun g=>zAa,hD⟩,fun g hg=>⟨by rw[hg];exact .inl hn,by rw[hg];exact(zAd.1 hD).1⟩⟩
theorem Calls.mono'{f:FuncId}{args:Array Value}{R R':Ending->World->Prop}(h:Calls P f args w R)(hr:∀e w',R e w'->R' e w'):Calls P f args w R':=h.mono hr
theorem Lp(hmx:P.follows .mixedOrders=true)(hJ:B.J=noJ)(H:Rel N M0 B w0 κ M σ a w){ks:List Nat}{ps:Array Nat}{assign body:Code}{xa xb:AC}(hLa:LC P N ks assign xa)(hLb:LC P N ks body xb)
 (hps:∀t∈ps.toList,t<N/\t ∉ ks) {full:List (V×Bool)} {st:Nat->St} {stx:St} (hlen:∀(i:Nat)(us:List V)(b:Bool),full[i]?=some (.tup us,b)->us.length=ps.size) (hfull:∀(i:Nat)(v:V),full[i]?=some (v,false)->i+1=full.length)
 (hround:∀(i:Nat)(us:List V)(b:Bool),full[i]?=some (.tup us,b)->W (Cn P) xa (Ex.then (W (Cn P) xb (HY st stx ks i b)) (fun _ _=>False)) ⟨xo ps.toList us (st i).r,(st i).h⟩)
 {g:Operand} {g':AO} {tg:TypeId} (hg:cO P tg g=some g') {gf:FuncId} {id:Nat} {cs cs':List V} (hgv:σ.ev g'=some (.fn (.func gf) [] [.ptr id 0])) (hbx:σ.h[id]?=some (some (.box cs))) (hcs:purs [] cs=some cs')
 (hid:id ∉ σ.ids ks) (hst0:σ.nrm ks=st 0) (hen:∀args w,(callFunc gf args).run P w=.ok (.enter gf args) w)
 (hF:FnH P gf [0] [.ref 0 0,.ptr 1 0] [some (.gh full),some (.box cs')] (.tup []) [some (.gh [])])
 {Q:Exit->Act->World->Prop}
 (hdone:(∀p∈full,p.2=true)->∀κ' M' w' D,Rel N M0 (dqB B D) w0 κ' M' ⟨(st full.length).r,(st full.length).h++[some (.gh [])]⟩ { a with defers:=kn D::a.defers } w'->Q .normal { a with defers:=kn D::a.defers } w')
 (hstop:(∃p∈full,p.2=false)->∀κ' M' w' D,Rel N M0 (dqB B D) w0 κ' M' ⟨stx.r,stx.h++[some (.gh [])]⟩ { a with defers:=kn D::a.defers } w'->Q .ret { a with defers:=kn D::a.defers } w'):
 (Code.rangeFunc g ps assign body).wpIn (FR none) 0 P Q a w:=by
 refine wpIn_rangeFunc ?_;intro fnid hfn;obtain⟨D,hDe⟩:∃D,w.heap.size=D:=⟨_,rfl⟩;obtain⟨l,hle⟩:∃l,w.heap.size+1=l:=⟨_,rfl⟩;obtain⟨W1,hW1⟩:∃W1,(w.alloc (.deferred (some []))).alloc (.loop (og fnid a ps assign body D .ready none))=W1:=⟨_,rfl⟩;have hent:=run_enterLoop_outer (P:=P) (w:=w) fnid a.tmps ps assign body;rw[hDe,show D+1=l by omega]at hent
 have hent':(Instr.enterLoop fnid a.tmps ps assign body (FR none).round).run P w=.ok (l,[kn D]) W1:=by rw[<-hW1];exact hent
 have hL1:W1.heap[l]?=some (.loop (og fnid a ps assign body D .ready none)):=by
  rw[<-hW1,<-hle];have:=World.alloc_heap_new (w.alloc (.deferred (some []))) (.loop (og fnid a ps assign body D .ready none));rwa[World.size_alloc]at this
 have hD1:W1.heap[D]?=some (.deferred (some [])):=by
  rw[<-hW1,<-hDe];exact(Below.heap_alloc _ _ _ (by simp)).trans (World.alloc_heap_new w _)
 have hbel:Below w.heap.size w W1:=by
  rw[<-hW1];exact(((Below.refl _ w).alloc (zBg _) _).alloc (by simp) _)
 have hBn:B.n<=w.heap.size:=by rw[H.base];exact H.blw.size
 have hfv:=H.op hg hgv;simp only[rep]at hfv;obtain⟨a1,a2,hev,hr1,hr2⟩:=hfv;simp only[ae]at hr1 hr2;have ha1:a1=#[]:=by cases a1;simp at hr1;rw[hr1]
 obtain⟨c,c',hr2,hc,rfl⟩:=hr2;have ha2:a2=#[c]:=by cases a2;simp at hr2;rw[hr2]
 subst ha1 ha2;have hc':=hc;simp only[rep,XX]at hc;obtain⟨b0,hb1,hb2⟩:=hc.2.2 cs hbx;subst hb2
 -- the state at the start
 have H1:=H.grow0 hbel;have H2:=H1.nrm' ks;rw[hst0]at H2;have hk0:∀t v,lk (st 0).r t=some v->t∈ks:=fun t v h=>IP (by rw[hst0];exact h)
 have hbl0:∀g,fM (κ.ren (σ.ids ks)) (st 0).h g->∃j ob,j≠id/\σ.h[j]?=some (some ob)/\κ.bl j g:=by
  rintro g ⟨j,ob,h1,h2⟩;rw[<-hst0,Iz]at h1;obtain⟨i,ob',g1,g2,_⟩:=iP h1;refine⟨i,ob',fun e=>hid (e ▸ zDa g1),g2,?_⟩;simpa[Kap.ren,List.getD,g1]using h2
 have hlD0:∀g,fM (κ.ren (σ.ids ks)) (st 0).h g->g≠l/\g≠D:=fun g hg=>by
  obtain⟨j,ob,_,h1,h2⟩:=hbl0 g hg;have:=(H.blk_lt h1 h2).2;omega
 let S0:Nat->Prop:=fun g=>fM (κ.ren (σ.ids ks)) (st 0).h g\/g=l\/g=D
 let κit:Kap:=⟨fun j=>if j=0 then .func (.yield l) #[] #[]else κ id,fun _ _=>Go.undef,fun j=>if j=0 then S0 else κ.bl id,fun _=>none⟩
 let J:=WH N M0 B w0 a ks l D full st stx (og fnid a ps assign body D)
 let Hit:List (Option Ob):=[some (.gh full),some (.box cs')]
 let Bit:Bas:=fx κit Hit W1 [0] (#[.func (.yield l) #[] #[]]++#[Value.pointer (some ⟨b0,0,none⟩)]) J
 have hWs:W1.heap.size=w.heap.size+2:=by rw[<-hW1];simp
 have hown:∀g,Bit.own g->B.own g:=by
  rintro g (h|⟨j,ob,h1,h2⟩)
  ·have h:W1.heap.size<=g:=h
   exact .inl (by omega)
  ·match j,h1,h2 with
   |0,h1,h2=>
     have h2:S0 g:=h2;rcases h2 with h2|h2|h2
     ·obtain⟨j,ob,_,h3,h4⟩:=hbl0 g h2;exact(H.blk_lt h3 h4).1
     ·exact .inl (by omega)
     ·exact .inl (by omega)
   |1,h1,h2=>
     have h2:κ.bl id g:=h2;exact(H.blk_lt hbx h2).1
   |j+2,h1,h2=>simp[Hit]at h1
 have hpre:Heap κit M Bit W1 Hit:=
  { heap:=fun j ob hj=>by
     match j,hj with
     |0,hj=>
       have:ob=.gh full:=by simpa[Hit]using hj.symm
       subst this;refine⟨l,rfl,⟨rfl,.inl ⟨0,rfl,zBj _,fun j v b h=>absurd h (zDj _),_,M,H2,hk0,fun _ _ h=>h,hL1,hD1,fun g=>zAa,hlD0⟩⟩,fun g hg=>⟨.inr ⟨0,_,rfl,hg⟩,?_⟩⟩;have hg:S0 g:=hg;rcases hg with hg|hg|hg
       ·obtain⟨j,ob,_,h3,h4⟩:=hbl0 g hg
        have:=(H.blk_lt h3 h4).2;omega
       ·omega
       ·omega
     |1,hj=>
       have:ob=.box cs':=by simpa[Hit]using hj.symm
       subst this;have ho:=H1.heap id _ hbx;simp only[aG]at ho;obtain⟨b,arr,T,h1,h2,h3,h4,h5,h6⟩:=ho;have h7:=bR H1 (fun _ _ h=>h) (fun i hi=>by rw[(fR hcs).1]at hi;cases hi) h4 ((fR hcs).2 σ.h)
       exact⟨b,arr,T,h1,.inr ⟨1,_,rfl,(h6 b).2 rfl⟩,h3,aI (fun _ _ h=>h) (fun _ _ h=>h.elim) _ _ h7,h5,h6⟩
     |j+2,hj=>simp[Hit]at hj
    inj:=fun i j oi oj g hi hj gi gj=>by
     have key:∀g,S0 g->κ.bl id g->False:=fun g h1 h2=>by
      have:=(H.blk_lt hbx h2).2;rcases h1 with h1|h1|h1
      ·obtain⟨j,ob,h3,h4,h5⟩:=hbl0 g h1
       exact h3 (H.inj j id ob _ g h4 hbx h5 h2)
      ·omega
      ·omega
     match i,j,hi,hj,gi,gj with
     |0,0,_,_,_,_=>rfl
     |1,1,_,_,_,_=>rfl
     |0,1,_,_,gi,gj=>exact(key g gi gj).elim
     |1,0,_,_,gi,gj=>exact(key g gj gi).elim
     |i+2,_,hi,_,_,_=>simp[Hit]at hi
     |_,j+2,_,hj,_,_=>simp[Hit]at hj
    snd:=H1.snd
    sep:=fun p v hp j ob hj hg=>by
     have:=H.mem_lt hp
     match j,hj,hg with
     |0,_,hg=>
       have hg:S0 p.block:=hg;rcases hg with hg|hg|hg
       ·obtain⟨j,ob,_,h3,h4⟩:=hbl0 _ hg;exact H.sep p v hp j ob h3 h4
       ·omega
       ·omega
     |1,_,hg=>exact H.sep p v hp id _ hbx hg
     |j+2,hj,_=>simp[Hit]at hj
    fmS:=fun _ _ h=>by cases h
    gl:=H.sub.gl.mono H.sub.sub
    jst:=M4 (Bit:=Bit) rfl (by show B.n<=W1.heap.size;omega) hown }
 have hJC:jE P M Bit:=M5 hmx hJ hLa hLb (by omega) (by omega) hps hlen hfull hround rfl H.new hown
 have hus:ae M (XX κit Hit) [.ref 0 0,.ptr 1 0] (#[Value.func (.yield l) #[] #[]]++#[Value.pointer (some ⟨b0,0,none⟩)]).toList:=by
  simp only[ae,rep,XX];refine⟨_,_,rfl,⟨rfl,by simp[Hit],fun e sz l h=>by simp[Hit]at h,fun e e2 sz l h=>by simp[Hit]at h,fun o ho hn=>rfl⟩,_,_,rfl,⟨rfl,by simp[Hit],fun cs1 h1=>⟨b0,hb1,rfl⟩⟩,rfl⟩
 refine⟨l,[kn D],W1,{ target:=.fn (.func gf) #[Value.pointer (some ⟨b0,0,none⟩)],args:=#[.func (.yield l) #[] #[]] },W1,gf,#[.func (.yield l) #[] #[]]++#[Value.pointer (some ⟨b0,0,none⟩)],W1,hent',?_,fun _ _=>trivial,?_,fun h=>(by cases h),?_⟩
 ·simp only[resolve,hev]
  simp[go_sem]
 ·simp[invoke,go_sem,hen]
 ·have hcall:=hF M W1 κit _ J hJC hpre hus (default:Oper) a (fun _ w''=>rangePost (FR none) 0 P l Q { a with defers:=[kn D]++a.defers } (.returned Go.undef) w'') (fun _ _ _=>False) (fun c2 M' w' κ' hr hu hh hM1 hM2 hpin=>?_)
  ·rw[hen,Oper.upon_enter]at hcall
   refine zj (Calls.mono' hcall ?_);intro e w'' he;cases e with
   |returned v=>exact he
   |panicked chain=>exact he.elim
   |outgrown=>obtain⟨_,_,h⟩:=he;exact h.elim
  ·obtain⟨k,hk1,⟨rfl,hj⟩,hk3⟩:=hh.heap 0 _ rfl
   rcases hj with⟨i,hd,hi,htr,κi,Mi,Hi,hki,hmi,hlW,hDW,hS,hlD⟩|⟨_,⟨j,v,hjv⟩,κi,Mi,Hi,hki,hmi,hlW,hDW,hS,hlD⟩
   ·have hie:i=full.length:=by have:=zCj.1 hd.symm;omega
    subst hie;refine⟨none,_,run_endLoop hlW (by simp[og]),?_⟩
    have Hs:=Hi.stay (w7 (o':=.loop { og fnid a ps assign body D .ready none with state:=.exhausted }) hlW dZ (by omega)) (fun g hg=>World.putObj_heap_other (hlD g hg).1) (fun p v hp=>oU hlW dZ (Hi.snd p v hp))
    refine hdone (fun p hp=>?_) _ _ _ D (Hs.dq hJ (by rw[World.putObj_heap_other (by omega)];exact hDW) (by omega) (fun g hg=>(hlD g hg).2))
    obtain⟨j,hj,hjp⟩:=List.getElem_of_mem hp;exact htr j p.1 p.2 hj (by rw[zCe hj,hjp])
   ·refine⟨some .ret,_,run_endLoop hlW (by simp[og]),?_⟩
    have Hs:=Hi.stay (w7 (o':=.loop { og fnid a ps assign body D .done (some .ret)with state:=.exhausted }) hlW dZ (by omega)) (fun g hg=>World.putObj_heap_other (hlD g hg).1) (fun p v hp=>oU hlW dZ (Hi.snd p v hp))
    exact wpIn_ret (hstop ⟨_,zDa hjv,rfl⟩ _ _ _ D (Hs.dq hJ (by rw[World.putObj_heap_other (by omega)];exact hDW) (by omega) (fun g hg=>(hlD g hg).2)))
end
def G6:Code->List Code
 | .seq a b=>G6 a++G6 b
 |c=>[c]
def wpL(F:Fence)(n:Nat)(P:Program):List Code->(Exit->Act->World->Prop)->Act->World->Prop
 |[],Q,a,w=>Q .normal a w
 |c::l,Q,a,w=>c.wpIn F n P (Exit.then (wpL F n P l Q) Q) a w
section
variable{F:Fence}{n:Nat}{P:Program}
theorem qP{m:List Code}{Q:Exit->Act->World->Prop}:∀(l:List Code),wpL F n P (l++m) Q=wpL F n P l (Exit.then (wpL F n P m Q) Q)
 |[]=>by funext a w;rfl
 |c::l=>by
   funext a w;simp only[List.cons_append,wpL];rw[qP l];congr 1;funext e;cases e<;>rfl
theorem M9(c:Code):∀{Q:Exit->Act->World->Prop}{a:Act}{w:World},wpL F n P (G6 c) Q a w->c.wpIn F n P Q a w:=by
 have one:∀(c:Code){Q:Exit->Act->World->Prop}{a:Act}{w:World},wpL F n P [c] Q a w->c.wpIn F n P Q a w:=fun c Q a w h=>wpIn_mono h fun e a w h=>by cases e<;>exact h
 induction c with
 |seq x y ihx ihy=>
   intro Q a w h;rw[G6,qP]at h
   exact wpIn_seq (wpIn_mono (ihx h) fun e a w h=>by
    cases e with
    |normal=>exact ihy h
    |_=>exact h)
 |_=>exact one _
end
def Cx:List AC->AC
 |[]=>.skip
 |x::xs=>.seq x (Cx xs)
inductive LCl (P:Program) (N:Nat) (ps:List Nat):List Code->List AC->Prop
 |nil:LCl P N ps [] []
 |cons {c x l xs}:LC P N ps c x->LCl P N ps l xs->LCl P N ps (c::l) (x::xs)
section
variable{P:Program}{N:Nat}{M0:Mem}{B:Bas}{w0:World}{κ:Kap}{M:Mem}{σ:St}{a:Act}{w w':World}
theorem HX(hmx:P.follows .mixedOrders=true)(hJC:jE P M0 B){ρ:Option Nat}{l:List Code}{xs:List AC}(h:LCl P N B.ps l xs):∀{Q:Exit->Act->World->Prop}{R:Ex->St->Prop},
 (∀e κ M σ a w,R e σ->Rel N M0 B w0 κ M σ a w->Q e.out a w)->∀{κ:Kap}{M:Mem}{σ:St}{a:Act}{w:World},Rel N M0 B w0 κ M σ a w->W (Cn P) (Cx xs) R σ->wpL (FR ρ) 0 P l Q a w:=by
 induction h with
 |nil=>intro Q R hQ κ M σ a w H hW;exact hQ .norm _ _ _ _ _ hW H
 |cons hc _ ih=>
   intro Q R hQ κ M σ a w H hW;refine nk hmx hJC hc ?_ H hW;intro e κ M σ a w hR H;cases e with
   |norm=>exact ih hQ H hR
   |exit id=>exact hQ (.exit id) _ _ _ _ _ hR H
   |goto l=>exact hQ (.goto l) _ _ _ _ _ hR H
   |ret=>exact hQ .ret _ _ _ _ _ hR H
structure RImg where
 pre:List AC
 g:AO
 ps:List Nat
 xa:AC
 xb:AC
 post:List AC
 rs:List RV
def xF:List Code->List Code->Option (List Code×Nat×Operand×Array Tmp×Code×Code×List Code)
 |_,[]=>none
 |acc,c::l=>match c with
   | .block id (.rangeFunc g ps a b)=>some (acc.reverse,id,g,ps,a,b,l)
   |c=>xF (c::acc) l
theorem vr:∀{l acc:List Code}{pre post:List Code}{id:Nat}{g:Operand}{ps:Array Tmp}{a b:Code},xF acc l=some (pre,id,g,ps,a,b,post)->acc.reverse++l=pre++.block id (.rangeFunc g ps a b)::post
 |[],_,_,_,_,_,_,_,_,h=>by simp[xF]at h
 |c::l,acc,pre,post,id,g,ps,a,b,h=>by
   unfold xF at h;split at h
   ·cases h;rfl
   ·have:=vr h
    simpa using this
def Cr(P:Program)(N:Nat)(ps E:List Nat):List Code->List (List Nat)->Option (List AC×List (List Nat))
 |[],K=>some ([],K)
 |c::l,K=>match bS P N ps E c K with
   |some (x,K')=>match Cr P N ps E l K' with
     |some (xs,K'')=>some (x::xs,K'')
     |none=>none
   |none=>none
theorem rX{ps E:List Nat}:∀{l:List Code}{K K':List (List Nat)}{xs:List AC},Cr P N ps E l K=some (xs,K')->LCl P N ps l xs
 |[],K,K',xs,h=>by simp only[Cr,zAb,zBc]at h;rw[<-h.1];exact .nil
 |c::l,K,K',xs,h=>by
   simp only[Cr]at h;split at h
   ·rename_i x K1 h1
    split at h
    ·rename_i xs' K2 h2
     cases h;exact .cons (eN h1) (rX h2)
    ·cases h
   ·cases h
def I3(P:Program)(fn:Func)(E ks:List Nat)(K:List (List Nat))(n:Nat):Option RImg:=
 match fn.body with
 |some c=>match xF [] (G6 c)with
   |some (pre,_,g,ps,a,b,post)=>match Cr P fn.ntmps [] E pre K with
     |some (xs,K1)=>match bS P fn.ntmps ks E a K1 with
       |some (xa,K2)=>match bS P fn.ntmps ks E b K2 with
         |some (xb,K3)=>match Cr P fn.ntmps [] E post K3,cO P 0 g,tU P fn.results.toList with
           |some (ys,[]),some g',some rs=>if(fn.name == "runtime.NumGoroutine")=false/\n<=fn.ntmps/\ps.toList.all (fun t=>decide (t<fn.ntmps)&& !(gS t ks))=true then some ⟨xs,g',ps.toList,xa,xb,ys,rs⟩else none
           |_,_,_=>none
         |none=>none
       |none=>none
     |none=>none
   |none=>none
 |none=>none
def Qk(P:Program)(g:AO)(ks:List Nat)(full:List (V×Bool))(s0:St):Ex->St->Prop
 | .norm,σ=>∃(gf:FuncId)(id:Nat)(cs cs':List V),σ.ev g=some (.fn (.func gf) [] [.ptr id 0])/\σ.h[id]?=some (some (.box cs))/\purs [] cs=some cs'/\gS id (σ.ids ks)=false/\σ.nrm ks=s0/\
    (∀args w,(callFunc gf args).run P w=.ok (.enter gf args) w)/\FnH P gf [0] [.ref 0 0,.ptr 1 0] [some (.gh full),some (.box cs')] (.tup []) [some (.gh [])]
 |_,_=>False
def GE:List (Option Ob)->Bool
 |[]=>false
 |some (.gh [])::_=>true
 |_::h=>GE h
theorem B8:∀{h:List (Option Ob)},GE h=true->∃id:Nat,h[id]?=some (some (.gh []))
 |[],h=>by simp[GE]at h
 |x::l,h=>by
   unfold GE at h;split at h
   ·rename_i e;cases e
   ·rename_i e;cases e;exact⟨0,rfl⟩
   ·rename_i e;cases e;obtain⟨id,hi⟩:=B8 h;exact⟨id+1,by simpa using hi⟩
def Wl(rs:List RV)(r:V)(e:Ex)(σ:St):Prop:=Res rs (·=r) e σ/\GE σ.h=true
theorem R2{B':Bas}{X:V->Value->Prop}{id:Nat}{ob:Ob}(hng:∀l,ob≠.gh l)(hw:∀g,κ.bl id g->w'.heap[g]?=w.heap[g]?)(hc:Calm w w')(hs:∀p v,M p=some v->w'.cell? p=some v)(ho:∀g,κ.bl id g->B'.own g)(hgq:B'.gq=B.gq)
 (h:aG κ M X B w id ob):aG κ M X B' w' id ob:=by
 cases ob with
 |gh l=>exact(hng l rfl).elim
 |pool ms=>
   have h':aG κ M X ⟨B.n,B.S,B.ps,B.cs,B.fb,noJ,B.df,B.gq⟩ w id (.pool ms):=h;have h2:aG κ M X ⟨B'.n,B'.S,B'.ps,B'.cs,B'.fb,noJ,B'.df,B'.gq⟩ w' id (.pool ms):=ij (B:=⟨B.n,B.S,B.ps,B.cs,B.fb,noJ,B.df,B.gq⟩) (B':=⟨B'.n,B'.S,B'.ps,B'.cs,B'.fb,noJ,B'.df,B'.gq⟩) rfl (fun _ _ h=>h) hw hc hs ho rfl hgq h';exact h2
 |box cs=>
   have h':aG κ M X ⟨B.n,B.S,B.ps,B.cs,B.fb,noJ,B.df,B.gq⟩ w id (.box cs):=h;have h2:aG κ M X ⟨B'.n,B'.S,B'.ps,B'.cs,B'.fb,noJ,B'.df,B'.gq⟩ w' id (.box cs):=ij (B:=⟨B.n,B.S,B.ps,B.cs,B.fb,noJ,B.df,B.gq⟩) (B':=⟨B'.n,B'.S,B'.ps,B'.cs,B'.fb,noJ,B'.df,B'.gq⟩) rfl (fun _ _ h=>h) hw hc hs ho rfl hgq h';exact h2
 |arr e sz l=>
   have h':aG κ M X ⟨B.n,B.S,B.ps,B.cs,B.fb,noJ,B.df,B.gq⟩ w id (.arr e sz l):=h;have h2:aG κ M X ⟨B'.n,B'.S,B'.ps,B'.cs,B'.fb,noJ,B'.df,B'.gq⟩ w' id (.arr e sz l):=ij (B:=⟨B.n,B.S,B.ps,B.cs,B.fb,noJ,B.df,B.gq⟩) (B':=⟨B'.n,B'.S,B'.ps,B'.cs,B'.fb,noJ,B'.df,B'.gq⟩) rfl (fun _ _ h=>h) hw hc hs ho rfl hgq h';exact h2
 |mat e e2 sz l=>
   have h':aG κ M X ⟨B.n,B.S,B.ps,B.cs,B.fb,noJ,B.df,B.gq⟩ w id (.mat e e2 sz l):=h;have h2:aG κ M X ⟨B'.n,B'.S,B'.ps,B'.cs,B'.fb,noJ,B'.df,B'.gq⟩ w' id (.mat e e2 sz l):=ij (B:=⟨B.n,B.S,B.ps,B.cs,B.fb,noJ,B.df,B.gq⟩) (B':=⟨B'.n,B'.S,B'.ps,B'.cs,B'.fb,noJ,B'.df,B'.gq⟩) rfl (fun _ _ h=>h) hw hc hs ho rfl hgq h';exact h2
 |mp kt l=>
   have h':aG κ M X ⟨B.n,B.S,B.ps,B.cs,B.fb,noJ,B.df,B.gq⟩ w id (.mp kt l):=h;have h2:aG κ M X ⟨B'.n,B'.S,B'.ps,B'.cs,B'.fb,noJ,B'.df,B'.gq⟩ w' id (.mp kt l):=ij (B:=⟨B.n,B.S,B.ps,B.cs,B.fb,noJ,B.df,B.gq⟩) (B':=⟨B'.n,B'.S,B'.ps,B'.cs,B'.fb,noJ,B'.df,B'.gq⟩) rfl (fun _ _ h=>h) hw hc hs ho rfl hgq h';exact h2
 |tok c=>exact h
 |itr s p=>
   have h':aG κ M X ⟨B.n,B.S,B.ps,B.cs,B.fb,noJ,B.df,B.gq⟩ w id (.itr s p):=h;have h2:aG κ M X ⟨B'.n,B'.S,B'.ps,B'.cs,B'.fb,noJ,B'.df,B'.gq⟩ w' id (.itr s p):=ij (B:=⟨B.n,B.S,B.ps,B.cs,B.fb,noJ,B.df,B.gq⟩) (B':=⟨B'.n,B'.S,B'.ps,B'.cs,B'.fb,noJ,B'.df,B'.gq⟩) rfl (fun _ _ h=>h) hw hc hs ho rfl hgq h';exact h2
theorem Rel.shut{D:Nat}{id:Nat}(H:Rel N M0 (dqB B D) w0 κ M σ a w)(hid:σ.h[id]?=some (some (.gh [])))(hn:B.n<=D):
 Rel N M0 ⟨B.n,B.S,B.ps,B.cs,B.fb,fun _ l _ _ _=>l=[],kn D::B.df,B.gq⟩ w0 κ M σ a (w.putObj D (.deferred none)):=by
 obtain⟨k,_,⟨_,hS,hD⟩,_⟩:=H.heap id _ hid;have hs:∀p v,M p=some v->(w.putObj D (.deferred none)).cell? p=some v:=fun p v hp=>oU hD oc (H.snd p v hp);have hc:=zi (o':=.deferred none) hD oc;exact
 { dfr:=H.dfr,jst:=fun _ _ _ _ _ _ _ h _ _ _ _=>h,pin:=H.pin,size:=H.size,regs:=H.regs
   heap:=fun j ob h=>by
    by_cases hg:∃l,ob=.gh l
    ·obtain⟨l,rfl⟩:=hg
     obtain⟨k',h1,⟨h2,_,_⟩,h4⟩:=H.heap j _ h;exact⟨k',h1,h2,fun g hg=>⟨(h4 g hg).1,by rw[World.putObj_size];exact(h4 g hg).2⟩⟩
    ·refine R2 (B:=dqB B D) (fun l e=>hg ⟨l,e⟩) (fun g hb=>World.putObj_heap_other (fun e=>?_)) hc hs (fun g hb=>(H.blk_lt h hb).1) rfl (H.heap j ob h)
     subst e;have:=H.inj id j _ ob g hid h ((hS g).2 rfl) hb;subst this;rw[hid]at h;cases h;exact hg ⟨_,rfl⟩
   inj:=H.inj,snd:=hs,sep:=H.sep,sub:=⟨H.sub.sub,H.sub.fmS,H.sub.fmN,H.sub.fbn,H.sub.gl⟩,new:=H.new,base:=H.base
   blw:=(⟨H.blw.os,H.blw.tape,H.blw.output,H.blw.size,H.blw.block,H.blw.siz⟩:Und ⟨B.n,B.S,B.ps,B.cs,B.fb,fun _ l _ _ _=>l=[],kn D::B.df,B.gq⟩ w0 w).trans (w7 hD oc hn) }
theorem FnE.of_rng{f:FuncId}{fn:Func}{us:List V}{r:V}{E ks:List Nat}{K:List (List Nat)}{n:Nat}{im:RImg}(hm:P.follows .mixedOrders=true)(hf:P.funcs[f]?=some fn)(hi:I3 P fn E ks K n=some im)(hun:us.length=n)
 {full:List (V×Bool)} {st:Nat->St} {stx:St} (hlen:∀(i:Nat)(us:List V)(b:Bool),full[i]?=some (.tup us,b)->us.length=im.ps.length) (hfull:∀(i:Nat)(v:V),full[i]?=some (v,false)->i+1=full.length)
 (hpre:oks us->W (Cn P) (Cx im.pre) (Qk P im.g ks full (st 0)) ⟨ent 0 us,[]⟩)
 (hround:∀(i:Nat)(us:List V)(b:Bool),full[i]?=some (.tup us,b)->W (Cn P) im.xa (Ex.then (W (Cn P) im.xb (HY st stx ks i b)) (fun _ _=>False)) ⟨xo im.ps us (st i).r,(st i).h⟩)
 (hdone:(∀p∈full,p.2=true)->W (Cn P) (Cx im.post) (Wl im.rs r) ⟨(st full.length).r,(st full.length).h++[some (.gh [])]⟩)
 (hstop:(∃p∈full,p.2=false)->Wl im.rs r .ret ⟨stx.r,stx.h++[some (.gh [])]⟩):FnE P f us r:=by
 unfold I3 at hi;split at hi;rotate_left
 ·cases hi
 rename_i c hb;split at hi;rotate_left
 ·cases hi
 rename_i pre bid g ps ca cb post hsp;split at hi;rotate_left
 ·cases hi
 rename_i xs K1 hpr;split at hi;rotate_left
 ·cases hi
 rename_i xa K2 hxa;split at hi;rotate_left
 ·cases hi
 rename_i xb K3 hxb;split at hi;rotate_left
 ·cases hi
 rename_i ys g' rs hpo hg hrs;split at hi;rotate_left
 ·cases hi
 rename_i hcond;cases hi;obtain⟨hname,hnn,hpsa⟩:=hcond;simp only at hlen hpre hround hdone hstop
 have hps:∀t∈ps.toList,t<fn.ntmps/\t ∉ ks:=fun t ht=>by
  have:=zAf.1 hpsa t ht;simp only[zAe,decide_eq_true_eq,zBh]at this;exact⟨this.1,fun h=>by rw[iS.2 h]at this;simp at this⟩
 refine{ call:=fun args w=>?_,does:=fun M w cs hM hus=>?_ }
 ·unfold callFunc
  simp only[beq_eq_false_iff_ne,ne_eq]at hname;simp[Sem.run_bind,hf,hb,hname]
 have hl:cs.size=us.length:=by have:=aB hus;simpa using this
 refine PM (ρ:=none) (n:=0) (callsIn_of_wp_marks (F:=FR none) hf hb trivial ?_ rfl)
 have H:Rel fn.ntmps M ⟨w.heap.size,fun _=>False,[],#[],w.heap.size,noJ,[],fun _ _ _ _ _ _=>False⟩ w ⟨fun _=>Go.undef,fun _ _=>Go.undef,fun _ _=>False,fun _=>none⟩ M ⟨ent 0 us,[]⟩ { tmps:=cs++zAh (fn.ntmps-cs.size) Go.undef,defers:=[] } w:=
  { dfr:=rfl,jst:=l9 rfl,pin:=fun i hi=>by cases hi
    size:=by simp;omega
    regs:=fun t v ht=>by
     obtain⟨_,h2⟩:=uA ht;simp only[zCd]at h2;have hlt:t<us.length:=(zAg.1 h2).1;obtain⟨c,h3,h4⟩:=cI hus h2;refine⟨by omega,c,?_,ax (fun _ _ h=>h) (fun _ _ h=>h.elim) _ _ h4⟩
     rw[zAj (by omega)]
     simpa using h3
    heap:=fun id ob h=>by simp at h
    inj:=fun i j oi oj g h=>by simp at h
    snd:=hM.snd
    sep:=fun p v _ id ob h=>by simp at h
    sub:=⟨fun _ _ h=>h,fun _ _ h=>(by cases h),fun _ _ h=>(by cases h),zBg _,hM.gl⟩
    new:=fun _ _ h=>.inl h
    base:=rfl
    blw:=Und.refl _ _ }
 -- the end
 have fin:∀(D:Nat)(e:Ex)(κ1:Kap)(M1:Mem)(σ:St)(a:Act)(w1:World),Wl rs r e σ->Rel fn.ntmps M (dqB ⟨w.heap.size,fun _=>False,[],#[],w.heap.size,noJ,[],fun _ _ _ _ _ _=>False⟩ D) w κ1 M1 σ a w1->
  bodyPostM (FR none) 0 P fn (fun e w'=>∃(c:Value)(M':Mem),e=.returned c/\rep M' NX r c/\Below w.heap.size w w'/\(∀p v,M' p=some v->w'.cell? p=some v)/\(∀p v,M p=some v->M' p=some v)/\∀p v,M' p=some v->M p=some v\/w.heap.size<=p.block) e.out a w1:=by
  intro D e κ1 M1 σ a w1 hR Hd;obtain⟨hR,hgh⟩:=hR;obtain⟨gid,hgid⟩:=B8 hgh;obtain⟨k,_,⟨_,hS,hD⟩,hown⟩:=Hd.heap gid _ hgid
  have hDn:w.heap.size<=D:=by
   rcases(hown D ((hS D).2 rfl)).1 with h|h
   ·exact h
   ·exact h.elim
  have H1:=Hd.shut (B:=⟨w.heap.size,fun _=>False,[],#[],w.heap.size,noJ,[],fun _ _ _ _ _ _=>False⟩) hgid hDn;simp only[Res]at hR;obtain⟨he,hR⟩:=hR;split at hR
  ·rename_i vs hvs
   split at hR
   ·rename_i ws hws
    obtain⟨ds,k1,k2⟩:=iL hrs H1 hvs;obtain⟨H2,hM1⟩:=H1.kill (am vs) (ee hws)
    have k3:ae (ext M1 (w1.putObj D (.deferred none)) (jq κ1 (am vs))) NX ws ds:=by
     refine bR H1 hM1 (fun id hid g hg p hpb=>?_) k1 hws;unfold ext;rw[if_pos (dx.2 ⟨id,hid,by rw[hpb];exact hg⟩)]
    have hleave:LeavesInM (FR none) 0 P fn a.tmps (fun e w'=>∃(c:Value)(M':Mem),e=.returned c/\rep M' NX r c/\Below w.heap.size w w'/\(∀p v,M' p=some v->w'.cell? p=some v)/\(∀p v,M p=some v->M' p=some v)/\∀p v,M' p=some v->M p=some v\/w.heap.size<=p.block) a.defers .returning w1:=by
     have hdf:a.defers=[kn D]:=Hd.dfr;rw[hdf];refine⟨by simp,.inl ⟨D,_,rfl,run_takeDeferred hD,?_⟩⟩
     refine⟨_,k2,_,_,rfl,?_,⟨H1.blw.os,H1.blw.tape,H1.blw.output,H1.blw.size,fun k hk=>H1.blw.block k hk id⟩,H2.snd,H2.sub.sub,fun p v h=>(H2.new p v h).imp_right fun h=>h.elim id False.elim⟩;subst hR;exact E1 k3
    cases e with
    |norm=>exact hleave
    |ret=>exact hleave
    |exit id=>exact he.elim
    |goto l=>exact he.elim
   ·exact hR.elim
  ·exact hR.elim
 refine M9 c ?_;have hspl:=vr hsp;simp only[List.reverse_nil,List.nil_append]at hspl;rw[hspl,qP];refine HX hm (ma rfl) (B:=⟨w.heap.size,fun _=>False,[],#[],w.heap.size,noJ,[],fun _ _ _ _ _ _=>False⟩) (rX hpr) ?_ H (hpre (du hus));intro e κ1 M1 σ a w1 hR H1;cases e with
 |norm=>
   obtain⟨gf,id,bcs,bcs',e1,e2,e3,e4,e5,e6,e7⟩:=hR;refine wpIn_block (Lp hm rfl H1 (eN hxa) (eN hxb) hps (by simpa using hlen) hfull hround hg e1 e2 e3 (fun h=>by rw[iS.2 h]at e4;cases e4) e5 e6 e7 ?_ ?_)
   ·intro hall κ' M' w' D Hd
    refine HX hm Pv (B:=dqB ⟨w.heap.size,fun _=>False,[],#[],w.heap.size,noJ,[],fun _ _ _ _ _ _=>False⟩ D) (rX hpo) ?_ Hd (hdone hall);exact fun e κ M σ a w h1 h2=>fin D e κ M σ a w h1 h2
   ·intro hex κ' M' w' D Hd
    exact fin D .ret κ' M' _ _ w' (hstop hex) Hd
 |exit id=>exact hR.elim
 |goto l=>exact hR.elim
 |ret=>exact hR.elim
end
end Go.Abs
end
