/- From the model's operations to those of the abstract machine: each operation, whatever it turns. No condition. -/
import Derived.Test.YtnnbodoijkbceaaGreatDoorJAbs1
import Derived.Laws.IdiomStrings
import Derived.Laws.RangeAny
import Derived.Lib.FrozenHead
import Derived.Lib.UnsafeStr
import Derived.OrdersIn
import Derived.TacticsIn
set_option linter.all false
set_option maxHeartbeats 0
open List renaming getElem?_eq_some_iff→zAa,getElem?_set→zAd,eq_nil_of_length_eq_zero→zAe,length_append→zAf,take_of_length_le→zAg,getElem?_append_left→zAh,length_take→zAi,getElem?_take→zBb,getElem?_append_right→zBc,replicate→zBd,getElem?_eq_none→zBf,mem_append→zCa,length_map→zCb,length_drop→zCf,mem_singleton→zCg,getElem?_cons_succ→zCh,isEmpty_cons→zCi,drop_eq_nil_of_le→zDa,mem_of_getElem?→zDc,size_toArray→zDe,ext_getElem?→zDf,getElem?_drop→zDg,take_append→zDj,length_pos_iff→zEa,range→zEc,length_set→zEf,drop_append→zEh,mem_of_mem_take→zEi,mem_of_mem_drop→zEj,nil_append→zFb,getElem?_eq_getElem→zFd,getElem?_replicate→zFg,flatten_cons→zFh,set_eq_take_append_cons_drop→zGa,mem_cons_of_mem→zGd,length_nil→zGe,range_eq_range'→zGf,getElem_of_mem→zGg,take_take→zGh,range'→zGi,cons_append→zHb,map_map→zHc,getElem?_cons_zero→zHf,take→zHh,map_append→zHi,append_nil→zHj,take_left'→zIa,take_append_drop→zIc,mem_cons→zIf,replicate_succ→zIg,set_cons_zero→zIh,set_cons_succ→zIi,drop→zIj,mem_filterMap→zJa,length→zJd,length_cons→zJe,nodup_cons→zJf,getD→zKa
open Option.some renaming injEq→zAb
open Nat renaming le_refl→zAc,min_eq_left→zBg,le_mul_of_pos_right→zCd,mul_le_mul_right→zCe,add_mul→zCj,zero_le→zDb,add_zero→zDi,eq_zero_or_pos→zEd,zero_add→zFc,add_sub_cancel_left→zFf,one_mul→zFj,mod_eq_of_lt→zGc,lt_or_ge→zHd,mul_comm→zHe,mul_pos→zJc,mul_one→zJj
open Array renaming length_toList→zAj,getElem?_setIfInBounds→zBe,getElem?_eq_some_iff→zBh,range→zCc,getElem?_modify→zEg,toList_append→zFa,toList_map→zGb,getElem?_append→zId,toArray_toList→zIe,size_append→zJb,ext'→zJg,map→zJi
open Option renaming map_eq_some_iff→zBa,isSome_iff_exists→zBj,map_some→zEe,map_none→zJh
open Bool renaming and_eq_true→zBi,or_false→zDh
open Int renaming natCast_mul→zDd,eq_ofNat_of_zero_le→zEb,toNat_natCast→zFi,le_refl→zIb
open Iff renaming rfl→zFe
open UInt8 renaming ofNat→zGj,toNat_ofNat→zHa
open List.cons renaming injEq→zHg
section
namespace Go.Abs
open Go.RowKit
structure Snd (M:Mem) (w:World):Prop where
 snd:∀p v,M p=some v->w.cell? p=some v
 gl:Kj M
structure FnE (P:Program) (f:FuncId) (us:List V) (r:V):Prop where
 call:∀args w,(callFunc f args).run P w=.ok (.enter f args) w
 does:∀(M:Mem)(w:World)(cs:Array Value),Snd M w->ae M NX us cs.toList->
  Calls P f cs w fun e w'=>∃(c:Value)(M':Mem),e=.returned c/\rep M' NX r c/\Below w.heap.size w w'/\(∀p v,M' p=some v->w'.cell? p=some v)/\
   (∀p v,M p=some v->M' p=some v)/\∀p v,M' p=some v->M p=some v\/w.heap.size<=p.block
def Fn(P:Program)(f:FuncId)(us:List V)(r:V):Prop:=
 ∀(M:Mem)(w:World)(cs:Array Value),Snd M w->ae M NX us cs.toList->
   ∀(o:Oper)(a:Act)(Nx:Act->World->Prop)(Q:Exit->Act->World->Prop),(∀(c:Value)(M':Mem)(w':World),rep M' NX r c->Below w.heap.size w w'->(∀p v,M' p=some v->w'.cell? p=some v)->
     (∀p v,M p=some v->M' p=some v)->(∀p v,M' p=some v->M p=some v\/w.heap.size<=p.block)->Nx (a.put o.dst c) w')->o.upon P a Nx Q ((callFunc f cs).run P w)
theorem FnE.fn{P:Program}{f:FuncId}{us:List V}{r:V}(h:FnE P f us r):Fn P f us r:=by
 intro M w cs hM hus o a Nx Q hN;rw[h.call,Oper.upon_enter];refine(h.does M w cs hM hus).mono ?_;rintro e w' ⟨c,M',rfl,h1,h2,h3,h4,h5⟩;exact hN c M' w' h1 h2 h3 h4 h5
structure Heap (κ:Kap) (M:Mem) (B:Bas) (w:World) (H:List (Option Ob)):Prop where
 heap:∀id ob,H[id]?=some (some ob)->aE κ M (XX κ H) B w id ob
 inj:∀i j oi oj g,H[i]?=some (some oi)->H[j]?=some (some oj)->κ.bl i g->κ.bl j g->i=j
 snd:∀p v,M p=some v->w.cell? p=some v
 sep:∀p v,M p=some v->∀id ob,H[id]?=some (some ob)->¬κ.bl id p.block
 fmS:∀p v,κ.fm p=some v->M p=some v
 gl:Kj M
 jst:Be B
def fg(κ:Kap)(H:List (Option Ob))(g:Nat):Prop:=∃id ob,H[id]?=some (some ob)/\κ.bl id g
def cg(κ:Kap)(H:List (Option Ob))(w:World)(ps:List Nat)(cs:Array Value)(J:Nat->List (V×Bool)->(Nat->Prop)->Mem->World->Prop):Bas:=⟨w.heap.size,fg κ H,ps,cs,0,J,[],fun k j n i off c=>XX κ H (.q k j n i off) c⟩
def FR(ρ:Option Nat):Fence:={ Fence.wide with round:=ρ }
def noJ:Nat->List (V×Bool)->(Nat->Prop)->Mem->World->Prop:=fun _ _ _ _ _=>False
structure EnvStep (S:Nat->Prop) (w:World) (S':Nat->Prop) (M M':Mem) (w':World):Prop where
 os:w'.os=w.os
 tape:w'.tape=w.tape
 output:w'.output=w.output
 size:w.heap.size<=w'.heap.size
 block:∀g,g<w.heap.size->¬S g->w'.heap[g]?=w.heap[g]?
 siz:∀(k:Nat)(cur:Array Value)(T:TypeId)(z:Nat×Nat),w.heap[k]?=some (Obj.cells cur T z)->∃(cur':Array Value)(T':TypeId)(z':Nat×Nat),w'.heap[k]?=some (Obj.cells cur' T' z')/\cur'.size=cur.size
 mem:∀p v,M p=some v->M' p=some v
 snd:∀p v,M' p=some v->w'.cell? p=some v
 new:∀p v,M' p=some v->M p=some v\/w.heap.size<=p.block\/S p.block
 sep:∀p v,M' p=some v->¬S' p.block
 sub:∀g,S' g->S g\/w.heap.size<=g
 lt:∀g,S' g->g<w'.heap.size
def gw(P:Program)(M0:Mem)(B:Bas):Prop:=
 ∀(k:Nat)(us:List V)(b:Bool)(l:List (V×Bool))(S:Nat->Prop)(M:Mem)(w:World)(cs:Array Value),B.J k ((.tup us,b)::l) S M w->Snd M w->(∀p v,M p=some v->¬S p.block)->(∀p v,M p=some v->M0 p=some v\/B.own p.block)->ae M NX us cs.toList->
   ∀(o:Oper)(a:Act)(Nx:Act->World->Prop)(Q:Exit->Act->World->Prop)(ρ:Option Nat),(∀(M':Mem)(S':Nat->Prop)(w':World),B.J k l S' M' w'->EnvStep S w S' M M' w'->Nx (a.put o.dst (.bool b)) w')->o.uponIn (FR ρ) 0 P a Nx Q ((Instr.yield k cs).run P w)
def FnH(P:Program)(f:FuncId)(ps:List Nat)(us:List V)(H:List (Option Ob))(r:V)(H':List (Option Ob)):Prop:=
 ∀(M:Mem)(w:World)(κ:Kap)(cs:Array Value)(J:Nat->List (V×Bool)->(Nat->Prop)->Mem->World->Prop),gw P M (cg κ H w ps cs J)->Heap κ M (cg κ H w ps cs J) w H->ae M (XX κ H) us cs.toList->
   ∀(o:Oper)(a:Act)(Nx:Act->World->Prop)(Q:Exit->Act->World->Prop),(∀(c:Value)(M':Mem)(w':World)(κ':Kap),rep M' (XX κ' H') r c->Und (cg κ H w ps cs J) w w'->Heap κ' M' (cg κ H w ps cs J) w' H'->
     (∀p v,M p=some v->M' p=some v)->(∀p v,M' p=some v->M p=some v\/(cg κ H w ps cs J).own p.block)->
     (∀i,i∈ps->∀u d,us[i]?=some u->cs[i]?=some d->rep M' (XX κ' H') u d)->Nx (a.put o.dst c) w')->o.upon P a Nx Q ((callFunc f cs).run P w)
def FnX(P:Program)(f:FuncId)(ps:List Nat)(us:List V)(H:List (Option Ob))(Z:V->List (Option Ob)->Prop):Prop:=
 ∀(M:Mem)(w:World)(κ:Kap)(cs:Array Value)(J:Nat->List (V×Bool)->(Nat->Prop)->Mem->World->Prop),gw P M (cg κ H w ps cs J)->Heap κ M (cg κ H w ps cs J) w H->ae M (XX κ H) us cs.toList->
   ∀(o:Oper)(a:Act)(Nx:Act->World->Prop)(Q:Exit->Act->World->Prop),(∀(r:V)(H':List (Option Ob))(c:Value)(M':Mem)(w':World)(κ':Kap),Z r H'->rep M' (XX κ' H') r c->Und (cg κ H w ps cs J) w w'->Heap κ' M' (cg κ H w ps cs J) w' H'->
     (∀p v,M p=some v->M' p=some v)->(∀p v,M' p=some v->M p=some v\/(cg κ H w ps cs J).own p.block)->
     (∀i,i∈ps->∀u d,us[i]?=some u->cs[i]?=some d->rep M' (XX κ' H') u d)->Nx (a.put o.dst c) w')->o.upon P a Nx Q ((callFunc f cs).run P w)
theorem FnH.x{P:Program}{f:FuncId}{ps:List Nat}{us:List V}{H H':List (Option Ob)}{r:V}(h:FnH P f ps us H r H'):FnX P f ps us H (fun r1 H1=>r1=r/\H1=H'):=
 fun M w κ cs J h1 h2 h3 o a Nx Q hN=>h M w κ cs J h1 h2 h3 o a Nx Q fun c M' w' κ'=>hN r H' c M' w' κ' ⟨rfl,rfl⟩
theorem FnX.h{P:Program}{f:FuncId}{ps:List Nat}{us:List V}{H H':List (Option Ob)}{r:V}(h:FnX P f ps us H (fun r1 H1=>r1=r/\H1=H')):FnH P f ps us H r H':=
 fun M w κ cs J h1 h2 h3 o a Nx Q hN=>h M w κ cs J h1 h2 h3 o a Nx Q fun r1 H1 c M' w' κ' ⟨e1,e2⟩=>by subst e1 e2;exact hN c M' w' κ'
def sl(w:World)(M:Mem):Mem:=fun p=>if w.heap.size<=p.block then M p else none
def FnN(P:Program)(f:FuncId)(us:List V)(r:V):Prop:=
 ∀(M:Mem)(w:World)(cs:Array Value),Snd M w->ae M NX us cs.toList->
   ∀(o:Oper)(a:Act)(Nx:Act->World->Prop)(Q:Exit->Act->World->Prop),(∀(c:Value)(M':Mem)(w':World),rep (sl w M') NX r c->Below w.heap.size w w'->(∀p v,M' p=some v->w'.cell? p=some v)->Nx (a.put o.dst c) w')->o.upon P a Nx Q ((callFunc f cs).run P w)
theorem Ij{w:World}{M:Mem}{p:Addr}{v:Value}(h:sl w M p=some v):w.heap.size<=p.block/\M p=some v:=by
 unfold sl at h;split at h
 ·exact⟨by assumption,h⟩
 ·cases h
def Cn(P:Program):Ctr:=⟨Fn P,FnN P,FnH P,FnX P⟩
theorem jP{P:Program}{M0:Mem}{B:Bas}(h:B.J=noJ):gw P M0 B:=fun _ _ _ _ _ _ _ _ hj=>by rw[h]at hj;exact hj.elim
theorem jO{B:Bas}(h:B.J=noJ):Be B:=fun k l S M M' w w' hj=>by rw[h]at hj;exact hj.elim
theorem Fn.ext{P:Program}{f:FuncId}{us:List V}{r:V}{fn:Func}{e:Array Value->Sem Value}(hf:P.funcs[f]?=some fn)(hname:(fn.name == "runtime.NumGoroutine")=false)(hb:fn.body.isNone=true)
 (hn:Extern.findNext fn=none) (he:Extern.find fn=some e) (hr:∀(M:Mem)(w:World)(cs:Array Value),Snd M w->ae M NX us cs.toList->∃c,(e cs).run P w=.ok c w/\rep M NX r c):Fn P f us r:=by
 intro M w cs hM hus o a Nx Q hN;obtain⟨c,h1,h2⟩:=hr M w cs hM hus;rw[run_callFunc_extern hf hname hb hn he,h1];exact hN c M w h2 (Below.refl _ _) hM.snd (fun _ _ h=>h) (fun _ _ h=>.inl h)
def Vu(P:Program)(name:String)(t:TypeId):Option (Nat×FuncId):=
 match P.info? t with
 |some i=>match i.methods.find? (·.name == name)with
   |some m=>match m.path.toList,m.func,P.underlying t with
     |[],some (f,false),some (.pointer _)=>none
     |[],some (f,true),some (.pointer _)=>some (t,f)
     |[],some (f,false),some _=>some (t,f)
     |_,_,_=>none
   |none=>none
 |none=>none
def YL(P:Program)(name:String):List (Nat×FuncId):=(zEc P.types.size).filterMap (Vu P name)
def YJ(P:Program)(e:TypeId):Option (Nat×Bool):=match dM P e,r7 P e with
 |some n,some g=>if g=true\/n=1 then some (n,g)else none
 |_,_=>none
def Vt(P:Program)(name:String)(t:TypeId):Option (Nat×FuncId×Option (Nat×Bool)):=
 match P.info? t with
 |some i=>match i.methods.find? (·.name == name)with
   |some m=>match m.path.toList,m.func,P.underlying t with
     |[],some (f,false),some (.pointer e)=>match YJ P e with
       |some l=>some (t,f,some l)
       |none=>none
     |[],some (f,true),some (.pointer _)=>some (t,f,none)
     |[],some (f,false),some _=>some (t,f,none)
     |_,_,_=>none
   |none=>none
 |none=>none
def Vs(P:Program)(name:String):List (Nat×FuncId×Option (Nat×Bool)):=(zEc P.types.size).filterMap (Vt P name)
inductive LE (P:Program):TypeId->Op->Act'->Prop
 |alloc {ty e i z v}:P.info? e=some i->i.zero=some z->cV P e z=some v->nt v=true->LE P ty (.alloc e) (.alc (cl v))
 |alq {ty e i z v}:P.info? e=some i->i.zero=some z->cV P e z=some v->nt v=true->LE P ty (.alloc e) (.alq (cl v))
 |mkq {ty t l l' e i z v v' n by'}:P.underlying t=some (.slice e)->P.info? e=some i->i.zero=some z->cV P e z=some v->nt v=true->pur [] v=some v'->i.size=n->i.bytes=by'->0<by'->0<n->cO P 0 l=some l'->
    z.cells.size=n->LE P ty (.makeSlice t l l) (.mkq e n by' v' l')
 |apz {ty t x y y' e i z n by' s0}:P.underlying t=some (.slice e)->P.info? e=some i->i.zero=some z->i.size=n->i.bytes=by'->0<by'->z.cells.size=n->0<n->cO P t x=some (.v (.nil s0))->cO P t y=some y'->
    LE P ty (.call { callee:=.builtin .append,args:=#[x,y],argTypes:=#[t,t] }) (.apz y' e n by')
 |sbq {ty s d x y e}:cO P s x=some y->P.underlying s=some .string->P.underlying d=some (.slice e)->P.underlying e=some (.int .u8)->LE P ty (.convert s d x) (.sbq y)
 |aps {ty t u x y x' y' e i}:P.underlying t=some (.slice e)->P.underlying u=some .string->P.info? e=some i->i.zero=some (.int .u8 0)->i.size=1->i.bytes=1->cO P t x=some x'->cO P u y=some y'->
    LE P ty (.call { callee:=.builtin .append,args:=#[x,y],argTypes:=#[t,u] }) (.aps x' y' e)
 |apb {ty t x y x' y' e i z}:P.underlying t=some (.slice e)->P.info? e=some i->i.zero=some z->i.size=1->i.bytes=1->z.cells.size=1->cO P t x=some x'->cO P t y=some y'->
    LE P ty (.call { callee:=.builtin .append,args:=#[x,y],argTypes:=#[t,t] }) (.apb x' y' e)
 |alb {ty e i z v q}:P.info? e=some i->i.zero=some z->cV P e z=some v->nt v=true->LE P ty (.alloc e) (.alb e q (cl v))
 |usd {ty t x x' e}:cO P t x=some x'->P.underlying t=some (.slice e)->LE P ty (.call { callee:=.builtin .unsafeSliceData,args:=#[x],argTypes:=#[t] }) (.usd x')
 |ust {ty pt it p n p' n' e}:P.underlying pt=some (.pointer e)->P.cellsOf e=1->cO P pt p=some p'->cO P it n=some n'->LE P ty (.call { callee:=.builtin .unsafeString,args:=#[p,n],argTypes:=#[pt,it] }) (.ust p' n' e)
 |del {ty t K E x k u b kt}:P.underlying t=some (.map K E)->ktT P K=some kt->cO P t x=some u->cO P K k=some b->LE P ty (.call { callee:=.builtin .delete,args:=#[x,k],argTypes:=#[t,K] }) (.del kt u b)
 |box {ty e x y}:cO P e x=some y->LE P ty (.box e x) (.box y)
 |bxq {ty e x y}:cO P e x=some y->LE P ty (.box e x) (.bxq y)
 |cvb {ty s e x y}:cO P s x=some y->P.underlying s=some (.slice e)->P.underlying e=some (.int .u8)->LE P ty (.convert s s x) (.cvb y)
 |store {ty t p x p' x' n}:cO P 0 p=some p'->cO P t x=some x'->dM P t=some n->LE P ty (.store t p x) (.st n p' x')
 |s2b {ty s d x y e}:cO P s x=some y->P.underlying s=some .string->P.underlying d=some (.slice e)->P.underlying e=some (.int .u8)->LE P ty (.convert s d x) (.s2b y)
 |lit {ty t len parts xs e n i z}:P.underlying t=some (.slice e)->P.info? e=some i->i.size=n->0<n->i.zero=some z->z.cells.size=n->len*n<=16777216->parts.toList.map (·.1)=zEc len->
    cOs P (zBd len e) (parts.toList.map (·.2))=some xs->LE P ty (.buildSlice t len parts) (.lit e n xs)
 |ltr {ty t len parts xs e n i z}:P.underlying t=some (.slice e)->P.info? e=some i->i.size=n->0<n->i.zero=some z->z.cells.size=n->len*n<=16777216->parts.toList.map (·.1)=zEc len->
    cOs P (zBd len e) (parts.toList.map (·.2))=some xs->LE P ty (.buildSlice t len parts) (.ltr e n xs)
 |app {ty t x y x' y' e i z n by'}:P.underlying t=some (.slice e)->P.info? e=some i->i.zero=some z->i.size=n->i.bytes=by'->0<by'->z.cells.size=n->0<n->cO P t x=some x'->cO P t y=some y'->
    LE P ty (.call { callee:=.builtin .append,args:=#[x,y],argTypes:=#[t,t] }) (.app x' y' e n by')
 |mk0 {ty t k l l' e i z n by'}:P.underlying t=some (.slice e)->P.info? e=some i->i.zero=some z->i.size=n->i.bytes=by'->0<by'->0<n->cO P 0 l=some l'->
    LE P ty (.makeSlice t (.const (.int k 0)) l) (.mk0 e n by' l')
 |mkm {ty t l l' e i n by' e2 i2}:P.underlying t=some (.slice e)->P.info? e=some i->i.zero=some (.slice none 0 0)->i.size=1->i.bytes=by'->0<by'->P.underlying e=some (.slice e2)->P.info? e2=some i2->i2.size=n->0<n->cO P 0 l=some l'->
    LE P ty (.makeSlice t l l) (.mkm e by' e2 n l')
 |mks {ty t l l' e i z v v' n by'}:P.underlying t=some (.slice e)->P.info? e=some i->i.zero=some z->cV P e z=some v->nt v=true->pur [] v=some v'->i.size=n->i.bytes=by'->0<by'->0<n->cO P 0 l=some l'->
    z.cells.size=n->LE P ty (.makeSlice t l l) (.mks e n by' v' l')
 |call {ty f args ts xs}:cOs P ts.toList args.toList=some xs->LE P ty (.call { callee:=.value (.func f),args:=args,argTypes:=ts }) (.call f xs)
 |callH {ty f args ts xs}:cOs P ts.toList args.toList=some xs->LE P ty (.call { callee:=.value (.func f),args:=args,argTypes:=ts }) (.callH f xs)
 |b2s {ty s d x u e}:cO P s x=some u->P.underlying s=some (.slice e)->P.underlying e=some (.int .u8)->P.underlying d=some .string->LE P ty (.convert s d x) (.b2s u)
 |mkp {ty t K E kt}:P.underlying t=some (.map K E)->ktT P K=some kt->LE P ty (.makeMap t none) (.mkp kt)
 |mup {ty t K E x k v u b c kt}:P.underlying t=some (.map K E)->ktT P K=some kt->cO P t x=some u->cO P K k=some b->cO P E v=some c->LE P ty (.mapUpdate t x k v) (.mup kt u b c)
 |mui {ty t K E x k v u b c kt}:P.underlying t=some (.map K E)->ktT P K=some kt->cO P t x=some u->cO P K k=some b->cO P E v=some c->LE P ty (.insert t x k v) (.mup kt u b c)
 |inv {ty r x name args ts xs tbl}:cO P 0 r=some x->YL P name=tbl->cOs P ts.toList args.toList=some xs->LE P ty (.call { callee:=.invoke r name,args:=args,argTypes:=ts }) (.inv tbl x xs)
 |ivp {ty r x name args ts xs tbl}:cO P 0 r=some x->Vs P name=tbl->cOs P ts.toList args.toList=some xs->LE P ty (.call { callee:=.invoke r name,args:=args,argTypes:=ts }) (.ivp tbl x xs)
 |trc {ty t x hi u hi' e n}:cO P t x=some u->cO P 0 hi=some hi'->P.underlying t=some (.slice e)->dM P e=some n->LE P ty (.slice t x none (some hi) none) (.trc u hi' n)
 |yld {ty g args ts xs}:cOs P ts.toList args.toList=some xs->LE P ty (.call { callee:=.value (.tmp g),args:=args,argTypes:=ts }) (.yld (.t g) xs)
 |rgs {ty t x u}:cO P t x=some u->P.underlying t=some .string->LE P ty (.range t x) (.rgs u)
 |nxs {ty x u}:cO P 0 x=some u->LE P ty (.next x true) (.nxs u)
 |callv {ty g args ts xs}:cOs P ts.toList args.toList=some xs->LE P ty (.call { callee:=.value (.tmp g),args:=args,argTypes:=ts }) (.callv (.t g) xs)
section
variable{P:Program}{N:Nat}{M0:Mem}{B:Bas}{w0:World}{κ:Kap}{M:Mem}{σ:St}{a:Act}{w w':World}
theorem ba(w:World)(o:Obj):Below w.heap.size w (w.alloc o):=(Below.refl _ _).alloc (zAc _) _
theorem Nb(ids:List Nat)(σ:St):(σ.kill ids).r=σ.r:=(oW ids σ).1
theorem v7(H:Rel N M0 B w0 κ M σ a w){o:Oper}(hd:∀t,o.dst=some t->t<N/\t ∉ B.ps){f:FuncId}{us:List V}{r:V}(hW:(Fn P f us r/\cI r=true)\/FnN P f us r)
 {cs:Array Value} (hcs:ae w.cell? NX us cs.toList) {Nx:Act->World->Prop} (hK:∀κ' M' a' w',ok r->Rel N M0 B w0 κ' M' (σ.put o.dst r) a' w'->Nx a' w') {Q:Exit->Act->World->Prop}:
 o.upon P a Nx Q ((callFunc f cs).run P w):=by
 obtain⟨hr,hf⟩|hr:=hW
 ·refine hr w.cell? w cs ⟨fun _ _ h=>h,(H.sub.gl.mono H.sub.sub).mono H.snd⟩ hcs o a Nx Q ?_
  intro c M' w' h1 h2 h3 h4 h5;have H':=H.grow0 h2;exact hK _ _ _ _ (jM h1) (H'.put' hd (lN hf h1))
 ·refine hr w.cell? w cs ⟨fun _ _ h=>h,(H.sub.gl.mono H.sub.sub).mono H.snd⟩ hcs o a Nx Q ?_
  intro c M' w' h1 h2 h3;have hsub:∀p v,sl w M' p=some v->w.heap.size<=p.block/\M' p=some v:=fun p v h=>Ij h
  have H':Rel N M0 B w0 κ (fun p=>(M p).or (sl w M' p)) σ a w':=by
   refine H.grow h2 (fun p v hp=>by simp[hp]) (fun p v hp=>?_) (fun p v hp=>?_)
   ·cases hm:M p with
    |none=>simp[hm]at hp;exact h3 p v (hsub p v hp).2
    |some u=>
      simp[hm]at hp;subst hp;rw[h2.cell (H.mem_lt hm)];exact H.snd p u hm
   ·cases hm:M p with
    |none=>simp[hm]at hp;exact .inr (hsub p v hp).1
    |some u=>simp[hm]at hp;subst hp;exact .inl rfl
  refine hK _ _ _ _ (jM h1) (H'.put' hd (aB (aw (fun p v hp=>?_) (fun _ _ h=>h) _ _ h1)));have:=(hsub p v hp).1;cases hm:M p with
  |none=>simp[hp]
  |some u=>have:=H.mem_lt hm;omega
theorem m4(H:Rel N M0 B w0 κ M σ a w){d:Option Nat}(hd:∀t,d=some t->t<N/\t ∉ B.ps){f:FuncId}{vs us:List V}{K:St->Prop}(hW:kB (Cn P) d f vs us K σ)(hp:purs σ.h vs=some us)
 {cs:Array Value} (hcs:ae M (XX κ σ.h) vs cs.toList) {Nx:Act->World->Prop} (hK:∀κ' M' σ' a' w',K σ'->Rel N M0 B w0 κ' M' σ' a' w'->Nx a' w') {Q:Exit->Act->World->Prop} (o:Oper) (ho:o.dst=d):
 o.upon P a Nx Q ((callFunc f cs).run P w):=by
 subst ho;obtain⟨r,⟨(⟨hr,hf|hf⟩|hr),hk⟩|⟨hr,hk⟩|⟨hr,hk⟩⟩:=hW
 ·exact v7 H hd (.inl ⟨hr,hf⟩) (bo H H.snd (fun _ _ _ _ _ _=>rfl) hcs hp) fun _ _ _ _ h=>hK _ _ _ _ _ (hk h)
 ·refine hr M w cs ⟨H.snd,H.sub.gl.mono H.sub.sub⟩ ?_ o a Nx Q ?_
  ·refine bo H (fun _ _ h=>h) (fun id hid=>?_) hcs hp
   rw[hf]at hid;cases hid
  ·intro c M' w' h1 h2 h3 h4 h5
   have H':=H.grow h2 h4 h3 h5;exact hK _ _ _ _ _ (hk (jM h1)) (H'.put' hd (aB h1))
 ·exact v7 H hd (.inr hr) (bo H H.snd (fun _ _ _ _ _ _=>rfl) hcs hp) fun _ _ _ _ h=>hK _ _ _ _ _ (hk h)
 ·obtain⟨H1,hM1⟩:=H.kill (ak vs) (dr hp)
  refine hr (ext M w (gp κ (ak vs))) w cs ⟨H1.snd,H1.sub.gl.mono H1.sub.sub⟩ ?_ o a Nx Q ?_
  ·refine bo H hM1 (fun id hid g hg p hpb=>?_) hcs hp
   unfold ext;rw[if_pos (cf.2 ⟨id,hid,by rw[hpb];exact hg⟩)]
  ·intro c M' w' h1 h2 h3 h4 h5
   have H':=H1.grow h2 h4 h3 h5;exact hK _ _ _ _ _ (hk (jM h1)) (H'.put' hd (aB h1))
 ·refine hr w.cell? w cs ⟨fun _ _ h=>h,(H.sub.gl.mono H.sub.sub).mono H.snd⟩ (bo H H.snd (fun _ _ _ _ _ _=>rfl) hcs hp) o a Nx Q ?_
  intro c M' w' h1 h2 h3;have hsub:∀p v,sl w M' p=some v->w.heap.size<=p.block/\M' p=some v:=fun p v h=>Ij h
  have hMn:∀p v,sl w M' p=some v->(fun p=>(M p).or (sl w M' p)) p=some v:=fun p v hp=>by
   have:=(hsub p v hp).1;cases hm:M p with
   |none=>simp[hm,hp]
   |some u=>have:=H.mem_lt hm;omega
  have H':Rel N M0 B w0 κ (fun p=>(M p).or (sl w M' p)) σ a w':=by
   refine H.grow h2 (fun p v hp=>by simp[hp]) (fun p v hp=>?_) (fun p v hp=>?_)
   ·cases hm:M p with
    |none=>simp[hm]at hp;exact h3 p v (hsub p v hp).2
    |some u=>
      simp[hm]at hp;subst hp;rw[h2.cell (H.mem_lt hm)];exact H.snd p u hm
   ·cases hm:M p with
    |none=>simp[hm]at hp;exact .inr (hsub p v hp).1
    |some u=>simp[hm]at hp;subst hp;exact .inl rfl
  have H'':=H'.addF (F:=sl w M') (fun p v hp=>⟨hMn p v hp,by have:=(hsub p v hp).1;have:=H.sub.fbn;have:=H.blw.size;have:=H.base;omega⟩)
  refine hK _ _ _ _ _ (hk (jM h1)) (H''.put' hd (R8 hMn (fun sz l c hc hr=>?_) h1));simp only[XX];refine⟨hc,aw (fun p v hp=>?_) (X:=NX) (fun _ _ h=>h) _ _ hr⟩;simp only[Kap.add,Option.or_eq_some_iff];cases hf:κ.fm p with
  |none=>exact .inr ⟨rfl,hp⟩
  |some u=>have:=H.mem_lt (H.sub.fmS p u hf);have:=(hsub p v hp).1;omega
theorem xZ{n k j:Nat}{x:Nat}(h:(zGi n k)[j]?=some x):x=n+j/\j<k:=by
 obtain⟨h1,h2⟩:=zAa.1 h;simp at h1 h2;omega
theorem Dn:∀(ids:List Nat)(obs h:List (Option Ob)),(wr h ids obs).length=h.length
 |[],obs,h=>by simp[wr]
 |_::_,[],h=>by simp[wr]
 |id::ids,ob::obs,h=>by simp[wr,Dn ids obs]
theorem PW:∀(ids:List Nat)(obs h:List (Option Ob)),ids.Nodup->ids.length=obs.length->∀{i:Nat}{ob:Ob},(wr h ids obs)[i]?=some (some ob)->
 (∃j:Nat,ids[j]?=some i/\obs[j]?=some (some ob))\/(i ∉ ids/\h[i]?=some (some ob))
 |[],obs,h,_,_,i,ob,hi=>by simp only[wr]at hi;exact .inr ⟨by simp,hi⟩
 |id::ids,[],h,_,hl,i,ob,hi=>by simp at hl
 |id::ids,o::obs,h,hn,hl,i,ob,hi=>by
   simp only[wr]at hi;simp only[zJf]at hn;rcases PW ids obs _ hn.2 (by simpa using hl) hi with⟨j,h1,h2⟩|⟨h1,h2⟩
   ·exact .inl ⟨j+1,by simpa using h1,by simpa using h2⟩
   ·rw[zAd]at h2
    split at h2
    ·rename_i he
     subst he;split at h2
     ·exact .inl ⟨0,by simp,by simpa using h2⟩
     ·cases h2
    ·rename_i he
     exact .inr ⟨by simp;exact⟨fun e=>he e.symm,h1⟩,h2⟩
theorem xr{m:List Nat}:∀{H:List (Option Ob)},(G0 m H).length=H.length
 |[]=>rfl
 |_::H=>by simp[G0,xr (H:=H)]
theorem J4{m:List Nat}:∀{H:List (Option Ob)}{j:Nat}{ob:Ob},(G0 m H)[j]?=some (some ob)->∃ob',H[j]?=some (some ob')/\cW m (some ob')=some ob
 |[],j,ob,h=>by simp[G0]at h
 |o::H,0,ob,h=>by
   simp only[G0,zHf,zAb]at h;cases o with
   |none=>simp[cW]at h
   |some ob'=>exact⟨ob',by simp,h⟩
 |o::H,j+1,ob,h=>by
   simp only[G0,zCh]at h⊢;exact J4 h
mutual
theorem GZ{m:List Nat}{X X':V->Value->Prop}(hX:∀v c,X v c->rep M X' (bck m v) c):∀{v:V}{c:Value},rep M X v c->rep M X' (bck m v) c
 | .int _ _,_,h=>h
 | .bool _,_,h=>h
 | .str _,_,h=>h
 | .nil _,_,h=>h
 | .seq _ _,_,h=>h
 | .sptr _ _,_,h=>h
 | .nilptr,_,h=>h
 | .nilfn,_,h=>h
 | .nilmp,_,h=>h
 | .niliface,_,h=>h
 | .junk,_,h=>h
 | .ref _ _,_,h=>hX _ _ h
 | .ptr _ _,_,h=>hX _ _ h
 | .eptr _ _ _ _,_,h=>hX _ _ h
 | .mref _ _ _,_,h=>hX _ _ h
 | .fseq _ _,_,h=>hX _ _ h
 | .mptr _ _ _ _ _,_,h=>hX _ _ h
 | .q _ _ _ _ _,_,h=>hX _ _ h
 | .strct cs,c,h=>by
   simp only[rep,bck]at h⊢;obtain⟨arr,h1,h2,h3⟩:=h;exact⟨arr,h1,md hX h2,h3⟩
 | .tup cs,c,h=>by
   simp only[rep,bck]at h⊢;obtain⟨arr,h1,h2⟩:=h;exact⟨arr,h1,md hX h2⟩
 | .fn f x y,c,h=>by
   simp only[rep,bck]at h⊢;obtain⟨a1,a2,h1,h2,h3⟩:=h;exact⟨a1,a2,h1,md hX h2,md hX h3⟩
 | .iface t x,c,h=>by
   simp only[rep,bck]at h⊢;obtain⟨y,h1,h2⟩:=h;exact⟨y,h1,GZ hX h2⟩
theorem md{m:List Nat}{X X':V->Value->Prop}(hX:∀v c,X v c->rep M X' (bck m v) c):∀{vs:List V}{cs:List Value},ae M X vs cs->ae M X' (lI m vs) cs
 |[],_,h=>h
 |v::vs,cs,h=>by
   simp only[ae,lI]at h⊢;obtain⟨c,cs',h1,h2,h3⟩:=h;exact⟨c,cs',h1,GZ hX h2,md hX h3⟩
end
theorem fG:∀(l acc:List Nat),∃t,bY acc l=acc++t
 |[],acc=>⟨[],by simp[bY]⟩
 |k::ks,acc=>by
   simp only[bY];split
   ·exact fG ks acc
   ·obtain⟨t,ht⟩:=fG ks (acc++[k])
    exact⟨[k]++t,by rw[ht];simp⟩
theorem kK{h:List (Option Ob)}:(di h).Nodup:=by
 unfold di;split<;>simp
theorem Oq{h:List (Option Ob)}{id:Nat}(hi:id∈di h):id=0/\∃ms,h[0]?=some (some (.pool ms)):=by
 unfold di at hi;split at hi
 ·simp at hi;exact⟨hi,_,rfl⟩
 ·cases hi
theorem yD{h:List (Option Ob)}(l:List Nat){ms:List Po}(hp:h[0]?=some (some (.pool ms))):∃t,bY (di h) l=0::t:=by
 obtain⟨t,ht⟩:=fG l (di h);rw[ht];cases h with
 |nil=>simp at hp
 |cons a h=>simp at hp;subst hp;exact⟨t,rfl⟩
theorem DP{h:List (Option Ob)}{l1 l2 l3:List Nat}:Te h (bY (bY (bY (di h) l1) l2) l3):=fun ms hp=>by
 obtain⟨t0,h0⟩:=yD l1 hp;obtain⟨t1,h1⟩:=fG l2 (bY (di h) l1);obtain⟨t2,h2⟩:=fG l3 (bY (bY (di h) l1) l2);rw[h2,h1,h0];exact⟨_,rfl⟩
theorem yE:∀(l acc:List Nat){x:Nat},x∈bY acc l->x∈acc\/x∈l
 |[],acc,x,h=>.inl h
 |k::ks,acc,x,h=>by
   simp only[bY]at h;split at h
   ·rcases yE ks acc h with h|h
    ·exact .inl h
    ·exact .inr (by simp[h])
   ·rcases yE ks _ h with h|h
    ·simp at h
     rcases h with h|h
     ·exact .inl h
     ·exact .inr (by simp[h])
    ·exact .inr (by simp[h])
theorem D6{h:List (Option Ob)}{pvs vs:List V}:(cU h pvs vs).2.Nodup/\(cU h pvs vs).2.take (cU h pvs vs).1=bY (di h) (ak pvs)/\(cU h pvs vs).1=(bY (di h) (ak pvs)).length/\Te h (cU h pvs vs).2:=by
 unfold cU;simp only;obtain⟨t1,h1⟩:=fG (ak vs) (bY (di h) (ak pvs));obtain⟨t2,h2⟩:=fG (nY h (bY (bY (di h) (ak pvs)) (ak vs))) (bY (bY (di h) (ak pvs)) (ak vs));refine⟨bN _ _ (bN _ _ (bN _ _ (bN _ _ kK))),?_,trivial,fun ms hp=>?_⟩
 ·generalize hb:bY (bY (bY (di h) (ak pvs)) (ak vs)) (nY h (bY (bY (di h) (ak pvs)) (ak vs)))=b at *
  obtain⟨t3,h3⟩:=fG (nY h b) b;rw[h3,h2,h1];simp
 ·obtain⟨t0,h0⟩:=yD (ak pvs) hp
  generalize hb:bY (bY (bY (di h) (ak pvs)) (ak vs)) (nY h (bY (bY (di h) (ak pvs)) (ak vs)))=b at *;obtain⟨t3,h3⟩:=fG (nY h b) b;rw[h3,h2,h1,h0];exact⟨_,rfl⟩
theorem vw{vs:List V}:∀{ps:List Nat}{v:V},v∈bk vs ps->∃i,i∈ps/\vs[i]?=some v
 |[],v,h=>by simp[bk]at h
 |i::is,v,h=>by
   simp only[bk]at h;split at h
   ·rename_i u hu
    rcases zIf.1 h with rfl|h
    ·exact⟨i,by simp,hu⟩
    ·obtain⟨j,h1,h2⟩:=vw h;exact⟨j,by simp[h1],h2⟩
   ·obtain⟨j,h1,h2⟩:=vw h;exact⟨j,by simp[h1],h2⟩
theorem J1:∀{vs:List V}{v:V},σ.curs vs=true->v∈vs->σ.cur v=true
 |[],v,_,h=>by cases h
 |u::us,v,hc,h=>by
   simp only[St.curs,zBi]at hc;rcases zIf.1 h with rfl|h
   ·exact hc.1
   ·exact J1 hc.2 h
mutual
theorem AR{σ:St}{id:Nat}:∀{u:V},σ.cur u=true->id∈aA u->∃v,σ.cur0 v=true/\aA v=[id]
 | .fn _ a b,h,hi=>by
   simp only[St.cur,zBi]at h;simp only[aA,zCa]at hi;rcases hi with hi|hi
   ·exact l6 h.1 hi
   ·exact l6 h.2 hi
 | .strct cs,h,hi=>by simp only[St.cur]at h;simp only[aA]at hi;exact l6 h hi
 | .tup cs,h,hi=>by simp only[St.cur]at h;simp only[aA]at hi;exact l6 h hi
 | .iface _ x,h,hi=>by simp only[St.cur]at h;simp only[aA]at hi;exact AR h hi
 | .int _ _,h,hi=>by simp[aA]at hi
 | .bool _,h,hi=>by simp[aA]at hi
 | .str _,h,hi=>by simp[aA]at hi
 | .nil _,h,hi=>by simp[aA]at hi
 | .seq _ _,h,hi=>by simp[aA]at hi
 | .fseq _ _,h,hi=>by simp[aA]at hi
 | .sptr _ _,h,hi=>by simp[aA]at hi
 | .nilptr,h,hi=>by simp[aA]at hi
 | .nilfn,h,hi=>by simp[aA]at hi
 | .nilmp,h,hi=>by simp[aA]at hi
 | .niliface,h,hi=>by simp[aA]at hi
 | .junk,h,hi=>by simp[aA]at hi
 | .mref _ _ _,h,hi=>by simp[St.cur,St.cur0,aA]at h
 | .mptr _ _ _ _ _,h,hi=>by simp[St.cur,St.cur0,aA]at h
 | .q k j n i o,h,hi=>by
   simp only[aA,zCg]at hi;subst hi;simp only[St.cur,aA,zCi,zDh]at h;exact⟨_,h,rfl⟩
 | .ref a n,h,hi=>by
   simp only[aA,zCg]at hi;subst hi;simp only[St.cur,aA,zCi,zDh]at h;exact⟨_,h,rfl⟩
 | .ptr a n,h,hi=>by
   simp only[aA,zCg]at hi;subst hi;simp only[St.cur,aA,zCi,zDh]at h;exact⟨_,h,rfl⟩
 | .eptr a n i o,h,hi=>by
   simp only[aA,zCg]at hi;subst hi;simp only[St.cur,aA,zCi,zDh]at h;exact⟨_,h,rfl⟩
theorem l6{σ:St}{id:Nat}:∀{u:List V},σ.curA u=true->id∈ak u->∃v,σ.cur0 v=true/\aA v=[id]
 |[],_,hi=>by simp[ak]at hi
 |v::vs,h,hi=>by
   simp only[St.curA,zBi]at h;simp only[ak,zCa]at hi;rcases hi with hi|hi
   ·exact AR h.1 hi
   ·exact l6 h.2 hi
end
mutual
theorem qC{σ:St}{id:Nat}{m:List Nat}{M M':Mem}{X X':V->Value->Prop}:∀{u:V}{d:Value},σ.cur u=true->rep M X u d->rep M' X' (ren m u) d->id∈aA u->∃v c,σ.cur0 v=true/\aA v=[id]/\rep M X v c/\rep M' X' (ren m v) c
 | .fn _ a b,d,h,h1,h2,hi=>by
   simp only[St.cur,zBi]at h;simp only[aA,zCa]at hi;simp only[ren,rep]at h1 h2;obtain⟨a1,a2,rfl,g1,g2⟩:=h1;obtain⟨b1,b2,e,g3,g4⟩:=h2;cases e;rcases hi with hi|hi
   ·exact j4 h.1 g1 g3 hi
   ·exact j4 h.2 g2 g4 hi
 | .strct cs,d,h,h1,h2,hi=>by
   simp only[St.cur]at h;simp only[aA]at hi;simp only[ren,rep]at h1 h2;obtain⟨a1,rfl,g1,_⟩:=h1;obtain⟨b1,e,g3,_⟩:=h2;cases e;exact j4 h g1 g3 hi
 | .tup cs,d,h,h1,h2,hi=>by
   simp only[St.cur]at h;simp only[aA]at hi;simp only[ren,rep]at h1 h2;obtain⟨a1,rfl,g1⟩:=h1;obtain⟨b1,e,g3⟩:=h2;cases e;exact j4 h g1 g3 hi
 | .iface _ x,d,h,h1,h2,hi=>by
   simp only[St.cur]at h;simp only[aA]at hi;simp only[ren,rep]at h1 h2;obtain⟨y,rfl,g1⟩:=h1;obtain⟨z,e,g3⟩:=h2;cases e;exact qC h g1 g3 hi
 | .int _ _,_,h,_,_,hi=>by simp[aA]at hi
 | .bool _,_,h,_,_,hi=>by simp[aA]at hi
 | .str _,_,h,_,_,hi=>by simp[aA]at hi
 | .nil _,_,h,_,_,hi=>by simp[aA]at hi
 | .seq _ _,_,h,_,_,hi=>by simp[aA]at hi
 | .fseq _ _,_,h,_,_,hi=>by simp[aA]at hi
 | .sptr _ _,_,h,_,_,hi=>by simp[aA]at hi
 | .nilptr,_,h,_,_,hi=>by simp[aA]at hi
 | .nilfn,_,h,_,_,hi=>by simp[aA]at hi
 | .nilmp,_,h,_,_,hi=>by simp[aA]at hi
 | .niliface,_,h,_,_,hi=>by simp[aA]at hi
 | .junk,_,h,_,_,hi=>by simp[aA]at hi
 | .mref _ _ _,_,h,_,_,hi=>by simp[St.cur,St.cur0,aA]at h
 | .mptr _ _ _ _ _,_,h,_,_,hi=>by simp[St.cur,St.cur0,aA]at h
 | .q k j n i o,_,h,h1,h2,hi=>by
   simp only[aA,zCg]at hi;subst hi;simp only[St.cur,aA,zCi,zDh]at h;exact⟨_,_,h,rfl,h1,h2⟩
 | .ref a n,_,h,h1,h2,hi=>by
   simp only[aA,zCg]at hi;subst hi;simp only[St.cur,aA,zCi,zDh]at h;exact⟨_,_,h,rfl,h1,h2⟩
 | .ptr a n,_,h,h1,h2,hi=>by
   simp only[aA,zCg]at hi;subst hi;simp only[St.cur,aA,zCi,zDh]at h;exact⟨_,_,h,rfl,h1,h2⟩
 | .eptr a n i o,_,h,h1,h2,hi=>by
   simp only[aA,zCg]at hi;subst hi;simp only[St.cur,aA,zCi,zDh]at h;exact⟨_,_,h,rfl,h1,h2⟩
theorem j4{σ:St}{id:Nat}{m:List Nat}{M M':Mem}{X X':V->Value->Prop}:∀{u:List V}{d:List Value},σ.curA u=true->ae M X u d->ae M' X' (dO m u) d->id∈ak u->∃v c,σ.cur0 v=true/\aA v=[id]/\rep M X v c/\rep M' X' (ren m v) c
 |[],_,_,_,_,hi=>by simp[ak]at hi
 |v::vs,d,h,h1,h2,hi=>by
   simp only[St.curA,zBi]at h;simp only[ak,zCa]at hi;simp only[dO,ae]at h1 h2;obtain⟨c,cs,rfl,g1,g2⟩:=h1;obtain⟨c',cs',e,g3,g4⟩:=h2;cases e;rcases hi with hi|hi
   ·exact qC h.1 g1 g3 hi
   ·exact j4 h.2 g2 g4 hi
end
theorem Ds:∀{vs:List V}{id:Nat},id∈ak vs->∃v∈vs,id∈aA v
 |[],id,h=>by simp[ak]at h
 |v::vs,id,h=>by
   simp only[ak,zCa]at h;rcases h with h|h
   ·exact⟨v,by simp,h⟩
   ·obtain⟨u,h1,h2⟩:=Ds h;exact⟨u,by simp[h1],h2⟩
theorem mN:∀{q:Nat}{H H':List (Option Ob)},kin q H H'=true->∀{j:Nat},j<q->
 (∃cs cs',H[j]?=some (some (.box cs))/\H'[j]?=some (some (.box cs')))\/(∃e sz l l',H[j]?=some (some (.arr e sz l))/\H'[j]?=some (some (.arr e sz l')))\/(∃l l',H[j]?=some (some (.gh l))/\H'[j]?=some (some (.gh l')))\/∃l l',H[j]?=some (some (.pool l))/\H'[j]?=some (some (.pool l'))
 |0,_,_,_,j,hj=>by omega
 |q+1,[],_,hk,j,hj=>by simp[kin]at hk
 |q+1,none::_,_,hk,j,hj=>by simp[kin]at hk
 |q+1,some (.box _)::_,[],hk,j,hj=>by simp[kin]at hk
 |q+1,some (.arr _ _ _)::_,[],hk,j,hj=>by simp[kin]at hk
 |q+1,some (.mat _ _ _ _)::_,_,hk,j,hj=>by simp[kin]at hk
 |q+1,some (.mp _ _)::_,_,hk,j,hj=>by simp[kin]at hk
 |q+1,some (.itr _ _)::_,_,hk,j,hj=>by simp[kin]at hk
 |q+1,some (.tok _)::_,_,hk,j,hj=>by simp[kin]at hk
 |q+1,some (.box _)::_,some (.tok _)::_,hk,j,hj=>by simp[kin]at hk
 |q+1,some (.arr _ _ _)::_,some (.tok _)::_,hk,j,hj=>by simp[kin]at hk
 |q+1,some (.gh _)::_,some (.tok _)::_,hk,j,hj=>by simp[kin]at hk
 |q+1,some (.box _)::_,some (.itr _ _)::_,hk,j,hj=>by simp[kin]at hk
 |q+1,some (.arr _ _ _)::_,some (.itr _ _)::_,hk,j,hj=>by simp[kin]at hk
 |q+1,some (.gh _)::_,some (.itr _ _)::_,hk,j,hj=>by simp[kin]at hk
 |q+1,some (.box _)::_,some (.mp _ _)::_,hk,j,hj=>by simp[kin]at hk
 |q+1,some (.arr _ _ _)::_,some (.mp _ _)::_,hk,j,hj=>by simp[kin]at hk
 |q+1,some (.box _)::_,some (.mat _ _ _ _)::_,hk,j,hj=>by simp[kin]at hk
 |q+1,some (.arr _ _ _)::_,some (.mat _ _ _ _)::_,hk,j,hj=>by simp[kin]at hk
 |q+1,some (.gh _)::_,[],hk,j,hj=>by simp[kin]at hk
 |q+1,some (.gh _)::_,none::_,hk,j,hj=>by simp[kin]at hk
 |q+1,some (.gh _)::_,some (.box _)::_,hk,j,hj=>by simp[kin]at hk
 |q+1,some (.gh _)::_,some (.arr _ _ _)::_,hk,j,hj=>by simp[kin]at hk
 |q+1,some (.gh _)::_,some (.mat _ _ _ _)::_,hk,j,hj=>by simp[kin]at hk
 |q+1,some (.gh _)::_,some (.mp _ _)::_,hk,j,hj=>by simp[kin]at hk
 |q+1,some (.box _)::_,some (.gh _)::_,hk,j,hj=>by simp[kin]at hk
 |q+1,some (.arr _ _ _)::_,some (.gh _)::_,hk,j,hj=>by simp[kin]at hk
 |q+1,some (.gh _)::H,some (.gh _)::H',hk,0,hj=>.inr (.inr (.inl ⟨_,_,rfl,rfl⟩))
 |q+1,some (.gh _)::H,some (.gh _)::H',hk,j+1,hj=>by
   simp only[kin]at hk;simpa using mN hk (j:=j) (by omega)
 |q+1,some (.pool _)::_,[],hk,j,hj=>by simp[kin]at hk
 |q+1,some (.pool _)::_,none::_,hk,j,hj=>by simp[kin]at hk
 |q+1,some (.pool _)::_,some (.box _)::_,hk,j,hj=>by simp[kin]at hk
 |q+1,some (.pool _)::_,some (.arr _ _ _)::_,hk,j,hj=>by simp[kin]at hk
 |q+1,some (.pool _)::_,some (.mat _ _ _ _)::_,hk,j,hj=>by simp[kin]at hk
 |q+1,some (.pool _)::_,some (.mp _ _)::_,hk,j,hj=>by simp[kin]at hk
 |q+1,some (.pool _)::_,some (.gh _)::_,hk,j,hj=>by simp[kin]at hk
 |q+1,some (.pool _)::_,some (.itr _ _)::_,hk,j,hj=>by simp[kin]at hk
 |q+1,some (.pool _)::_,some (.tok _)::_,hk,j,hj=>by simp[kin]at hk
 |q+1,some (.box _)::_,some (.pool _)::_,hk,j,hj=>by simp[kin]at hk
 |q+1,some (.arr _ _ _)::_,some (.pool _)::_,hk,j,hj=>by simp[kin]at hk
 |q+1,some (.gh _)::_,some (.pool _)::_,hk,j,hj=>by simp[kin]at hk
 |q+1,some (.pool _)::H,some (.pool _)::H',hk,0,hj=>.inr (.inr (.inr ⟨_,_,rfl,rfl⟩))
 |q+1,some (.pool _)::H,some (.pool _)::H',hk,j+1,hj=>by
   simp only[kin]at hk;simpa using mN hk (j:=j) (by omega)
 |q+1,some (.box _)::_,none::_,hk,j,hj=>by simp[kin]at hk
 |q+1,some (.arr _ _ _)::_,none::_,hk,j,hj=>by simp[kin]at hk
 |q+1,some (.box _)::_,some (.arr _ _ _)::_,hk,j,hj=>by simp[kin]at hk
 |q+1,some (.arr _ _ _)::_,some (.box _)::_,hk,j,hj=>by simp[kin]at hk
 |q+1,some (.box _)::H,some (.box _)::H',hk,0,hj=>.inl ⟨_,_,rfl,rfl⟩
 |q+1,some (.box _)::H,some (.box _)::H',hk,j+1,hj=>by
   simp only[kin]at hk;simpa using mN hk (j:=j) (by omega)
 |q+1,some (.arr e sz l)::H,some (.arr e' sz' l')::H',hk,0,hj=>by
   simp only[kin,zBi,decide_eq_true_eq]at hk;obtain⟨⟨rfl,rfl⟩,hk⟩:=hk;exact .inr (.inl ⟨_,_,_,_,rfl,rfl⟩)
 |q+1,some (.arr e sz l)::H,some (.arr e' sz' l')::H',hk,j+1,hj=>by
   simp only[kin,zBi,decide_eq_true_eq]at hk;simpa using mN hk.2 (j:=j) (by omega)
theorem fM{ms:List Po}:∀(H:List (Option Ob)),lP H=true->∀j:Nat,H[j]?≠some (some (Ob.pool ms))
 |[],_,j,h=>by simp at h
 |some (.pool _)::_,hn,_,_=>by simp[lP]at hn
 |none::H,hn,0,h=>by simp at h
 |none::H,hn,j+1,h=>fM H (by simpa only[lP]using hn) j (by simpa using h)
 |some (.box _)::H,hn,0,h=>by simp at h
 |some (.box _)::H,hn,j+1,h=>fM H (by simpa only[lP]using hn) j (by simpa using h)
 |some (.arr _ _ _)::H,hn,0,h=>by simp at h
 |some (.arr _ _ _)::H,hn,j+1,h=>fM H (by simpa only[lP]using hn) j (by simpa using h)
 |some (.mat _ _ _ _)::H,hn,0,h=>by simp at h
 |some (.mat _ _ _ _)::H,hn,j+1,h=>fM H (by simpa only[lP]using hn) j (by simpa using h)
 |some (.mp _ _)::H,hn,0,h=>by simp at h
 |some (.mp _ _)::H,hn,j+1,h=>fM H (by simpa only[lP]using hn) j (by simpa using h)
 |some (.gh _)::H,hn,0,h=>by simp at h
 |some (.gh _)::H,hn,j+1,h=>fM H (by simpa only[lP]using hn) j (by simpa using h)
 |some (.itr _ _)::H,hn,0,h=>by simp at h
 |some (.itr _ _)::H,hn,j+1,h=>fM H (by simpa only[lP]using hn) j (by simpa using h)
 |some (.tok _)::H,hn,0,h=>by simp at h
 |some (.tok _)::H,hn,j+1,h=>fM H (by simpa only[lP]using hn) j (by simpa using h)
theorem RO{H H':List (Option Ob)}(hk:kin 0 H H'=true){j:Nat}(ms:List Po):H'[j]?≠some (some (Ob.pool ms)):=fM _ (by simpa only[kin]using hk) j
theorem Vo:∀{q:Nat}{H H':List (Option Ob)},kin q H H'=true->q<=H'.length:=by
 intro q H H' hk;rcases zEd q with h|h
 ·omega
 ·have hg:∀j,j<q->j<H'.length:=fun j hj=>by
   rcases mN hk hj with⟨_,_,_,h⟩|⟨_,_,_,_,_,h⟩|⟨_,_,_,h⟩|⟨_,_,_,h⟩<;>exact(zAa.1 h).1
  have:=hg (q-1) (by omega)
  omega
theorem yj{id:Nat}:∀{m:List Nat}{j:Nat},m.Nodup->m[j]?=some id->idx id m=some j
 |[],j,_,h=>by simp at h
 |k::ks,0,_,h=>by simp at h;simp[idx,h]
 |k::ks,j+1,hn,h=>by
   simp only[zJf]at hn;simp only[zCh]at h;have:id≠k:=fun e=>hn.1 (e ▸ zDc h);simp only[idx,if_neg this,yj hn.2 h,zEe]
theorem DQ{B B':Bas}{X:V->Value->Prop}{j:Nat}:∀{m:Po},fc κ M X B w j m->fc κ M X B' w j m
 | .bx e cs,h=>h
 | .rw e sz l,h=>h
 | .byt e s,h=>h
 | .no,h=>h
theorem cq{B B':Bas}{X:V->Value->Prop}{id:Nat}(hB:∀g,κ.bl id g->B'.own g)(hJ:B'.J=B.J):∀{ob:Ob},(∀ms,ob=.pool ms->∀k j n i off c,B'.gq k j n i off c->am c/\qAt κ ms k j n i off c)->aE κ M X B w id ob->aE κ M X B' w id ob
 | .pool ms,hq,h=>by
   simp only[aE]at h⊢;obtain⟨h0,h1,h2,h3,h4,h5⟩:=h;exact⟨h0,fun j m hm=>DQ (h1 j m hm),h2,hB,h4,hq ms rfl⟩
 | .itr s p,_,h=>by
   simp only[aE]at h⊢;obtain⟨b,bs,h1,h2,h3,h4,h5,h6⟩:=h;exact⟨b,bs,h1,hB b ((h6 b).2 rfl),h3,h4,h5,h6⟩
 | .tok c,_,h=>h
 | .gh l,_,h=>by
   simp only[aE]at h⊢;obtain⟨k,h1,h2,h3⟩:=h;exact⟨k,h1,by rw[hJ];exact h2,fun g hg=>⟨hB g hg,(h3 g hg).2⟩⟩
 | .box cs,_,h=>by
   simp only[aE]at h⊢;obtain⟨b,arr,T,h1,h2,h3,h4,h5,h6⟩:=h;exact⟨b,arr,T,h1,hB b ((h6 b).2 rfl),h3,h4,h5,h6⟩
 | .arr e sz l,_,h=>by
   simp only[aE]at h⊢;obtain⟨h1,h2,xs,h3,h4,_,h5⟩:=h;exact⟨h1,h2,xs,h3,h4,hB,h5⟩
 | .mat e e2 sz l,_,h=>by
   simp only[aE]at h⊢;obtain⟨h1,h2,h3,h4,h5,h6,_,h7⟩:=h;exact⟨h1,h2,h3,h4,h5,h6,hB,h7⟩
 | .mp kt l,_,h=>by
   simp only[aE]at h⊢;obtain⟨b,es,clock,h1,h2,h3,h4,h5⟩:=h;exact⟨b,es,clock,h1,hB b ((h5 b).2 rfl),h3,h4,h5⟩
theorem gA{h:List (Option Ob)}{m:List Nat}:∀{ids:List Nat}{j id:Nat}{ob:Ob},ids[j]?=some id->h[id]?=some (some ob)->(fL h m ids)[j]?=some (bH m (some ob))
 |[],j,id,ob,h1,_=>by simp at h1
 |i::ids,0,id,ob,h1,h2=>by simp at h1;subst h1;simp[fL,zKa,h2]
 |i::ids,j+1,id,ob,h1,h2=>by simp only[zCh]at h1;simp only[fL,zCh];exact gA h1 h2
theorem yS{m:List Nat}:∀{vs:List V}{i:Nat}{v:V},vs[i]?=some v->(dO m vs)[i]?=some (ren m v)
 |[],i,v,h=>by simp at h
 |u::us,0,v,h=>by simp at h;simp[dO,h]
 |u::us,i+1,v,h=>by simp only[zCh]at h;simp only[dO,zCh];exact yS h
theorem DK{M:Mem}{sz:Nat}:∀{l:List V}{xs:List Value},ap M sz l xs->oks l
 |[],_,_=>by simp[oks]
 |v::vs,xs,h=>by
   simp only[ap]at h;obtain⟨y,rest,_,h1,_,_,h2⟩:=h;exact⟨jM h1,DK h2⟩
theorem ll:∀{h:List (Option Ob)},(∀(id:Nat)(ob:Ob),h[id]?=some (some ob)->match ob with
 | .box cs=>oks cs
 | .arr _ _ l=>l.length<=140737488355328/\oks l
 | .mat _ _ _ rows=>rows.length<=140737488355328
 | .mp _ _=>True
 | .gh _=>True
 | .itr s _=>s.length<=4611686018427387904
 | .tok _=>True
 | .pool _=>True)->okH h
 |[],_=>trivial
 |none::h,H=>by simp only[okH];exact ll fun id ob hi=>H (id+1) ob (by simpa using hi)
 |some (.box cs)::h,H=>by simp only[okH];exact⟨H 0 (.box cs) rfl,ll fun id ob hi=>H (id+1) ob (by simpa using hi)⟩
 |some (.mat e e2 sz l)::h,H=>by simp only[okH];exact⟨H 0 (.mat e e2 sz l) rfl,ll fun id ob hi=>H (id+1) ob (by simpa using hi)⟩
 |some (.mp kt l)::h,H=>by simp only[okH];exact ll fun id ob hi=>H (id+1) ob (by simpa using hi)
 |some (.gh l)::h,H=>by simp only[okH];exact ll fun id ob hi=>H (id+1) ob (by simpa using hi)
 |some (.tok c)::h,H=>by simp only[okH];exact ll fun id ob hi=>H (id+1) ob (by simpa using hi)
 |some (.pool c)::h,H=>by simp only[okH];exact ll fun id ob hi=>H (id+1) ob (by simpa using hi)
 |some (.itr s p)::h,H=>by simp only[okH];exact⟨H 0 (.itr s p) rfl,ll fun id ob hi=>H (id+1) ob (by simpa using hi)⟩
 |some (.arr e sz l)::h,H=>by simp only[okH];exact⟨H 0 (.arr e sz l) rfl,ll fun id ob hi=>H (id+1) ob (by simpa using hi)⟩
theorem Nm{H:List (Option Ob)}(hh:∀id ob,H[id]?=some (some ob)->aE κ M (XX κ H) B w id ob):okH H:=by
 refine ll fun id ob hi=>?_;have h:=hh id ob hi;cases ob with
 |box cs=>simp only[aE]at h;obtain⟨b,arr,T,_,_,_,h4,_⟩:=h;exact c8 h4
 |arr e sz l=>simp only[aE]at h;obtain⟨_,h1,xs,_,h3,_⟩:=h;exact⟨h1,DK h3⟩
 |mat e e2 sz l=>simp only[aE]at h;exact h.2.1
 |mp kt l=>trivial
 |gh l=>trivial
 |tok c=>trivial
 |pool ms=>trivial
 |itr s p=>simp only[aE]at h;obtain⟨_,_,_,_,_,_,h5,_⟩:=h;exact h5
theorem LH{σ:St}{id:Nat}{x:List (V×Bool)}(h:σ.gh? id=some x):σ.h[id]?=some (some (.gh x)):=by
 unfold St.gh? at h;split at h
 ·cases h;assumption
 ·cases h
theorem w7(H:Rel N M0 B w0 κ M σ a w)(hJC:gw P M0 B){d:Option Nat}(hd:∀t,d=some t->t<N/\t ∉ B.ps){f:FuncId}{vs:List V}{K:St->Prop}(hW:Qw (Cn P) d f vs K σ)
 {cs:Array Value} (hcs:ae M (XX κ σ.h) vs cs.toList) {Nx:Act->World->Prop} (hK:∀κ' M' σ' a' w',K σ'->Rel N M0 B w0 κ' M' σ' a' w'->Nx a' w') {Q:Exit->Act->World->Prop} (o:Oper) (ho:o.dst=d):
 o.upon P a Nx Q ((callFunc f cs).run P w):=by
 subst ho;obtain⟨ps,Z,hcur,hΦ,hk⟩:=hW;obtain⟨hm,hA,hq,hpf⟩:=D6 (h:=σ.h) (pvs:=bk vs ps) (vs:=vs);generalize hqq:(cU σ.h (bk vs ps) vs).1=q at *;generalize hmm:(cU σ.h (bk vs ps) vs).2=m at *;clear hqq hmm;have hAn:(bY (di σ.h) (ak (bk vs ps))).Nodup:=bN _ _ kK
 have hAlt:∀id∈m.take q,(¬∃ms,σ.h[id]?=some (some (.pool ms)))->∃i u,i∈ps/\vs[i]?=some u/\σ.cur u=true/\id∈aA u:=by
  intro id hid hnp;rw[hA]at hid;rcases yE _ _ hid with h|h
  ·obtain⟨rfl,h'⟩:=Oq h
   exact(hnp h').elim
  ·obtain⟨u,h1,h2⟩:=Ds h
   obtain⟨i,h3,h4⟩:=vw h1;exact⟨i,u,h3,h4,J1 hcur h1,h2⟩
 have hAin:∀id∈m.take q,∃ob,σ.h[id]?=some (some ob):=by
  intro id hid;by_cases hnp:∃ms,σ.h[id]?=some (some (.pool ms))
  ·obtain⟨ms,hnp⟩:=hnp
   exact⟨_,hnp⟩
  obtain⟨i,u0,_,_,hc0,hv0⟩:=hAlt id hid hnp;obtain⟨u,hc,hv⟩:=AR hc0 hv0;cases u<;>simp[St.cur0]at hc<;>simp only[aA,zHg,and_true]at hv<;>subst hv
  ·split at hc
   ·rename_i h;exact⟨_,dT h⟩
   ·obtain⟨x,hx⟩:=zBj.1 hc;exact⟨_,LH hx⟩
  ·obtain⟨x,hx⟩:=zBj.1 hc;exact⟨_,gS hx⟩
  ·split at hc
   ·rename_i h;exact⟨_,dT h⟩
   ·cases hc
  ·obtain⟨x,hx⟩:=zBj.1 hc;exact⟨_,bJ hx⟩
 obtain⟨k1,k2,k3⟩:=oW m σ;have H1:=H.ren hm hpf [] (fun t v h=>by simp[lk]at h)
 simp only[Bm]at H1
 -- what is cU
 generalize hκc:κ.ren m=κc at *;generalize hHc:fL σ.h m m=Hc at *
 have hlb:∀g,fg κc Hc g->∃id ob,id∈m/\σ.h[id]?=some (some ob)/\κ.bl id g:=by
  rintro g ⟨j,ob,h1,h2⟩;rw[<-hHc]at h1;obtain⟨id,ob',g1,g2,_⟩:=ib h1;refine⟨id,ob',zDc g1,g2,?_⟩;rw[<-hκc]at h2;simpa[Kap.ren,zKa,g1]using h2
 have hown:∀g,(cg κc Hc w ps cs B.J).own g->B.own g:=by
  rintro g (h|h)
  ·have h:w.heap.size<=g:=h
   exact .inl (by rw[H.base];have:=H.blw.size;omega)
  ·obtain⟨id,ob,_,h2,h3⟩:=hlb g h
   exact(H.blk_lt h2 h3).1
 have hjs:Be (cg κc Hc w ps cs B.J):=fun k l S M M' w1 w2 h1 h2 h3 h4 h5=>H.jst k l S M M' w1 w2 h1 ⟨h2.os,h2.tape,h2.output,h2.size,fun g hg hgs=>h2.block g (by rw[H.base]at hg;have:=H.blw.size;show g<w.heap.size;omega) (fun hs=>(hown g (.inr hs)).elim (fun h=>by omega) hgs),h2.siz⟩ h3 h4 h5
 have hpre:Heap κc M (cg κc Hc w ps cs B.J) w Hc:=
  { heap:=fun id ob h=>cq (B:=B) (B':=cg κc Hc w ps cs B.J) (fun g hg=>Or.inr (show fg κc Hc g from⟨id,ob,h,hg⟩)) rfl (fun ms e k j n i off c hq=>by
    subst e;have h0:=(H1.heap id _ h).1;subst h0;exact⟨hq.1,hq.2.2 ms h⟩) (H1.heap id ob h),jst:=hjs,inj:=H1.inj,gl:=H1.sub.gl.mono H1.sub.sub,snd:=H1.snd,sep:=H1.sep,fmS:=H1.sub.fmS }
 have hus:ae M (XX κc Hc) (dO m vs) cs.toList:=by
  have:=hY (wj (M:=M) (κ:=κ) (h:=σ.h) hm) hcs;rwa[hκc,hHc]at this
 refine hΦ M w κc cs B.J (fun k us b l S M1 w1 cs1 h1 h2 h3 h4=>hJC k us b l S M1 w1 cs1 h1 h2 h3 fun p v hp=>(h4 p v hp).elim (H.new p v) fun h=>.inr (hown _ h)) hpre hus o a Nx Q ?_;intro r H' c M' w' κ' hZ hr hu hp' hM hnew hpin;obtain⟨hkin,hk⟩:=hk r H' hZ;have hqk:=Vo hkin;have hn:σ.h.length=σ.h.length:=rfl;generalize hD:vV q m σ.h.length H'.length=D at *
 have hDl:D.length=H'.length:=by
  rw[<-hD];unfold vV;rw[zAf,hA,<-hq];simp;omega
 have hDget:∀{j id:Nat},D[j]?=some id->(j<q/\m[j]?=some id/\id∈m.take q)\/(q<=j/\σ.h.length<=id/\id<σ.h.length+(H'.length-q)):=by
  intro j id h;rw[<-hD]at h;unfold vV at h;have hl:(m.take q).length=q:=by rw[hA,<-hq]
  by_cases hj:j<q
  ·rw[zAh (by omega)]at h
   refine .inl ⟨hj,?_,zDc h⟩;rwa[zBb,if_pos hj]at h
  ·rw[zBc (by omega)]at h
   have:=xZ h;exact .inr ⟨by omega,by omega,by omega⟩
 have hDlt:∀{j id:Nat},D[j]?=some id->id<σ.h.length+(H'.length-q):=by
  intro j id h;rcases hDget h with⟨_,_,h1⟩|⟨_,_,h1⟩
  ·obtain⟨ob,h2⟩:=hAin id h1;have:=(zAa.1 h2).1;omega
  ·exact h1
 have hDn:D.Nodup:=by
  rw[<-hD];unfold vV;rw[List.nodup_append];refine⟨by rw[hA];exact hAn,List.nodup_range',fun x hx y hy=>?_⟩
  obtain⟨ob,h2⟩:=hAin x hx;have:=(zAa.1 h2).1;simp[List.mem_range']at hy;omega
 have hback:∀{id:Nat}{ob:Ob},(σ.back q m H')[id]?=some (some ob)->(∃(j:Nat)(ob':Ob),D[j]?=some id/\H'[j]?=some (some ob')/\cW D (some ob')=some ob)\/(id ∉ D/\id ∉ m/\σ.h[id]?=some (some ob)):=by
  intro id ob h;unfold St.back at h;rw[hD]at h;rcases PW _ _ _ hDn (by rw[xr,hDl]) h with⟨j,h1,h2⟩|⟨h1,h2⟩
  ·obtain⟨ob',h3,h4⟩:=J4 h2
   exact .inl ⟨j,ob',h1,h3,h4⟩
  ·by_cases hlt:id<(σ.kill m).h.length
   ·rw[zAh hlt]at h2
    obtain⟨h3,h4⟩:=k3 id ob h2;exact .inr ⟨h1,h4,h3⟩
   ·rw[zBc (by omega)]at h2
    obtain⟨_,h3⟩:=zAa.1 h2;simp at h3
 have hblen:(σ.back q m H').length=σ.h.length+(H'.length-q):=by
  unfold St.back;rw[Dn];simp[k2]
 generalize hB2:σ.back q m H'=h2 at *
 -- what the numbers stand for
 let κ2:Kap:=⟨fun id=>match idx id D with
  |some j=>κ' j
  |none=>κ id,fun id=>match idx id D with
  |some j=>κ'.row j
  |none=>κ.row id,fun id=>match idx id D with
  |some j=>κ'.bl j
  |none=>κ.bl id,κ.fm⟩
 have κD3:∀{j id:Nat},D[j]?=some id->κ2 id=κ' j/\κ2.row id=κ'.row j/\κ2.bl id=κ'.bl j:=by
  intro j id h;simp only[κ2,yj hDn h,and_self]
 have κO3:∀{id:Nat},id ∉ D->κ2 id=κ id/\κ2.row id=κ.row id/\κ2.bl id=κ.bl id:=by
  intro id h;simp only[κ2];split
  ·rename_i j hj;exact(h (zDc (jT hj))).elim
  ·exact⟨rfl,rfl,rfl⟩
 have κD:∀{j id:Nat},D[j]?=some id->κ2 id=κ' j:=fun h=>(κD3 h).1;have κO:∀{id:Nat},id ∉ D->κ2 id=κ id:=fun h=>(κO3 h).1
 have hkq:∀{j id:Nat},j<q->m[j]?=some id->∃ob0,σ.h[id]?=some (some ob0)/\Hc[j]?=some (bH m (some ob0)):=fun{j id} h1 h2=>by
  obtain⟨ob0,q1⟩:=hAin id (zDc (show(m.take q)[j]?=some id by rw[zBb,if_pos h1];exact h2))
  exact⟨ob0,q1,by rw[<-hHc];exact gA h2 q1⟩
 have hkp:∀{j id:Nat},j<q->m[j]?=some id->(∃ms,σ.h[id]?=some (some (.pool ms)))->∃ms',H'[j]?=some (some (.pool ms')):=fun{j id} h1 h2 ⟨ms,h3⟩=>by
  obtain⟨ob0,q1,q2⟩:=hkq h1 h2;rw[h3]at q1;cases q1;rcases mN hkin h1 with⟨_,_,g1,g2⟩|⟨_,_,_,_,g1,g2⟩|⟨_,_,g1,g2⟩|⟨_,_,g1,g2⟩
  ·rw[g1]at q2;simp[bH]at q2
  ·rw[g1]at q2;simp[bH]at q2
  ·rw[g1]at q2;simp[bH]at q2
  ·exact⟨_,g2⟩
 have hk3:∀{j id:Nat},j<q->m[j]?=some id->(¬∃ms,σ.h[id]?=some (some (.pool ms)))->(∃cs cs',Hc[j]?=some (some (.box cs))/\H'[j]?=some (some (.box cs')))\/(∃e sz l l',Hc[j]?=some (some (.arr e sz l))/\H'[j]?=some (some (.arr e sz l')))\/∃l l',Hc[j]?=some (some (.gh l))/\H'[j]?=some (some (.gh l')):=fun{j id} h1 h2 hnp=>by
  rcases mN hkin h1 with h|h|h|⟨ms0,_,g1,g2⟩
  ·exact .inl h
  ·exact .inr (.inl h)
  ·exact .inr (.inr h)
  ·obtain⟨ob0,q1,q2⟩:=hkq h1 h2
   rw[g1]at q2;refine(hnp ⟨ms0,?_⟩).elim;rw[q1];cases ob0<;>simp[bH]at q2;subst q2;rfl
 have hturn:∀{j id:Nat},D[j]?=some id->id<σ.h.length->(∀cs',H'[j]?=some (some (Ob.box cs'))->(∃cs0,σ.h[id]?=some (some (Ob.box cs0)))/\κ' j=κ id)/\
  (∀e sz l,H'[j]?=some (some (Ob.arr e sz l))->∃l0,σ.h[id]?=some (some (Ob.arr e sz l0))/\l0.length<=l.length/\(l0.length=l.length->κ' j=κ id))/\((∀e e2 sz l,H'[j]?≠some (some (Ob.mat e e2 sz l)))/\(∀o,H'[j]?=some (some o)->o.nam=true->(∃o',σ.h[id]?=some (some o')/\o'.nam=true)/\κ' j=κ id)):=by
  intro j id hj hlt;by_cases hnp:∃ms,σ.h[id]?=some (some (.pool ms))
  ·obtain⟨j',_,ms',g2⟩:∃(_:j<q)(_:m[j]?=some id)(ms':List Po),H'[j]?=some (some (.pool ms')):=by
    rcases hDget hj with⟨h1,h2,h3⟩|⟨_,h1,_⟩
    ·exact⟨h1,h2,hkp h1 h2 hnp⟩
    ·omega
   exact⟨fun cs' h=>by (rw[g2]at h;cases h),fun e sz l h=>by (rw[g2]at h;cases h),fun e e2 sz l h=>by (rw[g2]at h;cases h),fun o h hn=>by (rw[g2]at h;cases h;cases hn)⟩
  refine and_assoc.1 ⟨?_,fun e e2 sz l hl=>by
   rcases hDget hj with⟨h1,h2,_⟩|⟨_,h1,_⟩
   ·rcases hk3 h1 h2 hnp with⟨_,_,_,g2⟩|⟨_,_,_,_,_,g2⟩|⟨_,_,_,g2⟩<;>rw[hl]at g2<;>cases g2
   ·omega,fun o hl hn=>by
   rcases hDget hj with⟨h1,h2,h3⟩|⟨_,h1,_⟩
   ·rcases hk3 h1 h2 hnp with⟨_,_,_,g2⟩|⟨_,_,_,_,_,g2⟩|⟨l1,l2,g1,g2⟩
    ·rw[hl]at g2;cases g2;cases hn
    ·rw[hl]at g2;cases g2;cases hn
    ·obtain⟨i,u0,hi,hvi,hcu0,hvu0⟩:=hAlt id h3 hnp
     obtain⟨d0,hd1,hd02⟩:=cd hcs hvi;have hd03:=hpin i hi _ d0 (yS hvi) (by simpa using hd1)
     obtain⟨u,d,hcu,hvu,hd2,hd3⟩:=qC hcu0 hd02 hd03 hvu0;have hx:=yj hm h2;rw[<-hHc]at g1;obtain⟨ob0,q1⟩:=hAin id h3;have q2:=gA (m:=m) h2 q1;rw[g1]at q2;have q3:ob0=.gh l1:=Ia (by simpa using q2.symm) rfl
     subst q3;cases u<;>simp[St.cur0]at hcu<;>simp only[aA,zHg,and_true]at hvu<;>subst hvu
     ·simp only[ren,hx,rep,XX]at hd2 hd3
      refine⟨⟨_,q1,rfl⟩,?_⟩;rw[<-hd3.2.2.2.2 o hl hn,<-hd2.2.2.2.2 _ q1 rfl]
     ·simp[St.box?,q1]at hcu
     ·simp[St.arr?,q1]at hcu
     ·obtain⟨x,hx⟩:=zBj.1 hcu
      exact(hnp ⟨x,bJ hx⟩).elim
   ·omega⟩
  rcases hDget hj with⟨h1,h2,h3⟩|⟨_,h1,_⟩
  ·obtain⟨i,u0,hi,hvi,hcu0,hvu0⟩:=hAlt id h3 hnp
   obtain⟨d0,hd1,hd02⟩:=cd hcs hvi;have hd03:=hpin i hi _ d0 (yS hvi) (by simpa using hd1)
   obtain⟨u,d,hcu,hvu,hd2,hd3⟩:=qC hcu0 hd02 hd03 hvu0;have hx:=yj hm h2;have hkg:=hk3 h1 h2 hnp;rw[<-hHc]at hkg;cases u<;>simp[St.cur0]at hcu<;>simp only[aA,zHg,and_true]at hvu<;>subst hvu
   ·rename_i id n
    split at hcu
    ·rename_i e0 sz0 l0 har
     have ha:=dT har;simp only at ha;simp at hcu;simp only[ren,hx,rep,XX]at hd2 hd3;have hg:=gA (m:=m) h2 ha;refine⟨fun cs' hc=>?_,fun e sz l hl=>?_⟩
     ·rcases hkg with⟨_,_,g1,g2⟩|⟨_,_,_,_,g1,g2⟩|⟨_,_,g1,g2⟩
      ·rw[hg]at g1;simp[bH]at g1
      ·rw[hc]at g2;cases g2
      ·rw[hg]at g1;simp[bH]at g1
     ·rcases hkg with⟨_,_,g1,g2⟩|⟨_,_,_,_,g1,g2⟩|⟨_,_,g1,g2⟩
      ·rw[hl]at g2;cases g2
      ·rw[hg]at g1
       simp[bH]at g1;rw[hl]at g2;cases g2;obtain⟨rfl,rfl,rfl⟩:=g1;refine⟨l0,ha,?_,fun heq=>?_⟩
       ·have:=(hd3.2.2.1 _ _ _ hl).1;omega
       ·have h5:=(hd3.2.2.1 _ _ _ hl).2 (by omega)
        have h6:=(hd2.2.2.1 _ _ _ ha).2 hcu;rw[<-h5,<-h6]
      ·rw[hg]at g1;simp[bH]at g1
    ·obtain⟨x,hx0⟩:=zBj.1 hcu
     have ha:=LH hx0;have hg:=gA (m:=m) h2 ha;refine⟨fun cs' hc=>?_,fun e sz l hl=>?_⟩
     ·rcases hkg with⟨_,_,g1,g2⟩|⟨_,_,_,_,g1,g2⟩|⟨_,_,g1,g2⟩
      ·rw[hg]at g1;simp[bH]at g1
      ·rw[hc]at g2;cases g2
      ·rw[hc]at g2;cases g2
     ·rcases hkg with⟨_,_,g1,g2⟩|⟨_,_,_,_,g1,g2⟩|⟨_,_,g1,g2⟩
      ·rw[hl]at g2;cases g2
      ·rw[hg]at g1;simp[bH]at g1
      ·rw[hl]at g2;cases g2
   ·rename_i id off
    obtain⟨x,hx0⟩:=zBj.1 hcu;have hb:=gS hx0;simp only[ren,hx,rep,XX]at hd2 hd3;have hg:=gA (m:=m) h2 hb;refine⟨fun cs' hc=>⟨⟨_,hb⟩,?_⟩,fun e sz l hl=>?_⟩
    ·obtain⟨b1,e1,e2⟩:=hd2.2.2 _ hb
     obtain⟨b2,e3,e4⟩:=hd3.2.2 _ hc;rw[e2]at e4;cases e4;rw[e1,e3]
    ·rcases hkg with⟨_,_,g1,g2⟩|⟨_,_,_,_,g1,g2⟩|⟨_,_,g1,g2⟩
     ·rw[hl]at g2;cases g2
     ·rw[hg]at g1;simp[bH]at g1
     ·rw[hg]at g1;simp[bH]at g1
   ·rename_i id n i0 off
    split at hcu
    ·rename_i e0 sz0 l0 har
     have ha:=dT har;simp only at ha;simp at hcu;simp only[ren,hx,rep,XX]at hd2 hd3;have hg:=gA (m:=m) h2 ha;refine⟨fun cs' hc=>?_,fun e sz l hl=>?_⟩
     ·rcases hkg with⟨_,_,g1,g2⟩|⟨_,_,_,_,g1,g2⟩|⟨_,_,g1,g2⟩
      ·rw[hg]at g1;simp[bH]at g1
      ·rw[hc]at g2;cases g2
      ·rw[hg]at g1;simp[bH]at g1
     ·rcases hkg with⟨_,_,g1,g2⟩|⟨_,_,_,_,g1,g2⟩|⟨_,_,g1,g2⟩
      ·rw[hl]at g2;cases g2
      ·rw[hg]at g1
       simp[bH]at g1;rw[hl]at g2;cases g2;obtain⟨rfl,rfl,rfl⟩:=g1;refine⟨l0,ha,?_,fun heq=>?_⟩
       ·have:=(hd3.2.2.1 _ _ _ hl).1;omega
       ·clear hg
        obtain⟨b1,cap1,q1,q2⟩:=(hd3.2.2.1 _ _ _ hl).2 (by omega) hcu.2
        obtain⟨b2,cap2,q3,q4⟩:=(hd2.2.2.1 _ _ _ ha).2 hcu.1 hcu.2;rw[q2]at q4;simp only[Value.pointer.injEq,zAb,Addr.mk.injEq,and_true]at q4;obtain⟨rfl,_⟩:=q4;have o1:=hp'.heap j _ hl;have o2:=H.heap id _ ha;simp only[aE]at o1 o2;obtain⟨hsz0,_,_,o1,_⟩:=o1;obtain⟨_,_,_,o2,_⟩:=o2;rcases o1.2 with⟨o3,_⟩|⟨g1',cap1',cur1,o3,_,o4,_,_,o5,_⟩
        ·rw[q1]at o3;cases o3
        ·rcases o2.2 with⟨o6,_⟩|⟨g2',cap2',cur2,o6,_,o7,_,_,o8,_⟩
         ·rw[q3]at o6;cases o6
         ·rw[q1]at o3
          rw[q3]at o6;simp only[Value.slice.injEq,zAb,Addr.mk.injEq,and_true]at o3 o6;obtain⟨rfl,_,rfl⟩:=o3;obtain⟨rfl,_,rfl⟩:=o6;obtain⟨cur',T',z',s1,s2⟩:=hu.siz _ _ _ _ o7;rw[o4]at s1;simp only[zAb,Obj.cells.injEq]at s1;obtain⟨rfl,_,_⟩:=s1;have:cap1=cap2:=Nat.eq_of_mul_eq_mul_right hsz0 (by rw[<-o5,<-o8,s2])
          rw[q1,q3,this]
      ·rw[hg]at g1;simp[bH]at g1
    ·cases hcu
   ·obtain⟨x,hx⟩:=zBj.1 hcu
    exact(hnp ⟨x,bJ hx⟩).elim
  ·omega
 -- the pool
 have hpool:∀{ms':List Po},h2[0]?=some (some (.pool ms'))->0<σ.h.length->∃ms,σ.h[0]?=some (some (.pool ms))/\D[0]?=some 0/\H'[0]?=some (some (.pool ms')):=by
  intro ms' hl hlt;rcases hback hl with⟨j,ob',h1,h3,h4⟩|⟨h1,h1',h3⟩
  ·have h5:ob'=.pool ms':=by cases ob'<;>simp[cW]at h4;subst h4;rfl
   subst h5;have hj0:j=0:=(hp'.heap j _ h3).1;subst hj0;rcases hDget h1 with⟨g1,g2,g3⟩|⟨_,g1,_⟩
   ·by_cases hnp:∃ms,σ.h[0]?=some (some (.pool ms))
    ·obtain⟨ms,hnp⟩:=hnp
     exact⟨ms,hnp,h1,h3⟩
    ·rcases hk3 g1 g2 hnp with⟨_,_,_,g2⟩|⟨_,_,_,_,_,g2⟩|⟨_,_,_,g2⟩<;>rw[h3]at g2<;>cases g2
   ·omega
  ·obtain⟨t,ht⟩:=hpf ms' h3
   exact(h1' (by rw[ht];simp)).elim
 have V1:∀v c,XX κ σ.h v c->XX κ2 h2 v c:=by
  intro v c hx
  have km:∀{id:Nat}{e e2 sz:Nat}{l:List Rw},id<σ.h.length->h2[id]?=some (some (.mat e e2 sz l))->κ2 id=κ id/\κ2.row id=κ.row id/\σ.h[id]?=some (some (.mat e e2 sz l)):=by
   intro id e e2 sz l hlt hl;rcases hback hl with⟨j,ob',h1,h3,h4⟩|⟨h1,_,h3⟩
   ·have:=(hturn h1 hlt).2.2.1 e e2 sz l
    cases ob'<;>simp[cW]at h4;obtain⟨rfl,rfl,rfl,rfl⟩:=h4;exact(this h3).elim
   ·exact⟨κO h1,(κO3 h1).2.1,h3⟩
  have kp:∀{id:Nat}{o:Ob},id<σ.h.length->h2[id]?=some (some o)->o.nam=true->κ2 id=κ id/\∃o',σ.h[id]?=some (some o')/\o'.nam=true:=by
   intro id o hlt hl hn;rcases hback hl with⟨j,ob',h1,h3,h4⟩|⟨h1,_,h3⟩
   ·have h5:ob'=o:=by cases ob'<;>simp[cW]at h4<;>first|exact h4|(subst h4;cases hn)
    subst h5;obtain⟨g1,g2⟩:=(hturn h1 hlt).2.2.2 _ h3 hn;exact⟨by rw[κD h1,g2],g1⟩
   ·exact⟨κO h1,_,h3,hn⟩
  cases v<;>simp only[XX]at hx⊢
  case ref id n=>
   refine⟨hx.1,by omega,fun e sz l hl=>?_,fun e e2 sz l hl=>?_,fun o hl hn=>by obtain⟨g1,o',g2,g3⟩:=kp hx.2.1 hl hn;rw[g1];exact hx.2.2.2.2 _ g2 g3⟩
   ·rcases hback hl with⟨j,ob',h1,h3,h4⟩|⟨h1,_,h3⟩
    ·cases ob'<;>simp[cW]at h4
     obtain⟨rfl,rfl,rfl⟩:=h4;obtain⟨l0,h5,h6,h7⟩:=(hturn h1 hx.2.1).2.1 _ _ _ h3;obtain⟨g1,g2⟩:=hx.2.2.1 _ _ _ h5;exact⟨by omega,fun he=>by rw[κD h1,h7 (by omega)];exact g2 (by omega)⟩
    ·rw[κO h1];exact hx.2.2.1 _ _ _ h3
   ·obtain⟨g1,_,g2⟩:=km hx.2.1 hl
    rw[g1];exact hx.2.2.2.1 _ _ _ _ g2
  case ptr id off=>
   refine⟨hx.1,by omega,fun cs' hl=>?_⟩
   rcases hback hl with⟨j,ob',h1,h3,h4⟩|⟨h1,_,h3⟩
   ·cases ob'<;>simp[cW]at h4
    obtain⟨⟨cs0,h5⟩,h6⟩:=(hturn h1 hx.2.1).1 _ h3;rw[κD h1,h6];exact hx.2.2 _ h5
   ·rw[κO h1];exact hx.2.2 _ h3
  case eptr id n i off=>
   refine⟨hx.1,by omega,fun e sz l hl=>?_,fun e e2 sz l hl=>?_⟩
   ·rcases hback hl with⟨j,ob',h1,h3,h4⟩|⟨h1,_,h3⟩
    ·cases ob'<;>simp[cW]at h4
     obtain⟨rfl,rfl,rfl⟩:=h4;obtain⟨l0,h5,h6,h7⟩:=(hturn h1 hx.2.1).2.1 _ _ _ h3;obtain⟨g1,g2⟩:=hx.2.2.1 _ _ _ h5;exact⟨by omega,fun he hi=>by rw[κD h1,h7 (by omega)];exact g2 (by omega) hi⟩
    ·rw[κO h1];exact hx.2.2.1 _ _ _ h3
   ·obtain⟨g1,_,g2⟩:=km hx.2.1 hl
    rw[g1];exact hx.2.2.2 _ _ _ _ g2
  case fseq sz l=>exact hx
  case mref id i n=>
   refine⟨hx.1,by omega,fun e e2 sz l hl=>?_⟩
   obtain⟨_,g1,g2⟩:=km hx.2.1 hl;rw[g1];exact hx.2.2 _ _ _ _ g2
  case mptr id i n k off=>
   refine⟨hx.1,by omega,fun e e2 sz l hl=>?_⟩
   obtain⟨_,g1,g2⟩:=km hx.2.1 hl;rw[g1];exact hx.2.2 _ _ _ _ g2
  case q k j n i off=>
   refine⟨hx.1,by omega,fun ms' hl=>?_⟩
   obtain⟨ms,hp0,hd0,hp1⟩:=hpool hl hx.2.1;have hq:=hx.2.2 ms hp0;obtain⟨t,ht⟩:=hpf ms hp0
   have hr0:rep M (XX κc Hc) (ren m (.q k j n i off)) c:=by
    have:=wj (M:=M) (κ:=κ) (h:=σ.h) hm (.q k j n i off) c (by simp only[XX];exact hx)
    rwa[hκc,hHc]at this
   rw[ht]at hr0;simp only[ren,rep]at hr0;have h5:=((hp'.heap 0 _ hp1).2.2.2.2.2) k j n i off c hr0;rw[ew (κD3 hd0).2.1];exact h5.2
 have V2:∀v c,XX κ' H' v c->rep M' (XX κ2 h2) (bck D v) c:=by
  intro v c hx
  have key:∀{j id:Nat}{ob:Ob},D[j]?=some id->h2[id]?=some (some ob)->∃ob',H'[j]?=some (some ob')/\cW D (some ob')=some ob:=by
   intro j id ob hj hl;rcases hback hl with⟨j',ob',h1,h3,h4⟩|⟨h1,_,_⟩
   ·have:j=j':=(List.getElem?_inj (zAa.1 hj).1 hDn).1 (hj.trans h1.symm)
    subst this;exact⟨ob',h3,h4⟩
   ·exact(h1 (zDc hj)).elim
  have ka:∀{j id:Nat}{e sz:Nat}{l:List V},D[j]?=some id->h2[id]?=some (some (.arr e sz l))->H'[j]?=some (some (.arr e sz l)):=by
   intro j id e sz l hj hl;obtain⟨ob',h3,h4⟩:=key hj hl;cases ob'<;>simp[cW]at h4;obtain⟨rfl,rfl,rfl⟩:=h4;exact h3
  have km:∀{j id:Nat}{e e2 sz:Nat}{l:List Rw},D[j]?=some id->h2[id]?=some (some (.mat e e2 sz l))->H'[j]?=some (some (.mat e e2 sz l)):=by
   intro j id e e2 sz l hj hl;obtain⟨ob',h3,h4⟩:=key hj hl;cases ob'<;>simp[cW]at h4;obtain⟨rfl,rfl,rfl,rfl⟩:=h4;exact h3
  have kp:∀{j id:Nat}{o:Ob},D[j]?=some id->h2[id]?=some (some o)->o.nam=true->H'[j]?=some (some o):=by
   intro j id o hj hl hn;obtain⟨ob',h3,h4⟩:=key hj hl;have h5:ob'=o:=by cases ob'<;>simp[cW]at h4<;>first|exact h4|(subst h4;cases hn)
   rw[<-h5];exact h3
  cases v<;>simp only[XX]at hx
  case ref j n=>
   simp only[bck];split
   ·rename_i id hj
    simp only[rep,XX];rw[κD hj];exact⟨hx.1,by rw[hblen];exact hDlt hj,fun e sz l hl=>hx.2.2.1 _ _ _ (ka hj hl),fun e e2 sz l hl=>hx.2.2.2.1 _ _ _ _ (km hj hl),fun o hl hn=>hx.2.2.2.2 _ (kp hj hl hn) hn⟩
   ·exact hx.1
  case ptr j off=>
   simp only[bck];split
   ·rename_i id hj
    simp only[rep,XX];refine⟨hx.1,by rw[hblen];exact hDlt hj,fun cs' hl=>?_⟩
    obtain⟨ob',h3,h4⟩:=key hj hl;cases ob'<;>simp[cW]at h4;rw[κD hj];exact hx.2.2 _ h3
   ·exact hx.1
  case eptr j n i off=>
   simp only[bck];split
   ·rename_i id hj
    simp only[rep,XX];rw[κD hj];exact⟨hx.1,by rw[hblen];exact hDlt hj,fun e sz l hl=>hx.2.2.1 _ _ _ (ka hj hl),fun e e2 sz l hl=>hx.2.2.2 _ _ _ _ (km hj hl)⟩
   ·exact hx.1
  case fseq sz l=>
   simp only[bck];exact aB (aw hp'.fmS (X:=NX) (fun _ _ h=>h) (.seq sz l) c hx.2)
  case mref j i n=>
   simp only[bck];split
   ·rename_i id hj
    simp only[rep,XX];rw[(κD3 hj).2.1];exact⟨hx.1,by rw[hblen];exact hDlt hj,fun e e2 sz l hl=>hx.2.2 _ _ _ _ (km hj hl)⟩
   ·exact hx.1
  case mptr j i n k off=>
   simp only[bck];split
   ·rename_i id hj
    simp only[rep,XX];rw[(κD3 hj).2.1];exact⟨hx.1,by rw[hblen];exact hDlt hj,fun e e2 sz l hl=>hx.2.2 _ _ _ _ (km hj hl)⟩
   ·exact hx.1
  case q k j n i off=>
   simp only[bck];split
   ·rename_i t
    simp only[rep,XX];have hj:(0::t)[0]?=some 0:=rfl;refine⟨hx.1,by rw[hblen];exact hDlt hj,fun ms hl=>?_⟩
    obtain⟨ob',h3,h4⟩:=key hj hl;have h5:ob'=.pool ms:=by cases ob'<;>simp[cW]at h4;subst h4;rfl
    subst h5;rw[ew (κD3 hj).2.1];exact hx.2.2 ms h3
   ·exact hx.1
 have hold:∀{id:Nat}{ob:Ob}{g:Nat},id ∉ m->σ.h[id]?=some (some ob)->κ.bl id g->¬(cg κc Hc w ps cs B.J).own g:=by
  rintro id ob g h1 h3 h4 (h5|h5)
  ·have h5:w.heap.size<=g:=h5
   have:=(H.blk_lt h3 h4).2;omega
  ·obtain⟨id',ob',g1,g2,g3⟩:=hlb g h5
   have:=H.inj id id' ob ob' g h3 g2 h4 g3;subst this;exact h1 g1
 have hnewblk:∀{j:Nat}{ob:Ob}{g:Nat},H'[j]?=some (some ob)->κ'.bl j g->(cg κc Hc w ps cs B.J).own g:=fun{j ob g} h1 h3=>(Ii (hp'.heap j ob h1) g h3).1
 have hfin:Rel N M0 B w0 κ2 M' ⟨σ.r,h2⟩ a w':=
  { dfr:=H.dfr,jst:=H.jst,pin:=H.pin,size:=H.size
    regs:=fun t v ht=>by
     obtain⟨g1,c,g2,g3⟩:=H.regs t v ht;exact⟨g1,c,g2,aw hM V1 _ _ g3⟩
    heap:=fun id ob hl=>by
     rcases hback hl with⟨j,ob',h1,h3,h4⟩|⟨h1,h3,h4⟩
     ·have hob:=hp'.heap j ob' h3
      cases ob' with
      |box cs'=>
        simp only[cW,zAb]at h4;subst h4;simp only[aE]at hob⊢;obtain⟨b,arr,T,e1,e2,e3,e4,e5⟩:=hob;rw[κD h1,(κD3 h1).2.2];exact⟨b,arr,T,e1,hown b e2,e3,md V2 e4,e5⟩
      |arr e sz l=>
        simp only[cW,zAb]at h4;subst h4;simp only[aE]at hob⊢;rw[κD h1,(κD3 h1).2.2];obtain⟨e1,e2,xs,e3,e4,e5,e6⟩:=hob;exact⟨e1,e2,xs,e3,e4,fun g hg=>hown g (e5 g hg),e6⟩
      |mat e e2 sz l=>
        simp only[cW,zAb]at h4;subst h4;simp only[aE]at hob⊢;rw[κD h1,(κD3 h1).2.1,(κD3 h1).2.2];obtain⟨e1,e2,e3,e4,e5,e6,e7,e8⟩:=hob;exact⟨e1,e2,e3,e4,e5,e6,fun g hg=>hown g (e7 g hg),e8⟩
      |mp kt l=>
        simp only[cW,zAb]at h4;subst h4;simp only[aE]at hob⊢;rw[κD h1,(κD3 h1).2.2];obtain⟨b,es,clock,e1,e2,e3⟩:=hob;exact⟨b,es,clock,e1,hown b e2,e3⟩
      |itr s p=>
        simp only[cW,zAb]at h4;subst h4;simp only[aE]at hob⊢;rw[κD h1,(κD3 h1).2.2];obtain⟨b,bs,e1,e2,e3⟩:=hob;exact⟨b,bs,e1,hown b e2,e3⟩
      |tok c=>
        simp only[cW,zAb]at h4;subst h4;simp only[aE]at hob⊢;rw[κD h1,(κD3 h1).2.2];exact hob
      |pool ms=>
        simp only[cW,zAb]at h4;subst h4;simp only[aE]at hob⊢;obtain⟨rfl,e1,e2,e3,e4,e5⟩:=hob
        have hjq:0<q:=by
         rcases zEd q with hq0|hq0
         ·subst hq0
          exact(RO hkin ms h3).elim
         ·exact hq0
        have hid:id=0:=by
         rcases hDget h1 with⟨g1,g2,g3⟩|⟨g1,_,_⟩
         ·by_cases hnp:∃ms,σ.h[id]?=some (some (.pool ms))
          ·obtain⟨ms0,hnp⟩:=hnp
           exact(H.heap id _ hnp).1
          ·rcases hk3 g1 g2 hnp with⟨_,_,_,g2⟩|⟨_,_,_,_,_,g2⟩|⟨_,_,_,g2⟩<;>rw[h3]at g2<;>cases g2
         ·omega
        subst hid;rw[(κD3 h1).2.1,(κD3 h1).2.2];refine⟨rfl,fun j m hm=>jE (fun _ _ h=>h) (fun v c hv=>?_) (by rw[(κD3 h1).2.1]) (fun _ _=>rfl) (DQ (e1 j m hm)),e2,fun g hg=>hown g (e3 g hg),e4,fun k j n i off c hg=>?_⟩
        ·have h0:0<h2.length:=(zAa.1 hl).1
         cases v<;>simp only[PX]at hv⊢<;>try exact hv.elim
         simp only[XX]at hv⊢;refine⟨hv.1,h0,fun ms2 hm2=>?_⟩;rw[hl]at hm2;cases hm2;rw[ew (κD3 h1).2.1];exact hv.2.2 _ h3
        ·have hlt:0<σ.h.length:=by
          rcases hDget h1 with⟨g1,g2,g3⟩|⟨g1,_,_⟩
          ·obtain⟨ob0,q1⟩:=hAin 0 g3
           exact(zAa.1 q1).1
          ·omega
         obtain⟨ms0,hp0,_,_⟩:=hpool hl hlt;have h5:=((H.heap 0 _ hp0).2.2.2.2.2) k j n i off c hg;have h6:=V1 (.q k j n i off) c (by simp only[XX];exact⟨h5.1,hlt,fun ms1 hm1=>by rw[hp0]at hm1;cases hm1;exact h5.2⟩)
         simp only[XX]at h6;exact⟨h5.1,h6.2.2 ms hl⟩
      |gh l=>
        simp only[cW,zAb]at h4;subst h4;simp only[aE]at hob⊢;rw[κD h1,(κD3 h1).2.2];obtain⟨k,e1,e2,e3⟩:=hob;exact⟨k,e1,e2,fun g hg=>⟨hown g (e3 g hg).1,(e3 g hg).2⟩⟩
     ·refine c9 hM V1 (κO3 h1) (fun g hg=>?_) H.jst ⟨hu.os,hu.tape,hu.output,hu.size,fun g hg hgs=>hu.block g (by rw[H.base]at hg;have:=H.blw.size;show g<w.heap.size;omega) (fun hs=>(hown g (.inr hs)).elim (fun h=>by omega) hgs),hu.siz⟩ hp'.snd (H.heap id ob h4)
      refine hu.block g ?_ (fun hs=>hold h3 h4 hg (.inr hs));exact(H.blk_lt h4 hg).2
    inj:=fun i j oi oj g hi hj gi gj=>by
     rcases hback hi with⟨i',oi',h1,h3,_⟩|⟨h1,h3,h4⟩<;>rcases hback hj with⟨j',oj',g1,g3,_⟩|⟨g1,g3,g4⟩
     ·rw[(κD3 h1).2.2]at gi;rw[(κD3 g1).2.2]at gj
      have:=hp'.inj i' j' oi' oj' g h3 g3 gi gj;subst this;rw[h1]at g1;cases g1;rfl
     ·rw[(κD3 h1).2.2]at gi;rw[(κO3 g1).2.2]at gj
      exact(hold g3 g4 gj (hnewblk h3 gi)).elim
     ·rw[(κO3 h1).2.2]at gi;rw[(κD3 g1).2.2]at gj
      exact(hold h3 h4 gi (hnewblk g3 gj)).elim
     ·rw[(κO3 h1).2.2]at gi;rw[(κO3 g1).2.2]at gj
      exact H.inj i j oi oj g h4 g4 gi gj
    snd:=hp'.snd
    sep:=fun p v hp id ob hl=>by
     rcases hback hl with⟨j,ob',h1,h3,_⟩|⟨h1,h3,h4⟩
     ·rw[(κD3 h1).2.2];exact hp'.sep p v hp j ob' h3
     ·rw[(κO3 h1).2.2]
      intro hg;rcases hnew p v hp with h|h
      ·exact H.sep p v h id ob h4 hg
      ·exact hold h3 h4 hg h
    sub:=⟨fun p v h=>hM p v (H.sub.sub p v h),fun p v h=>hM p v (H.sub.fmS p v h),H.sub.fmN,H.sub.fbn,H.sub.gl⟩
    new:=fun p v h=>by
     rcases hnew p v h with h|h
     ·exact H.new p v h
     ·exact .inr (hown _ h)
    base:=H.base
    blw:=H.blw.trans ⟨hu.os,hu.tape,hu.output,hu.size,fun k hk hs=>by
     have hkw:k<w.heap.size:=by have:=H.blw.size;rw[<-H.base]at this;omega
     refine hu.block k hkw (fun hb=>?_);rcases hown k (.inr hb)with h|h
     ·omega
     ·exact hs h,hu.siz⟩ }
 have:=hk (jM hr) (Nm hp'.heap);exact hK _ _ _ _ _ this (hfin.put' hd (GZ V2 hr))
theorem uN(H:Rel N M0 B w0 κ M σ a w)(hJC:gw P M0 B){d:Option Nat}(hd:∀t,d=some t->t<N/\t ∉ B.ps){f:FuncId}{vs:List V}{K:St->Prop}(hW:EQ (Cn P) d f vs K σ)
 {cs:Array Value} (hcs:ae M (XX κ σ.h) vs cs.toList) {Nx:Act->World->Prop} (hK:∀κ' M' σ' a' w',K σ'->Rel N M0 B w0 κ' M' σ' a' w'->Nx a' w') {Q:Exit->Act->World->Prop} (o:Oper) (ho:o.dst=d):
 o.upon P a Nx Q ((callFunc f cs).run P w):=
 let ⟨ps,hcur,r,H',hkin,hΦ,hk⟩:=hW
 w7 H hJC hd ⟨ps,_,hcur,FnH.x hΦ,fun _ _ ⟨e1,e2⟩=>by subst e1 e2;exact⟨hkin,hk⟩⟩ hcs hK o ho
theorem ot{M:Mem}{sz:Nat}:∀{us:List V}{cs:List Value},aV sz us=true->ae M NX us cs->
 ∀(i:Nat)(c:Value),cs[i]?=some c->c.cells.size=sz/\(∀u∈c.cells.toList,am u)
 |[],cs,_,h,i,c,hi=>by simp only[ae]at h;subst h;simp at hi
 |v::vs,cs,hs,h,i,c,hi=>by
   simp only[ae]at h;obtain⟨c0,cs',rfl,h2,h3⟩:=h;simp only[aV,zBi,decide_eq_true_eq]at hs;cases i with
   |zero=>
     simp at hi;subst hi;have:=aX h2 lh (eA hs.1.2);refine⟨?_,this.2⟩;have h4:=aC this.1;simp at h4;omega
   |succ i=>simp at hi;exact ot hs.2 h3 i c hi
def c6(cs:List Value):List Value:=(cs.map fun c=>c.cells.toList).flatten
theorem vu{M:Mem}{sz:Nat}:∀{us:List V}{cs:List Value},aV sz us=true->ae M NX us cs->ap M sz us (c6 cs)
 |[],cs,_,h=>by simp only[ae]at h;subst h;simp[ap,c6]
 |v::vs,cs,hs,h=>by
   simp only[ae]at h;obtain⟨c0,cs',rfl,h2,h3⟩:=h;simp only[aV,zBi,decide_eq_true_eq]at hs;have hk:=aX h2 lh (eA hs.1.2);have h4:=aC hk.1;simp only[ap];exact⟨c0,c6 cs',by simp[c6],h2,by simp at h4;omega,hk.2,vu hs.2 h3⟩
theorem my{t:TypeId}{n:Nat}(hs:dM P t=some n){b off:Nat}{T:TypeId}{cur:Array Value}(hg:w.heap[b]?=some (.cells cur T (0,0))){c:Value}(hc:c.cells.size=n)(h1:∀u∈c.cells.toList,am u)(hle:off+n<=cur.size):
 (Instr.storeAt t (.pointer (some ⟨b,off,none⟩)) c).run P w=.ok () (w.setRow b (cur.toList.take off++c.cells.toList++cur.toList.drop (off+c.cells.toList.length)).toArray):=by
 have h:=run_storeCells_at P b off T c.cells.toList 0 cur w hg (by simp;omega) h1
 simp only[zDi]at h;simp[Instr.storeAt,Instr.sureAddr,storeVar,aM hs,hc,h]
theorem yQ{M:Mem}{sz:Nat}:∀{l:List V}{xs:List Value}{i:Nat}{v':V}{y':Value},ap M sz l xs->i<l.length->rep M NX v' y'->y'.cells.size=sz->(∀u∈y'.cells.toList,am u)->
 ap M sz (l.set i v') (xs.take (i*sz)++y'.cells.toList++xs.drop (i*sz+sz))
 |[],xs,i,v',y',h,hi,_,_,_=>by simp at hi
 |v::vs,xs,0,v',y',h,hi,h1,h2,h3=>by
   simp only[ap]at h;obtain⟨y,rest,rfl,g1,g2,g3,g4⟩:=h;simp only[zIh,ap];refine⟨y',rest,?_,h1,h2,h3,g4⟩;simp[g2,zEh]
 |v::vs,xs,i+1,v',y',h,hi,h1,h2,h3=>by
   simp only[ap]at h;obtain⟨y,rest,rfl,g1,g2,g3,g4⟩:=h;simp only[zIi,ap];refine⟨y,_,?_,g1,g2,g3,yQ g4 (by simpa using hi) h1 h2 h3⟩
   have e1:(i+1)*sz=sz+i*sz:=by rw[zCj];omega
   have hy:y.cells.toList.length=sz:=by simpa using g2
   rw[e1,zDj,zEh,hy];rw[zAg (by omega),zDa (by omega)]
   have e2:sz+i*sz-sz=i*sz:=by omega
   have e3:sz+i*sz+sz-sz=i*sz+sz:=by omega
   rw[e2,e3];simp
theorem re{M:Mem}{sz:Nat}:∀{l m:List V}{xs ys:List Value},ap M sz l xs->ap M sz m ys->ap M sz (l++m) (xs++ys)
 |[],m,xs,ys,h,h'=>by simp only[ap]at h;subst h;simpa using h'
 |v::vs,m,xs,ys,h,h'=>by
   simp only[ap]at h;obtain⟨y,rest,rfl,g1,g2,g3,g4⟩:=h;simp only[zHb,ap];exact⟨y,rest++ys,by simp,g1,g2,g3,re g4 h'⟩
theorem sh{M:Mem}{sz:Nat}:∀{l:List V}{b off:Nat},bB M sz l b off->∃xs,ap M sz l xs/\∀j u,xs[j]?=some u->M ⟨b,off+j,none⟩=some u
 |[],b,off,_=>⟨[],rfl,by simp⟩
 |v::vs,b,off,h=>by
   simp only[bB]at h;obtain⟨⟨y,h1,h2,h3,h4⟩,h5⟩:=h;obtain⟨xs,g1,g2⟩:=sh h5;refine⟨y.cells.toList++xs,by simp only[ap];exact⟨y,xs,rfl,h1,h2,h3,g1⟩,fun j u hj=>?_⟩
   by_cases hlt:j<sz
   ·rw[zAh (by simp;omega)]at hj
    rw[h4 j hlt];simpa using hj
   ·rw[zBc (by simp;omega)]at hj
    have:=g2 _ u hj;rw[<-this];congr 2;simp[h2];omega
theorem eu{M:Mem}{sz:Nat}:∀{l:List V}{xs:List Value},ap M sz l xs->∀u∈xs,am u
 |[],xs,h,u,hu=>by simp only[ap]at h;subst h;cases hu
 |v::vs,xs,h,u,hu=>by
   simp only[ap]at h;obtain⟨y,rest,rfl,g1,g2,g3,g4⟩:=h;rcases zCa.1 hu with hu|hu
   ·exact g3 u hu
   ·exact eu g4 u hu
theorem bb{t ty e:TypeId}{i:TypeInfo}(ht:P.underlying t=some (.slice e))(hi:P.info? e=some i)(base ad:Option Addr)(n cap c:Nat)(hn:n<=cap)(w:World):
 (Builtin.append_ #[t,t] ty #[.slice base n cap,.slice ad 0 c]).run P w=.ok (.slice base n cap) w:=by
 cases base<;>cases ad<;>simp[Builtin.append_,run_underlying ht,sizeOf,typeInfo,hi,Builtin.lenOf,hn,Builtin.firstCells,loadCells,loadCellsFrom,storeCells]
theorem dz{t ty e:TypeId}{i:TypeInfo}{z:Value}{size bytes base:Nat}(ht:P.underlying t=some (.slice e))(hi:P.info? e=some i)(hz:i.zero=some z)
 (hsize:i.size=size) (hby:i.bytes=bytes) (hzs:z.cells.size=size) (hsz:0<size)
 {v:Value} {n:Nat} {xs:List Value} (hown:w.ownsRow base e size v n xs)
 (ad:Addr) (m c:Nat) (news:List Value) (hl:news.length=m*size) (hnews:∀j u,news[j]?=some u->w.cell? (ad.add j)=some u) (h1:∀u∈news,u.oneCell'=true)
 (hm:0<m) (hbytes:(n+m)*bytes<=140737488355328) (h63:n+m<=maxLen) (hbase:base<=w.heap.size):
 ∃v' w',(Builtin.append_ #[t,t] ty #[v,.slice (some ad) m c]).run P w=.ok v' w'/\w'.ownsRow base e size v' (n+m) (xs++news)/\w.grownBy w' v.ownBlock/\(∀g,blk v'=some g->blk v=some g\/w.heap.size<=g)/\Siz w w':=by
 rcases hown.2 with⟨rfl,rfl⟩|⟨g,cap,cur,rfl,hbg,hg,hnc,hcm,hcs,htake⟩
 ·obtain⟨v',w',hr,h2,h3,h4⟩:=run_append_own (P:=P) w w.heap.size t ty e i z size bytes ht hi hz hsize hby hzs hsz (.slice none 0 0) 0 [] (World.ownsRow_nil w _ e size) ad m c news hl hnews h1 h63 hbytes (zAc _)
  have hx:xs=[]:=zAe (by simpa using hown.1)
  subst hx;refine⟨v',w',hr,⟨h2.1,?_⟩,h3,fun g hg=>?_,fun k cur T z hc=>⟨cur,T,z,by rw[h3.block k (zBh.1 hc).1 (by simp[Value.ownBlock])];exact hc,rfl⟩⟩
  ·rcases h2.2 with h5|⟨g,cap,cur,h5,h6,h7⟩
   ·exact .inl h5
   ·exact .inr ⟨g,cap,cur,h5,by omega,h7⟩
  ·rcases h2.2 with h5|⟨g',cap,cur,h5,h6,h7⟩
   ·rw[h5.1]at hg;cases hg
   ·rw[h5]at hg;cases hg;exact .inr h6
 ·by_cases hroom:n+m<=cap
  ·subst hsize
   have hfit:n*i.size+news.length<=cur.size:=by rw[hl,hcs,<-zCj];exact zCe _ hroom
   have hr:=run_append_room (P:=P) w t ty e i ht hi g n cap cur hg ad m c news hl hnews h1 hroom hfit;obtain⟨v',w',hr',h2,h3,h4⟩:=run_append_own (P:=P) w base t ty e i z i.size bytes ht hi hz rfl hby hzs hsz _ n xs hown ad m c news hl hnews h1 h63 hbytes hbase;rw[hr]at hr';injection hr' with e1 e2
   subst e1 e2;refine⟨_,_,hr,h2,h3,fun g' hg'=>.inl hg',fun k cur1 T z hc=>?_⟩;by_cases hk:k=g
   ·subst hk
    refine⟨_,T,z,setRow_heap w k cur1 _ T z hc,?_⟩;rw[hg]at hc;cases hc;simp only[zDe,zAf,zAi,zCf,zAj];omega
   ·exact⟨cur1,T,z,by rw[setRow_other w g k _ hk];exact hc,rfl⟩
  ·obtain⟨v',w',hr',h2,h3,h4⟩:=run_append_own (P:=P) w base t ty e i z size bytes ht hi hz hsize hby hzs hsz _ n xs hown ad m c news hl hnews h1 h63 hbytes hbase
   subst hsize;have wP:∀j u,xs[j]?=some u->w.cell? ((⟨g,0,none⟩:Addr).add j)=some u:=hown.cells (g:=g) rfl;have hr:=run_append_grow (P:=P) w t ty e i z ht hi hz ⟨g,0,none⟩ n cap xs hown.1 wP ad m c news hl hnews (by omega) (by simp only[maxLen]at h63;omega) (growslice_fits (by omega) (by rw[hby];exact hbytes))
   rw[hr]at hr';injection hr' with e1 e2
   subst e1 e2;exact⟨_,_,hr,h2,h3,fun g' hg'=>by cases hg';exact .inr (zAc _),fun k cur1 T z hc=>⟨cur1,T,z,by rw[Below.heap_alloc w.drew _ k (zBh.1 hc).1];exact hc,rfl⟩⟩
theorem uu(size:Nat):∀(cs:List Value)(k:Nat)(ds:Array Value),(∀c∈cs,c.cells.size=size)->(k+cs.length)*size<=ds.size->
 Instr.fill (fun i=>some (i*size,size)) ds ((zGi k cs.length).zip cs)=some (ds.toList.take (k*size)++c6 cs++ds.toList.drop ((k+cs.length)*size)).toArray
 |[],k,ds,_,_=>by simp[Instr.fill,c6]
 |c::cs,k,ds,hc,hle=>by
   have h0:=hc c (by simp)
   simp only[zJe]at hle⊢;have e1:(k+(cs.length+1))*size=k*size+size+cs.length*size:=by simp only[zCj,zFj];omega
   rw[List.range'_succ,List.zip_cons_cons];simp only[Instr.fill];have hno:¬(c.cells.size≠size||k*size+c.cells.size>ds.size)=true:=by simp;omega
   rw[if_neg hno];have hf:=ry (k*size) c.cells ds (by omega)
   rw[hf];have hsz:c.cells.toList.length=size:=by simpa using h0
   rw[uu size cs (k+1) _ (fun c hc'=>hc c (by simp[hc'])) (by simp only[zDe,zAf,zAi,zCf,zAj];rw[show(k+1+cs.length)*size=k*size+size+cs.length*size by simp only[zCj,zFj]];omega)]
   congr 2;have e2:(k+1)*size=k*size+size:=by simp[zCj]
   have e3:(k+1+cs.length)*size=k*size+size+cs.length*size:=by simp only[zCj,zFj]
   rw[e1,e2,e3];simp only[c6,List.map_cons,zFh];have l1:(ds.toList.take (k*size)).length=k*size:=by simp;omega
   have t1:zHh (k*size+size) (ds.toList.take (k*size)++c.cells.toList++ds.toList.drop (k*size+c.cells.toList.length))=ds.toList.take (k*size)++c.cells.toList:=by
    rw[List.take_append_of_le_length (by simp only[zAf,l1,hsz];omega)]
    exact zAg (by simp only[zAf,l1,hsz];omega)
   have t2:zIj (k*size+size+cs.length*size) (ds.toList.take (k*size)++c.cells.toList++ds.toList.drop (k*size+c.cells.toList.length))=ds.toList.drop (k*size+size+cs.length*size):=by
    rw[zEh,zDa (by simp only[zAf,l1,hsz];omega),zFb,List.drop_drop]
    congr 1;simp only[zAf,l1,hsz];omega
   rw[t1,t2];simp
theorem oT(z:Array Value)(m:Nat)(hz:0<z.size):(madeCells z (m*z.size)).toList=(zBd m z.toList).flatten:=by
 unfold madeCells;rw[zGb,Array.toList_range]
 induction m with
 |zero=>simp
 |succ m ih=>
   rw[zCj,zFj,List.range_add,zHi,ih,List.replicate_succ',List.flatten_append];congr 1;simp only[zFh,List.flatten_nil,zHj,zHc];apply zDf;intro j;by_cases hj:j<z.size
   ·simp[List.getElem?_range hj,hj,Nat.mul_add_mod',zGc hj]
   ·rw[zBf (by simp;omega),zBf (by simp;omega)]
theorem lO{M:Mem}{sz:Nat}{v:V}{y:Value}(h:rep M NX v y)(hs:y.cells.size=sz)(hc:∀u∈y.cells.toList,am u):∀m,ap M sz (zBd m v) (zBd m y.cells.toList).flatten
 |0=>by simp[ap]
 |m+1=>by
   simp only[zIg,ap,zFh];exact⟨y,_,rfl,h,hs,hc,lO h hs hc m⟩
end
section
variable{P:Program}{N:Nat}{M0:Mem}{B:Bas}{w0:World}{κ:Kap}{M:Mem}{σ:St}{a:Act}{w w':World}
theorem gG{id:Nat}{old ob:Ob}{h:List (Option Ob)}(hid:h[id]?=some (some old)){kv:Value}{kr:Nat->Value}{kb:Nat->Prop}{v:V}{c:Value}(hx:XX κ h v c)
 (hbox:∀cs,ob=.box cs->(∃cs',old=.box cs')/\kv=κ id)
 (harr:∀e sz l,ob=.arr e sz l->∃e' l',old=.arr e' sz l'/\l'.length<=l.length/\(l'.length=l.length->kv=κ id))
 (hmat:∀e e2 sz rows,ob=.mat e e2 sz rows->∃e' e2' rows',old=.mat e' e2' sz rows'/\rows'.length=rows.length/\kv=κ id/\(∀j r,aT rows j=some r->(∃r',aT rows' j=some r'/\r'.length<=r.length/\(r'.length=r.length->kr j=κ.row id j))\/∃k,rows'[j]?=some (.g k)/\k<r.length)/\
   ∀j k,rows[j]?=some (.g k)->(∃r',aT rows' j=some r'/\r'.length<=k)\/∃k',rows'[j]?=some (.g k')/\k'<=k)
 (hmp:ob.nam=true->old.nam=true/\kv=κ id:=by intro h;cases h)
 (hpl:∀ms',ob=.pool ms'->∃ms,old=.pool ms/\∀k j n i off c,qAt κ ms k j n i off c->qAt (bW κ id kv kr kb) ms' k j n i off c:=by intro _ h;cases h):
 XX (bW κ id kv kr kb) (h.set id (some ob)) v c:=by
 have hlt:id<h.length:=(zAa.1 hid).1
 have key:∀{i:Nat}{o:Ob},(h.set id (some ob))[i]?=some (some o)->(i=id/\ob=o)\/(i≠id/\h[i]?=some (some o)):=by
  intro i o hl;rw[zAd]at hl;split at hl
  ·rename_i he
   subst he;simp only[hlt,if_true,zAb]at hl;exact .inl ⟨rfl,hl⟩
  ·rename_i he
   exact .inr ⟨fun e=>he e.symm,hl⟩
 cases v<;>simp only[XX]at hx⊢
 case ref i n=>
  refine⟨hx.1,by simpa using hx.2.1,fun e sz l hl=>?_,fun e e2 sz l hl=>?_,fun o hl hn=>by
   rcases key hl with⟨rfl,ho⟩|⟨he,hl⟩
   ·subst ho
    obtain⟨h1,h2⟩:=hmp hn;rw[be,h2];exact hx.2.2.2.2 _ hid h1
   ·rw[(bz he).1]
    exact hx.2.2.2.2 _ hl hn⟩
  ·rcases key hl with⟨rfl,ho⟩|⟨he,hl⟩
   ·obtain⟨e',l',h1,h2,h3⟩:=harr e sz l ho
    subst h1;obtain⟨g1,g2⟩:=hx.2.2.1 e' sz l' hid;refine⟨by omega,fun hn=>?_⟩
    rw[be,h3 (by omega)]
    exact g2 (by omega)
   ·rw[(bz he).1]
    exact hx.2.2.1 e sz l hl
  ·rcases key hl with⟨rfl,ho⟩|⟨he,hl⟩
   ·obtain⟨e',e2',l',h1,h2,h3,h4⟩:=hmat e e2 sz l ho
    subst h1;obtain⟨g1,g2⟩:=hx.2.2.2.1 e' e2' sz l' hid;refine⟨by omega,fun hn=>?_⟩
    rw[be,h3];exact g2 (by omega)
   ·rw[(bz he).1]
    exact hx.2.2.2.1 e e2 sz l hl
 case ptr i off=>
  refine⟨hx.1,by simpa using hx.2.1,fun cs hl=>?_⟩
  rcases key hl with⟨rfl,ho⟩|⟨he,hl⟩
  ·obtain⟨⟨cs',h1⟩,h2⟩:=hbox cs ho
   subst h1;rw[be,h2];exact hx.2.2 cs' hid
  ·rw[(bz he).1]
   exact hx.2.2 cs hl
 case eptr i n j off=>
  refine⟨hx.1,by simpa using hx.2.1,fun e sz l hl=>?_,fun e e2 sz l hl=>?_⟩
  ·rcases key hl with⟨rfl,ho⟩|⟨he,hl⟩
   ·obtain⟨e',l',h1,h2,h3⟩:=harr e sz l ho
    subst h1;obtain⟨g1,g2⟩:=hx.2.2.1 e' sz l' hid;refine⟨by omega,fun hn hj=>?_⟩
    rw[be,h3 (by omega)]
    exact g2 (by omega) hj
   ·rw[(bz he).1]
    exact hx.2.2.1 e sz l hl
  ·rcases key hl with⟨rfl,ho⟩|⟨he,hl⟩
   ·obtain⟨e',e2',l',h1,h2,h3,h4⟩:=hmat e e2 sz l ho
    subst h1;obtain⟨g1,g2⟩:=hx.2.2.2 e' e2' sz l' hid;refine⟨by omega,fun hn hj=>?_⟩
    rw[be,h3];exact g2 (by omega) hj
   ·rw[(bz he).1]
    exact hx.2.2.2 e e2 sz l hl
 case fseq sz l=>exact hx
 case mref i j n=>
  refine⟨hx.1,by simpa using hx.2.1,fun e e2 sz l hl=>?_⟩
  rcases key hl with⟨rfl,ho⟩|⟨he,hl⟩
  ·obtain⟨e',e2',l',h1,h2,h3,h4,h8⟩:=hmat e e2 sz l ho
   subst h1;obtain⟨q1,q2⟩:=hx.2.2 e' e2' sz l' hid;refine⟨fun r hr=>?_,fun k hk=>?_⟩
   ·rcases h4 j r hr with⟨r',h5,h6,h7⟩|⟨k,h5,h6⟩
    ·obtain⟨g1,g2⟩:=q1 r' h5
     refine⟨by omega,fun hn=>?_⟩
     rw[dV,h7 (by omega)]
     exact g2 (by omega)
    ·have:=q2 k h5
     exact⟨by omega,fun hn=>by omega⟩
   ·rcases h8 j k hk with⟨r',h5,h6⟩|⟨k',h5,h6⟩
    ·have:=(q1 r' h5).1;omega
    ·have:=q2 k' h5;omega
  ·rw[(bz he).2.1]
   exact hx.2.2 e e2 sz l hl
 case mptr i j n k off=>
  refine⟨hx.1,by simpa using hx.2.1,fun e e2 sz l hl=>?_⟩
  rcases key hl with⟨rfl,ho⟩|⟨he,hl⟩
  ·obtain⟨e',e2',l',h1,h2,h3,h4,h8⟩:=hmat e e2 sz l ho
   subst h1;obtain⟨q1,q2⟩:=hx.2.2 e' e2' sz l' hid;refine⟨fun r hr=>?_,fun q hk=>?_⟩
   ·rcases h4 j r hr with⟨r',h5,h6,h7⟩|⟨k',h5,h6⟩
    ·obtain⟨g1,g2⟩:=q1 r' h5
     refine⟨by omega,fun hn hk=>?_⟩
     rw[dV,h7 (by omega)]
     exact g2 (by omega) hk
    ·have:=q2 k' h5
     exact⟨by omega,fun hn _=>by omega⟩
   ·rcases h8 j q hk with⟨r',h5,h6⟩|⟨k',h5,h6⟩
    ·have:=(q1 r' h5).1;omega
    ·have:=q2 k' h5;omega
  ·rw[(bz he).2.1]
   exact hx.2.2 e e2 sz l hl
 case q k j n i off=>
  refine⟨hx.1,by simpa using hx.2.1,fun ms' hl=>?_⟩
  rcases key hl with⟨rfl,ho⟩|⟨he,hl⟩
  ·obtain⟨ms,h1,h2⟩:=hpl ms' ho
   subst h1;exact h2 _ _ _ _ _ _ (hx.2.2 ms hid)
  ·rw[ew (bz he).2.1]
   exact hx.2.2 ms' hl
theorem b5{g:Nat}(hg:B.own g)(cs:Array Value)(hsz:∀cur T z,w.heap[g]?=some (.cells cur T z)->cs.size=cur.size):Und B w (w.setRow g cs):=
 ⟨rfl,rfl,rfl,by simp,fun k hk hs=>setRow_other w g k cs (fun e=>by subst e;rcases hg with h|h;omega;exact hs h),fun k cur T z hc=>by
   by_cases hk:k=g
   ·subst hk
    exact⟨cs,T,z,setRow_heap w k cur cs T z hc,hsz cur T z hc⟩
   ·exact⟨cur,T,z,by rw[setRow_other w g k cs hk];exact hc,rfl⟩⟩
theorem py{n:Nat}{row:Option Nat}(hg:w.grownBy w' row)(hr:∀g,row=some g->n<=g)(hB:n<=w.heap.size):Below n w w':=
 ⟨hg.os,hg.tape,hg.output,hg.size,fun k hk=>hg.block k (by omega) (fun e=>by have:=hr k e.symm;omega)⟩
theorem kD{e sz n n' b:Nat}{v:Value}{row:Array Value}{xs ys:List Value}(h1:w.ownsRow 0 e sz v n xs)(h2:(w.setRow b row).ownsRow 0 e sz v n' ys)(hb:blk v=some b)(cur:Array Value)(T:TypeId)(z:Nat×Nat)(hc:w.heap[b]?=some (Obj.cells cur T z)):row.size=cur.size:=by
 rcases h1.2 with⟨h3,_⟩|⟨g,cap,cur1,h3,_,h4,_,_,h5,_⟩
 ·rw[h3]at hb;cases hb
 ·rcases h2.2 with⟨h6,_⟩|⟨g',cap',cur2,h6,_,h7,_,_,h8,_⟩
  ·rw[h6]at hb;cases hb
  ·rw[h3]at hb h6
   simp only[blk,zAb]at hb;subst hb;simp only[Value.slice.injEq,zAb,Addr.mk.injEq,and_true]at h6;obtain⟨rfl,_,rfl⟩:=h6;rw[hc]at h4;simp only[zAb,Obj.cells.injEq]at h4;obtain⟨rfl,_,_⟩:=h4;rw[setRow_heap w g cur row T z hc]at h7;simp only[zAb,Obj.cells.injEq]at h7;obtain⟨rfl,_,_⟩:=h7;rw[h5,h8]
theorem Ek{row:Option Nat}(hg:w.grownBy w' row)(hr:∀g,row=some g->B.own g)(hB:B.n<=w.heap.size)(hs:Siz w w'):Und B w w':=
 ⟨hg.os,hg.tape,hg.output,hg.size,fun k hk hs=>hg.block k (by omega) (fun e=>by rcases hr k e.symm with h|h;omega;exact hs h),hs⟩
theorem MO{e sz:Nat}{val:Value}{l:List V}{xs:List Value}(h2:w.ownsRow 0 e sz val l.length xs)(h3:ap M sz l xs)(h0:0<sz)(h1:l.length<=140737488355328):
 ∃(ad:Option Addr)(cap:Nat),val=.slice ad l.length cap/\l.length<=140737488355328/\0<sz/\(l=[]\/∃(b off:Nat)(xs:List Value),ad=some ⟨b,off,none⟩/\ap M sz l xs/\∀j u,xs[j]?=some u->w.cell? ((⟨b,off,none⟩:Addr).add j)=some u):=by
 rcases h2.2 with⟨h4,h5⟩|⟨g,cap,cur,h4,h5,h6,h7,h8,h9⟩
 ·exact⟨none,0,by rw[h4,h5],h1,h0,.inl (zAe h5)⟩
 ·exact⟨some ⟨g,0,none⟩,cap,by rw[h4],h1,h0,.inr ⟨g,0,xs,rfl,h3,fun j u hu=>h2.cells (g:=g) (by rw[h4];rfl) j u hu⟩⟩
theorem yd(H:Rel N M0 B w0 κ M σ a w){v:V}{c:Value}{sz:Nat}{l:List V}(hr:rep M (XX κ σ.h) v c)(hp:src σ.h v=some (.seq sz l)):
 ∃(ad:Option Addr)(cap:Nat),c=.slice ad l.length cap/\l.length<=140737488355328/\0<sz/\(l=[]\/∃(b off:Nat)(xs:List Value),ad=some ⟨b,off,none⟩/\ap M sz l xs/\∀j u,xs[j]?=some u->w.cell? ((⟨b,off,none⟩:Addr).add j)=some u):=by
 cases v<;>simp only[src,pur]at hp<;>try (cases hp;done)
 case nil sz'=>
  cases hp;simp only[rep]at hr;exact⟨none,0,hr.1,by simp,hr.2,.inl rfl⟩
 case seq sz' l'=>
  cases hp;simp only[rep]at hr;obtain⟨ad,cap,h1,_,h2',h2,h3⟩:=hr;refine⟨ad,cap,h1,h2',h2,?_⟩;rcases h3 with h3|⟨b,off,h4,h5⟩
  ·exact .inl h3
  ·obtain⟨xs,g1,g2⟩:=sh h5
   exact .inr ⟨b,off,xs,h4,g1,fun j u hu=>by rw[Addr.add_lit];exact H.snd _ _ (g2 j u hu)⟩
 case fseq sz' l'=>
  cases hp;simp only[rep,XX]at hr;obtain⟨_,ad,cap,h1,_,h2',h2,h3⟩:=hr;refine⟨ad,cap,h1,h2',h2,?_⟩;rcases h3 with h3|⟨b,off,h4,h5⟩
  ·exact .inl h3
  ·obtain⟨xs,g1,g2⟩:=sh (oC H.sub.fmS _ _ _ _ h5)
   exact .inr ⟨b,off,xs,h4,g1,fun j u hu=>by rw[Addr.add_lit];exact H.snd _ _ (g2 j u hu)⟩
 case ref id n=>
  split at hp
  ·rename_i e sz' l' hh
   split at hp
   ·rename_i hn
    cases hp;simp only[rep,XX]at hr;have hc:=(hr.2.2.1 e _ _ hh).2 hn;obtain⟨h0,h1,xs,h2,h3,_⟩:=H.heap id _ hh;rw[hc];exact MO h2 h3 h0 h1
   ·cases hp
  ·cases hp
 case mref id i n=>
  simp only[pur2]at hp;split at hp
  ·rename_i e e2 sz' rows hh
   split at hp
   ·rename_i r hrr
    split at hp
    ·rename_i hn
     cases hp;simp only[rep,XX]at hr;have hc:=((hr.2.2 _ _ _ _ hh).1 _ hrr).2 hn;obtain⟨h0,_,_,h5,_⟩:=H.heap id _ hh;obtain⟨h1,ys,h2,h3⟩:=h5 i _ hrr;rw[hc];exact MO h2 h3 h0 h1
    ·cases hp
   ·cases hp
  ·cases hp
 all_goals first
  |(obtain⟨_,_,h⟩:=zBa.1 hp;cases h;done)
  |(split at hp<;>cases hp;done)
theorem qx{l:List V}(h:¬l=[]):0<l.length:=by
 cases l with
 |nil=>exact(h rfl).elim
 |cons _ _=>simp
theorem d5{base e size n:Nat}{v:Value}{xs:List Value}(h:w.ownsRow base e size v n xs):(v=.slice none 0 0/\n=0)\/∃g cap,v=.slice (some ⟨g,0,none⟩) n cap:=by
 rcases h.2 with h|⟨g,cap,cur,h,_⟩
 ·exact .inl h
 ·exact .inr ⟨g,cap,h⟩
theorem Ny(H:Rel N M0 B w0 κ M σ a w){ty t e':TypeId}{i:TypeInfo}{z:Value}{sz' by':Nat}(ht:P.underlying t=some (.slice e'))(hi:P.info? e'=some i)(hz:i.zero=some z)
 (hs:i.size=sz') (hby:i.bytes=by') (hb0:0<by') (hzs:z.cells.size=sz') (hn:0<sz') {d:Option Nat} (hd:∀t,d=some t->t<N/\t ∉ B.ps) {id:Nat} {l0 l:List V} (ha:σ.h[id]?=some (some (.arr e' sz' l0))) {cy:Value} {ad:Option Addr} {cap:Nat}
 (hcy:cy=.slice ad l.length cap) (hll:l.length<=140737488355328) (hrow:l=[]\/∃(b off:Nat)(xs:List Value),ad=some ⟨b,off,none⟩/\ap M sz' l xs/\∀j u,xs[j]?=some u->w.cell? ((⟨b,off,none⟩:Addr).add j)=some u)
 (hb:(l0.length+l.length)*by'<=140737488355328) {Nx:Act->World->Prop} (hK:∀κ' M' a' w',Rel N M0 B w0 κ' M' ({ σ with h:=σ.h.set id (some (.arr e' sz' (l0++l))) }.put d (.ref id (l0.length+l.length))) a' w'->Nx a' w'):
 ∃c w1,(Builtin.append_ #[t,t] ty #[κ id,cy]).run P w=.ok c w1/\Nx (a.put d c) w1:=by
 have hBw:B.n<=w.heap.size:=by rw[H.base];exact H.blw.size
 obtain⟨h0,h1,xs0,ho0,hrow0,hown0,hbl0⟩:=H.heap id _ ha;rw[hcy]
 have fin:∀(v':Value)(w':World)(xs:List Value),w'.ownsRow 0 e' sz' v' (l0.length+l.length) (xs0++xs)->ap M sz' l xs->(l=[]->v'=κ id)->l0.length+l.length<=140737488355328->Und B w w'->
  (∀k,k<w.heap.size->¬κ.bl id k->w'.heap[k]?=w.heap[k]?)->(∀g,blk v'=some g->κ.bl id g\/w.heap.size<=g)->Nx (a.put d v') w':=by
  intro v' w' xs g1 hrow g0 hle hBl hoth g3
  have hX:∀v c,XX κ σ.h v c->XX (upd κ id v') (σ.h.set id (some (Ob.arr e' sz' (l0++l)))) v c:=fun v c hx=>gG ha hx (fun cs h=>by cases h) (fun e2 sz2 l2 h=>by
   cases h;refine⟨e',l0,rfl,by simp,fun hlen=>g0 ?_⟩
   simp at hlen;exact hlen) (fun _ _ _ _ h=>by cases h)
  have hlt:id<σ.h.length:=(zAa.1 ha).1
  have H':=H.setOb ha hBl hoth g3 hX (by
   simp only[aE]
   exact⟨hn,by simpa using hle,xs0++xs,by rw[cu];simpa using g1,re hrow0 hrow,fun g hg=>by
    rw[aJ]at hg;rcases g3 g hg with h|h
    ·exact hown0 g h
    ·exact .inl (by omega),fun g=>by rw[aJ,be]⟩)
  refine hK _ _ _ _ (H'.put' hd ?_);simp only[rep,XX];refine⟨?_,by simpa using hlt,fun e2 sz2 l2 h2=>?_,fun e2 sz2 l2 l3 h2=>by simp[zAd,hlt]at h2,fun o2 h2 hn=>by simp[zAd,hlt]at h2;subst h2;cases hn⟩
  ·rcases d5 g1 with⟨h,_⟩|⟨g,cap,h⟩<;>rw[h]<;>rfl
  ·simp only[zAd,if_true,hlt,zAb,Ob.arr.injEq]at h2
   obtain⟨rfl,rfl,rfl⟩:=h2;exact⟨by simp,fun _=>cu.symm⟩
 by_cases hz0:l=[]
 ·subst hz0
  rcases d5 ho0 with⟨hv0,hl0⟩|⟨g,cp,hv0⟩
  ·have hr:=bb (P:=P) (ty:=ty) ht hi none ad 0 0 cap (zAc _) w
   rw[hv0];refine⟨_,_,hr,fin _ w [] ?_ (by simp[ap]) (fun _=>hv0.symm) (by simpa using h1) (Und.refl _ _) (fun _ _ _=>rfl) (fun g hg=>.inl ((hbl0 g).2 (by rw[hv0];exact hg)))⟩
   simpa[<-hv0]using ho0
  ·have hcp:l0.length<=cp:=by
    rcases ho0.2 with⟨h,_⟩|⟨g',cap',cur,h,_,_,h7,_⟩
    ·rw[h]at hv0;cases hv0
    ·rw[h]at hv0;cases hv0;exact h7
   have hr:=bb (P:=P) (ty:=ty) ht hi (some ⟨g,0,none⟩) ad l0.length cp cap hcp w;rw[hv0];refine⟨_,_,hr,fin _ w [] ?_ (by simp[ap]) (fun _=>hv0.symm) (by simpa using h1) (Und.refl _ _) (fun _ _ _=>rfl) (fun g hg=>.inl ((hbl0 g).2 (by rw[hv0];exact hg)))⟩
   simpa[<-hv0]using ho0
 ·rcases hrow with hrow|⟨b,off,xs,had,hrow,hcells⟩
  ·exact(hz0 hrow).elim
  ·have hlen:=bP hrow
   have hbytes:l0.length+l.length<=(l0.length+l.length)*by':=zCd _ hb0
   obtain⟨v',w',hr,g1,g2,g3,g4⟩:=dz (P:=P) (ty:=ty) (base:=0) ht hi hz hs hby hzs hn ho0 ⟨b,off,none⟩ l.length cap xs hlen hcells (eu hrow) (qx hz0)
    hb (by simp only[maxLen];omega) (zDb _)
   rw[had]
   have hown:(κ id).ownBlock=blk (κ id):=by
    rcases d5 ho0 with⟨hv0,_⟩|⟨g,cp,hv0⟩<;>rw[hv0]<;>rfl
   rw[hown]at g2;refine⟨v',w',hr,fin v' w' xs g1 hrow (fun h=>(hz0 h).elim) ?_ (Ek g2 (fun g hg=>(H.blk_lt ha ((hbl0 g).2 hg)).1) hBw g4) (fun k hk hne=>g2.block k hk (fun e=>hne ((hbl0 k).2 e.symm))) (fun g hg=>(g3 g hg).imp (fun h=>(hbl0 g).2 h) (fun h=>h))⟩;omega
theorem M7{σ:St}{κ:Kap}{a n:Nat}{c:Value}(h:σ.nowR a n=true)(hx:XX κ σ.h (.ref a n) c):c=κ a:=by
 unfold St.nowR at h;simp only[XX]at hx;split at h
 ·rename_i e sz l hl;exact(hx.2.2.1 _ _ _ hl).2 (by simpa using h)
 ·rename_i e e2 sz rows hl;exact(hx.2.2.2.1 _ _ _ _ hl).2 (by simpa using h)
 ·cases h
theorem Rel.reCell(H:Rel N M0 B w0 κ M σ a w){id off:Nat}{cs:List V}{v v':V}(hb:σ.h[id]?=some (some (.box cs)))(hoff:cs[off]?=some v)(hv:∀c,rep M (XX κ σ.h) v c->rep M (XX κ σ.h) v' c):
 ∃κ',Rel N M0 B w0 κ' M { σ with h:=σ.h.set id (some (.box (cs.set off v'))) } a w/\∀u c,XX κ σ.h u c->XX κ' (σ.h.set id (some (.box (cs.set off v')))) u c:=by
 obtain⟨b,arr,T,h1,h2,h3,h4,h5,h6⟩:=H.heap id _ hb;have hX:∀u c,XX κ σ.h u c->XX (upd κ id (κ id)) (σ.h.set id (some (.box (cs.set off v')))) u c:=fun u c hx=>gG hb hx (fun _ _=>⟨⟨cs,rfl⟩,rfl⟩) (fun _ _ _ h=>by cases h) (fun _ _ _ _ h=>by cases h)
 have H2:=H.setOb hb (ob:=.box (cs.set off v')) (kv:=κ id) (Und.refl _ _) (fun _ _ _=>rfl) (fun g hg=>.inl ((h6 g).2 (by rw[h1]at hg;cases hg;rfl))) hX (by
  simp only[aE];refine⟨b,arr,T,by rw[cu];exact h1,h2,h3,?_,h5,fun g=>by rw[aJ,h1];simp only[blk,zAb];exact eq_comm⟩
  obtain⟨c,g1,g2⟩:=cd h4 hoff;have hs:=si off (aD (fun _ _ h=>h) hX _ _ h4) (v:=v') (c:=c) (DJ hX (hv c g2))
  have:arr.toList.set off c=arr.toList:=by
   apply zDf;intro j;rw[zAd];split
   ·rename_i he;subst he
    split
    ·exact g1.symm
    ·rename_i hn;rw[zBf (by omega)]
   ·rfl
  rwa[this]at hs)
 exact⟨_,H2,hX⟩
theorem GW(H:Rel N M0 B w0 κ M σ a w)(hJC:gw P M0 B){d:Option Nat}(hd:∀t,d=some t->t<N/\t ∉ B.ps){f:FuncId}{vs:List V}{K:St->Prop}(hW:MH (Cn P) d f vs K σ)
 {cs:Array Value} (hcs:ae M (XX κ σ.h) vs cs.toList) {Nx:Act->World->Prop} (hK:∀κ' M' σ' a' w',K σ'->Rel N M0 B w0 κ' M' σ' a' w'->Nx a' w') {Q:Exit->Act->World->Prop} (o:Oper) (ho:o.dst=d):
 o.upon P a Nx Q ((callFunc f cs).run P w):=by
 obtain⟨t,id,off,ra,n,bs,ht,hdt,hnow,hbox,hcell,hall⟩:=hW;have hb:=gS hbox;have hlt:id<σ.h.length:=(zAa.1 hb).1;obtain⟨htN,c0,hc0,hr0⟩:=H.regs t _ ht;simp only[rep]at hr0;have e0:=M7 hnow hr0;have hcell0:=hr0.1
 have H1:Rel N M0 ⟨B.n,B.S,t::B.ps,a.tmps,B.fb,B.J,B.df,B.gq⟩ w0 κ M σ a w:=
  { dfr:=H.dfr,jst:=fun k l S M M' w1 w2 h1 h2=>H.jst k l S M M' w1 w2 h1 ⟨h2.os,h2.tape,h2.output,h2.size,h2.block,h2.siz⟩,pin:=fun _ _=>rfl,size:=H.size,regs:=H.regs,
    heap:=fun i ob h=>cq (B:=B) (fun g hg=>(H.blk_lt h hg).1) rfl (fun ms e=>by subst e;exact(H.heap i _ h).2.2.2.2.2) (H.heap i ob h),inj:=H.inj,snd:=H.snd,sep:=H.sep,sub:=⟨H.sub.sub,H.sub.fmS,H.sub.fmN,H.sub.fbn,H.sub.gl⟩,new:=H.new,base:=H.base,
    blw:=⟨H.blw.os,H.blw.tape,H.blw.output,H.blw.size,H.blw.block,H.blw.siz⟩ }
 have H2:=H1.newOb' (w':=w) (Below.refl _ _) (ob:=.tok c0) (kv:=c0) (kr:=fun _=>undef) (kb:=fun _=>False) (fun g hg=>hg.elim) (fun _ _ _ hg=>hg) (by
  simp only[aE];exact⟨be,fun g hg=>by rw[aJ]at hg;exact hg⟩)
 have hX2:∀v c,XX κ σ.h v c->XX (bW κ σ.h.length c0 (fun _=>undef) (fun _=>False)) (σ.h++[some (.tok c0)]) v c:=fun v c hx=>Kg hx (by simp) (fun i hi=>(bz (by omega)).1) (fun i hi=>(bz (by omega)).2.1) (fun i ob' hi h=>by rwa[zAh hi]at h)
 have hra:ra<σ.h.length:=hr0.2.1
 obtain⟨κ3,H3,hX3⟩:=H2.reCell (id:=id) (off:=off) (cs:=bs) (v:=.ref ra n) (v':=.ref σ.h.length 0) (by simp only;rw[zAh hlt];exact hb) hcell (fun c hc=>by
  simp only[rep]at hc⊢
  have e1:c=κ ra:=by
   have:(St.mk σ.r (σ.h++[some (.tok c0)])).nowR ra n=true:=by
    unfold St.nowR at hnow⊢;simp only;rw[zAh hra];exact hnow
   rw[M7 this hc,(bz (by omega)).1]
  simp only[XX];refine⟨hc.1,by simp,fun e sz l h=>by simp at h,fun e e2 sz l h=>by simp at h,fun o2 h2 hn=>?_⟩
  rw[be,e1,e0])
 refine uN H3 hJC (fun t' ht'=>⟨(hd t' ht').1,fun hm=>?_⟩) (hall c0) (aD (fun _ _ h=>h) (fun v c h=>hX3 v c (hX2 v c h)) _ _ hcs) ?_ o ho
 ·rcases zIf.1 hm with rfl|hm
  ·exact hdt ht'
  ·exact(hd t' ht').2 hm
 intro κ' M' σ' a' w' ⟨bs',j,g1,g2,g3,g4,g5⟩ HR;obtain⟨kj,_⟩:=HR.heap j _ g4;obtain⟨_,c1,q1,q2⟩:=HR.regs t _ g1;have q3:=HR.pin t (List.mem_cons_self ..);simp only at q3;rw[q1,hc0]at q3
 obtain⟨κ4,H4,_⟩:=HR.reCell (gS g2) g3 (v':=.ref ra n) (fun c hc=>by
  simp only[rep,XX]at hc;have e1:=hc.2.2.2.2 _ g4 rfl;rw[kj]at e1;rw[e1];cases q3;exact q2)
 exact hK _ _ _ _ _ g5
  { dfr:=H4.dfr,jst:=H.jst,pin:=fun i hi=>by rw[H4.pin i (zGd _ hi)];exact H.pin i hi,size:=H4.size,regs:=H4.regs,
    heap:=fun i ob h=>cq (B:=⟨B.n,B.S,t::B.ps,a.tmps,B.fb,B.J,B.df,B.gq⟩) (fun g hg=>(H4.blk_lt h hg).1) rfl (fun ms e=>by subst e;exact(H4.heap i _ h).2.2.2.2.2) (H4.heap i ob h),inj:=H4.inj,snd:=H4.snd,sep:=H4.sep,sub:=⟨H4.sub.sub,H4.sub.fmS,H4.sub.fmN,H4.sub.fbn,H4.sub.gl⟩,new:=H4.new,base:=H4.base,
    blw:=⟨H4.blw.os,H4.blw.tape,H4.blw.output,H4.blw.size,H4.blw.block,H4.blw.siz⟩ }
theorem qq{rows:List Rw}{i j:Nat}{x:Rw}{r:List V}(h:aT (rows.set i x) j=some r):(j=i/\i<rows.length/\x=.a r)\/(j≠i/\aT rows j=some r):=by
 have h':=(ox h).1;rw[zAd]at h';split at h'
 ·rename_i he
  subst he;split at h'
  ·rename_i hl
   simp only[zAb]at h';exact .inl ⟨rfl,hl,h'⟩
  ·cases h'
 ·rename_i he
  exact .inr ⟨fun e=>he e.symm,by unfold aT;rw[h']⟩
theorem DG{rows:List Rw}{i k:Nat}(h:ow rows i=some k):(∃r,aT rows i=some r/\r.length=k)\/rows[i]?=some (.g k):=by
 unfold ow at h;split at h
 ·rename_i r hr;cases h;exact .inl ⟨r,by unfold aT;rw[hr],rfl⟩
 ·rename_i k hr;cases h;exact .inr hr
 ·cases h
theorem Of{rows:List Rw}{i k:Nat}(h:ow rows i=some k):i<rows.length:=by
 rcases DG h with⟨r,h1,_⟩|h
 ·exact(ox h1).2
 ·exact(zAa.1 h).1
theorem Rel.detach(H:Rel N M0 B w0 κ M σ a w){id:Nat}{e e2 sz i:Nat}{rows:List Rw}{r:List V}(hm:σ.h[id]?=some (some (.mat e e2 sz rows)))(hr:aT rows i=some r):
 ∃κ',Rel N M0 B w0 κ' M { σ with h:=σ.h.set id (some (.mat e e2 sz (rows.set i (.g r.length))))++[some (.arr e2 sz r)] } a w/\κ' σ.h.length=κ.row id i:=by
 obtain⟨h0,h1,⟨xs,h2,h3,h4⟩,h5,h6,h7,hown,hbl⟩:=H.heap id _ hm;obtain⟨q1,ys,q2,q3⟩:=h5 i r hr;have hlt:id<σ.h.length:=(zAa.1 hm).1
 have hX:∀v c,XX κ σ.h v c->XX (bW κ id (κ id) (κ.row id) (fun g=>blk (κ id)=some g\/∃j s,aT (rows.set i (.g r.length)) j=some s/\blk (κ.row id j)=some g)) (σ.h.set id (some (Ob.mat e e2 sz (rows.set i (.g r.length))))) v c:=fun v c hx=>
  gG hm hx (fun _ h=>by cases h) (fun _ _ _ h=>by cases h) (fun e' e2' sz' rows' h=>by
   cases h;refine⟨e,e2,rows,rfl,by simp,rfl,fun j s hs=>?_,fun j k hk=>?_⟩
   ·rcases qq hs with⟨_,_,h⟩|⟨_,h⟩
    ·cases h
    ·exact .inl ⟨s,h,zAc _,fun _=>rfl⟩
   ·rw[zAd]at hk
    split at hk
    ·rename_i he
     subst he;split at hk
     ·cases hk
      exact .inl ⟨r,hr,zAc _⟩
     ·cases hk
    ·exact .inr ⟨k,hk,zAc _⟩)
 have rs:∀{j:Nat}{s:List V},aT (rows.set i (.g r.length)) j=some s->j≠i/\aT rows j=some s:=by
  intro j s hs;rcases qq hs with⟨_,_,h⟩|h
  ·cases h
  ·exact h
 have H1:=H.setOb (ob:=.mat e e2 sz (rows.set i (.g r.length))) hm (Und.refl _ w) (fun _ _ _=>rfl) (kv:=κ id) (kr:=κ.row id) (kb:=fun g=>blk (κ id)=some g\/∃j s,aT (rows.set i (.g r.length)) j=some s/\blk (κ.row id j)=some g) (fun g hg=>.inl ((hbl g).2 (hg.imp (fun h=>h) fun⟨j,s,k1,k2⟩=>⟨j,s,(rs k1).2,k2⟩))) hX (by
  simp only[aE];rw[be,dV,aJ];refine⟨h0,by simpa using h1,⟨xs,by simpa using h2,h3,fun j s hs=>h4 j s (rs hs).2⟩,fun j s hs=>h5 j s (rs hs).2,fun j k s s' g hs hs'=>h6 j k s s' g (rs hs).2 (rs hs').2,fun j s g hs=>h7 j s g (rs hs).2,fun g hg=>?_,fun g=>zFe⟩
  exact hown g ((hbl g).2 (hg.imp (fun h=>h) fun⟨j,s,k1,k2⟩=>⟨j,s,(rs k1).2,k2⟩)))
 have hnb:∀g,blk (κ.row id i)=some g->κ.bl id g:=fun g hg=>(hbl g).2 (.inr ⟨i,r,hr,hg⟩);have hlen:(σ.h.set id (some (Ob.mat e e2 sz (rows.set i (.g r.length))))).length=σ.h.length:=by simp
 have H2:=H1.newOb' (w':=w) (ob:=.arr e2 sz r) (Below.refl _ _) (kv:=κ.row id i) (kr:=fun _=>Go.undef) (kb:=fun g=>blk (κ.row id i)=some g) (fun g hg j oj hj hj'=>by
  simp only at hj;rw[zAd]at hj;split at hj
  ·rename_i he
   subst he;rw[aJ]at hj';rcases hj' with h|⟨k,s,k1,k2⟩
   ·exact h7 i r g hr hg h
   ·exact(rs k1).1 (h6 k i s r g (rs k1).2 hr k2 hg)
  ·rename_i he
   rw[(bz (fun e=>he e.symm)).2.2]at hj';exact he (H.inj id j _ oj g hm hj (hnb g hg) hj')) (fun p v hp hg=>H.sep p v hp id _ hm (hnb _ hg)) (by
  simp only[aE];rw[be,aJ];exact⟨h0,q1,ys,q2,q3,fun g hg=>hown g (hnb g hg),fun g=>zFe⟩)
 rw[hlen]at H2;exact⟨_,H2,be⟩
theorem wB{sz:Nat}:∀(b:Nat){l:List V}{xs:List Value},ap M sz l xs->ap M sz (l.take b) (xs.take (b*sz))
 |0,l,xs,h=>by simp[ap]
 |b+1,[],xs,h=>by simp only[ap]at h;simp[h,ap]
 |b+1,v::vs,xs,h=>by
   simp only[ap]at h;obtain⟨y,rest,rfl,h1,h2,h3,h4⟩:=h;simp only[List.take_succ_cons,ap];refine⟨y,rest.take (b*sz),?_,h1,h2,h3,wB b h4⟩;have hl:y.cells.toList.length=sz:=by simpa using h2
   rw[zDj,hl,zAg (by rw[zCj];omega)]
   congr 2;rw[zCj];omega
theorem Nd{t:Nat}{f:FuncId}:∀{l:List (Nat×FuncId)},lkF l t=some f->(t,f)∈l
 |[],h=>by simp[lkF]at h
 |(u,g)::l,h=>by
   simp only[lkF]at h;split at h
   ·rename_i he;subst he;cases h;simp
   ·exact zGd _ (Nd h)
theorem R0{name:String}{t:TypeId}{x:Nat×FuncId}(h:Vu P name t=some x):x.1=t:=by
 unfold Vu at h;split at h
 ·split at h
  ·split at h<;>first|(cases h;done)|(cases h;rfl)
  ·cases h
 ·cases h
theorem KP{name:String}{t:TypeId}{f:FuncId}(h:lkF (YL P name) t=some f)(n:Nat)(v:Value)(w:World):(method (n+1) t v name).run P w=.ok (f,v) w:=by
 obtain⟨i,_,hi⟩:=zJa.1 (Nd h);have:=R0 hi;simp only at this;subst this;unfold Vu at hi;split at hi
 ·rename_i ti hti
  split at hi
  ·rename_i m hm
   split at hi
   ·cases hi
   ·rename_i hp hf hu
    cases hi;simp[method,typeInfo,hti,hm,hp,follow,hf,receiverAt,run_underlying hu,Place.get]
   ·rename_i d hne hp hf hu
    cases hi;cases d<;>first|exact(hne _ rfl).elim|simp[method,typeInfo,hti,hm,hp,follow,hf,receiverAt,run_underlying hu,Place.get]
   ·cases hi
  ·cases hi
 ·cases hi
theorem Nc{t:Nat}{f:FuncId×Option (Nat×Bool)}:∀{l:List (Nat×FuncId×Option (Nat×Bool))},lkG l t=some f->(t,f)∈l
 |[],h=>by simp[lkG]at h
 |(u,g)::l,h=>by
   simp only[lkG]at h;split at h
   ·rename_i he;subst he;cases h;simp
   ·exact zGd _ (Nc h)
theorem RZ{name:String}{t:TypeId}{x:Nat×FuncId×Option (Nat×Bool)}(h:Vt P name t=some x):x.1=t:=by
 unfold Vt at h;split at h
 ·split at h
  ·split at h
   ·split at h<;>first|(cases h;done)|(cases h;rfl)
   ·cases h;rfl
   ·cases h;rfl
   ·cases h
  ·cases h
 ·cases h
theorem OR{e:TypeId}{n:Nat}{g:Bool}(h:YJ P e=some (n,g)):dM P e=some n/\r7 P e=some g:=by
 unfold YJ at h;split at h
 ·split at h
  ·cases h;exact⟨by assumption,by assumption⟩
  ·cases h
 ·cases h
theorem HT(H:Rel N M0 B w0 κ M σ a w){name:String}{t:TypeId}{f:FuncId}{l:Option (Nat×Bool)}(h:lkG (Vs P name) t=some (f,l))(n:Nat){v v':V}{y:Value}(hy:rep M (XX κ σ.h) v y)(hv:σ.recv v l=some v'):
 ∃y',(method (n+1) t y name).run P w=.ok (f,y') w/\rep M (XX κ σ.h) v' y':=by
 obtain⟨i,_,hi⟩:=zJa.1 (Nc h);have:=RZ hi;simp only at this;subst this;unfold Vt at hi;split at hi
 ·rename_i ti hti
  split at hi
  ·rename_i m hm
   split at hi
   ·rename_i e hp hf hu
    split at hi
    ·rename_i l' hl
     cases hi;obtain⟨k,g⟩:=l';obtain⟨hs,hg⟩:=OR hl;simp only[St.recv]at hv;split at hv
     ·rename_i us hus
      obtain⟨b,o',cs,e',k1,k2,k3,k4⟩:=pA H hy hus
      have hw:∀(xs:Array TypeId)(z:TypeId)(b1 b2:ByteArray),Builtin.ssaWrapNilChk_ xs z #[y,.string b1,.string b2]=pure y:=fun xs z b1 b2=>by
       rw[e'];rfl
      rw[e']at hw;have hpe:m.path=#[]:=by apply zJg;simpa using hp
      rcases qu hv k1 k2 with⟨rfl,hk⟩|⟨rfl,c,hk1,hk2⟩
      ·refine⟨_,?_,hk⟩
       have:=run_loadCells_list (P:=P) w ⟨b,o',none⟩ cs k4;rw[k3]at this;simp[method,typeInfo,hti,hm,hpe,follow,hf,receiverAt,run_underlying hu,Place.get,strVal,hw,asAddr,e',loadVar,fj hg,aM hs,this]
      ·refine⟨c,?_,hk2⟩
       have:=k4 0 c (by simp[hk1])
       rw[Addr.add_lit]at this;simp at this;simp[method,typeInfo,hti,hm,hpe,follow,hf,receiverAt,run_underlying hu,Place.get,strVal,hw,asAddr,e',loadVar,fj hg,this]
     ·cases hv
    ·cases hi
   ·rename_i hp hf hu
    cases hi;cases hv;exact⟨y,by simp[method,typeInfo,hti,hm,hp,follow,hf,receiverAt,run_underlying hu,Place.get],hy⟩
   ·rename_i d hne hp hf hu
    cases hi;cases hv;refine⟨y,?_,hy⟩;cases d<;>first|exact(hne _ rfl).elim|simp[method,typeInfo,hti,hm,hp,follow,hf,receiverAt,run_underlying hu,Place.get]
   ·cases hi
  ·cases hi
 ·cases hi
theorem Rel.trunc(H:Rel N M0 B w0 κ M σ a w){id:Nat}{e sz b:Nat}{l:List V}(hm:σ.h[id]?=some (some (.arr e sz l)))(hb:b<=l.length){ad:Option Addr}{n cap:Nat}(hc:κ id=.slice ad n cap):
 ∃κ',Rel N M0 B w0 κ' M { σ with h:=σ.h.set id none++[some (.arr e sz (l.take b))] } a w/\κ' σ.h.length=.slice ad b cap:=by
 obtain⟨h0,h1,xs,h2,h3,hown,hbl⟩:=H.heap id _ hm;have hlt:id<σ.h.length:=(zAa.1 hm).1;have hlen:(σ.h.set id none).length=σ.h.length:=by simp
 have H1:=H.drop id;have hbk:∀g,blk (.slice ad b cap)=some g->κ.bl id g:=fun g hg=>(hbl g).2 (by rw[hc];cases ad<;>exact hg)
 have H2:=H1.newOb' (w':=w) (ob:=.arr e sz (l.take b)) (Below.refl _ _) (kv:=.slice ad b cap) (kr:=fun _=>Go.undef) (kb:=fun g=>blk (.slice ad b cap)=some g) (fun g hg j oj hj hj'=>by
  simp only at hj;rw[zAd]at hj;split at hj
  ·first|(cases hj;done)|(split at hj<;>cases hj)
  ·rename_i he
   exact he (H.inj id j _ oj g hm hj (hbk g hg) hj')) (fun p v hp hg=>H.sep p v hp id _ hm (hbk _ hg)) (by
  simp only[aE];rw[be,aJ];refine⟨h0,by simp;omega,xs.take (b*sz),?_,wB b h3,fun g hg=>hown g (hbk g hg),fun g=>zFe⟩
  have hxl:=bP h3;refine⟨by simp only[zAi,hxl];rw[zBg hb,zBg (zCe _ hb)],?_⟩
  rcases h2.2 with⟨h4,h5⟩|⟨g,cap',cur,h4,h5,h6,h7,h8,h9,h10⟩
  ·rw[hc]at h4
   cases h4;exact .inl ⟨by rw[show b=0 by omega],by simp[show b=0 by omega]⟩
  ·rw[hc]at h4
   cases h4;refine .inr ⟨g,_,cur,by rw[zAi,zBg hb],h5,h6,by rw[zAi,zBg hb];omega,h8,h9,?_⟩
   ·rw[zAi,zBg hb,<-h10]
    simp[zGh,zBg (zCe sz hb)])
 rw[hlen]at H2;exact⟨_,H2,be⟩
theorem XV{σ:St}{ms:List Po}:(σ.setP ms).h=σ.h.set 0 (some (Ob.pool ms)):=rfl
theorem Rel.setPool(H:Rel N M0 B w0 κ M σ a w){ms ms':List Po}(hp:σ.h[0]?=some (some (.pool ms))){kr:Nat->Value}(hU:Und B w w')
 (hoth:∀k,k<w.heap.size->¬κ.bl 0 k->w'.heap[k]?=w.heap[k]?)
 (hbl:∀j m g,ms'[j]?=some m->m.is=true->blk (kr j)=some g->κ.bl 0 g\/w.heap.size<=g)
 (hin:∀i j m m' g,ms'[i]?=some m->ms'[j]?=some m'->m.is=true->m'.is=true->blk (kr i)=some g->blk (kr j)=some g->i=j)
 (hq:∀κ':Kap,κ'.row 0=kr->∀k j n i off c,qAt κ ms k j n i off c->qAt κ' ms' k j n i off c)
 (ho:∀(κ':Kap)(X:V->Value->Prop),κ'.row 0=kr->(∀v c,PX (XX κ σ.h) v c->PX X v c)->∀j m,ms'[j]?=some m->fc κ' M X B w' j m):
 ∃κ',κ'.row 0=kr/\Rel N M0 B w0 κ' M (σ.setP ms') a w'/\∀v c,XX κ σ.h v c->XX κ' (σ.setP ms').h v c:=by
 have hBw:B.n<=w.heap.size:=by rw[H.base];exact H.blw.size
 obtain⟨_,h1,h2,h3,h4,h5⟩:=H.heap 0 _ hp
 have hX:∀v c,XX κ σ.h v c->XX (bW κ 0 (κ 0) kr (fun g=>∃j m,ms'[j]?=some m/\m.is=true/\blk (kr j)=some g)) (σ.h.set 0 (some (Ob.pool ms'))) v c:=fun v c hx=>
  gG hp hx (fun _ h=>by cases h) (fun _ _ _ h=>by cases h) (fun _ _ _ _ h=>by cases h) (fun h=>by cases h) (fun ms2 e=>by
   cases e;exact⟨ms,rfl,hq _ dV⟩)
 have hk:∀g,(∃j m,ms'[j]?=some m/\m.is=true/\blk (kr j)=some g)->κ.bl 0 g\/w.heap.size<=g:=fun g ⟨j,m,e1,e2,e3⟩=>hbl j m g e1 e2 e3;refine⟨_,dV,H.setOb hp hU hoth hk hX ?_,hX⟩;simp only[aE];rw[dV,aJ];refine⟨trivial,ho _ _ dV (NB hX),hin,fun g hg=>?_,fun g=>zFe,fun k j n i off c hg=>⟨(h5 k j n i off c hg).1,hq _ dV _ _ _ _ _ _ (h5 k j n i off c hg).2⟩⟩;rcases hk g hg with h|h
 ·exact h3 g h
 ·exact .inl (by omega)
theorem Po.is_blk(H:Rel N M0 B w0 κ M σ a w){ms:List Po}(hp:σ.h[0]?=some (some (.pool ms))){j:Nat}{m:Po}(hj:ms[j]?=some m)(hm:m.is=true){g:Nat}(hg:blk (κ.row 0 j)=some g):κ.bl 0 g/\g<w.heap.size:=by
 obtain⟨_,h1,h2,h3,h4,h5⟩:=H.heap 0 _ hp;exact⟨(h4 g).2 ⟨j,m,hj,hm,hg⟩,If (h1 j m hj) hm g hg⟩
theorem vv{κ':Kap}{ms ms':List Po}{j:Nat}(h1:ms'[j]?=ms[j]?)(h2:κ'.row 0 j=κ.row 0 j){k n i off:Nat}{c:Value}(h:qAt κ ms k j n i off c):qAt κ' ms' k j n i off c:=by
 unfold qAt at h⊢;rw[h1,h2];exact h
theorem gI(g o:Nat)(t:TypeId)(fz:Nat×Nat):∀(vs:List Value)(i:Nat)(cur:Array Value)(w:World),w.heap[g]?=some (.cells cur t fz)->(∀q,o<=q->q<cur.size->¬(fz.1<=q/\q<fz.2))->o+i+vs.length<=cur.size->(∀v∈vs,v.oneCell'=true)->
 (storeCells ⟨g,o,none⟩ vs i).run P w=.ok () (w.setRow g (cur.toList.take (o+i)++vs++cur.toList.drop (o+i+vs.length)).toArray)
 |[],i,cur,w,hg,_,_,_=>by
   simp only[storeCells,zHj,zGe,zDi,zIc,zIe];rw[setRow_self w g cur t fz hg];rfl
 |v::rest,i,cur,w,hg,hfz,hl,h1=>by
   have hi:o+i<cur.size:=by simp at hl;omega
   have hadd:(⟨g,o,none⟩:Addr).add i=⟨g,o+i,none⟩:=by unfold Addr.add;split<;>simp_all
   have hcell:w.cell? ⟨g,o+i,none⟩=some cur[o+i]:=by simp[World.cell?,hg,hi]
   have hfro:w.frozen? ⟨g,o+i,none⟩=false:=by
    have h0:=hfz (o+i) (by omega) hi
    obtain⟨lo,hi'⟩:=fz;simp only at h0;simp only[World.frozen?,hg,Bool.and_eq_false_iff,decide_eq_false_iff_not];omega
   have hst:(store ((⟨g,o,none⟩:Addr).add i) v).run P w=.ok () (w.setRow g (cur.setIfInBounds (o+i) v)):=by
    rw[hadd,run_store P w _ v _ (h1 v (by simp)),hcell]
    simp[hfro,setCell_eq_setRow w g (o+i) cur t fz v hg]
   have ih:=gI g o t fz rest (i+1) (cur.setIfInBounds (o+i) v) (w.setRow g (cur.setIfInBounds (o+i) v)) (setRow_heap w g cur _ t _ hg) (by simpa using hfz) (by simp at hl⊢;omega) (fun x hx=>h1 x (by simp[hx]))
   simp only[storeCells,Sem.run_bind,hst,Result.andThen_ok,ih,setRow_setRow];congr 3;have e:=list_seg_step cur.toList (o+i) v rest (by simp at hl⊢;omega)
   simpa[Array.toList_setIfInBounds,Nat.add_assoc]using e
theorem Rel.setMem(H:Rel N M0 B w0 κ M σ a w){ms:List Po}{j:Nat}{m m':Po}(hp:σ.h[0]?=some (some (.pool ms)))(hj:ms[j]?=some m)(hm:m.is=true){kv:Value}(hU:Und B w w')
 (hoth:∀k,k<w.heap.size->blk (κ.row 0 j)≠some k->w'.heap[k]?=w.heap[k]?)
 (hkv:∀g,blk kv=some g->blk (κ.row 0 j)=some g\/w.heap.size<=g)
 (hq:∀κ':Kap,κ'.row 0 j=kv->∀k n i off c,qAt κ ms k j n i off c->qAt κ' (ms.set j m') k j n i off c)
 (ho:∀(κ':Kap)(X:V->Value->Prop),κ'.row 0 j=kv->(∀v c,PX (XX κ σ.h) v c->PX X v c)->fc κ' M X B w' j m'):
 ∃κ',κ'.row 0 j=kv/\Rel N M0 B w0 κ' M (σ.setP (ms.set j m')) a w'/\∀v c,XX κ σ.h v c->XX κ' (σ.setP (ms.set j m')).h v c:=by
 have hlt:j<ms.length:=(zAa.1 hj).1;obtain⟨_,h1,h2,h3,h4,h5⟩:=H.heap 0 _ hp;have hne:∀{i:Nat}{mi:Po}{g:Nat},i≠j->ms[i]?=some mi->mi.is=true->blk (κ.row 0 i)=some g->blk (κ.row 0 j)≠some g:=fun{i mi g} hi hmi his hg he=>hi (h2 i j mi m g hmi hj his hm hg he)
 have hget:∀{i:Nat}{mi:Po},(ms.set j m')[i]?=some mi->(i=j/\mi=m')\/(i≠j/\ms[i]?=some mi):=fun{i mi} h=>by
  rw[zAd]at h;split at h
  ·rename_i e
   simp only[hlt,if_true,zAb]at h;exact .inl ⟨e.symm,h.symm⟩
  ·rename_i e
   exact .inr ⟨fun e'=>e e'.symm,h⟩
 obtain⟨κ',e1,e2,e3⟩:=H.setPool (ms':=ms.set j m') (kr:=fun i=>if i=j then kv else κ.row 0 i) hp hU (fun k hk hb=>hoth k hk fun he=>hb ((h4 k).2 ⟨j,m,hj,hm,he⟩))
  (fun i mi g hi his hg=>by
    rcases hget hi with⟨rfl,rfl⟩|⟨hne',hi⟩
    ·simp only[if_true]at hg
     rcases hkv g hg with h|h
     ·exact .inl ((h4 g).2 ⟨i,m,hj,hm,h⟩)
     ·exact .inr h
    ·simp only[if_neg hne']at hg
     exact .inl ((h4 g).2 ⟨i,mi,hi,his,hg⟩))
  (fun i i' mi mi' g hi hi' his his' hg hg'=>by
    rcases hget hi with⟨rfl,rfl⟩|⟨hn1,hk1⟩<;>rcases hget hi' with⟨rfl,rfl⟩|⟨hn2,hk2⟩
    ·rfl
    ·simp only[if_true]at hg
     simp only[if_neg hn2]at hg';rcases hkv g hg with h|h
     ·exact(hne hn2 hk2 his' hg' h).elim
     ·have:=(Po.is_blk H hp hk2 his' hg').2;omega
    ·simp only[if_true]at hg'
     simp only[if_neg hn1]at hg;rcases hkv g hg' with h|h
     ·exact(hne hn1 hk1 his hg h).elim
     ·have:=(Po.is_blk H hp hk1 his hg).2;omega
    ·simp only[if_neg hn1]at hg
     simp only[if_neg hn2]at hg';exact h2 i i' mi mi' g hk1 hk2 his his' hg hg')
  (fun κ' hr k i n l off c h=>by
    by_cases hi:i=j
    ·subst hi
     exact hq κ' (by rw[hr];simp) _ _ _ _ _ h
    ·exact vv (by rw[zAd,if_neg (fun e=>hi e.symm)]) (by rw[hr];simp[hi]) h)
  (fun κ' X hr hX i mi hi=>by
    rcases hget hi with⟨rfl,rfl⟩|⟨hn1,hi⟩
    ·exact ho κ' X (by rw[hr];simp) hX
    ·cases his:mi.is
     ·cases mi<;>simp[Po.is]at his
      trivial
     ·exact jE (fun _ _ h=>h) hX (by rw[hr];simp[hn1]) (fun g hg=>hoth g (Po.is_blk H hp hi his hg).2 (hne hn1 hi his hg)) (h1 i mi hi))
 exact⟨κ',by rw[e1];simp,e2,e3⟩
theorem Rel.addMem(H:Rel N M0 B w0 κ M σ a w){ms:List Po}{m':Po}(hp:σ.h[0]?=some (some (.pool ms))){kv:Value}(hU:Below w.heap.size w w')
 (hkv:∀g,blk kv=some g->w.heap.size<=g)
 (ho:∀(κ':Kap)(X:V->Value->Prop),κ'.row 0 ms.length=kv->(∀v c,PX (XX κ σ.h) v c->PX X v c)->fc κ' M X B w' ms.length m'):
 ∃κ',κ'.row 0 ms.length=kv/\Rel N M0 B w0 κ' M (σ.setP (ms++[m'])) a w'/\∀v c,XX κ σ.h v c->XX κ' (σ.setP (ms++[m'])).h v c:=by
 have hBw:B.n<=w.heap.size:=by rw[H.base];exact H.blw.size
 obtain⟨_,h1,h2,h3,h4,h5⟩:=H.heap 0 _ hp
 have hget:∀{i:Nat}{mi:Po},(ms++[m'])[i]?=some mi->(i=ms.length/\mi=m')\/(i≠ms.length/\ms[i]?=some mi):=fun{i mi} h=>by
  rcases zHd i ms.length with hlt|hge
  ·rw[zAh hlt]at h
   exact .inr ⟨by omega,h⟩
  ·rw[zBc hge]at h
   have:i=ms.length:=by
    have:=(zAa.1 h).1;simp at this;omega
   subst this;simp at h;exact .inl ⟨rfl,h.symm⟩
 obtain⟨κ',e1,e2,e3⟩:=H.setPool (ms':=ms++[m']) (kr:=fun i=>if i=ms.length then kv else κ.row 0 i) hp (Und.of_below hU hBw) (fun k hk _=>hU.block k hk)
  (fun i mi g hi his hg=>by
    rcases hget hi with⟨rfl,rfl⟩|⟨hne',hi⟩
    ·simp only[if_true]at hg
     exact .inr (hkv g hg)
    ·simp only[if_neg hne']at hg
     exact .inl ((h4 g).2 ⟨i,mi,hi,his,hg⟩))
  (fun i i' mi mi' g hi hi' his his' hg hg'=>by
    rcases hget hi with⟨rfl,rfl⟩|⟨hn1,hk1⟩<;>rcases hget hi' with⟨rfl,rfl⟩|⟨hn2,hk2⟩
    ·rfl
    ·simp only[if_true]at hg
     simp only[if_neg hn2]at hg';have:=(Po.is_blk H hp hk2 his' hg').2;have:=hkv g hg;omega
    ·simp only[if_true]at hg'
     simp only[if_neg hn1]at hg;have:=(Po.is_blk H hp hk1 his hg).2;have:=hkv g hg';omega
    ·simp only[if_neg hn1]at hg
     simp only[if_neg hn2]at hg';exact h2 i i' mi mi' g hk1 hk2 his his' hg hg')
  (fun κ' hr k i n l off c h=>by
    rcases zHd i ms.length with hlt|hge
    ·exact vv (by rw[zAh hlt]) (by rw[hr];simp[show i≠ms.length by omega]) h
    ·unfold qAt at h
     rw[zBf hge]at h;exact h.elim)
  (fun κ' X hr hX i mi hi=>by
    rcases hget hi with⟨rfl,rfl⟩|⟨hn1,hi⟩
    ·exact ho κ' X (by rw[hr];simp) hX
    ·cases his:mi.is
     ·cases mi<;>simp[Po.is]at his
      trivial
     ·exact jE (fun _ _ h=>h) hX (by rw[hr];simp[hn1]) (fun g hg=>hU.block g (Po.is_blk H hp hi his hg).2) (h1 i mi hi))
 exact⟨κ',by rw[e1];simp,e2,e3⟩
theorem kG{ms:List Po}{h:List (Option Ob)}(hp:h[0]?=some (some (.pool ms))){k j n i off:Nat}{c:Value}(hc:am c)(hq:qAt κ ms k j n i off c):rep M (XX κ h) (.q k j n i off) c:=by
 simp only[rep,XX];refine⟨hc,(zAa.1 hp).1,fun ms' h'=>?_⟩;rw[hp]at h';cases h';exact hq
theorem dx{ms ms':List Po}(hp:σ.h[0]?=some (some (.pool ms))):(σ.setP ms').h[0]?=some (some (.pool ms')):=by
 have:=(zAa.1 hp).1;simp[St.setP,zAd,this]
theorem Rel.truncQ(H:Rel N M0 B w0 κ M σ a w){ms:List Po}{j e sz b:Nat}{l:List V}(hp:σ.h[0]?=some (some (.pool ms)))(hj:ms[j]?=some (.rw e sz l))(hb:b<=l.length){ad:Option Addr}{cap:Nat}(hc:κ.row 0 j=.slice ad l.length cap):
 ∃κ',κ'.row 0 ms.length=.slice ad b cap/\Rel N M0 B w0 κ' M (σ.setP (ms.set j .no++[.rw e sz (l.take b)])) a w/\∀v c,XX κ σ.h v c->XX κ' (σ.setP (ms.set j .no++[.rw e sz (l.take b)])).h v c:=by
 have hlt:j<ms.length:=(zAa.1 hj).1;obtain⟨_,h1,h2,h3,h4,h5⟩:=H.heap 0 _ hp;obtain⟨h0,hll,xs,ho,hrow⟩:=h1 j _ hj;have hbk:∀g,blk (.slice ad b cap)=some g->blk (κ.row 0 j)=some g:=fun g hg=>by rw[hc];cases ad<;>exact hg
 have hget:∀{i:Nat}{mi:Po},(ms.set j .no++[.rw e sz (l.take b)])[i]?=some mi->(i=ms.length/\mi=.rw e sz (l.take b))\/(i≠ms.length/\i=j/\mi=.no)\/(i≠ms.length/\i≠j/\ms[i]?=some mi):=fun{i mi} h=>by
  rcases zHd i ms.length with hl|hge
  ·rw[zAh (by simpa using hl),zAd]at h
   split at h
   ·rename_i e'
    simp only[hlt,if_true,zAb]at h;exact .inr (.inl ⟨by omega,e'.symm,h.symm⟩)
   ·rename_i e'
    exact .inr (.inr ⟨by omega,fun h=>e' h.symm,h⟩)
  ·rw[zBc (by simpa using hge)]at h
   have:i=ms.length:=by
    have:=(zAa.1 h).1;simp at this;omega
   subst this;simp at h;exact .inl ⟨rfl,h.symm⟩
 obtain⟨κ',e1,e2,e3⟩:=H.setPool (ms':=ms.set j .no++[.rw e sz (l.take b)]) (kr:=fun i=>if i=ms.length then .slice ad b cap else κ.row 0 i) hp (Und.refl _ _) (fun k hk _=>rfl)
  (fun i mi g hi his hg=>by
    rcases hget hi with⟨rfl,rfl⟩|⟨hn,rfl,rfl⟩|⟨hn,hn2,hi⟩
    ·simp only[if_true]at hg
     exact .inl ((h4 g).2 ⟨j,_,hj,rfl,hbk g hg⟩)
    ·cases his
    ·simp only[if_neg hn]at hg
     exact .inl ((h4 g).2 ⟨i,mi,hi,his,hg⟩))
  (fun i i' mi mi' g hi hi' his his' hg hg'=>by
    rcases hget hi with⟨rfl,rfl⟩|⟨hn,rfl,rfl⟩|⟨hn,hn2,hk1⟩<;>rcases hget hi' with⟨rfl,rfl⟩|⟨hn',rfl,rfl⟩|⟨hn',hn2',hk2⟩
    ·rfl
    ·cases his'
    ·simp only[if_true]at hg
     simp only[if_neg hn']at hg';exact(hn2' (h2 _ _ _ _ g hk2 hj his' rfl hg' (hbk g hg))).elim
    ·cases his
    ·cases his
    ·cases his
    ·simp only[if_true]at hg'
     simp only[if_neg hn]at hg;exact(hn2 (h2 _ _ _ _ g hk1 hj his rfl hg (hbk g hg'))).elim
    ·cases his'
    ·simp only[if_neg hn]at hg
     simp only[if_neg hn']at hg';exact h2 i i' mi mi' g hk1 hk2 his his' hg hg')
  (fun κ' hr k i n l' off c h=>by
    rcases zHd i ms.length with hl|hge
    ·by_cases hi:i=j
     ·subst hi
      have hno:(ms.set i .no++[Po.rw e sz (l.take b)])[i]?=some .no:=by
       rw[zAh (by simpa using hl)];simp[hl]
      simp only[qAt,hno]
     ·exact vv (by rw[zAh (by simpa using hl),zAd,if_neg (fun e=>hi e.symm)]) (by rw[hr];simp[show i≠ms.length by omega]) h
    ·unfold qAt at h
     rw[zBf hge]at h;exact h.elim)
  (fun κ' X hr hX i mi hi=>by
    rcases hget hi with⟨rfl,rfl⟩|⟨hn,rfl,rfl⟩|⟨hn,hn2,hi⟩
    ·simp only[fc]
     have hlen:(l.take b).length=b:=by simp;omega
     refine⟨h0,by omega,xs.take (b*sz),?_,tF b (cz (fun _ _ h=>h) hX hrow)⟩
     have hr0:κ'.row 0 ms.length=.slice ad b cap:=by rw[hr];simp
     rw[hr0];have hxl:=c7 hrow;refine⟨by simp only[zAi,hxl];rw[zBg hb,zBg (zCe _ hb)],?_⟩
     rcases ho.2 with⟨h4,h5⟩|⟨g,cap',cur,h4,h5,h6,h7,h8,h9,h10⟩
     ·rw[hc]at h4
      simp only[Value.slice.injEq]at h4;obtain⟨rfl,_,rfl⟩:=h4;exact .inl ⟨by rw[show b=0 by omega],by simp[show b=0 by omega]⟩
     ·rw[hc]at h4
      simp only[Value.slice.injEq]at h4;obtain⟨rfl,_,rfl⟩:=h4;refine .inr ⟨g,_,cur,by rw[zAi,zBg hb],h5,h6,by rw[zAi,zBg hb];omega,h8,h9,?_⟩
      rw[zAi,zBg hb,<-h10];simp[zGh,zBg (zCe sz hb)]
    ·trivial
    ·cases his:mi.is
     ·cases mi<;>simp[Po.is]at his
      trivial
     ·exact jE (fun _ _ h=>h) hX (by rw[hr];simp[hn]) (fun g hg=>rfl) (h1 i mi hi))
 exact⟨κ',by rw[e1];simp,e2,e3⟩
theorem wC{M:Mem}{X:V->Value->Prop}{sz:Nat}:∀{l:List V}{xs:List Value}{i:Nat}{v':V}{y':Value},az M X sz l xs->i<l.length->rep M X v' y'->y'.cells.size=sz->(∀u∈y'.cells.toList,am u)->
 az M X sz (l.set i v') (xs.take (i*sz)++y'.cells.toList++xs.drop (i*sz+sz))
 |[],xs,i,v',y',h,hi,_,_,_=>by simp at hi
 |v::vs,xs,0,v',y',h,hi,h1,h2,h3=>by
   simp only[az]at h;obtain⟨y,rest,rfl,g1,g2,g3,g4⟩:=h;simp only[zIh,az];refine⟨y',rest,?_,h1,h2,h3,g4⟩;simp[g2,zEh]
 |v::vs,xs,i+1,v',y',h,hi,h1,h2,h3=>by
   simp only[az]at h;obtain⟨y,rest,rfl,g1,g2,g3,g4⟩:=h;simp only[zIi,az];refine⟨y,_,?_,g1,g2,g3,wC g4 (by simpa using hi) h1 h2 h3⟩
   have e1:(i+1)*sz=sz+i*sz:=by rw[zCj];omega
   have hy:y.cells.toList.length=sz:=by simpa using g2
   rw[e1,zDj,zEh,hy];rw[zAg (by omega),zDa (by omega)]
   have e2:sz+i*sz-sz=i*sz:=by omega
   have e3:sz+i*sz+sz-sz=i*sz+sz:=by omega
   rw[e2,e3];simp
theorem rf{M:Mem}{X:V->Value->Prop}{sz:Nat}:∀{l:List V}{xs:List Value},az M X sz l xs->∀u∈xs,am u
 |[],xs,h,u,hu=>by simp only[az]at h;subst h;cases hu
 |v::vs,xs,h,u,hu=>by
   simp only[az]at h;obtain⟨y,rest,rfl,g1,g2,g3,g4⟩:=h;rcases zCa.1 hu with hu|hu
   ·exact g3 u hu
   ·exact rf g4 u hu
theorem tB{M:Mem}{X:V->Value->Prop}(hXc:∀v c,X v c->am c){sz:Nat}:∀{us:List V}{cs:List Value},aV sz us=true->ae M X us cs->
 ∀(i:Nat)(c:Value),cs[i]?=some c->c.cells.size=sz/\(∀u∈c.cells.toList,am u)
 |[],cs,_,h,i,c,hi=>by simp only[ae]at h;subst h;simp at hi
 |v::vs,cs,hs,h,i,c,hi=>by
   simp only[ae]at h;obtain⟨c0,cs',rfl,h2,h3⟩:=h;simp only[aV,zBi,decide_eq_true_eq]at hs;cases i with
   |zero=>
     simp at hi;subst hi;have:=aX h2 hXc (eA hs.1.2);refine⟨?_,this.2⟩;have h4:=aC this.1;simp at h4;omega
   |succ i=>simp at hi;exact tB hXc hs.2 h3 i c hi
theorem yO{M:Mem}{X:V->Value->Prop}(hXc:∀v c,X v c->am c){sz:Nat}:∀{us:List V}{cs:List Value},aV sz us=true->ae M X us cs->az M X sz us (c6 cs)
 |[],cs,_,h=>by simp only[ae]at h;subst h;simp[az,c6]
 |v::vs,cs,hs,h=>by
   simp only[ae]at h;obtain⟨c0,cs',rfl,h2,h3⟩:=h;simp only[aV,zBi,decide_eq_true_eq]at hs;have hk:=aX h2 hXc (eA hs.1.2);have h4:=aC hk.1;simp only[az];exact⟨c0,c6 cs',by simp[c6],h2,by simp at h4;omega,hk.2,yO hXc hs.2 h3⟩
theorem HN(H:Rel N M0 B w0 κ M σ a w){ms:List Po}(hb:σ.h[0]?=some (some (.pool ms))){v:V}{c:Value}{sz:Nat}{l:List V}(h0:0<sz)(hr:rep M (XX κ σ.h) v c)(hp:Bg σ ms sz v=some l):
 ∃(ad:Option Addr)(cap:Nat),c=.slice ad l.length cap/\l.length<=140737488355328/\(l=[]\/∃(b off:Nat)(xs:List Value),ad=some ⟨b,off,none⟩/\az M (PX (XX κ σ.h)) sz l xs/\(∀u∈xs,am u)/\∀j u,xs[j]?=some u->w.cell? ((⟨b,off,none⟩:Addr).add j)=some u):=by
 have other:QT σ sz v=some l->∃(ad:Option Addr)(cap:Nat),c=.slice ad l.length cap/\l.length<=140737488355328/\(l=[]\/∃(b off:Nat)(xs:List Value),ad=some ⟨b,off,none⟩/\az M (PX (XX κ σ.h)) sz l xs/\(∀u∈xs,am u)/\∀j u,xs[j]?=some u->w.cell? ((⟨b,off,none⟩:Addr).add j)=some u):=by
  intro hp;unfold QT at hp;split at hp
  ·rename_i sz' l' hs
   split at hp
   ·rename_i e
    cases hp;subst e;obtain⟨ad,cap,h1,h2,_,h4⟩:=yd H hr hs;refine⟨ad,cap,h1,h2,h4.imp (fun h=>h) fun⟨b,off,xs,g1,g2,g3⟩=>⟨b,off,xs,g1,yR g2,eu g2,g3⟩⟩
   ·cases hp
  ·cases hp
 cases v
 case q k j n i off=>
  simp only[Bg]at hp;split at hp
  ·rename_i hk
   split at hp
   ·rename_i e sz' l' hj
    split at hp
    ·rename_i hc
     cases hp;obtain⟨rfl,rfl⟩:=hc;simp only[rep,XX]at hr;have hq:=hr.2.2 ms hb;simp only[qAt,hj]at hq;have hck:=(hq.1 hk).2 trivial;obtain⟨hsz,hlen,xs,ho,hrow⟩:=(H.heap 0 _ hb).2.1 j _ hj;rcases ho.2 with⟨h4,h5⟩|⟨g,cap,cur,h4,h5,h6,h7,h8,h9⟩
     ·exact⟨none,0,by rw[hck,h4,h5],hlen,.inl (zAe h5)⟩
     ·exact⟨some ⟨g,0,none⟩,cap,by rw[hck,h4],hlen,.inr ⟨g,0,xs,rfl,hrow,rf hrow,fun q u hu=>ho.cells (g:=g) (by rw[h4];rfl) q u hu⟩⟩
    ·cases hp
   ·cases hp
  ·cases hp
 all_goals exact other (by simpa only[Bg]using hp)
theorem Mv(H:Rel N M0 B w0 κ M σ a w){ty t e':TypeId}{i:TypeInfo}{z:Value}{sz' by':Nat}(ht:P.underlying t=some (.slice e'))(hi:P.info? e'=some i)(hz:i.zero=some z)
 (hs:i.size=sz') (hby:i.bytes=by') (hb0:0<by') (hzs:z.cells.size=sz') (hn:0<sz') {d:Option Nat} (hd:∀t,d=some t->t<N/\t ∉ B.ps) {k j n i0 o0:Nat} {v:V} {cx cy:Value} (hrx:rep M (XX κ σ.h) (.q k j n i0 o0) cx) (hry:rep M (XX κ σ.h) v cy)
 {K:St->Prop} (hW:G2 σ d e' sz' by' k j n v K) {Nx:Act->World->Prop} (hK:∀κ' M' σ' a' w',K σ'->Rel N M0 B w0 κ' M' σ' a' w'->Nx a' w'):
 ∃c w1,(Builtin.append_ #[t,t] ty #[cx,cy]).run P w=.ok c w1/\Nx (a.put d c) w1:=by
 have hBw:B.n<=w.heap.size:=by rw[H.base];exact H.blw.size
 unfold G2 at hW;split at hW
 ·rename_i ms hms
  have hb:=bJ hms;split at hW
  ·rename_i e1 sz1 l0 l hj hsrc
   obtain⟨rfl,rfl,rfl,rfl,hbb,hW⟩:=hW;obtain⟨ad,cap,hcy,hll,hrow⟩:=HN H hb hn hry hsrc;simp only[rep,XX]at hrx;have hq:=hrx.2.2 ms hb;simp only[qAt,hj]at hq;have hck:=(hq.1 trivial).2 trivial;obtain⟨_,hpo,hdis,hown,hbl,_⟩:=H.heap 0 _ hb;obtain⟨h0,h1,xs0,ho0,hrow0⟩:=hpo j _ hj;rw[hcy,hck];have hblk:∀g,blk (κ.row 0 j)=some g->κ.bl 0 g:=fun g hg=>(hbl g).2 ⟨j,_,hj,rfl,hg⟩
   have fin:∀(v':Value)(w':World)(xs:List Value),w'.ownsRow 0 e1 sz1 v' (l0.length+l.length) (xs0++xs)->az M (PX (XX κ σ.h)) sz1 l xs->(l=[]->v'=κ.row 0 j)->l0.length+l.length<=140737488355328->Und B w w'->
    (∀k,k<w.heap.size->blk (κ.row 0 j)≠some k->w'.heap[k]?=w.heap[k]?)->(∀g,blk v'=some g->blk (κ.row 0 j)=some g\/w.heap.size<=g)->Nx (a.put d v') w':=by
    intro v' w' xs g1 hrow g0 hle hBl hoth g3;have hlt:j<ms.length:=(zAa.1 hj).1;have hget:(ms.set j (.rw e1 sz1 (l0++l)))[j]?=some (.rw e1 sz1 (l0++l)):=by simp[hlt]
    obtain⟨κ',e2,H',hX⟩:=H.setMem (m':=.rw e1 sz1 (l0++l)) hb hj rfl (kv:=v') hBl hoth g3 (fun κ' er k n i off c hq=>by
     simp only[qAt,hj]at hq;simp only[qAt,hget,er,zAf];refine⟨fun hk=>⟨by have:=(hq.1 hk).1;omega,fun hn=>?_⟩,fun hk=>⟨by have:=(hq.2 hk).1;omega,fun hn hi=>?_⟩⟩
     ·have h5:=hq.1 hk
      have h6:l=[]:=zAe (by omega)
      rw[g0 h6];exact h5.2 (by simp[h6]at hn;exact hn)
     ·have h5:=hq.2 hk
      have h6:l=[]:=zAe (by omega)
      rw[g0 h6];exact h5.2 (by simp[h6]at hn;exact hn) hi) (fun κ' X er hX=>by
     simp only[fc];exact⟨hn,by simpa using hle,xs0++xs,by rw[er];simpa using g1,oB (cz (fun _ _ h=>h) hX hrow0) (cz (fun _ _ h=>h) hX hrow)⟩)
    refine hK _ _ _ _ _ hW (H'.put' hd (kG (dx hb) ?_ ?_))
    ·rcases d5 g1 with⟨h,_⟩|⟨g,cap,h⟩<;>rw[h]<;>rfl
    ·simp only[qAt,hget,e2,zAf]
     exact⟨fun _=>⟨zAc _,fun _=>trivial⟩,fun h=>by simp at h⟩
   by_cases hz0:l=[]
   ·subst hz0
    rcases d5 ho0 with⟨hv0,hl0⟩|⟨g,cp,hv0⟩
    ·have hr:=bb (P:=P) (ty:=ty) ht hi none ad 0 0 cap (zAc _) w
     rw[hv0];refine⟨_,_,hr,fin _ w [] ?_ (by simp[az]) (fun _=>hv0.symm) (by simpa using h1) (Und.refl _ _) (fun _ _ _=>rfl) (fun g hg=>by cases hg)⟩
     simpa[<-hv0]using ho0
    ·have hcp:l0.length<=cp:=by
      rcases ho0.2 with⟨h,_⟩|⟨g',cap',cur,h,_,_,h7,_⟩
      ·rw[h]at hv0;cases hv0
      ·rw[h]at hv0;cases hv0;exact h7
     have hr:=bb (P:=P) (ty:=ty) ht hi (some ⟨g,0,none⟩) ad l0.length cp cap hcp w;rw[hv0];refine⟨_,_,hr,fin _ w [] ?_ (by simp[az]) (fun _=>hv0.symm) (by simpa using h1) (Und.refl _ _) (fun _ _ _=>rfl) (fun g hg=>.inl (by rw[hv0];exact hg))⟩
     simpa[<-hv0]using ho0
   ·rcases hrow with hrow|⟨b,off,xs,had,hrow,hcs,hcells⟩
    ·exact(hz0 hrow).elim
    ·have hlen:=c7 hrow
     have hbytes:l0.length+l.length<=(l0.length+l.length)*by':=zCd _ hb0
     obtain⟨v',w',hr,g1,g2,g3,g4⟩:=dz (P:=P) (ty:=ty) (base:=0) ht hi hz hs hby hzs hn ho0 ⟨b,off,none⟩ l.length cap xs hlen hcells hcs (qx hz0)
      hbb (by simp only[maxLen];omega) (zDb _)
     rw[had]
     have hown':(κ.row 0 j).ownBlock=blk (κ.row 0 j):=by
      rcases d5 ho0 with⟨hv0,_⟩|⟨g,cp,hv0⟩<;>rw[hv0]<;>rfl
     rw[hown']at g2;refine⟨v',w',hr,fin v' w' xs g1 hrow (fun h=>(hz0 h).elim) ?_ (Ek g2 (fun g hg=>hown g (hblk g hg)) hBw g4) (fun k hk hne=>g2.block k hk (fun e=>hne e.symm)) g3⟩;omega
  ·exact hW.elim
 ·exact hW.elim
theorem Mw(H:Rel N M0 B w0 κ M σ a w){ty t e':TypeId}{i:TypeInfo}{z:Value}{sz' by':Nat}(ht:P.underlying t=some (.slice e'))(hi:P.info? e'=some i)(hz:i.zero=some z)
 (hs:i.size=sz') (hby:i.bytes=by') (hb0:0<by') (hzs:z.cells.size=sz') (hn:0<sz') {d:Option Nat} (hd:∀t,d=some t->t<N/\t ∉ B.ps) {k j n i0 o0 s0:Nat} {cx cy:Value} (hrx:rep M (XX κ σ.h) (.nil s0) cx) (hry:rep M (XX κ σ.h) (.q k j n i0 o0) cy)
 {K:St->Prop} (hW:G3 σ d e' sz' by' k j n K) {Nx:Act->World->Prop} (hK:∀κ' M' σ' a' w',K σ'->Rel N M0 B w0 κ' M' σ' a' w'->Nx a' w'):
 ∃c w1,(Builtin.append_ #[t,t] ty #[cx,cy]).run P w=.ok c w1/\Nx (a.put d c) w1:=by
 unfold G3 at hW;split at hW
 ·rename_i ms hms
  have hb:=bJ hms;split at hW
  ·rename_i e1 sz1 l hj
   obtain⟨rfl,rfl,rfl,hbb,hW⟩:=hW;obtain⟨ad,cap,hcy,hll,hrow⟩:=HN H hb hn hry (l:=l) (by simp[Bg,hj])
   simp only[rep]at hrx;rw[hcy,hrx.1]
   have fin:∀(v':Value)(w':World)(xs:List Value),w'.ownsRow 0 e' sz1 v' l.length xs->az M (PX (XX κ σ.h)) sz1 l xs->Below w.heap.size w w'->(∀g,blk v'=some g->w.heap.size<=g)->Nx (a.put d v') w':=by
    intro v' w' xs g1 hrow hBl g3
    obtain⟨κ',e2,H',hX⟩:=H.addMem (m':=.rw e' sz1 l) hb (kv:=v') hBl g3 (fun κ' X er hX=>by
     simp only[fc];exact⟨hn,hll,xs,by rw[er];exact g1,cz (fun _ _ h=>h) hX hrow⟩)
    refine hK _ _ _ _ _ hW (H'.put' hd (kG (dx hb) ?_ ?_))
    ·rcases d5 g1 with⟨h,_⟩|⟨g,cap,h⟩<;>rw[h]<;>rfl
    ·have hget:(ms++[Po.rw e' sz1 l])[ms.length]?=some (.rw e' sz1 l):=by simp
     simp only[qAt,hget,e2];exact⟨fun _=>⟨zAc _,fun _=>trivial⟩,fun h=>by simp at h⟩
   by_cases h0:l=[]
   ·subst h0
    have hr:=bb (P:=P) (ty:=ty) ht hi none ad 0 0 cap (zAc _) w;exact⟨_,_,hr,fin _ w [] (World.ownsRow_nil w 0 e' sz1) (by simp[az]) (Below.refl _ _) (fun g hg=>by cases hg)⟩
   ·rcases hrow with hrow|⟨b,off,xs,had,hrow,hcs,hcells⟩
    ·exact(h0 hrow).elim
    ·have hlen:=c7 hrow
     obtain⟨v',w',hr,g1,g2,g3,g4⟩:=dz (P:=P) (ty:=ty) (base:=0) ht hi hz hs hby hzs hn (World.ownsRow_nil w 0 e' sz1) ⟨b,off,none⟩ l.length cap xs hlen hcells hcs (qx h0)
      (by simpa using hbb) (by simp only[maxLen];omega) (zDb _)
     rw[had];refine⟨v',w',hr,fin v' w' xs (by simpa using g1) hrow (py g2 (fun g hg=>by simp[Value.ownBlock]at hg) (zAc _)) (fun g hg=>?_)⟩
     rcases g3 g hg with h|h
     ·cases h
     ·exact h
  ·exact hW.elim
 ·exact hW.elim
theorem PI(H:Rel N M0 B w0 κ M σ a w){ty t e:TypeId}{x y:Operand}{x' y':AO}{i:TypeInfo}{z:Value}{n by':Nat}(ht:P.underlying t=some (.slice e))(hi:P.info? e=some i)(hz:i.zero=some z)
 (hs:i.size=n) (hby:i.bytes=by') (hb0:0<by') (hzs:z.cells.size=n) (hn:0<n) (hx:cO P t x=some x') (hy:cO P t y=some y') {d:Option Nat} (hd:∀t,d=some t->t<N/\t ∉ B.ps) {Φ:Ctr} {K:St->Prop}
 (hW:af Φ d (.app x' y' e n by') K σ) {Nx:Act->World->Prop} (hK:∀κ' M' σ' a' w',K σ'->Rel N M0 B w0 κ' M' σ' a' w'->Nx a' w'):
 ∃c w1,(Builtin.append_ #[t,t] ty #[a.eval x,a.eval y]).run P w=.ok c w1/\Nx (a.put d c) w1:=by
 have hBw:B.n<=w.heap.size:=by rw[H.base];exact H.blw.size
 simp only[af]at hW;split at hW
 ·rename_i k j m i0 o0 v hu hv
  exact Mv H ht hi hz hs hby hb0 hzs hn hd (H.op hx hu) (H.op hy hv) hW hK
 ·rename_i s0 k j m i0 o0 hu hv
  exact Mw H ht hi hz hs hby hb0 hzs hn hd (H.op hx hu) (H.op hy hv) hW hK
 ·rename_i u v hn1 hn2 hu hv
  clear hn1 hn2;split at hW
  ·rename_i sz l hl
   obtain⟨rfl,hW⟩:=hW;have hrx:=H.op hx hu;obtain⟨ad,cap,hcy,hll,_,hrow⟩:=yd H (H.op hy hv) hl;split at hW
   ·
    rename_i sz0;obtain⟨hb,hW⟩:=hW;simp only[rep]at hrx;rw[hrx.1,hcy]
    have fin:∀(v':Value)(w':World)(xs:List Value),w'.ownsRow 0 e sz v' l.length xs->ap M sz l xs->Below w.heap.size w w'->(∀g,blk v'=some g->w.heap.size<=g)->Nx (a.put d v') w':=by
     intro v' w' xs g1 hrow hBl g3
     have ho:aE (upd κ σ.h.length v') M (XX (upd κ σ.h.length v') (σ.h++[some (Ob.arr e sz l)])) B w' σ.h.length (.arr e sz l):=by
      simp only[aE];exact⟨hn,hll,xs,by rw[cu];exact g1,hrow,fun g hg=>.inl (by rw[aJ]at hg;have:=g3 g hg;omega),fun g=>by rw[aJ,be]⟩
     have H':=H.newOb hBl g3 ho;refine hK _ _ _ _ _ hW (H'.put' hd ?_);simp only[rep,XX];refine⟨?_,by simp,fun e2 sz2 l2 h2=>?_,fun e2 sz2 l2 l3 h2=>by simp at h2,fun o2 h2 hn=>by simp at h2;subst h2;cases hn⟩
     ·rcases d5 g1 with⟨h,_⟩|⟨g,cap,h⟩<;>rw[h]<;>rfl
     ·simp at h2
      obtain⟨rfl,rfl,rfl⟩:=h2;exact⟨zAc _,fun _=>cu.symm⟩
    by_cases h0:l=[]
    ·subst h0
     have hr:=bb (P:=P) (ty:=ty) ht hi none ad 0 0 cap (zAc _) w;exact⟨_,_,hr,fin _ w [] (World.ownsRow_nil w 0 e sz) (by simp[ap]) (Below.refl _ _) (fun g hg=>by cases hg)⟩
    ·rcases hrow with hrow|⟨b,off,xs,had,hrow,hcells⟩
     ·exact(h0 hrow).elim
     ·have hlen:=bP hrow
      obtain⟨v',w',hr,g1,g2,g3,g4⟩:=dz (P:=P) (ty:=ty) (base:=0) ht hi hz hs hby hzs hn (World.ownsRow_nil w 0 e sz) ⟨b,off,none⟩ l.length cap xs hlen hcells (eu hrow) (qx h0)
       (by simpa using hb) (by simp only[maxLen];omega) (zDb _)
      rw[had];refine⟨v',w',hr,fin v' w' xs (by simpa using g1) hrow (py g2 (fun g hg=>by simp[Value.ownBlock]at hg) (zAc _)) (fun g hg=>?_)⟩
      rcases g3 g hg with h|h
      ·cases h
      ·exact h
   ·
    rename_i id m;split at hW
    ·rename_i e' sz' l0 hal
     obtain⟨rfl,rfl,rfl,hb,hW⟩:=hW;have ha:=dT hal;simp only at ha;simp only[rep,XX]at hrx;have hck:=(hrx.2.2.1 _ _ _ ha).2 rfl;rw[hck];exact Ny H ht hi hz hs hby hb0 hzs hn hd ha hcy hll hrow hb fun κ' M' a' w' h=>hK _ _ _ _ _ hW h
    ·exact hW.elim
   ·
    rename_i id j m;split at hW
    ·rename_i e1 e2 sz2 rows hal
     split at hW
     ·rename_i r hr
      obtain⟨rfl,rfl,rfl,hb,hW⟩:=hW;have ha:=eY hal;simp only at ha;simp only[rep,XX]at hrx;have hck:=((hrx.2.2 _ _ _ _ ha).1 _ hr).2 rfl;obtain⟨κ',H',hk'⟩:=H.detach ha hr;have hlen:(σ.h.set id (some (Ob.mat e1 e2 sz2 (rows.set j (.g r.length))))).length=σ.h.length:=by simp
      rw[hck,<-hk'];refine Ny H' ht hi hz hs hby hb0 hzs hn hd (id:=σ.h.length) (l0:=r) (by simp only;rw[<-hlen,zBc (zAc _)];simp) hcy hll hrow hb fun κ' M' a' w' h=>hK κ' M' _ a' w' hW ?_
      have e1:(σ.h.set id (some (Ob.mat e1 e2 sz2 (rows.set j (.g r.length))))++[some (Ob.arr e2 sz2 r)]).set σ.h.length (some (Ob.arr e2 sz2 (r++l)))=σ.h.set id (some (Ob.mat e1 e2 sz2 (rows.set j (.g r.length))))++[some (Ob.arr e2 sz2 (r++l))]:=by
       rw[<-hlen,List.set_append_right _ _ (zAc _)];simp
      simp only[e1]at h;exact h
     ·exact hW.elim
    ·exact hW.elim
   ·exact hW.elim
  ·exact hW.elim
 ·exact hW.elim
theorem Rp{h:List (Option Ob)}{v u:V}(hp:pur h v=some u)(hn:nt v=true):nt u=true:=by
 cases v<;>simp only[pur]at hp<;>first
  |(cases hp;done)
  |(cases hp;rfl)
  |(simp[nt]at hn;done)
  |(obtain⟨_,_,rfl⟩:=zBa.1 hp;rfl)
  |(unfold pur1 at hp;split at hp<;>(try split at hp)<;>first|(cases hp;rfl)|(cases hp;done)|(obtain⟨_,_,rfl⟩:=zBa.1 hp;rfl))
  |(unfold pur2 at hp;split at hp<;>(try split at hp)<;>(try split at hp)<;>first|(cases hp;rfl)|cases hp)
  |(split at hp<;>first|(cases hp;rfl)|cases hp)
theorem se{α:Type}(c d:List α)(p off s t:Nat)(h1:off+d.length<=s)(h2:p+s<=t)(h3:t<=c.length):
 (c.take (p+off)++d++c.drop (p+off+d.length)).take t=(c.take t).take p++(((c.drop p).take s).take off++d++((c.drop p).take s).drop (off+d.length))++(c.take t).drop (p+s):=by
 obtain⟨k,rfl⟩:∃k,t=p+(off+(d.length+k)):=⟨t-p-off-d.length,by omega⟩
 have e1:(c.take (p+(off+(d.length+k)))).take p=c.take p:=by rw[zGh,zBg (by omega)]
 have e2:((c.drop p).take s).take off=(c.drop p).take off:=by rw[zGh,zBg (by omega)]
 have e3:c.take (p+off)=c.take p++(c.drop p).take off:=by rw[List.take_add]
 have l1:(c.take p).length=p:=by simp;omega
 have l2:((c.drop p).take off).length=off:=by simp;omega
 rw[e1,e2,e3];simp only[List.append_assoc];rw[zDj,l1,zAg (l:=c.take p) (by rw[l1];omega),zFf]
 rw[zDj,l2,zAg (l:=(c.drop p).take off) (by rw[l2];omega),zFf]
 rw[zDj,zAg (l:=d) (by omega),zFf]
 congr 3;apply zDf;intro j;by_cases hj:j<s-(off+d.length)
 ·rw[zAh (by simp;omega),zBb,if_pos (by omega),zDg,zDg,zBb,if_pos (by omega),zDg]
  congr 1;omega
 ·rw[zBc (by simp;omega)]
  simp only[zBb,zDg,zCf,zAi];split
  ·rw[if_pos (by omega)];congr 1;omega
  ·rw[if_neg (by omega)]
theorem HH{α:Type}(c d:List α)(p t:Nat)(h2:p+d.length<=t)(h3:t<=c.length):
 (c.take p++d++c.drop (p+d.length)).take t=(c.take t).take p++d++(c.take t).drop (p+d.length):=by
 have h:=se c d p 0 d.length t (by omega) h2 h3
 simp only[zDi,zFc,List.take_zero,zFb]at h;rw[h];congr 2;simp
theorem sj{t:TypeId}{n:Nat}(hs:dM P t=some n){e sz len:Nat}{val:Value}{xs:List Value}(ho:w.ownsRow 0 e sz val len xs){b cap p:Nat}(g1:val=.slice (some ⟨b,0,none⟩) len cap){d:Value}(hd:d.cells.size=n)(h1:∀u∈d.cells.toList,am u)(hle:p+n<=len*sz):
 ∃row:Array Value,(Instr.storeAt t (.pointer (some ⟨b,p,none⟩)) d).run P w=.ok () (w.setRow b row)/\(w.setRow b row).ownsRow 0 e sz val len (xs.take p++d.cells.toList++xs.drop (p+n)):=by
 rcases ho.2 with⟨h,h0⟩|⟨g,cap',cur,h4,h5,h6,h7,h8,h9,h10⟩
 ·rw[h]at g1;cases g1
 ·rw[g1]at h4
  cases h4;have hcl:len*sz<=cur.size:=by rw[h9];exact zCe _ h7
  have hdl:d.cells.toList.length=n:=by simpa using hd
  refine⟨_,my hs (off:=p) h6 hd h1 (by omega),?_,.inr ⟨b,cap,_,g1,h5,setRow_heap w b cur _ e (0,0) h6,h7,h8,?_,?_⟩⟩
  ·have:=ho.1
   simp only[zAf,zAi,zCf,hdl];omega
  ·simp only[zDe,zAf,zAi,zCf,zAj];omega
  ·rw[<-h10,<-hdl]
   exact HH cur.toList d.cells.toList p (len*sz) (by omega) (by simpa using hcl)
theorem DE {Mx:Mem} {t:TypeId} {n:Nat} (hs:dM P t=some n) {e sz:Nat} {val:Value} {l:List V} {xs:List Value} (ho:w.ownsRow 0 e sz val l.length xs) (hrow:ap Mx sz l xs) {b cap i off:Nat} (g1:val=.slice (some ⟨b,0,none⟩) l.length cap) {d:Value} (hd:d.cells.size=n)
 (h1:∀ u∈d.cells.toList,am u) {vo v':V} (hvo:l[i]?=some vo) {us cs':List V} (hcs':iE (cl vo) off us=some cs') (hv':mkc (isS vo) cs'=some v') (hpu:ae Mx NX us d.cells.toList):
 ∃ row:Array Value,(Instr.storeAt t (.pointer (some ⟨b,i * sz + off,none⟩)) d).run P w=.ok () (w.setRow b row)∧∃ xs',(w.setRow b row).ownsRow 0 e sz val (l.set i v').length xs'∧ap Mx sz (l.set i v') xs':=by
 have hil:i < l.length:=(zAa.1 hvo).1
 obtain ⟨y,y1,y2,y3,y4⟩:=sg hrow hvo
 have hnto:∀ vs,vo≠.tup vs:=by
  rintro vs rfl
  simp only [rep] at y1
  obtain ⟨arr,rfl,_⟩:=y1
  have:=y3 (.tuple arr) (by simp [Value.cells])
  simp [am,Value.oneCell'] at this
 have yk:=aX y1 lh hnto
 have hsp:=jJ hcs' yk.1 hpu
 have hoff:off + n≤sz:=by have:=hsp.1; simp at this; omega
 have hcells:∀ u∈y.cells.toList.take off++d.cells.toList++y.cells.toList.drop (off + d.cells.toList.length),am u:=by
  intro u hu
  simp only [zCa] at hu
  rcases hu with (hu | hu) | hu
  · exact y3 u (zEi hu)
  · exact h1 u hu
  · exact y3 u (zEj hu)
 have hclen:(y.cells.toList.take off++d.cells.toList++y.cells.toList.drop (off + d.cells.toList.length)).length=sz:=by
  simp only [zAf,zAi,zCf,zAj]; omega
 obtain ⟨y',y1',y2',_⟩:∃ y':Value,rep Mx NX v' y'∧y'.cells.toList=y.cells.toList.take off++d.cells.toList++y.cells.toList.drop (off + d.cells.toList.length)∧True:=by
  rcases qu hv' hsp.2 hcells with ⟨_,h⟩ | ⟨_,c',h,h'⟩
  · exact ⟨_,h,by simp [Value.cells],trivial⟩
  · refine ⟨c',h',?_,trivial⟩
    rw [h]
    have:=bU (hcells c' (by rw [h]; simp))
    rw [this]
 have hys:y'.cells.size=sz:=by rw [←zAj,y2',hclen]
 have hle:(i + 1) * sz≤l.length * sz:=zCe _ (by omega)
 simp only [zCj,zFj] at hle
 obtain ⟨row,r1,r2⟩:=sj hs ho g1 (p:=i * sz + off) hd h1 (by omega)
 refine ⟨row,r1,_,?_,yQ hrow hil y1' hys (by rw [y2']; exact hcells)⟩
 have hdl:d.cells.toList.length=n:=by simpa using hd
 have hxl:=bP hrow
 have hy4:y.cells.toList=(xs.drop (i * sz)).take sz:=by
  apply zDf
  intro j
  by_cases hj:j < sz
  · have:=y4 j hj
    rw [zBb,if_pos hj,zDg,this]
    simp
  · rw [zBf (by simp; omega),zBf (by simp; omega)]
 have hsm:=se xs d.cells.toList (i * sz) off sz xs.length (by omega) (by omega) (zAc _)
 rw [zAg (l:=xs) (zAc _)] at hsm
 rw [zEf,y2',hy4,←hsm,hdl]
 rw [zAg (by simp only [zAf,zAi,zCf,hdl]; omega)]
 exact r2
theorem KQ {Mx:Mem} {X:V→Value→Prop} (hXc:∀ v c,X v c→am c) {t:TypeId} {n:Nat} (hs:dM P t=some n) {e sz:Nat} {val:Value} {l:List V} {xs:List Value} (ho:w.ownsRow 0 e sz val l.length xs) (hrow:az Mx X sz l xs) {b cap i off:Nat} (g1:val=.slice (some ⟨b,0,none⟩) l.length cap) {d:Value} (hd:d.cells.size=n)
 (h1:∀ u∈d.cells.toList,am u) {vo v':V} (hvo:l[i]?=some vo) {us cs':List V} (hcs':iE (cl vo) off us=some cs') (hv':mkc (isS vo) cs'=some v') (hpu:ae Mx X us d.cells.toList):
 ∃ row:Array Value,(Instr.storeAt t (.pointer (some ⟨b,i * sz + off,none⟩)) d).run P w=.ok () (w.setRow b row)∧∃ xs',(w.setRow b row).ownsRow 0 e sz val (l.set i v').length xs'∧az Mx X sz (l.set i v') xs':=by
 have hil:i < l.length:=(zAa.1 hvo).1
 obtain ⟨y,y1,y2,y3,y4⟩:=oA hrow hvo
 have hnto:∀ vs,vo≠.tup vs:=by
  rintro vs rfl
  simp only [rep] at y1
  obtain ⟨arr,rfl,_⟩:=y1
  have:=y3 (.tuple arr) (by simp [Value.cells])
  simp [am,Value.oneCell'] at this
 have yk:=aX y1 hXc hnto
 have hsp:=jJ hcs' yk.1 hpu
 have hoff:off + n≤sz:=by have:=hsp.1; simp at this; omega
 have hcells:∀ u∈y.cells.toList.take off++d.cells.toList++y.cells.toList.drop (off + d.cells.toList.length),am u:=by
  intro u hu
  simp only [zCa] at hu
  rcases hu with (hu | hu) | hu
  · exact y3 u (zEi hu)
  · exact h1 u hu
  · exact y3 u (zEj hu)
 have hclen:(y.cells.toList.take off++d.cells.toList++y.cells.toList.drop (off + d.cells.toList.length)).length=sz:=by
  simp only [zAf,zAi,zCf,zAj]; omega
 obtain ⟨y',y1',y2',_⟩:∃ y':Value,rep Mx X v' y'∧y'.cells.toList=y.cells.toList.take off++d.cells.toList++y.cells.toList.drop (off + d.cells.toList.length)∧True:=by
  rcases qu hv' hsp.2 hcells with ⟨_,h⟩ | ⟨_,c',h,h'⟩
  · exact ⟨_,h,by simp [Value.cells],trivial⟩
  · refine ⟨c',h',?_,trivial⟩
    rw [h]
    have:=bU (hcells c' (by rw [h]; simp))
    rw [this]
 have hys:y'.cells.size=sz:=by rw [←zAj,y2',hclen]
 have hle:(i + 1) * sz≤l.length * sz:=zCe _ (by omega)
 simp only [zCj,zFj] at hle
 obtain ⟨row,r1,r2⟩:=sj hs ho g1 (p:=i * sz + off) hd h1 (by omega)
 refine ⟨row,r1,_,?_,wC hrow hil y1' hys (by rw [y2']; exact hcells)⟩
 have hdl:d.cells.toList.length=n:=by simpa using hd
 have hxl:=c7 hrow
 have hy4:y.cells.toList=(xs.drop (i * sz)).take sz:=by
  apply zDf
  intro j
  by_cases hj:j < sz
  · have:=y4 j hj
    rw [zBb,if_pos hj,zDg,this]
    simp
  · rw [zBf (by simp; omega),zBf (by simp; omega)]
 have hsm:=se xs d.cells.toList (i * sz) off sz xs.length (by omega) (by omega) (zAc _)
 rw [zAg (l:=xs) (zAc _)] at hsm
 rw [zEf,y2',hy4,←hsm,hdl]
 rw [zAg (by simp only [zAf,zAi,zCf,hdl]; omega)]
 exact r2
theorem KE(H:Rel N M0 B w0 κ M σ a w){t:TypeId}{n:Nat}(hs:dM P t=some n){p v:V}{c d:Value}(hp:rep M (XX κ σ.h) p c)(hv:rep M (XX κ σ.h) v d)(hnt:nt v=true){σ':St}(hst:σ.stor n p (cl v)=some σ'):
 ∃w',(Instr.storeAt t c d).run P w=.ok () w'/\∃κ' M',Rel N M0 B w0 κ' M' σ' a w':=by
 have hk:=aX hv gU (eA hnt);have hlen:=aC hk.1;cases p<;>simp only[St.stor]at hst<;>try (cases hst;done)
 case ptr id off=>
  split at hst
  ·rename_i cs hcs
   split at hst
   ·rename_i hn
    split at hst
    ·rename_i cs' hcs'
     cases hst;have hb:=gS hcs;obtain⟨b,arr,T,h1,h2,h3,h4,h5,hbl⟩:=H.heap id _ hb;simp only[rep,XX]at hp;obtain⟨b',g1,g2⟩:=hp.2.2 cs hb;rw[h1]at g1;cases g1;subst g2;have hsp:=jJ hcs' h4 hk.1;have hd:d.cells.size=n:=by simp at hlen;omega
     refine⟨_,my hs h3 hd hk.2 (by have:=hsp.1;simp at this;omega),upd κ id (κ id),M,?_⟩
     have hX:∀u c,XX κ σ.h u c->XX (upd κ id (κ id)) (σ.h.set id (some (Ob.box cs'))) u c:=fun u c hx=>gG hb hx (fun _ _=>⟨⟨cs,rfl⟩,rfl⟩) (fun _ _ _ h=>by cases h) (fun _ _ _ _ h=>by cases h)
     refine H.setOb hb (b5 h2 _ fun cur T z hc=>by rw[h3]at hc;cases hc;have:=hsp.1;simp at this⊢;omega) (fun k _ hne=>setRow_other w b k _ (fun e=>hne ((hbl k).2 e))) (fun g hg=>.inl ((hbl g).2 (by rw[h1]at hg;cases hg;rfl))) hX ?_
     simp only[aE];refine⟨b,_,T,by rw[cu,h1],h2,setRow_heap w b arr _ T (0,0) h3,aD (fun _ _ h=>h) hX _ _ (by simpa using hsp.2),?_,fun g=>by rw[aJ,h1];simp only[blk,zAb];exact eq_comm⟩
     intro u hu;simp only[zCa]at hu;rcases hu with(hu|hu)|hu
     ·exact h5 u (zEi hu)
     ·exact hk.2 u hu
     ·exact h5 u (zEj hu)
    ·cases hst
   ·cases hst
  ·cases hst
 case eptr id m i off=>
  split at hst
  ·rename_i us' hus'
   split at hst
   ·rename_i e sz l hal
    split at hst
    ·rename_i hn
     split at hst
     ·rename_i vo hvo
      split at hst
      ·rename_i cs' hcs'
       split at hst
       ·rename_i v' hv'
        cases hst;obtain⟨H1,hM1⟩:=H.kill (ak (cl v)) (dr hus');have ha:=dT hal;simp only at ha;obtain⟨k1,k2,k3⟩:=oW (ak (cl v)) σ;have ha0:=(k3 id _ ha).1;have hil:i<l.length:=(zAa.1 hvo).1;simp only[rep,XX]at hp;obtain⟨b,cap,g1,g2⟩:=(hp.2.2.1 e sz l ha0).2 hn.2 (by omega)
        subst g2
        have hpu:ae (ext M w (gp κ (ak (cl v)))) NX us' d.cells.toList:=by
         refine bo H hM1 (fun id hid g hg p hpb=>?_) hk.1 hus';unfold ext;rw[if_pos (cf.2 ⟨id,hid,by rw[hpb];exact hg⟩)]
        obtain⟨hsz,hll,xs,ho,hrow,hown,hbl⟩:=H1.heap id _ ha;have hd:d.cells.size=n:=by simp at hlen;omega
        rw[hn.2]at g1;obtain⟨row,r1,xs',r2,r3⟩:=DE hs ho hrow g1 hd hk.2 hvo hcs' hv' hpu;have hb:κ.bl id b:=(hbl b).2 (by rw[g1];rfl)
        refine⟨_,r1,upd κ id (κ id),ext M w (gp κ (ak (cl v))),?_⟩
        have hX:∀u c,XX κ (σ.kill (ak (cl v))).h u c->XX (upd κ id (κ id)) ((σ.kill (ak (cl v))).h.set id (some (Ob.arr e sz (l.set i v')))) u c:=fun u c hx=>gG ha hx (fun _ h=>by cases h) (fun e2 sz2 l2 h=>by
         cases h;exact⟨e,l,rfl,by simp,fun _=>rfl⟩) (fun _ _ _ _ h=>by cases h)
        refine H1.setOb ha (b5 (hown b hb) _ (kD ho r2 (by rw[g1];rfl))) (fun k _ hne=>setRow_other w b k _ (fun e=>hne (e ▸ hb))) (fun g hg=>.inl ((hbl g).2 hg)) hX ?_
        simp only[aE];rw[be,aJ];exact⟨hsz,by simpa using hll,xs',r2,r3,fun g hg=>hown g ((hbl g).2 hg),fun g=>zFe⟩
       ·cases hst
      ·cases hst
     ·cases hst
    ·cases hst
   ·unfold St.storM at hst
    split at hst
    ·rename_i id2 n2 hcl
     split at hst
     ·rename_i e e2 sz rows e2' sz' l hrm har
      split at hst
      ·rename_i kl hri
       split at hst
       ·rename_i hc
        cases hst;obtain⟨rfl,rfl,rfl,rfl,rfl,rfl,hlt⟩:=hc;have hm:=eY hrm;have ha:=dT har;simp only at hm ha;have hne:id2≠id:=by rintro rfl;rw[hm]at ha;cases ha
        have hm':(σ.h.set id2 none)[id]?=some (some (.mat e e2' sz' rows)):=by rw[zAd,if_neg hne];exact hm
        have H0:=H.drop id2;obtain⟨h0,h1,⟨xs,h2,h3,h4⟩,h5,h6,h7,hown,hbl⟩:=H.heap id _ hm;obtain⟨a0,a1,ys,a2,a3,aown,abl⟩:=H.heap id2 _ ha;simp only[rep,XX]at hp;have hil:=Of hri;obtain⟨b,cap,g1,g2⟩:=(hp.2.2.2 _ _ _ _ hm).2 rfl hil;subst g2
        -- the value that is stored
        rw[hcl]at hk hlen
        have hdc:d.cells.toList=[κ id2]:=by
         have h:=hk.1;simp only[ae,rep,XX]at h;obtain⟨c,cs',k1,k2,k3⟩:=h;rw[k1,k3,(k2.2.2.1 _ _ _ ha).2 rfl]
        have hd:d.cells.size=1:=by rw[<-zAj,hdc];rfl
        have hle:i*1+1<=rows.length*1:=by omega
        obtain⟨row,r1,r2⟩:=sj hs h2 g1 (p:=i+0) hd hk.2 (by omega)
        have hb:blk (κ id)=some b:=by rw[g1];rfl
        have hbB:κ.bl id b:=(hbl b).2 (.inl hb);have hoth:∀k,k≠b->(w.setRow b row).heap[k]?=w.heap[k]?:=fun k hk=>setRow_other w b k _ hk;have kid2:∀g,blk (κ id2)=some g->¬κ.bl id g:=fun g hg hg'=>hne (H.inj id2 id _ _ g ha hm ((abl g).2 hg) hg')
        let kr:Nat->Value:=fun j=>if j=i then κ id2 else κ.row id j
        have kri:kr i=κ id2:=by simp[kr]
        have krn:∀{j},j≠i->kr j=κ.row id j:=fun h=>by simp[kr,h]
        let kb:Nat->Prop:=fun g=>blk (κ id)=some g\/∃j s,aT (rows.set i (.a l)) j=some s/\blk (kr j)=some g
        have rs:∀{j:Nat}{s:List V},aT (rows.set i (.a l)) j=some s->(j=i/\s=l/\kr j=κ id2)\/(j≠i/\aT rows j=some s/\kr j=κ.row id j):=by
         intro j s hs;rcases qq hs with⟨h,_,h'⟩|⟨h,h'⟩
         ·cases h';exact .inl ⟨h,rfl,by rw[h,kri]⟩
         ·exact .inr ⟨h,h',krn h⟩
        have kbs:∀{g},kb g->κ.bl id g\/blk (κ id2)=some g:=by
         rintro g (h|⟨j,s,hj,h⟩)
         ·exact .inl ((hbl g).2 (.inl h))
         ·rcases rs hj with⟨_,_,e⟩|⟨_,h',e⟩
          ·exact .inr (by rw[<-e];exact h)
          ·exact .inl ((hbl g).2 (.inr ⟨j,s,h',by rw[<-e];exact h⟩))
        have hrl:∀(j:Nat)(s:List V),aT rows j=some s->∀g,blk (κ.row id j)=some g->g≠b:=fun j s hj g hg e=>h7 j s g hj hg (by rw[e];exact hb)
        have hX:∀u c,XX κ (σ.h.set id2 none) u c->XX (bW κ id (κ id) kr kb) ((σ.h.set id2 none).set id (some (Ob.mat e e2' sz' (rows.set i (.a l))))) u c:=fun u c hx=>gG hm' hx (fun _ h=>by cases h) (fun _ _ _ h=>by cases h) (fun e' e2'' sz'' rows' h=>by
         cases h;refine⟨e,e2',rows,rfl,by simp,rfl,fun j s hs=>?_,fun j k hk=>?_⟩
         ·rcases rs hs with⟨rfl,rfl,_⟩|⟨_,h',e⟩
          ·rcases DG hri with⟨r,hr1,hr2⟩|hr1
           ·exact .inl ⟨r,hr1,by omega,fun h=>by omega⟩
           ·exact .inr ⟨kl,hr1,hlt⟩
          ·exact .inl ⟨s,h',zAc _,fun _=>e⟩
         ·rw[zAd]at hk
          split at hk
          ·first|(cases hk;done)|(split at hk<;>cases hk)
          ·exact .inr ⟨k,hk,zAc _⟩)
        refine⟨_,r1,bW κ id (κ id) kr kb,M,?_⟩;refine H0.setOb' hm' (b5 (hown b hbB) _ (kD h2 r2 hb)) (fun k _ hne=>hoth k (fun e=>hne (e ▸ hbB))) (fun g hg j oj hj hj'=>?_) (fun p v hp hg=>?_) hX ?_
        ·simp only at hj
         rw[zAd]at hj;split at hj
         ·split at hj<;>cases hj
         ·rename_i hne2
          rcases kbs hg with h|h
          ·exact H.inj id j _ oj g hm hj h hj'
          ·exact(hne2 (H.inj id2 j _ oj g ha hj ((abl g).2 h) hj')).elim
        ·rcases kbs hg with h|h
         ·exact H.sep p v hp id _ hm h
         ·exact H.sep p v hp id2 _ ha ((abl _).2 h)
        ·simp only[aE]
         rw[be,dV,aJ];have hxl:i<xs.length:=by have:=h2.1;omega
         have hxs:xs.take (i+0)++d.cells.toList++xs.drop (i+0+1)=xs.set i (κ id2):=by
          rw[hdc,zGa,if_pos hxl];simp
         rw[hxs]at r2;refine⟨h0,by simpa using h1,⟨xs.set i (κ id2),by simpa using r2,?_,?_⟩,?_,?_,?_,?_,fun g=>zFe⟩
         ·intro u hu
          rcases List.mem_or_eq_of_mem_set hu with hu|hu
          ·exact h3 u hu
          ·rw[hu];exact hk.2 _ (by rw[hdc];simp)
         ·intro j s hs
          rw[zAd];rcases rs hs with⟨rfl,_,e⟩|⟨hji,h',e⟩
          ·simp[hxl,e]
          ·rw[if_neg (fun h=>hji h.symm),e];exact h4 j s h'
         ·intro j s hs
          rcases rs hs with⟨rfl,rfl,e⟩|⟨_,h',e⟩
          ·rw[e]
           exact⟨a1,ys,cA a2 (fun g hg=>hoth g (fun h=>kid2 g hg (h ▸ hbB))),a3⟩
          ·rw[e]
           obtain⟨q1,zs,q2,q3⟩:=h5 j s h';exact⟨q1,zs,cA q2 (fun g hg=>hoth g (hrl j s h' g hg)),q3⟩
         ·intro j k s s' g hs hs' hg hg'
          rcases rs hs with⟨rfl,_,e⟩|⟨hj,h',e⟩<;>rcases rs hs' with⟨rfl,_,e'⟩|⟨hj',h'',e'⟩
          ·rfl
          ·rw[e]at hg;rw[e']at hg'
           exact(kid2 g hg ((hbl g).2 (.inr ⟨k,s',h'',hg'⟩))).elim
          ·rw[e]at hg;rw[e']at hg'
           exact(kid2 g hg' ((hbl g).2 (.inr ⟨j,s,h',hg⟩))).elim
          ·rw[e]at hg;rw[e']at hg'
           exact h6 j k s s' g h' h'' hg hg'
         ·intro j s g hs hg hg'
          rcases rs hs with⟨rfl,_,e⟩|⟨hj,h',e⟩
          ·rw[e]at hg
           exact kid2 g hg ((hbl g).2 (.inl hg'))
          ·rw[e]at hg
           exact h7 j s g h' hg hg'
         ·intro g hg
          rcases kbs hg with h|h
          ·exact hown g h
          ·exact aown g ((abl g).2 h)
       ·cases hst
      ·cases hst
     ·cases hst
    ·cases hst
  ·cases hst
 case mptr id i m k off=>
  split at hst
  ·rename_i us' hus'
   split at hst
   ·rename_i e e2 sz rows hal
    split at hst
    ·rename_i r hri
     split at hst
     ·rename_i hn
      split at hst
      ·rename_i vo hvo
       split at hst
       ·rename_i cs' hcs'
        split at hst
        ·rename_i v' hv'
         cases hst;obtain⟨H1,hM1⟩:=H.kill (ak (cl v)) (dr hus');have ha:=eY hal;simp only at ha;obtain⟨k1,k2,k3⟩:=oW (ak (cl v)) σ;have ha0:=(k3 id _ ha).1;have hil:k<r.length:=(zAa.1 hvo).1;simp only[rep,XX]at hp;obtain⟨b,cap,g1,g2⟩:=((hp.2.2 _ _ _ _ ha0).1 r hri).2 hn.2 (by omega)
         subst g2
         have hpu:ae (ext M w (gp κ (ak (cl v)))) NX us' d.cells.toList:=by
          refine bo H hM1 (fun id hid g hg p hpb=>?_) hk.1 hus';unfold ext;rw[if_pos (cf.2 ⟨id,hid,by rw[hpb];exact hg⟩)]
         obtain⟨h0,h1,⟨xs,h2,h3,h4⟩,h5,h6,h7,hown,hbl⟩:=H1.heap id _ ha;obtain⟨q1,ys,q2,q3⟩:=h5 i r hri;have hd:d.cells.size=n:=by simp at hlen;omega
         rw[hn.2]at g1;obtain⟨row,r1,xs',r2,r3⟩:=DE hs q2 q3 g1 hd hk.2 hvo hcs' hv' hpu;have hbi:blk (κ.row id i)=some b:=by rw[g1];rfl
         have hb:κ.bl id b:=(hbl b).2 (.inr ⟨i,r,hri,hbi⟩);have hoth:∀k,k≠b->(w.setRow b row).heap[k]?=w.heap[k]?:=fun k hk=>setRow_other w b k _ hk;have hir:=ox hri
         have rs:∀{j:Nat}{s:List V},aT (rows.set i (.a (r.set k v'))) j=some s->(j=i/\s=r.set k v')\/(j≠i/\aT rows j=some s):=by
          intro j s hs;rcases qq hs with⟨h,_,h'⟩|h
          ·cases h';exact .inl ⟨h,rfl⟩
          ·exact .inr h
         have rr:∀{j:Nat}{s:List V},aT (rows.set i (.a (r.set k v'))) j=some s->∃s',aT rows j=some s'/\s'.length=s.length:=by
          intro j s hs;rcases rs hs with⟨rfl,rfl⟩|⟨_,h⟩
          ·exact⟨r,hri,by simp⟩
          ·exact⟨s,h,rfl⟩
         have hX:∀u c,XX κ (σ.kill (ak (cl v))).h u c->XX (bW κ id (κ id) (κ.row id) (κ.bl id)) ((σ.kill (ak (cl v))).h.set id (some (Ob.mat e e2 sz (rows.set i (.a (r.set k v')))))) u c:=fun u c hx=>gG ha hx (fun _ h=>by cases h) (fun _ _ _ h=>by cases h) (fun e' e2'' sz'' rows' h=>by
          cases h;refine⟨e,e2,rows,rfl,by simp,rfl,fun j s hs=>?_,fun j q hk=>?_⟩
          ·obtain⟨s',h',hl⟩:=rr hs
           exact .inl ⟨s',h',by omega,fun _=>rfl⟩
          ·rw[zAd]at hk
           split at hk
           ·first|(cases hk;done)|(split at hk<;>cases hk)
           ·exact .inr ⟨q,hk,zAc _⟩)
         refine⟨_,r1,bW κ id (κ id) (κ.row id) (κ.bl id),ext M w (gp κ (ak (cl v))),?_⟩;refine H1.setOb ha (b5 (hown b hb) _ (kD q2 r2 hbi)) (fun k _ hne=>hoth k (fun e=>hne (e ▸ hb))) (fun g hg=>.inl hg) hX ?_;simp only[aE];rw[be,dV,aJ];refine⟨h0,by simpa using h1,⟨xs,?_,h3,fun j s hs=>by obtain⟨s',h',_⟩:=rr hs;exact h4 j s' h'⟩,?_,?_,?_,hown,fun g=>(hbl g).trans ?_⟩
         ·rw[zEf]
          exact cA h2 fun g hg=>hoth g (fun e=>h7 i r b hri hbi (by rw[<-e];exact hg))
         ·intro j s hs
          rcases rs hs with⟨rfl,rfl⟩|⟨hji,h⟩
          ·exact⟨by simpa using q1,xs',r2,r3⟩
          ·obtain⟨q4,zs,q5,q6⟩:=h5 j s h
           exact⟨q4,zs,cA q5 (fun g hg=>hoth g (fun e=>hji (h6 j i s r g h hri hg (by rw[e];exact hbi)))),q6⟩
         ·intro j k s s' g hs hs' hg hg'
          obtain⟨s1,h1',_⟩:=rr hs;obtain⟨s2,h2',_⟩:=rr hs';exact h6 j k s1 s2 g h1' h2' hg hg'
         ·intro j s g hs
          obtain⟨s1,h1',_⟩:=rr hs;exact h7 j s1 g h1'
         ·refine or_congr zFe ⟨?_,?_⟩
          ·rintro⟨j,s,hj,hg⟩
           by_cases hji:j=i
           ·subst hji
            exact⟨j,r.set k v',by unfold aT;simp[hir.2],hg⟩
           ·exact⟨j,s,by unfold aT at hj⊢;rw[zAd,if_neg (fun e=>hji e.symm)];exact hj,hg⟩
          ·rintro⟨j,s,hj,hg⟩
           obtain⟨s',h',_⟩:=rr hj;exact⟨j,s',h',hg⟩
        ·cases hst
       ·cases hst
      ·cases hst
     ·cases hst
    ·cases hst
   ·cases hst
  ·cases hst
 case q k jj m i off=>
  split at hst
  ·rename_i ms us' hms hus'
   have hb:=bJ hms;have hlow:ae M (PX (XX κ σ.h)) us' d.cells.toList:=dZ (vh (κ:=κ) (h:=σ.h)) H.sub.fmS _ _ _ hus' hk.1;have hd:d.cells.size=(cl v).length:=by simp at hlen;omega
   simp only[rep,XX]at hp;have hq:=hp.2.2 ms hb;obtain⟨_,hpo,hdis,hown,hbl,_⟩:=H.heap 0 _ hb;split at hst
   ·rename_i e0 cs hj
    split at hst
    ·rename_i hc
     split at hst
     ·rename_i cs' hcs'
      cases hst;obtain⟨b,arr,T,h1,h3,h4,h5,hT⟩:=hpo jj _ hj;simp only[qAt,hj]at hq;obtain⟨b',g1,g2⟩:=hq hc.1;rw[h1]at g1;cases g1;subst g2;have hsp:=jJ hcs' h4 hlow;have hlt:jj<ms.length:=(zAa.1 hj).1;have hget:(ms.set jj (.bx e0 cs'))[jj]?=some (.bx e0 cs'):=by simp[hlt]
      have hbb:κ.bl 0 b:=(hbl b).2 ⟨jj,_,hj,rfl,by rw[h1];rfl⟩
      obtain⟨κ',e1,H',_⟩:=H.setMem (m':=.bx e0 cs') hb hj rfl (kv:=κ.row 0 jj) (b5 (cs:=(arr.toList.take off++d.cells.toList++arr.toList.drop (off+d.cells.toList.length)).toArray) (hown b hbb) fun cur T z hc=>by rw[h3]at hc;cases hc;have:=hsp.1;simp at this⊢;omega) (fun k _ hne=>setRow_other w b k _ (fun e=>hne (by rw[h1,e];rfl))) (fun g hg=>.inl hg) (fun κ' er k n i off c hq=>by
       simp only[qAt,hj]at hq;simp only[qAt,hget,er];exact hq) (fun κ' X er hX=>by
       simp only[fc];refine⟨b,_,T,by rw[er,h1],setRow_heap w b arr _ T (0,0) h3,aD (fun _ _ h=>h) hX _ _ (by simpa using hsp.2),fun u hu=>?_,hT⟩
       simp only[zCa]at hu;rcases hu with(hu|hu)|hu
       ·exact h5 u (zEi hu)
       ·exact hk.2 u hu
       ·exact h5 u (zEj hu))
      exact⟨_,my hs h3 (by omega) hk.2 (by have:=hsp.1;simp at this;omega),κ',M,H'⟩
     ·cases hst
    ·cases hst
   ·rename_i e sz l hj
    split at hst
    ·rename_i hc
     obtain⟨hk2,hun,hml⟩:=hc;split at hst
     ·rename_i vo hvo
      split at hst
      ·rename_i cs' hcs'
       split at hst
       ·rename_i v' hv'
        cases hst;obtain⟨h0,hll,xs,ho,hrow⟩:=hpo jj _ hj;have hil:i<l.length:=(zAa.1 hvo).1;simp only[qAt,hj]at hq;obtain⟨b,cap,g1,g2⟩:=(hq.2 hk2).2 hml (by omega)
        subst g2;rw[hml]at g1;obtain⟨row,r1,xs',r2,r3⟩:=KQ (yr gU) hs ho hrow g1 (by omega) hk.2 hvo hcs' hv' hlow
        have hbb:κ.bl 0 b:=(hbl b).2 ⟨jj,_,hj,rfl,by rw[g1];rfl⟩
        have hlt:jj<ms.length:=(zAa.1 hj).1;have hget:(ms.set jj (.rw e sz (l.set i v')))[jj]?=some (.rw e sz (l.set i v')):=by simp[hlt]
        obtain⟨κ',e1,H',_⟩:=H.setMem (m':=.rw e sz (l.set i v')) hb hj rfl (kv:=κ.row 0 jj) (b5 (hown b hbb) row (kD ho r2 (by rw[g1];rfl))) (fun k _ hne=>setRow_other w b k _ (fun e=>hne (by rw[g1,e];rfl))) (fun g hg=>.inl hg) (fun κ' er k n i off c hq=>by
         simp only[qAt,hj]at hq;simp only[qAt,hget,er,zEf];exact hq) (fun κ' X er hX=>by
         simp only[fc];exact⟨h0,by simpa using hll,xs',by rw[er];exact r2,cz (fun _ _ h=>h) hX r3⟩)
        exact⟨_,r1,κ',M,H'⟩
       ·cases hst
      ·cases hst
     ·cases hst
    ·cases hst
   ·rename_i e0 l hj
    split at hst
    ·rename_i hc
     obtain⟨hk2,hun,hml,hoff,him⟩:=hc;split at hst
     ·rename_i x
      cases hst;obtain⟨hll,hcase⟩:=hpo jj _ hj;simp only[qAt,hj]at hq;obtain⟨b,cap,g1,g2⟩:=(hq.2 hk2).2 hml him;subst g2;rcases hcase with⟨h0,_⟩|⟨hne,g,cap',cur,T,fz,h1,h2,h3,h4,h5,h6,h7,h8⟩
      ·subst h0;simp at hml;omega
      ·rw[h1]at g1
       simp only[Value.slice.injEq,zAb,Addr.mk.injEq,and_true]at g1;obtain⟨rfl,_,_⟩:=g1;simp only[ae]at hlow;obtain⟨y,ys,e1,hy,e2⟩:=hlow;subst e2;simp only[rep]at hy;obtain⟨rfl,hx1,hx2⟩:=hy;have hmin:IntKind.u8.min=0:=by decide
       have hmax:IntKind.u8.max=255:=by decide
       rw[hmin]at hx1;rw[hmax]at hx2;have hbb:κ.bl 0 g:=(hbl g).2 ⟨jj,_,hj,rfl,by rw[h1];rfl⟩
       have hlt:jj<ms.length:=(zAa.1 hj).1
       have hxb:(((zGj x.toNat).toNat:Nat):Int)=x:=by
        have hn:x.toNat<256:=by omega
        simp[zHa,zGc hn];omega
       have hget:(ms.set jj (.byt e0 (l.set i (zGj x.toNat))))[jj]?=some (.byt e0 (l.set i (zGj x.toNat))):=by simp[hlt]
       have hcs:d.cells=#[Value.int .u8 x]:=by apply zJg;simpa using e1
       have hst2:=gI (P:=P) g (i+off) T fz d.cells.toList 0 cur w h2 (fun q _ hq=>h4 q hq) (by simp[hcs];omega) (fun v hv=>by rw[hcs]at hv;simp at hv;subst hv;rfl)
       simp only[zDi]at hst2;generalize hrow:(cur.toList.take (i+off)++d.cells.toList++cur.toList.drop (i+off+d.cells.toList.length)).toArray=row at hst2
       have hrs:row.size=cur.size:=by
        rw[<-hrow];simp[hcs];omega
       have hrun:(Instr.storeAt t (.pointer (some ⟨g,i+off,none⟩)) d).run P w=.ok () (w.setRow g row):=by
        simp[Instr.storeAt,Instr.sureAddr,storeVar,aM hs,hst2];have:d.cells.size=n:=by omega
        simp[this]
       obtain⟨κ',e3,H',_⟩:=H.setMem (m':=.byt e0 (l.set i (zGj x.toNat))) hb hj rfl (kv:=κ.row 0 jj) (b5 (cs:=row) (hown g hbb) fun cur1 T1 z hc=>by rw[h2]at hc;cases hc;exact hrs) (fun k _ hne=>setRow_other w g k _ (fun e=>hne (by rw[h1,e];rfl))) (fun g hg=>.inl hg) (fun κ' er k n i off c hq=>by
        simp only[qAt,hj]at hq;simp only[qAt,hget,er,zEf];exact hq) (fun κ' X er hX=>by
        simp only[fc,zEf];refine⟨hll,.inr ⟨by simpa using hne,g,cap',row,T,fz,by rw[er,h1],setRow_heap w g cur _ T fz h2,h3,fun o ho=>h4 o (by omega),h5,h6,by omega,?_⟩⟩
        apply zDf;intro q;rw[zBb,<-hrow];split
        ·rename_i hql
         have h9:(cur.toList.take l.length)[q]?=(l.map fun b=>Value.int .u8 b.toNat)[q]?:=by rw[h8]
         rw[zBb,if_pos hql]at h9;simp only[hcs,List.getElem?_map,zAd]at h9⊢;subst hoff;have hic:i<cur.toList.length:=by simp;omega
         have e5:(cur.toList.take (i+0)++[Value.int .u8 x]++cur.toList.drop (i+0+1))=cur.toList.set i (Value.int .u8 x):=by
          rw[zGa,if_pos hic];simp
         simp only[zJe,zGe,zFc];rw[e5,zAd];by_cases hqi:i=q
         ·subst hqi
          rw[if_pos rfl,if_pos hic,if_pos rfl,if_pos hql];simp only[zEe,hxb]
         ·rw[if_neg hqi,if_neg hqi,h9]
        ·rename_i hql
         rw[zBf];simp;omega)
       exact⟨_,hrun,κ',M,H'⟩
     ·cases hst
    ·cases hst
   ·cases hst
  ·cases hst
theorem we(l:List UInt8):eU l=l.map fun b=>.int .u8 b.toNat:=by
 induction l with
 |nil=>rfl
 |cons b l ih=>simp[eU,ih]
theorem SN{M:Mem}{X:V->Value->Prop}(b:UInt8):rep M X (.int .u8 b.toNat) (.int .u8 b.toNat):=by
 simp only[rep];have:=b.toNat_lt;exact⟨trivial,by simp[IntKind.min,IntKind.signed],by simp[IntKind.max,IntKind.signed,IntKind.bits];omega⟩
theorem wd{M:Mem}{g:Nat}:∀(l:List UInt8)(off:Nat),(∀j b,l[j]?=some b->M ⟨g,off+j,none⟩=some (.int .u8 b.toNat))->bB M 1 (eU l) g off
 |[],_,_=>by simp[eU,bB]
 |b::l,off,h=>by
   simp only[eU,bB];refine⟨⟨.int .u8 b.toNat,SN b,rfl,by simp[Value.cells,am,Value.oneCell'],fun j hj=>?_⟩,wd l (off+1) fun j c hc=>?_⟩
   ·obtain rfl:j=0:=by omega
    simpa[Value.cells]using h 0 b (by simp)
   ·have:=h (j+1) c (by simpa using hc)
    rw[<-this];congr 2;omega
theorem N9(H:Rel N M0 B w0 κ M σ a w)(bs:ByteArray)(hlen:bs.data.toList.length<=140737488355328){s d e:TypeId}(hs:P.underlying s=some .string)(hd:P.underlying d=some (.slice e))(he:P.underlying e=some (.int .u8)):
 ∃c w',(convert s d (.string bs)).run P w=.ok c w'/\∃M',Rel N M0 B w0 κ M' σ a w'/\rep M' NX (.seq 1 (eU bs.data.toList)) c:=by
 have hrun:=run_bytes_of_string (P:=P) w s d e bs hs hd he;have hcap:=grownCap_ge w bs.size 0 e;generalize grownCap w bs.size 0 e=cap at *;refine⟨_,_,hrun,ext M (w.drew.alloc (.cells (bytesRow bs cap) e ((bytesRow bs cap).size,(bytesRow bs cap).size+1))) (fun g=>g=w.heap.size),?_,?_⟩
 ·have hb:Below w.heap.size w (w.drew.alloc (.cells (bytesRow bs cap) e ((bytesRow bs cap).size,(bytesRow bs cap).size+1))):=((Below.refl _ w).drew).alloc (zAc _) _
  refine H.grow hb ?_ ?_ ?_
  ·intro p v h
   unfold ext;rw[if_neg (by have:=H.mem_lt h;show ¬p.block=_;omega)]
   exact h
  ·intro p v h
   unfold ext at h;split at h
   ·exact h
   ·rw[hb.cell (H.mem_lt h)];exact H.snd p v h
  ·intro p v h
   unfold ext at h;split at h
   ·rename_i hm;have hm:p.block=_:=hm;exact .inr (by omega)
   ·exact .inl h
 ·simp only[rep]
  have hl:(eU bs.data.toList).length=bs.size:=by rw[we,zCb,<-fI]
  refine⟨some ⟨w.heap.size,0,none⟩,cap,by rw[hl],by rw[hl];exact hcap,by rw[hl,fI];exact hlen,by decide,.inr ⟨_,_,rfl,?_⟩⟩
  refine wd _ 0 fun j b hj=>?_;unfold ext;rw[if_pos (by simp)]
  have hg:(w.drew.alloc (.cells (bytesRow bs cap) e ((bytesRow bs cap).size,(bytesRow bs cap).size+1))).heap[w.heap.size]?=some (.cells (bytesRow bs cap) e ((bytesRow bs cap).size,(bytesRow bs cap).size+1)):=heap_alloc_new w.drew _;rw[cell_of_row _ _ _ _ _ _ hg];unfold bytesRow;have hlt:=(zAa.1 hj).1;rw[zFc,Array.getElem?_append_left (by simpa using hlt)]
  simp at hj;simp[hj]
theorem PD{t e:TypeId}{i:TypeInfo}{n len:Nat}{z:Value}{parts:Array (Nat×Operand)}(ht:P.underlying t=some (.slice e))(hi:P.info? e=some i)(hs:i.size=n)(h0:0<n)(hz:i.zero=some z)(hzs:z.cells.size=n)
 (hle:len*n<=16777216) (hpi:parts.toList.map (·.1)=zEc len) {cs:List Value} (hcs:(parts.toList.map (·.2)).map a.eval=cs) (hcl:cs.length=len) (hc1:∀c∈cs,c.cells.size=n):
 (Instr.buildSlice t len (parts.map fun x=>(x.1,a.eval x.2))).run P w=.ok (.slice (some ⟨w.heap.size,0,none⟩) len len) (w.alloc (.cells (c6 cs).toArray e)):=by
 have hz0:0<z.cells.size:=by omega
 have hbase:((zCc (len*n)).map (fun x=>z.cells[x%z.cells.size]!)).size=len*n:=by simp
 have hfill:=uu n cs 0 ((zCc (len*n)).map (fun x=>z.cells[x%z.cells.size]!)) hc1 (by rw[hbase,hcl];simp)
 have hparts:(parts.map fun x=>(x.1,a.eval x.2)).toList=(zGi 0 cs.length).zip cs:=by
  rw[hcl,<-zGf,<-hpi,<-hcs];simp only[zGb,zHc];generalize parts.toList=ps
  induction ps with
  |nil=>rfl
  |cons p ps ih=>simp[ih]
 rw[<-hparts]at hfill
 have hres:(zHh (0*n) ((zCc (len*n)).map (fun x=>z.cells[x%z.cells.size]!)).toList++c6 cs++zIj ((0+cs.length)*n) ((zCc (len*n)).map (fun x=>z.cells[x%z.cells.size]!)).toList).toArray=(c6 cs).toArray:=by
  rw[zDa (by rw[zAj,hbase,hcl];simp)]
  simp
 rw[hres]at hfill
 show(Instr.buildSlice t len (parts.map fun x=>(x.1,a.eval x.2))).run P w=.ok (.slice (some ⟨w.heap.size,0,none⟩) len len) (w.alloc (.cells (c6 cs).toArray e))
 have hsz:dM P e=some n:=by simp[dM,hi,hs]
 have hn2:¬len*n>2^24:=by omega
 unfold Instr.buildSlice;simp only[Sem.run_bind,run_underlying ht,Result.andThen_ok,aM hsz,hn2,if_false];by_cases hln:len*n=0
 ·have hl0:len=0:=by
   rcases zEd len with h|h
   ·exact h
   ·have:=zJc h h0;omega
  have hcs0:cs=[]:=zAe (by omega)
  subst hcs0;simp only[hln,if_true,Sem.run_pure,Result.andThen_ok]at hfill⊢;have e0:∀(f:Nat->Value),zJi f (zCc 0)=#[]:=fun f=>by simp[Array.range_zero']
  simp only[e0]at hfill⊢;simp only[Sem.run_bind,Sem.run_pure,Result.andThen_ok,e0,hfill];simp[newRow]
 ·simp only[hln,if_false,Sem.run_bind,zeroValue,typeInfo,run_program,Result.andThen_ok,hi,hz,Sem.run_pure,hfill]
  simp[newRow]
theorem Lf(H:Rel N M0 B w0 κ M σ a w){t e:TypeId}{i:TypeInfo}{n len:Nat}{z:Value}{parts:Array (Nat×Operand)}(ht:P.underlying t=some (.slice e))(hi:P.info? e=some i)(hs:i.size=n)(h0:0<n)(hz:i.zero=some z)(hzs:z.cells.size=n)
 (hle:len*n<=16777216) (hpi:parts.toList.map (·.1)=zEc len) {vs:List V} (hvs:ae M (XX κ σ.h) vs ((parts.toList.map (·.2)).map a.eval)) {d:Option Nat} (hd:∀t,d=some t->t<N/\t ∉ B.ps) {K:St->Prop} (hW:BV σ d e n vs K) {Nx:Act->World->Prop} (hK:∀κ' M' σ' a' w',K σ'->Rel N M0 B w0 κ' M' σ' a' w'->Nx a' w'):
 ∃c w',(Instr.buildSlice t len (parts.map fun x=>(x.1,a.eval x.2))).run P w=.ok c w'/\Nx (a.put d c) w':=by
 unfold BV at hW;split at hW
 ·rename_i ms us hms hus
  obtain⟨hsl,hul,_,hW⟩:=hW;have hb:=bJ hms;have hlow:ae M (PX (XX κ σ.h)) us ((parts.toList.map (·.2)).map a.eval):=dZ (vh (κ:=κ) (h:=σ.h)) H.sub.fmS _ _ _ hus hvs;generalize hcs:(parts.toList.map (·.2)).map a.eval=cs at *
  have hcl:cs.length=len:=by
   rw[<-hcs,zCb,zCb];have:=congrArg zJd hpi;simpa using this
  have hul':us.length=len:=by rw[<-hcl];exact(aC hlow).symm
  have hc1:∀c∈cs,c.cells.size=n:=by
   intro c hc;obtain⟨j,hj,hj'⟩:=zGg hc;exact(tB (yr gU) hsl hlow j c (by rw[zFd hj,hj'])).1
  have hrun:=PD (P:=P) (a:=a) (w:=w) ht hi hs h0 hz hzs hle hpi hcs hcl hc1;have hrow:=yO (yr gU) hsl hlow;have hxl:=c7 hrow;refine⟨_,_,hrun,?_⟩
  obtain⟨κ',e2,H',hX⟩:=H.addMem (m':=.rw e n us) hb (kv:=.slice (some ⟨w.heap.size,0,none⟩) len len) (ba w _) (fun g hg=>by cases hg;exact zAc _) (fun κ' X er hX=>by
   simp only[fc];refine⟨h0,by omega,c6 cs,?_,cz (fun _ _ h=>h) hX hrow⟩
   rw[er]
   have hcl2:len<=maxLen:=by
    have:len<=len*n:=zCd _ h0;simp only[maxLen];omega
   have hsz2:(c6 cs).toArray.size=len*n:=by rw[zDe,hxl,hul']
   exact⟨hxl,.inr ⟨w.heap.size,len,(c6 cs).toArray,by rw[hul'],zDb _,heap_alloc_new w _,by omega,hcl2,hsz2,(by show((c6 cs).toArray.toList.take (us.length*n))=c6 cs;rw[<-hxl];exact List.take_length)⟩⟩)
  refine hK _ _ _ _ _ hW (H'.put' hd (kG (dx hb) rfl ?_));have hget:(ms++[Po.rw e n us])[ms.length]?=some (.rw e n us):=by simp
  simp only[qAt,hget,e2,hul'];exact⟨fun _=>⟨zAc _,fun _=>trivial⟩,fun h=>by simp at h⟩
 ·exact hW.elim
theorem Vj(H:Rel N M0 B w0 κ M σ a w){t e:TypeId}{i:TypeInfo}{n len:Nat}{z:Value}{parts:Array (Nat×Operand)}(ht:P.underlying t=some (.slice e))(hi:P.info? e=some i)(hs:i.size=n)(h0:0<n)(hz:i.zero=some z)(hzs:z.cells.size=n)
 (hle:len*n<=16777216) (hpi:parts.toList.map (·.1)=zEc len) {vs us:List V} (hvs:ae M (XX κ σ.h) vs ((parts.toList.map (·.2)).map a.eval)) (hus:purs σ.h vs=some us) (hsl:aV n us=true) (hul:us.length<=16777216):
 ∃(M1:Mem)(xs:List Value),Rel N M0 B w0 κ M1 (σ.kill (ak vs)) a w/\ap M1 n us xs/\us.length=len/\
   (Instr.buildSlice t len (parts.map fun x=>(x.1,a.eval x.2))).run P w=.ok (.slice (some ⟨w.heap.size,0,none⟩) len len) (w.alloc (.cells xs.toArray e)):=by
 obtain⟨H1,hM1⟩:=H.kill (ak vs) (dr hus);generalize hcs:(parts.toList.map (·.2)).map a.eval=cs at *
 have hpu:ae (ext M w (gp κ (ak vs))) NX us cs:=by
  refine bo H hM1 (fun id hid g hg p hpb=>?_) hvs hus;unfold ext;rw[if_pos (cf.2 ⟨id,hid,by rw[hpb];exact hg⟩)]
 have hcl:cs.length=len:=by
  rw[<-hcs,zCb,zCb];have:=congrArg zJd hpi;simpa using this
 have hul':us.length=len:=by rw[<-hcl];exact(aC hpu).symm
 have hc1:∀c∈cs,c.cells.size=n:=by
  intro c hc;obtain⟨j,hj,hj'⟩:=zGg hc;exact(ot hsl hpu j c (by rw[zFd hj,hj'])).1
 have hz0:0<z.cells.size:=by omega
 have hbase:((zCc (len*n)).map (fun x=>z.cells[x%z.cells.size]!)).size=len*n:=by simp
 have hfill:=uu n cs 0 ((zCc (len*n)).map (fun x=>z.cells[x%z.cells.size]!)) hc1 (by rw[hbase,hcl];simp)
 have hparts:(parts.map fun x=>(x.1,a.eval x.2)).toList=(zGi 0 cs.length).zip cs:=by
  rw[hcl,<-zGf,<-hpi,<-hcs];simp only[zGb,zHc];generalize parts.toList=ps
  induction ps with
  |nil=>rfl
  |cons p ps ih=>simp[ih]
 rw[<-hparts]at hfill;have hrow0:=vu hsl hpu;have hrl:=bP hrow0
 have hres:(zHh (0*n) ((zCc (len*n)).map (fun x=>z.cells[x%z.cells.size]!)).toList++c6 cs++zIj ((0+cs.length)*n) ((zCc (len*n)).map (fun x=>z.cells[x%z.cells.size]!)).toList).toArray=(c6 cs).toArray:=by
  rw[zDa (by rw[zAj,hbase,hcl];simp)]
  simp
 rw[hres]at hfill
 have hrun:(Instr.buildSlice t len (parts.map fun x=>(x.1,a.eval x.2))).run P w=.ok (.slice (some ⟨w.heap.size,0,none⟩) len len) (w.alloc (.cells (c6 cs).toArray e)):=by
  have hsz:dM P e=some n:=by simp[dM,hi,hs]
  have hn2:¬len*n>2^24:=by omega
  unfold Instr.buildSlice;simp only[Sem.run_bind,run_underlying ht,Result.andThen_ok,aM hsz,hn2,if_false];by_cases hln:len*n=0
  ·have hl0:len=0:=by
    rcases zEd len with h|h
    ·exact h
    ·have:=zJc h h0;omega
   have hcs0:cs=[]:=zAe (by omega)
   subst hcs0;simp only[hln,if_true,Sem.run_pure,Result.andThen_ok]at hfill⊢;have e0:∀(f:Nat->Value),zJi f (zCc 0)=#[]:=fun f=>by simp[Array.range_zero']
   simp only[e0]at hfill⊢;simp only[Sem.run_bind,Sem.run_pure,Result.andThen_ok,e0,hfill];simp[newRow]
  ·simp only[hln,if_false,Sem.run_bind,zeroValue,typeInfo,run_program,Result.andThen_ok,hi,hz,Sem.run_pure,hfill]
   simp[newRow]
 exact⟨_,_,H1,hrow0,hul',hrun⟩
theorem OJ(H:Rel N M0 B w0 κ M σ a w){t e:TypeId}{i:TypeInfo}{n len:Nat}{z:Value}{parts:Array (Nat×Operand)}(ht:P.underlying t=some (.slice e))(hi:P.info? e=some i)(hs:i.size=n)(h0:0<n)(hz:i.zero=some z)(hzs:z.cells.size=n)
 (hle:len*n<=16777216) (hpi:parts.toList.map (·.1)=zEc len) {vs us:List V} (hvs:ae M (XX κ σ.h) vs ((parts.toList.map (·.2)).map a.eval)) (hus:purs σ.h vs=some us) (hsl:aV n us=true) (hul:us.length<=16777216):
 ∃c w',(Instr.buildSlice t len (parts.map fun x=>(x.1,a.eval x.2))).run P w=.ok c w'/\∃κ' M',Rel N M0 B w0 κ' M' ⟨(σ.kill (ak vs)).r,(σ.kill (ak vs)).h++[some (Ob.arr e n us)]⟩ a w'/\
   rep M' (XX κ' ((σ.kill (ak vs)).h++[some (Ob.arr e n us)])) (.ref (σ.kill (ak vs)).h.length us.length) c:=by
 obtain⟨M1,xs,H1,hrow,hl,hrun⟩:=Vj H ht hi hs h0 hz hzs hle hpi hvs hus hsl hul;have hxl:=bP hrow;refine⟨_,_,hrun,upd κ (σ.kill (ak vs)).h.length (.slice (some ⟨w.heap.size,0,none⟩) len len),M1,?_,?_⟩
 ·have hBw:B.n<=w.heap.size:=by rw[H1.base];exact H1.blw.size
  refine H1.newOb (ba w _) (fun g hg=>by cases hg;exact zAc _) ?_
  simp only[aE];refine⟨h0,by omega,xs,?_,hrow,fun g hg=>.inl (by rw[aJ]at hg;cases hg;exact hBw),fun g=>by rw[aJ,be]⟩
  rw[cu];refine⟨hxl,.inr ⟨w.heap.size,len,_,by rw[hl],zDb _,heap_alloc_new w _,by omega,by simp only[maxLen];omega,by simp[hxl,hl],?_⟩⟩
  rw[zAg (by simp[hxl])]
 ·simp only[rep,XX]
  refine⟨rfl,by simp,fun e2 sz2 l2 h2=>?_,fun e2 sz2 l2 l3 h2=>by simp at h2,fun o2 h2 hn=>by simp at h2;subst h2;cases hn⟩
  simp at h2;obtain⟨rfl,rfl,rfl⟩:=h2;exact⟨by simp,fun _=>cu.symm⟩
theorem OL(H:Rel N M0 B w0 κ M σ a w){t e:TypeId}{i:TypeInfo}{n len:Nat}{z:Value}{parts:Array (Nat×Operand)}(ht:P.underlying t=some (.slice e))(hi:P.info? e=some i)(hs:i.size=n)(h0:0<n)(hz:i.zero=some z)(hzs:z.cells.size=n)
 (hle:len*n<=16777216) (hpi:parts.toList.map (·.1)=zEc len) {vs us:List V} (hvs:ae M (XX κ σ.h) vs ((parts.toList.map (·.2)).map a.eval)) (hus:purs σ.h vs=some us) (hsl:aV n us=true) (hul:us.length<=16777216):
 ∃c w',(Instr.buildSlice t len (parts.map fun x=>(x.1,a.eval x.2))).run P w=.ok c w'/\∃κ' M',Rel N M0 B w0 κ' M' (σ.kill (ak vs)) a w'/\rep M' NX (.seq n us) c:=by
 obtain⟨H1,hM1⟩:=H.kill (ak vs) (dr hus);generalize hcs:(parts.toList.map (·.2)).map a.eval=cs at *
 have hpu:ae (ext M w (gp κ (ak vs))) NX us cs:=by
  refine bo H hM1 (fun id hid g hg p hpb=>?_) hvs hus;unfold ext;rw[if_pos (cf.2 ⟨id,hid,by rw[hpb];exact hg⟩)]
 have hcl:cs.length=len:=by
  rw[<-hcs,zCb,zCb];have:=congrArg zJd hpi;simpa using this
 have hul':us.length=len:=by rw[<-hcl];exact(aC hpu).symm
 have hc1:∀c∈cs,c.cells.size=n:=by
  intro c hc;obtain⟨j,hj,hj'⟩:=zGg hc;exact(ot hsl hpu j c (by rw[zFd hj,hj'])).1
 have hz0:0<z.cells.size:=by omega
 have hbase:((zCc (len*n)).map (fun x=>z.cells[x%z.cells.size]!)).size=len*n:=by simp
 have hfill:=uu n cs 0 ((zCc (len*n)).map (fun x=>z.cells[x%z.cells.size]!)) hc1 (by rw[hbase,hcl];simp)
 have hparts:(parts.map fun x=>(x.1,a.eval x.2)).toList=(zGi 0 cs.length).zip cs:=by
  rw[hcl,<-zGf,<-hpi,<-hcs];simp only[zGb,zHc];generalize parts.toList=ps
  induction ps with
  |nil=>rfl
  |cons p ps ih=>simp[ih]
 rw[<-hparts]at hfill;have hrow0:=vu hsl hpu;have hrl:=bP hrow0
 have hres:(zHh (0*n) ((zCc (len*n)).map (fun x=>z.cells[x%z.cells.size]!)).toList++c6 cs++zIj ((0+cs.length)*n) ((zCc (len*n)).map (fun x=>z.cells[x%z.cells.size]!)).toList).toArray=(c6 cs).toArray:=by
  rw[zDa (by rw[zAj,hbase,hcl];simp)]
  simp
 rw[hres]at hfill
 have hrun:(Instr.buildSlice t len (parts.map fun x=>(x.1,a.eval x.2))).run P w=.ok (.slice (some ⟨w.heap.size,0,none⟩) len len) (w.alloc (.cells (c6 cs).toArray e)):=by
  have hsz:dM P e=some n:=by simp[dM,hi,hs]
  have hn2:¬len*n>2^24:=by omega
  unfold Instr.buildSlice;simp only[Sem.run_bind,run_underlying ht,Result.andThen_ok,aM hsz,hn2,if_false];by_cases hln:len*n=0
  ·have hl0:len=0:=by
    rcases zEd len with h|h
    ·exact h
    ·have:=zJc h h0;omega
   have hcs0:cs=[]:=zAe (by omega)
   subst hcs0;simp only[hln,if_true,Sem.run_pure,Result.andThen_ok]at hfill⊢;have e0:∀(f:Nat->Value),zJi f (zCc 0)=#[]:=fun f=>by simp[Array.range_zero']
   simp only[e0]at hfill⊢;simp only[Sem.run_bind,Sem.run_pure,Result.andThen_ok,e0,hfill];simp[newRow]
  ·simp only[hln,if_false,Sem.run_bind,zeroValue,typeInfo,run_program,Result.andThen_ok,hi,hz,Sem.run_pure,hfill]
   simp[newRow]
 refine⟨_,_,hrun,κ,ext (ext M w (gp κ (ak vs))) (w.alloc (.cells (c6 cs).toArray e)) (fun g=>g=w.heap.size),?_,?_⟩
 ·refine H1.grow (ba w _) ?_ ?_ ?_
  ·intro p v h
   have:=H1.mem_lt h;unfold ext at h⊢;rw[if_neg (by show ¬p.block=_;omega)]
   exact h
  ·intro p v h
   have h':=h;unfold ext at h;split at h
   ·exact h
   ·rw[(ba w _).cell (H1.mem_lt h)];exact H1.snd p v h
  ·intro p v h
   have h':=h;unfold ext at h;split at h
   ·rename_i hm;have hm:p.block=_:=hm;exact .inr (by omega)
   ·exact .inl h
 ·simp only[rep]
  refine⟨some ⟨w.heap.size,0,none⟩,len,by rw[hul'],by rw[hul'];exact zAc _,by omega,h0,.inr ⟨_,_,rfl,?_⟩⟩
  refine jN (fun p v h=>?_) 0 hrow0 fun j u hu=>?_
  ·have:=H1.mem_lt h
   unfold ext at h⊢;rw[if_neg (by show ¬p.block=_;omega)]
   exact h
  ·unfold ext
   rw[if_pos (by simp)]
   rw[cell_of_row _ _ _ _ _ _ (heap_alloc_new w _)];simpa using hu
mutual
theorem E4{M:Mem}{h:List (Option Ob)}:∀{v u:V}{c:Value},rep M NX v c->pur h v=some u->rep M NX u c
 | .int _ _,u,c,h,hp=>by simp only[pur]at hp;cases hp;exact h
 | .bool _,u,c,h,hp=>by simp only[pur]at hp;cases hp;exact h
 | .str _,u,c,h,hp=>by simp only[pur]at hp;cases hp;exact h
 | .nil sz,u,c,h,hp=>by
   simp only[pur]at hp;cases hp;simp only[rep]at h⊢;exact⟨none,0,by simpa using h.1,by simp,by simp,h.2,by simp⟩
 | .seq sz l,u,c,h,hp=>by simp only[pur]at hp;cases hp;exact h
 | .ref id n,u,c,h,hp=>h.elim
 | .strct cs,u,c,h,hp=>by
   simp only[pur]at hp;obtain⟨us,hus,rfl⟩:=zBa.1 hp;simp only[rep]at h⊢;obtain⟨arr,h1,h2,h3⟩:=h;exact⟨arr,h1,tK h2 hus,h3⟩
 | .ptr _ _,u,c,h,hp=>h.elim
 | .eptr _ _ _ _,u,c,h,hp=>h.elim
 | .mref _ _ _,u,c,h,hp=>h.elim
 | .fseq _ _,u,c,h,hp=>h.elim
 | .mptr _ _ _ _ _,u,c,h,hp=>h.elim
 | .sptr x off,u,c,h,hp=>by simp only[pur]at hp;cases hp;exact h
 | .nilptr,u,c,h,hp=>by simp only[pur]at hp;cases hp;exact h
 | .fn f x y,u,c,h,hp=>by
   simp only[pur]at hp;split at hp
   ·rename_i x' y' hx hy
    cases hp;simp only[rep]at h⊢;obtain⟨a1,a2,h1,h2,h3⟩:=h;exact⟨a1,a2,h1,tK h2 hx,tK h3 hy⟩
   ·cases hp
 | .nilfn,u,c,h,hp=>by simp only[pur]at hp;cases hp;exact h
 | .nilmp,u,c,h,hp=>by simp only[pur]at hp;cases hp;exact h
 | .iface t x,u,c,h,hp=>by
   simp only[pur]at hp;obtain⟨x',hx,rfl⟩:=zBa.1 hp;simp only[rep]at h⊢;obtain⟨y,h1,h2⟩:=h;exact⟨y,h1,E4 h2 hx⟩
 | .niliface,u,c,h,hp=>by simp only[pur]at hp;cases hp;exact h
 | .tup vs,u,c,h,hp=>by
   simp only[pur]at hp;obtain⟨us,hus,rfl⟩:=zBa.1 hp;simp only[rep]at h⊢;obtain⟨arr,h1,h2⟩:=h;exact⟨arr,h1,tK h2 hus⟩
 | .junk,u,c,h,hp=>by simp only[pur]at hp;cases hp;exact h
theorem tK{M:Mem}{h:List (Option Ob)}:∀{vs us:List V}{cs:List Value},ae M NX vs cs->purs h vs=some us->ae M NX us cs
 |[],us,cs,h,hp=>by simp only[purs]at hp;cases hp;exact h
 |v::vs,us,cs,h,hp=>by
   simp only[purs]at hp;split at hp
   ·rename_i u us' hu hus
    cases hp;simp only[ae]at h⊢;obtain⟨c,cs',h1,h2,h3⟩:=h;exact⟨c,cs',h1,E4 h2 hu,tK h3 hus⟩
   ·cases hp
end
theorem Oz(H:Rel N M0 B w0 κ M σ a w){t e:TypeId}{i:TypeInfo}{n by':Nat}{z:Value}{v v':V}(ht:P.underlying t=some (.slice e))(hi:P.info? e=some i)(hz:i.zero=some z)(hv:cV P e z=some v)(hnt:nt v=true)(hpv:pur [] v=some v')
 (hs:i.size=n) (hby:i.bytes=by') (hb0:0<by') (hn:0<n) (hzs:z.cells.size=n) {m:Int} (hm0:0<=m) (hmb:m*by'<=140737488355328) {k:IntKind}:
 ∃c w',(Instr.makeSlice t (.int k m) (.int k m)).run P w=.ok c w'/\∃κ',Rel N M0 B w0 κ' M { σ with h:=σ.h++[some (Ob.arr e n (zBd m.toNat v'))] } a w'/\rep M (XX κ' (σ.h++[some (Ob.arr e n (zBd m.toNat v'))])) (.ref σ.h.length m.toNat) c:=by
 obtain⟨q,rfl⟩:=zEb hm0
 have hqb:q*by'<=140737488355328:=by
  have:((q*by':Nat):Int)<=140737488355328:=by rw[zDd];exact hmb
  omega
 have hq:q<=q*by':=zCd _ hb0
 have hqb':(by':Int)*(q:Int)<=281474976710656:=by
  have:((by'*q:Nat):Int)<=281474976710656:=by rw[zHe];omega
  rwa[zDd]at this
 have hr:=run_make (P:=P) w t e i z ht hi hz k k (q:Int) (q:Int) hm0 (zIb _) (by rw[hby];exact hqb') (by omega)
 simp only[zFi]at hr⊢;refine⟨_,_,hr,upd κ σ.h.length (.slice (some ⟨w.heap.size,0,none⟩) q q),?_,?_⟩
 ·have hBw:B.n<=w.heap.size:=by rw[H.base];exact H.blw.size
  refine H.newOb (ba w _) (fun g hg=>by cases hg;exact zAc _) ?_
  simp only[aE];have hrp:rep M NX v' z:=E4 (ko hv) hpv;have hk:=aX hrp lh (eA (Rp hpv hnt));refine⟨hn,by simp;omega,(madeCells z.cells (q*i.size)).toList,?_,?_,fun g hg=>.inl (by rw[aJ]at hg;cases hg;exact hBw),fun g=>by rw[aJ,be]⟩
  ·rw[cu]
   have hsz:=size_madeCells z.cells (q*n);rw[hs];refine⟨by simp[hsz],.inr ⟨w.heap.size,q,_,by simp,zDb _,heap_alloc_new w _,by simp,by simp only[maxLen];omega,hsz,?_⟩⟩
   rw[zAg (by simp[hsz])]
  ·rw[hs,<-hzs,oT _ _ (by omega)]
   exact lO hrp rfl hk.2 q
 ·simp only[rep,XX]
  refine⟨rfl,by simp,fun e2 sz2 l2 h2=>?_,fun e2 sz2 l2 l3 h2=>by simp at h2,fun o2 h2 hn=>by simp at h2;subst h2;cases hn⟩
  simp at h2;obtain⟨rfl,rfl,rfl⟩:=h2;exact⟨by simp,fun _=>cu.symm⟩
theorem OC(H:Rel N M0 B w0 κ M σ a w){t e:TypeId}{i:TypeInfo}{n by':Nat}{z:Value}(ht:P.underlying t=some (.slice e))(hi:P.info? e=some i)(hz:i.zero=some z)
 (hs:i.size=n) (hby:i.bytes=by') (hb0:0<by') (hn:0<n) {m:Int} (hm0:0<=m) (hmb:m*by'<=140737488355328) {k k':IntKind}:
 ∃c w',(Instr.makeSlice t (.int k' 0) (.int k m)).run P w=.ok c w'/\∃κ',Rel N M0 B w0 κ' M { σ with h:=σ.h++[some (Ob.arr e n [])] } a w'/\rep M (XX κ' (σ.h++[some (Ob.arr e n [])])) (.ref σ.h.length 0) c:=by
 obtain⟨q,rfl⟩:=zEb hm0
 have hqb:q*by'<=140737488355328:=by
  have:((q*by':Nat):Int)<=140737488355328:=by rw[zDd];exact hmb
  omega
 have hq:q<=q*by':=zCd _ hb0
 have hqb':(by':Int)*(q:Int)<=281474976710656:=by
  have:((by'*q:Nat):Int)<=281474976710656:=by rw[zHe];omega
  rwa[zDd]at this
 have hr:=run_make (P:=P) w t e i z ht hi hz k' k 0 (q:Int) (zIb _) hm0 (by rw[hby];exact hqb') (by omega)
 simp only[zFi,Int.toNat_zero]at hr;refine⟨_,_,hr,upd κ σ.h.length (.slice (some ⟨w.heap.size,0,none⟩) 0 q),?_,?_⟩
 ·have hBw:B.n<=w.heap.size:=by rw[H.base];exact H.blw.size
  refine H.newOb (ba w _) (fun g hg=>by cases hg;exact zAc _) ?_
  simp only[aE];refine⟨hn,by simp,[],?_,by simp[ap],fun g hg=>.inl (by rw[aJ]at hg;cases hg;exact hBw),fun g=>by rw[aJ,be]⟩
  rw[cu];have hsz:=size_madeCells z.cells (q*n);rw[hs];exact⟨by simp,.inr ⟨w.heap.size,q,_,by simp,zDb _,heap_alloc_new w _,by simp,by simp only[maxLen];omega,hsz,by simp⟩⟩
 ·simp only[rep,XX]
  refine⟨rfl,by simp,fun e2 sz2 l2 h2=>?_,fun e2 sz2 l2 l3 h2=>by simp at h2,fun o2 h2 hn=>by simp at h2;subst h2;cases hn⟩
  simp at h2;obtain⟨rfl,rfl,rfl⟩:=h2;exact⟨by simp,fun _=>cu.symm⟩
theorem OB(H:Rel N M0 B w0 κ M σ a w){t e e2:TypeId}{i:TypeInfo}{n by':Nat}(ht:P.underlying t=some (.slice e))(hi:P.info? e=some i)(hz:i.zero=some (.slice none 0 0))
 (hs:i.size=1) (hby:i.bytes=by') (hb0:0<by') (hn:0<n) {m:Int} (hm0:0<=m) (hmb:m*by'<=140737488355328) {k:IntKind}:
 ∃c w',(Instr.makeSlice t (.int k m) (.int k m)).run P w=.ok c w'/\∃κ',Rel N M0 B w0 κ' M { σ with h:=σ.h++[some (Ob.mat e e2 n (zBd m.toNat (.a [])))] } a w'/\rep M (XX κ' (σ.h++[some (Ob.mat e e2 n (zBd m.toNat (.a [])))])) (.ref σ.h.length m.toNat) c:=by
 obtain⟨q,rfl⟩:=zEb hm0
 have hqb:q*by'<=140737488355328:=by
  have:((q*by':Nat):Int)<=140737488355328:=by rw[zDd];exact hmb
  omega
 have hq:q<=q*by':=zCd _ hb0
 have hqb':(by':Int)*(q:Int)<=281474976710656:=by
  have:((by'*q:Nat):Int)<=281474976710656:=by rw[zHe];omega
  rwa[zDd]at this
 have hr:=run_make (P:=P) w t e i _ ht hi hz k k (q:Int) (q:Int) hm0 (zIb _) (by rw[hby];exact hqb') (by omega)
 simp only[zFi]at hr⊢;refine⟨_,_,hr,bW κ σ.h.length (.slice (some ⟨w.heap.size,0,none⟩) q q) (fun _=>.slice none 0 0) (fun g=>g=w.heap.size),?_,?_⟩
 ·have hBw:B.n<=w.heap.size:=by rw[H.base];exact H.blw.size
  have rs:∀{j:Nat}{s:List V},aT (zBd q (.a [])) j=some s->s=[]/\j<q:=by
   intro j s h;obtain⟨h1,h2⟩:=ox h;simp at h2;rw[zFg,if_pos h2]at h1;cases h1;exact⟨rfl,h2⟩
  refine H.newOb (ba w _) (fun g hg=>by rw[hg];exact zAc _) ?_
  simp only[aE];rw[be,dV,aJ];have hc:(Value.slice none 0 0).cells=#[Value.slice none 0 0]:=rfl
  have hcells:(madeCells (Value.slice none 0 0).cells (q*i.size)).toList=zBd q (.slice none 0 0):=by
   rw[hs,zJj];apply zDf;intro j;simp[madeCells,hc,zFg];by_cases hj:j<q
   ·simp[hj,Nat.mod_one]
   ·simp[hj]
  refine⟨hn,by simp;omega,⟨(madeCells (Value.slice none 0 0).cells (q*i.size)).toList,?_,?_,?_⟩,?_,?_,?_,fun g hg=>.inl (by rw[hg];exact hBw),fun g=>?_⟩
  ·have hsz:=size_madeCells (Value.slice none 0 0).cells (q*1)
   rw[hs,List.length_replicate];refine⟨by rw[zAj,hsz],.inr ⟨w.heap.size,q,_,rfl,zDb _,heap_alloc_new w _,zAc _,by simp only[maxLen];omega,hsz,?_⟩⟩
   rw[zAg (by rw[zAj,hsz];exact zAc _)]
  ·intro u hu
   rw[hcells]at hu;rw[(List.mem_replicate.1 hu).2];rfl
  ·intro j r hj
   rw[hcells,zFg,if_pos (rs hj).2]
  ·intro j r hj
   rw[(rs hj).1];exact⟨by simp,[],World.ownsRow_nil _ 0 e2 n,by simp[ap]⟩
  ·intro j k r s g _ _ h
   cases h
  ·intro j r g _ h
   cases h
  ·constructor
   ·intro h;exact .inl (by rw[h];rfl)
   ·rintro(h|⟨_,_,_,h⟩)
    ·cases h;rfl
    ·cases h
 ·simp only[rep,XX]
  refine⟨rfl,by simp,fun e3 sz2 l2 h2=>by simp at h2,fun e3 sz2 l2 l3 h2=>?_,fun o2 h2 hn=>by simp at h2;subst h2;cases hn⟩
  simp at h2;obtain⟨rfl,rfl,rfl,rfl⟩:=h2;exact⟨by simp,fun _=>be.symm⟩
theorem jq:∀{l:List V}{s:List UInt8},ce l=some s->s.length=l.length/\∀(j:Nat)(b:UInt8),s[j]?=some b->∃n,l[j]?=some (.int .u8 n)/\b=zGj n.toNat
 |[],s,h=>by simp only[ce,zAb]at h;subst h;simp
 |v::l,s,h=>by
   cases v<;>try (simp only[ce]at h;cases h;done)
   rename_i k n;cases k<;>try (simp only[ce]at h;cases h;done)
   simp only[ce,zBa]at h;obtain⟨t,h1,rfl⟩:=h;obtain⟨h2,h3⟩:=jq h1;refine⟨by simp[h2],fun j b hj=>?_⟩
   cases j with
   |zero=>simp at hj;exact⟨n,by simp,hj.symm⟩
   |succ j=>simp at hj;simpa using h3 j b hj
theorem PG(H:Rel N M0 B w0 κ M σ a w){s d e:TypeId}{x:Operand}{u:AO}(hx:cO P s x=some u)(hs:P.underlying s=some (.slice e))(he:P.underlying e=some (.int .u8))(hd:P.underlying d=some .string)
 {v:V} (hv:σ.val (.b2s u)=some v):∃c,(convert s d (a.eval x)).run P w=.ok c w/\rep M (XX κ σ.h) v c:=by
 simp only[St.val]at hv;split at hv
 ·rename_i j n i0 o0 hv0
  split at hv
  ·rename_i ms hms
   split at hv
   ·rename_i s0 hj
    split at hv
    ·rename_i hn
     cases hv;have hp:=bJ hms;have hr:=H.op hx hv0;simp only[rep,XX]at hr;have hq:=hr.2.2 ms hp;simp only[qAt,hj]at hq;have hck:=(hq.1 trivial).2 hn;obtain⟨hl0,hcase⟩:=(H.heap 0 _ hp).2.1 j _ hj;rcases hcase with⟨rfl,h1⟩|⟨hne,g,cap,cur,T,fz,h1,h2,h3,h4,h5,h6,h7,h8⟩
     ·rw[hck,h1]
      exact⟨.string .empty,run_convert_bytes_nil w s e hs he _ _ d hd,by simp only[rep];exact⟨_,rfl,rfl,by simp⟩⟩
     ·refine⟨.string ⟨s0.toArray⟩,?_,by simp only[rep];exact⟨_,rfl,rfl,by omega⟩⟩
      rw[hck,h1];refine run_convert_bytes_back w s d e _ cap s0 hs he hd fun q hq=>?_;rw[Addr.add_lit,cell_of_row w g _ cur T fz h2,zFc];have h9:(cur.toList.take s0.length)[q]?=some (Value.int .u8 s0[q].toNat):=by rw[h8];simp[hq]
      rw[zBb,if_pos hq]at h9;simpa using h9
    ·cases hv
   ·cases hv
  ·cases hv
 ·rename_i v0 _ hv0
  split at hv
  ·rename_i l hl
   simp only[zBa]at hv;obtain⟨t,ht,rfl⟩:=hv;have hr:=mD H H.snd (fun _ _ _ _ _ _=>rfl) (H.op hx hv0) hl;simp only[rep]at hr;obtain⟨p,cap,e1,_,hlen,_,hmem⟩:=hr;obtain⟨hlt,hget⟩:=jq ht;rcases hmem with rfl|⟨b,off,rfl,hm⟩
   ·have:t=[]:=by simpa using hlt
    subst this;refine⟨.string .empty,?_,by simp only[rep];exact⟨_,rfl,rfl,by simp⟩⟩
    rw[e1];cases p with
    |none=>exact run_convert_bytes_nil w s e hs he _ _ d hd
    |some p=>exact run_convert_bytes_back w s d e p cap [] hs he hd (fun j hj=>by simp at hj)
   ·refine⟨.string ⟨t.toArray⟩,?_,by simp only[rep];exact⟨_,rfl,rfl,by omega⟩⟩
    rw[e1,<-hlt];refine run_convert_bytes_back w s d e _ cap t hs he hd fun j hj=>?_;obtain⟨n,h1,h2⟩:=hget j t[j] (by simp)
    obtain⟨y,g1,g2,g3,g4⟩:=mC hm h1;simp only[rep]at g1;obtain⟨rfl,hn1,hn2⟩:=g1;have:=g4 0 (by omega)
    rw[Addr.add_lit];simp only[zJj,zDi]at this;rw[this,h2];have hmin:IntKind.u8.min=0:=by decide
    have hmax:IntKind.u8.max=255:=by decide
    rw[hmin]at hn1;rw[hmax]at hn2;have hn:n.toNat<256:=by omega
    simp only[Value.cells,List.getElem?_toArray,zHf];congr 2;simp[zHa,zGc hn,Int.toNat_of_nonneg hn1]
  ·cases hv
 ·cases hv
theorem OA(H:Rel N M0 B w0 κ M σ a w){t:TypeId}{kt:KT}:∃c w',(Instr.makeMap t none).run P w=.ok c w'/\∃κ',Rel N M0 B w0 κ' M { σ with h:=σ.h++[some (Ob.mp kt [])] } a w'/\rep M (XX κ' (σ.h++[some (Ob.mp kt [])])) (.ref σ.h.length 0) c:=by
 refine⟨_,_,run_makeMap (P:=P) t w,bW κ σ.h.length (.map (some w.heap.size)) (fun _=>.nilFunc) (fun g=>g=w.heap.size),?_,?_⟩
 ·have hBw:B.n<=w.heap.size:=by rw[H.base];exact H.blw.size
  refine H.newOb (ba w _) (fun g hg=>by rw[hg];exact zAc _) ?_
  simp only[aE];rw[be,aJ];refine⟨w.heap.size,#[],0,rfl,.inl hBw,?_,rfl,fun g=>zFe⟩
  show(w.heap.push _)[w.heap.size]?=_
  simp
 ·simp only[rep,XX]
  refine⟨rfl,by simp,fun e2 sz2 l2 h2=>by simp at h2,fun e2 sz2 l2 l3 h2=>by simp at h2,fun e2 l3 h2=>?_⟩
  rw[be]
theorem Vr{σ:St}{id:Nat}{x:List UInt8×Nat}(h:σ.itr? id=some x):σ.h[id]?=some (some (.itr x.1 x.2)):=by
 unfold St.itr? at h;split at h
 ·cases h;assumption
 ·cases h
theorem DY(H:Rel N M0 B w0 κ M σ a w){t K E:TypeId}{kt:KT}(ht:P.underlying t=some (.map K E))(hk:ktT P K=some kt){id:Nat}{l:List (V×V)}(hm:σ.h[id]?=some (some (.mp kt l))){kv u':V}{c d:Value}
 (hf:a8 kt kv=true) (hc:rep M (XX κ σ.h) kv c) (hd:rep M NX u' d):∃w',(Instr.mapUpdate t (κ id) c d).run P w=.ok () w'/\∃κ',Rel N M0 B w0 κ' M { σ with h:=σ.h.set id (some (Ob.mp kt (nU kv u' l))) } a w':=by
 obtain⟨b,es,clock,e1,e2,e3,e4,e5⟩:=H.heap id _ hm;obtain⟨r,g1,g2⟩:=tD hk hf hc w l es.toList e4;have gc:=qn hk hf hc false w;have hobj:=Go.MapKept.run_getObj_map (P:=P) e3
 have hkN:rep M NX kv c:=by
  have:=jv hk hf hc;refine YK hf hc
 have fin:∀(es':Array MapEntry)(clock':Nat),gD M kt (nU kv u' l) es'.toList->∃κ',Rel N M0 B w0 κ' M { σ with h:=σ.h.set id (some (Ob.mp kt (nU kv u' l))) } a { w with heap:=w.heap.setIfInBounds b (.map es' clock') }:=by
  intro es' clock' hes;have hlt:b<w.heap.size:=(zBh.1 e3).1
  refine⟨bW κ id (κ id) (κ.row id) (κ.bl id),H.setOb hm ⟨rfl,rfl,rfl,by simp,fun k hk1 hk2=>?_,fun k cur T z hc=>⟨cur,T,z,by
   have:b≠k:=fun e=>by subst e;rw[e3]at hc;cases hc
   simp[zBe,this,hc],rfl⟩⟩ (fun k hk1 hk2=>?_) (fun g hg=>.inl hg) (fun v c hx=>gG hm hx (fun _ h=>by cases h) (fun _ _ _ h=>by cases h) (fun _ _ _ _ h=>by cases h) (fun _=>⟨rfl,rfl⟩)) ?_⟩
  ·have:b≠k:=fun e=>by
    subst e;rcases e2 with h|h
    ·omega
    ·exact hk2 h
   simp[zBe,this]
  ·have:b≠k:=fun e=>hk2 (by subst e;exact(e5 b).2 rfl)
   simp[zBe,this]
  ·simp only[aE]
   rw[be,aJ];exact⟨b,es',clock',e1,e2,by simp[zBe,hlt],hes,e5⟩
 rcases g2 with⟨rfl,g3,g4,_⟩|⟨j,e,k',v2,rfl,hj,g3,_,hfk,hke,heq,g4,_⟩
 ·refine⟨_,?_,fin (es.push { key:=c,val:=d,born:=clock }) (clock+1) (by simpa using g4 { key:=c,val:=d,born:=clock } u' hf hkN hd)⟩
  unfold Instr.mapUpdate;simp[run_underlying ht,e1,hobj,gc,g1,Go.MapKept.run_setObj_map _ e3]
 ·have hcc:e.key=c:=(RQ hf hfk heq hc hke).symm
  have hjs:es[j]?=some e:=by simpa using hj
  have hst:(Instr.keyThatStays (((es[j]?).map (·.key)).getD c) c).run P w=.ok c w:=by
   rw[hjs];simp only[zEe,Option.getD_some,hcc,Instr.keyThatStays,PE hf hc,if_true];rfl
  refine⟨_,?_,fin (es.modify j fun e=>{ e with key:=c,val:=d }) clock (by simpa using g4 (fun e=>{ e with key:=c,val:=d }) u' hf (fun _=>⟨hkN,hd⟩))⟩
  unfold Instr.mapUpdate;simp[run_underlying ht,e1,hobj,gc,g1,hst,Go.MapKept.run_setObj_map _ e3]
theorem kH{M:Mem}{X:V->Value->Prop}{sz:Nat}{v:V}{y:Value}(h:rep M X v y)(hs:y.cells.size=sz)(hc:∀u∈y.cells.toList,am u):∀q,az M X sz (zBd q v) (zBd q y.cells.toList).flatten
 |0=>by simp[az]
 |q+1=>by
   simp only[zIg,az,zFh];exact⟨y,_,rfl,h,hs,hc,kH h hs hc q⟩
theorem PH(H:Rel N M0 B w0 κ M σ a w){ty t e:TypeId}{i:TypeInfo}{z:Value}{sz by':Nat}(ht:P.underlying t=some (.slice e))(hi:P.info? e=some i)(hz:i.zero=some z)
 (hs:i.size=sz) (hby:i.bytes=by') (hb0:0<by') (hzs:z.cells.size=sz) (hn:0<sz) {l:List V} {cy:Value} {ad:Option Addr} {cap:Nat}
 (hcy:cy=.slice ad l.length cap) (hll:l.length<=140737488355328) (hrow:l=[]\/∃(b off:Nat)(xs:List Value),ad=some ⟨b,off,none⟩/\ap M sz l xs/\∀j u,xs[j]?=some u->w.cell? ((⟨b,off,none⟩:Addr).add j)=some u)
 (hb:l.length*by'<=140737488355328) {d:Option Nat} (hd:∀t,d=some t->t<N/\t ∉ B.ps) {K:St->Prop} (hW:K (σ.put d (.seq sz l))) {Nx:Act->World->Prop} (hK:∀κ' M' σ' a' w',K σ'->Rel N M0 B w0 κ' M' σ' a' w'->Nx a' w'):
 ∃c w1,(Builtin.append_ #[t,t] ty #[.slice none 0 0,cy]).run P w=.ok c w1/\Nx (a.put d c) w1:=by
 rw[hcy];by_cases h0:l=[]
 ·subst h0
  have hr:=bb (P:=P) (ty:=ty) ht hi none ad 0 0 cap (zAc _) w;refine⟨_,_,hr,hK _ _ _ _ _ hW (H.put' hd ?_)⟩;simp only[rep];exact⟨none,0,rfl,zAc _,by simp,hn,.inl trivial⟩
 ·rcases hrow with hrow|⟨b,off,xs,had,hrow,hcells⟩
  ·exact(h0 hrow).elim
  ·have hlen:=bP hrow
   obtain⟨v',w',hr,g1,g2,g3,g4⟩:=dz (P:=P) (ty:=ty) (base:=0) ht hi hz hs hby hzs hn (World.ownsRow_nil w 0 e sz) ⟨b,off,none⟩ l.length cap xs hlen hcells (eu hrow) (qx h0)
    (by simpa using hb) (by simp only[maxLen];omega) (zDb _)
   rw[had];have hbel:Below w.heap.size w w':=py g2 (fun g hg=>by simp[Value.ownBlock]at hg) (zAc _)
   rcases g1.2 with⟨_,hl0⟩|⟨g,cap',cur,hv',_,hg,hnc,hcm,hcs,htk⟩
   ·have:=qx h0;omega
   ·have hgn:w.heap.size<=g:=by
     rcases g3 g (by rw[hv'];rfl)with h|h
     ·cases h
     ·exact h
    have hM:∀p v,M p=some v->ext M w' (fun k=>k=g) p=some v:=fun p v h=>by
     unfold ext;rw[if_neg (by have:=H.mem_lt h;show ¬p.block=_;omega)]
     exact h
    refine⟨v',w',hr,hK _ (ext M w' (fun k=>k=g)) _ _ _ hW ((H.grow hbel hM ?_ ?_).put' hd ?_)⟩
    ·intro p v h
     unfold ext at h;split at h
     ·exact h
     ·rw[hbel.cell (H.mem_lt h)];exact H.snd p v h
    ·intro p v h
     unfold ext at h;split at h
     ·rename_i hm;have hm:p.block=_:=hm;exact .inr (by omega)
     ·exact .inl h
    ·simp only[rep]
     refine⟨some ⟨g,0,none⟩,cap',by rw[hv'];simp,by simpa using hnc,hll,hn,.inr ⟨g,0,rfl,?_⟩⟩
     refine jN hM 0 hrow fun j u hu=>?_;unfold ext;rw[if_pos (by simp)]
     have:=g1.cells (g:=g) (by rw[hv'];rfl) j u (by simpa using hu)
     rw[Addr.add_lit]at this;exact this
theorem wy(s:ByteArray):Lib.strCells s=s.data.toList.map fun b=>Value.int .u8 b.toNat:=by
 unfold Lib.strCells;simp
structure ByRuns (P:Program) (t u ty e:TypeId) (cy:Value) (l:List UInt8) (w:World):Prop where
 nil0:l=[]->(Builtin.append_ #[t,u] ty #[.slice none 0 0,cy]).run P w=.ok (.slice none 0 0) w
 nil:l≠[]->∃z:Array Value,z.size=grownCap w l.length 0 e-l.length/\(Builtin.append_ #[t,u] ty #[.slice none 0 0,cy]).run P w=.ok (.slice (some ⟨w.heap.size,0,none⟩) l.length (grownCap w l.length 0 e)) (w.drew.alloc (.cells ((l.map fun b=>Value.int .u8 b.toNat).toArray++z) e))
 room:∀(g n cap:Nat)(cur:Array Value)(T:TypeId)(fz:Nat×Nat),w.heap[g]?=some (.cells cur T fz)->(∀o,n<=o->o<cur.size->¬(fz.1<=o/\o<fz.2))->n+l.length<=cap->n+l.length<=cur.size->
  (Builtin.append_ #[t,u] ty #[.slice (some ⟨g,0,none⟩) n cap,cy]).run P w=.ok (.slice (some ⟨g,0,none⟩) (n+l.length) cap) (w.setRow g (cur.toList.take n++(l.map fun b=>Value.int .u8 b.toNat)++cur.toList.drop (n+l.length)).toArray)
 grow:∀(g n cap:Nat)(olds:List Value),olds.length=n->(∀q u,olds[q]?=some u->w.cell? ((⟨g,0,none⟩:Addr).add q)=some u)->cap<n+l.length->n+l.length<=140737488355328->n<=cap->
  ∃z:Array Value,z.size=grownCap w (n+l.length) cap e-(n+l.length)/\(Builtin.append_ #[t,u] ty #[.slice (some ⟨g,0,none⟩) n cap,cy]).run P w=.ok (.slice (some ⟨w.heap.size,0,none⟩) (n+l.length) (grownCap w (n+l.length) cap e)) (w.drew.alloc (.cells (olds.toArray++(l.map fun b=>Value.int .u8 b.toNat).toArray++z) e))
theorem Uz{t u ty e:TypeId}{i:TypeInfo}(ht:P.underlying t=some (.slice e))(hu:P.underlying u=some .string)(hi:P.info? e=some i)(hz:i.zero=some (.int .u8 0))(hs:i.size=1)(hby:i.bytes=1){bs:ByteArray}(hl:bs.data.toList.length<=140737488355328):ByRuns P t u ty e (.string bs) bs.data.toList w:=by
 have hsz:bs.data.toList.length=bs.size:=(fI bs).symm;have hz1:(Value.int IntKind.u8 0).cells.size=1:=rfl;refine⟨fun h0=>?_,fun h0=>?_,fun g n cap cur T fz h1 h2 h3 h4=>?_,fun g n cap olds h1 h2 h3 h4 h5=>?_⟩
 ·have h0':bs.size=0:=by rw[<-hsz,h0];rfl
  simp[Builtin.append_,run_underlying ht,run_underlying hu,sizeOf,typeInfo,hi,Builtin.lenOf,h0',Builtin.firstCells,storeCells]
 ·have hp:=zEa.2 h0
  have:=run_append_nil_string (P:=P) w t u ty e i (.int .u8 0) ht hu hi hz bs (by omega) (by omega) (by rw[hby];omega)
  refine⟨_,?_,by rw[hsz];refine this.trans ?_;congr 4;apply zJg;simp⟩
  rw[size_zeroCells,hz1,hsz];omega
 ·rw[hsz]at *
  have hf:=Lib.run_firstCells_string (P:=P) w 1 bs;have hst:=gI (P:=P) g n T fz (Lib.strCells bs) 0 cur w h1 h2 (by simp only[Lib.strCells_length];omega) (Lib.strCells_oneCell bs)
  simp only[zDi,Lib.strCells_length]at hst;rw[<-wy];simp[Builtin.append_,run_underlying ht,run_underlying hu,sizeOf,typeInfo,hi,hs,Builtin.lenOf,h3,hf,Addr.add_lit,hst]
 ·rw[hsz]at *
  have hr:=Lib.run_append_grow_string (P:=P) w t u ty e i (.int .u8 0) ht hu hi hz ⟨g,0,none⟩ n cap olds (by rw[hs];omega) h2 bs (by omega) (by omega) (by rw[hby];exact growslice_fits (by omega) (by omega))
  refine⟨_,?_,by rw[<-wy];exact hr⟩
  rw[size_zeroCells,hz1];omega
theorem EE:∀{l:List V}{s:List UInt8}{xs:List Value},ce l=some s->ap M 1 l xs->xs=s.map fun b=>Value.int .u8 b.toNat
 |[],s,xs,h,hr=>by simp only[ce,zAb]at h;subst h;simpa[ap]using hr
 |v::l,s,xs,h,hr=>by
   simp only[ap]at hr;obtain⟨y,rest,rfl,h1,h2,h3,h4⟩:=hr;obtain⟨hlt,hget⟩:=jq h;cases s with
   |nil=>simp at hlt
   |cons b s=>
     obtain⟨n,g1,g2⟩:=hget 0 b rfl;simp at g1;subst g1;simp only[rep]at h1;obtain⟨rfl,hn1,hn2⟩:=h1;have hmin:IntKind.u8.min=0:=by decide
     have hmax:IntKind.u8.max=255:=by decide
     rw[hmin]at hn1;rw[hmax]at hn2
     have hb:(b.toNat:Int)=n:=by
      rw[g2];have hn:n.toNat<256:=by omega
      simp[zHa,zGc hn];omega
     have htl:ce l=some s:=by
      simp only[ce]at h;simp only[zBa]at h;obtain⟨t,ht,e⟩:=h;cases e;exact ht
     rw[EE htl h4];simp[Value.cells,hb]
theorem UR(H:Rel N M0 B w0 κ M σ a w){t ty e:TypeId}{i:TypeInfo}{z:Value}(ht:P.underlying t=some (.slice e))(hi:P.info? e=some i)(hz:i.zero=some z)(hs:i.size=1)(hby:i.bytes=1)(hzs:z.cells.size=1){v:V}{c:Value}(hr:rep M (XX κ σ.h) v c){s:List UInt8}(hsrc:HG σ v=some s)(hl:s.length<=140737488355328):ByRuns P t t ty e c s w:=by
 unfold HG at hsrc;split at hsrc
 ·rename_i l hsl
  obtain⟨ad,cap0,rfl,hll,_,hrow⟩:=yd H hr hsl;have hls:l.length=s.length:=(jq hsrc).1.symm;rcases hrow with rfl|⟨b,off,xs,rfl,hrow,hcells⟩
  ·have hs0:s=[]:=zAe (by simpa using hls.symm)
   subst hs0;refine⟨fun _=>bb (P:=P) (ty:=ty) ht hi none ad 0 0 cap0 (zAc _) w,fun h=>(h rfl).elim,fun g n cap cur T fz h1 h2 h3 h4=>?_,fun g n cap olds h1 h2 h3 h4 h5=>?_⟩
   ·have:=bb (P:=P) (ty:=ty) ht hi (some ⟨g,0,none⟩) ad n cap cap0 (by simpa using h3) w
    simp only[zGe,zDi,List.map_nil,zHj,zIc]at this⊢;rw[this,setRow_self w g cur T fz h1]
   ·rw[zGe]at h3;omega
  ·have hxs:=EE hsrc hrow
   have hxl:xs.length=s.length:=by rw[hxs];simp
   refine⟨fun h0=>?_,fun h0=>?_,fun g n cap cur T fz h1 h2 h3 h4=>?_,fun g n cap olds h1 h2 h3 h4 h5=>?_⟩
   ·have hz0:l.length=0:=by rw[hls,h0];rfl
    rw[hz0];exact bb (P:=P) (ty:=ty) ht hi none (some ⟨b,off,none⟩) 0 0 cap0 (zAc _) w
   ·have hp:=zEa.2 h0
    have hr:=run_append_nil (P:=P) w t ty e i z ht hi hz ⟨b,off,none⟩ l.length cap0 xs (by rw[hs];omega) hcells (by omega) (by omega) (by rw[hby];omega)
    refine⟨_,?_,by rw[hls]at hr;rw[hls,<-hxs];exact hr⟩
    rw[size_zeroCells,hzs];omega
   ·have hf:=run_firstCells_some (P:=P) w 1 l.length ⟨b,off,none⟩ l.length cap0 xs (by omega) hcells
    have hst:=gI (P:=P) g n T fz xs 0 cur w h1 h2 (by omega) (eu hrow)
    simp only[zDi,hxl]at hst;rw[<-hxs,hls];rw[hls]at hf;simp[Builtin.append_,run_underlying ht,sizeOf,typeInfo,hi,hs,Builtin.lenOf,h3,hf,Addr.add_lit,hst]
   ·have hr:=run_append_grow (P:=P) w t ty e i z ht hi hz ⟨g,0,none⟩ n cap olds (by rw[hs];omega) h2 ⟨b,off,none⟩ l.length cap0 xs (by rw[hs];omega) hcells (by omega) (by omega) (by rw[hby];exact growslice_fits (by omega) (by omega))
    rw[hls]at hr⊢;refine⟨_,?_,by rw[<-hxs];exact hr⟩
    rw[size_zeroCells,hzs];omega
 ·cases hsrc
theorem EG(H:Rel N M0 B w0 κ M σ a w){ty t u e:TypeId}{k j n i0 o0:Nat}{cx cy:Value}(hrx:rep M (XX κ σ.h) (.q k j n i0 o0) cx){l:List UInt8}{d:Option Nat}(hd:∀t,d=some t->t<N/\t ∉ B.ps){K:St->Prop}(hW:vd σ d e k j n l K)
 {Nx:Act->World->Prop} (hK:∀κ' M' σ' a' w',K σ'->Rel N M0 B w0 κ' M' σ' a' w'->Nx a' w') (hR0:l.length<=140737488355328->ByRuns P t u ty e cy l w):
 ∃c w1,(Builtin.append_ #[t,u] ty #[cx,cy]).run P w=.ok c w1/\Nx (a.put d c) w1:=by
 have hBw:B.n<=w.heap.size:=by rw[H.base];exact H.blw.size
 unfold vd at hW;split at hW
 ·rename_i ms hms
  split at hW
  ·rename_i e0 s0 hj
   obtain⟨rfl,he0,rfl,hb,hW⟩:=hW;have hR:=hR0 (by omega)
   have hp:=bJ hms;simp only[rep,XX]at hrx;have hq:=hrx.2.2 ms hp;simp only[qAt,hj]at hq;have hck:=(hq.1 trivial).2 trivial;obtain⟨_,hpo,hdis,hown,hbl,_⟩:=H.heap 0 _ hp;have hlt:j<ms.length:=(zAa.1 hj).1;have hget:(ms.set j (.byt e0 (s0++l)))[j]?=some (.byt e0 (s0++l)):=by simp[hlt]
   have fin:∀(kv:Value)(w':World),am kv->Und B w w'->(∀k,k<w.heap.size->blk (κ.row 0 j)≠some k->w'.heap[k]?=w.heap[k]?)->(∀g,blk kv=some g->blk (κ.row 0 j)=some g\/w.heap.size<=g)->(l=[]->kv=κ.row 0 j)->
    ((s0++l=[]/\kv=.slice none 0 0)\/(s0++l≠[]/\∃(g cap:Nat)(cur:Array Value)(T:TypeId)(fz:Nat×Nat),kv=.slice (some ⟨g,0,none⟩) (s0++l).length cap/\w'.heap[g]?=some (.cells cur T fz)/\(e0=0\/T=e0)/\(∀o,o<cur.size->¬(fz.1<=o/\o<fz.2))/\(s0++l).length<=cap/\cap<=maxLen/\cur.size=cap/\cur.toList.take (s0++l).length=(s0++l).map fun b=>Value.int .u8 b.toNat))->Nx (a.put d kv) w':=by
    intro kv w' hcell hU hoth hkv h0 hpo'
    obtain⟨κ',e2,H',hX⟩:=H.setMem (m':=.byt e0 (s0++l)) hp hj rfl (kv:=kv) hU hoth hkv (fun κ' er k n i off c hq=>by
     simp only[qAt,hj]at hq;simp only[qAt,hget,er,zAf];refine⟨fun hk=>⟨by have:=(hq.1 hk).1;omega,fun hn=>?_⟩,fun hk=>⟨by have:=(hq.2 hk).1;omega,fun hn hi=>?_⟩⟩
     ·have h8:=hq.1 hk
      have h9:l=[]:=zAe (by omega)
      rw[h0 h9];exact h8.2 (by simp[h9]at hn;exact hn)
     ·have h8:=hq.2 hk
      have h9:l=[]:=zAe (by omega)
      rw[h0 h9];exact h8.2 (by simp[h9]at hn;exact hn) hi) (fun κ' X er hX=>by
     simp only[fc];exact⟨by simpa using hb,by rw[er];exact hpo'⟩)
    refine hK _ _ _ _ _ hW (H'.put' hd (kG (dx hp) hcell ?_));simp only[qAt,hget,e2,zAf];exact⟨fun _=>⟨zAc _,fun _=>trivial⟩,fun h=>by simp at h⟩
   rw[hck];obtain⟨hl0,hcase⟩:=hpo j _ hj;rcases hcase with⟨rfl,h1⟩|⟨hne,g,cap,cur,T,fz,h1,h2,h3,h4,h5,h6,h7,h8⟩
   ·rw[h1]
    by_cases hl:l=[]
    ·refine⟨_,_,hR.nil0 hl,fin _ w rfl (Und.refl _ _) (fun _ _ _=>rfl) (fun g hg=>by cases hg) (fun _=>h1.symm) (.inl ⟨by simp[hl],rfl⟩)⟩
    ·obtain⟨z,hz,hr⟩:=hR.nil hl
     have hp0:=zEa.2 hl;have hge:=grownCap_ge w l.length 0 e;have hcm2:grownCap w l.length 0 e<=maxLen:=grownCap_le_maxLen w l.length 0 e (by simp only[maxLen];omega)
     refine⟨_,_,hr,fin _ _ rfl (Und.of_below (((Below.refl _ w).drew).alloc (zAc _) _) hBw) (fun k hk _=>by first|exact heap_alloc_old w.drew _ k hk|exact heap_alloc_old w.drew _ hk) (fun g hg=>by cases hg;exact .inr (zAc _)) (fun h=>(hl h).elim) (.inr ⟨by simpa using hl,w.heap.size,_,_,e,(0,0),by simp,heap_alloc_new w.drew _,he0.imp (fun h=>h) (fun h=>h.symm),fun o _ h=>by simp at h,by simpa using hge,hcm2,?_,?_⟩)⟩
     ·simp only[zJb,zDe,zCb,hz];omega
     ·simp only[zFa,zFb]
      exact zIa (by simp)
   ·rw[h1]
    have hgb:κ.bl 0 g:=(hbl g).2 ⟨j,_,hj,rfl,by rw[h1];rfl⟩
    have hne2:s0++l≠[]:=by simp[hne]
    by_cases hroom:s0.length+l.length<=cap
    ·have hr:=hR.room g s0.length cap cur T fz h2 (fun o _ ho=>h4 o ho) hroom (by omega)
     have hsize:(cur.toList.take s0.length++(l.map fun b=>Value.int .u8 b.toNat)++cur.toList.drop (s0.length+l.length)).toArray.size=cur.size:=by
      simp only[zDe,zAf,zAi,zCf,zAj,zCb];omega
     refine⟨_,_,hr,fin _ _ rfl (b5 (hown g hgb) _ fun cur1 T1 z hc=>by rw[h2]at hc;cases hc;exact hsize) (fun k hk hne=>setRow_other w g k _ (fun e=>hne (by rw[h1,e];rfl))) (fun g' hg'=>by cases hg';exact .inl (by rw[h1];rfl)) (fun h=>by rw[h1,h];simp) (.inr ⟨hne2,g,cap,_,T,fz,by simp,setRow_heap w g cur _ T fz h2,h3,fun o ho2=>h4 o (by rw[hsize]at ho2;exact ho2),by simpa using hroom,h6,by rw[hsize];exact h7,?_⟩)⟩
     have hl1:(s0.map fun b=>Value.int .u8 b.toNat).length=s0.length:=by simp
     show zHh (s0++l).length (cur.toList.take s0.length++(l.map fun b=>Value.int .u8 b.toNat)++cur.toList.drop (s0.length+l.length))=_
     rw[zIa (by rw[zAf,h8,hl1];simp),h8,zHi]
    ·have wP:∀q u,(s0.map fun b=>Value.int .u8 b.toNat)[q]?=some u->w.cell? ((⟨g,0,none⟩:Addr).add q)=some u:=fun q u hu=>by
      rw[Addr.add_lit,cell_of_row w g _ cur T fz h2,zFc];rw[<-h8,zBb]at hu;split at hu
      ·simpa using hu
      ·cases hu
     obtain⟨z,hz,hr⟩:=hR.grow g s0.length cap (s0.map fun b=>Value.int .u8 b.toNat) (by simp) wP (by omega) hb (by omega)
     have hge:=grownCap_ge w (s0.length+l.length) cap e;have hcm2:grownCap w (s0.length+l.length) cap e<=maxLen:=grownCap_le_maxLen w (s0.length+l.length) cap e (by simp only[maxLen];omega)
     refine⟨_,_,hr,fin _ _ rfl (Und.of_below (((Below.refl _ w).drew).alloc (zAc _) _) hBw) (fun k hk _=>by first|exact heap_alloc_old w.drew _ k hk|exact heap_alloc_old w.drew _ hk) (fun g hg=>by cases hg;exact .inr (zAc _)) (fun h=>by subst h;simp at hroom;omega) (.inr ⟨hne2,w.heap.size,_,_,e,(0,0),by simp,heap_alloc_new w.drew _,he0.imp (fun h=>h) (fun h=>h.symm),fun o _ h=>by simp at h,by simpa using hge,hcm2,?_,?_⟩)⟩
     ·simp only[zJb,zDe,zCb,hz];omega
     ·simp only[zFa,zHi]
      exact zIa (by simp)
  ·exact hW.elim
 ·exact hW.elim
theorem Ps(H:Rel N M0 B w0 κ M σ a w){ty t K E:TypeId}{kt:KT}(ht:P.underlying t=some (.map K E))(hk:ktT P K=some kt){id:Nat}{l:List (V×V)}(hm:σ.h[id]?=some (some (.mp kt l))){kv:V}{c:Value}
 (hf:a8 kt kv=true) (hc:rep M (XX κ σ.h) kv c):∃w',(Builtin.delete_ #[t,K] ty #[κ id,c]).run P w=.ok (.tuple #[]) w'/\∃κ',Rel N M0 B w0 κ' M { σ with h:=σ.h.set id (some (Ob.mp kt (xG kv l))) } a w':=by
 obtain⟨b,es,clock,e1,e2,e3,e4,e5⟩:=H.heap id _ hm;obtain⟨r,g1,g2⟩:=tD hk hf hc w l es.toList e4;have gc:=fun q=>qn hk hf hc q w;have hobj:=Go.MapKept.run_getObj_map (P:=P) e3
 have fin:∀(es':Array MapEntry),gD M kt (xG kv l) es'.toList->∃κ',Rel N M0 B w0 κ' M { σ with h:=σ.h.set id (some (Ob.mp kt (xG kv l))) } a { w with heap:=w.heap.setIfInBounds b (.map es' clock) }:=by
  intro es' hes;have hlt:b<w.heap.size:=(zBh.1 e3).1
  refine⟨bW κ id (κ id) (κ.row id) (κ.bl id),H.setOb hm ⟨rfl,rfl,rfl,by simp,fun k hk1 hk2=>?_,fun k cur T z hc=>⟨cur,T,z,by
   have:b≠k:=fun e=>by subst e;rw[e3]at hc;cases hc
   simp[zBe,this,hc],rfl⟩⟩ (fun k hk1 hk2=>?_) (fun g hg=>.inl hg) (fun v c hx=>gG hm hx (fun _ h=>by cases h) (fun _ _ _ h=>by cases h) (fun _ _ _ _ h=>by cases h) (fun _=>⟨rfl,rfl⟩)) ?_⟩
  ·have:b≠k:=fun e=>by
    subst e;rcases e2 with h|h
    ·omega
    ·exact hk2 h
   simp[zBe,this]
  ·have:b≠k:=fun e=>hk2 (by subst e;exact(e5 b).2 rfl)
   simp[zBe,this]
  ·simp only[aE]
   rw[be,aJ];exact⟨b,es',clock,e1,e2,by simp[zBe,hlt],hes,e5⟩
 rcases g2 with⟨rfl,_,_,g3⟩|⟨j,e,k',v2,rfl,hj,_,_,_,_,_,_,g3⟩
 ·refine⟨_,?_,fin es g3⟩
  simp[Builtin.delete_,run_underlying ht,e1,hobj,gc,g1,Go.MapKept.run_setObj_map _ e3]
 ·refine⟨_,?_,fin (es.eraseIdxIfInBounds j) (by simpa using g3)⟩
  simp[Builtin.delete_,run_underlying ht,e1,hobj,gc,g1,Go.MapKept.run_setObj_map _ e3]
theorem VH{bs:ByteArray}{p:Nat}:uI bs.data.toList p=Utf8.decode bs p:=by
 unfold uI;rw[zIe]
theorem Oi(H:Rel N M0 B w0 κ M σ a w){t:TypeId}(ht:P.underlying t=some .string){bs:ByteArray}(hl:bs.data.toList.length<=4611686018427387904):∃c w',(Instr.range t (.string bs)).run P w=.ok c w'/\∃κ',Rel N M0 B w0 κ' M { σ with h:=σ.h++[some (Ob.itr bs.data.toList 0)] } a w'/\rep M (XX κ' (σ.h++[some (Ob.itr bs.data.toList 0)])) (.ref σ.h.length 0) c:=by
 refine⟨_,_,run_range_string (P:=P) w t bs ht,bW κ σ.h.length (.pointer (some ⟨w.heap.size,0,none⟩)) (fun _=>.nilFunc) (fun g=>g=w.heap.size),?_,?_⟩
 ·have hBw:B.n<=w.heap.size:=by rw[H.base];exact H.blw.size
  refine H.newOb (ba w _) (fun g hg=>by rw[hg];exact zAc _) ?_
  simp only[aE];rw[be,aJ];exact⟨w.heap.size,bs,rfl,.inl hBw,World.iter_heap w bs 0,rfl,hl,fun g=>zFe⟩
 ·simp only[rep,XX]
  refine⟨rfl,by simp,fun e2 sz2 l2 h2=>by simp at h2,fun e2 sz2 l2 l3 h2=>by simp at h2,fun e2 l3 h2=>?_⟩
  rw[be]
theorem HS{b p:Nat}{bs:ByteArray}{ty:TypeId}(h:w.heap[b]?=some (.stringIter bs p)):(Instr.next (.pointer (some ⟨b,0,none⟩)) true ty).run P w=
 if p<bs.size then .ok (.tuple #[.bool true,.int .i64 p,.int .i32 (Utf8.decode bs p).1]) { w with heap:=w.heap.setIfInBounds b (.stringIter bs (p+(Utf8.decode bs p).2)) }else .ok (.tuple #[.bool false]) w:=by
 by_cases hp:p<bs.size
 ·simp only[Instr.next,getObj,setObj,Sem.run_bind,Sem.run,h,Result.andThen,hp,if_true]
  simp[goInt]
 ·simp[Instr.next,getObj,Sem.run,h,hp]
theorem Ow(H:Rel N M0 B w0 κ M σ a w){id:Nat}{s:List UInt8}{p:Nat}(hm:σ.h[id]?=some (some (.itr s p))){ty:TypeId}:
 (p<s.length->∃w' κ',(Instr.next (κ id) true ty).run P w=.ok (.tuple #[.bool true,.int .i64 p,.int .i32 (uI s p).1]) w'/\Rel N M0 B w0 κ' M { σ with h:=σ.h.set id (some (Ob.itr s (p+(uI s p).2))) } a w')/\
 (¬p<s.length->(Instr.next (κ id) true ty).run P w=.ok (.tuple #[.bool false]) w)/\s.length<=4611686018427387904:=by
 obtain⟨b,bs,e1,e2,e3,rfl,e5,e6⟩:=H.heap id _ hm;have hsz:bs.size=bs.data.toList.length:=by show bs.data.size=_;rw[zAj]
 rw[e1,HS e3,hsz,VH];refine⟨fun hp=>?_,fun hp=>by rw[if_neg hp],e5⟩
 rw[if_pos hp];have hlt:b<w.heap.size:=(zBh.1 e3).1;have hne:∀k,k≠b->({ w with heap:=w.heap.setIfInBounds b (.stringIter bs (p+(Utf8.decode bs p).2)) }:World).heap[k]?=w.heap[k]?:=fun k hk=>Array.getElem?_setIfInBounds_ne (Ne.symm hk)
 refine⟨_,bW κ id (κ id) (κ.row id) (fun g=>g=b),rfl,?_⟩
 refine H.setOb hm ⟨rfl,rfl,rfl,by simp,fun k hk hs=>hne k (fun e=>by subst e;rcases e2 with h|h;omega;exact hs h),fun k cur T z hc=>?_⟩ (fun k hk1 hk2=>hne k (fun e=>hk2 ((e6 k).2 e))) (fun g hg=>.inl ((e6 g).2 hg))
  (fun v c hx=>gG hm hx (fun _ h=>by cases h) (fun _ _ _ h=>by cases h) (fun _ _ _ _ h=>by cases h) (fun _=>⟨rfl,rfl⟩)) ?_
 ·have:k≠b:=by rintro rfl;rw[e3]at hc;cases hc
  exact⟨cur,T,z,by rw[hne k this];exact hc,rfl⟩
 ·simp only[aE]
  rw[be,aJ];exact⟨b,bs,e1,e2,by simp[hlt],rfl,e5,fun g=>zFe⟩
theorem Rel.refr(H:Rel N M0 B w0 κ M σ a w){g:Nat}(hg:∀id ob,σ.h[id]?=some (some ob)->¬κ.bl id g)(hU:Und B w w')(hne:∀k,k≠g->w'.heap[k]?=w.heap[k]?)(hcell:∀p v,w.cell? p=some v->w'.cell? p=some v):Rel N M0 B w0 κ M σ a w' where
 dfr:=H.dfr
 jst:=H.jst
 pin:=H.pin
 size:=H.size
 regs:=H.regs
 heap:=fun id ob h=>c9 (fun _ _ h=>h) (fun _ _ h=>h) ⟨rfl,rfl,rfl⟩ (fun k hk=>hne k fun e=>hg id ob h (e ▸ hk)) H.jst hU (fun p v hp=>hcell p v (H.snd p v hp)) (H.heap id ob h)
 inj:=H.inj
 snd:=fun p v hp=>hcell p v (H.snd p v hp)
 sep:=H.sep
 sub:=H.sub
 new:=H.new
 base:=H.base
 blw:=H.blw.trans hU
theorem O6{w:World}{g k:Nat}{cur:Array Value}{T:TypeId}(h:w.heap[g]?=some (.cells cur T (0,0))):(∀j,j≠g->(w.freeze ⟨g,k,none⟩ 1).heap[j]?=w.heap[j]?)/\(w.freeze ⟨g,k,none⟩ 1).heap[g]?=some (.cells cur T (k,k+1))/\(w.freeze ⟨g,k,none⟩ 1).heap.size=w.heap.size:=by
 unfold World.freeze;rw[if_neg (by decide)]
 refine⟨fun j hj=>?_,?_,by simp⟩
 ·simp only[zEg]
  rw[if_neg (Ne.symm hj)]
 ·simp only[zEg,if_true,h,zEe]
  rfl
theorem wS{g:V->Option V}:∀{vs us:List V},fY g vs=some us->us.length=vs.length
 |[],us,h=>by simp only[fY,zAb]at h;subst h;rfl
 |v::vs,us,h=>by
   simp only[fY]at h;split at h
   ·rename_i u us' h1 h2
    cases h;simp[wS h2]
   ·cases h
theorem Aq{M M':Mem}{X:V->Value->Prop}{g:V->Option V}(hg:∀v u c,g v=some u->rep M X v c->rep M' NX u c):∀{vs us:List V}{cs:List Value},fY g vs=some us->ae M X vs cs->ae M' NX us cs
 |[],us,cs,h,hr=>by simp only[fY,zAb]at h;subst h;exact hr
 |v::vs,us,cs,h,hr=>by
   simp only[fY]at h;split at h
   ·rename_i u us' h1 h2
    cases h;simp only[ae]at hr⊢;obtain⟨c,cs',rfl,k1,k2⟩:=hr;exact⟨c,cs',rfl,hg v u c h1 k1,Aq hg h2 k2⟩
   ·cases h
theorem Jw{M M':Mem}{X:V->Value->Prop}{g:V->Option V}{sz:Nat}(hg:∀v u c,g v=some u->rep M X v c->rep M' NX u c):∀{vs us:List V}{xs:List Value},fY g vs=some us->az M X sz vs xs->ap M' sz us xs
 |[],us,xs,h,hr=>by simp only[fY,zAb]at h;subst h;exact hr
 |v::vs,us,xs,h,hr=>by
   simp only[fY]at h;split at h
   ·rename_i u us' h1 h2
    cases h;simp only[az,ap]at hr⊢;obtain⟨y,rest,rfl,k1,k2,k3,k4⟩:=hr;exact⟨y,rest,rfl,hg v u y h1 k1,k2,k3,Jw hg h2 k4⟩
   ·cases h
theorem Gz(H:Rel N M0 B w0 κ M σ a w){ms:List Po}(hp:σ.h[0]?=some (some (.pool ms)))(hM:∀p v,M p=some v->ext M w (gp κ [0]) p=some v):∀(F:Nat)(X:V->Value->Prop),(∀v c,X v c->XX κ σ.h v c)->∀v u c,frz ms F v=some u->rep M X v c->rep (ext M w (gp κ [0])) NX u c
 |0,X,hX,v,u,c,h,hr=>by simp[frz]at h
 |F+1,X,hX,v,u,c,h,hr=>by
   obtain⟨_,hpo,hdis,hown,hbl,_⟩:=H.heap 0 _ hp
   have hcell:∀{g:Nat}{p:Addr}{x:Value},κ.bl 0 g->p.block=g->w.cell? p=some x->ext M w (gp κ [0]) p=some x:=fun{g p x} h1 h2 h3=>by
    unfold ext;rw[if_pos (cf.2 ⟨0,by simp,by rw[h2];exact h1⟩)]
    exact h3
   cases v with
   |q k j n i off=>
     simp only[frz]at h;split at h
     ·rename_i hk
      subst hk;have hx:=hX _ _ (by simpa only[rep]using hr)
      simp only[XX]at hx;have hq:=hx.2.2 ms hp;split at h
      ·rename_i e sz l hj
       split at h
       ·rename_i hn
        subst hn;simp only[zBa]at h;obtain⟨us,hus,rfl⟩:=h;simp only[qAt,hj]at hq;have hck:=(hq.1 trivial).2 trivial;obtain⟨hsz,hlen,xs,ho,hrow⟩:=hpo j _ hj;have hrow':ap (ext M w (gp κ [0])) sz us xs:=Jw (fun v u c h1 h2=>Gz H hp hM F (PX (XX κ σ.h)) (fun v c h=>Tf v c h) v u c h1 h2) hus hrow;have hul:=wS hus;simp only[rep];rcases ho.2 with⟨h4,h5⟩|⟨g,cap,cur,h4,h5,h6,h7,h8,h9⟩
        ·exact⟨none,0,by rw[hck,h4,hul,h5],by omega,by omega,hsz,.inl (zAe (by omega))⟩
        ·refine⟨some ⟨g,0,none⟩,cap,by rw[hck,h4,hul],by omega,by omega,hsz,.inr ⟨g,0,rfl,?_⟩⟩
         refine jN (fun _ _ h=>h) 0 hrow' fun q x hq'=>?_;have h10:=ho.cells (g:=g) (by rw[h4];rfl) q x hq'
         rw[Addr.add_lit]at h10;exact hcell ((hbl g).2 ⟨j,_,hj,rfl,by rw[h4];rfl⟩) rfl h10
       ·cases h
      ·rename_i e0 s hj
       split at h
       ·rename_i hn
        subst hn;cases h;simp only[qAt,hj]at hq;have hck:=(hq.1 trivial).2 trivial;obtain⟨hl0,hcase⟩:=hpo j _ hj;have hbl':(eU s).length=s.length:=by rw[we,zCb]
        simp only[rep];rcases hcase with⟨rfl,h1⟩|⟨hne,g,cap,cur,T,fz,h1,h2,_,_,h4,h5,h6,h7⟩
        ·exact⟨none,0,by rw[hck,h1];rfl,zAc _,by simp[eU],by decide,.inl rfl⟩
        refine⟨some ⟨g,0,none⟩,cap,by rw[hck,h1,hbl'],by rw[hbl'];exact h4,by rw[hbl'];exact hl0,by decide,.inr ⟨g,0,rfl,?_⟩⟩
        refine wd s 0 fun q b hb=>?_;refine hcell ((hbl g).2 ⟨j,_,hj,rfl,by rw[h1];rfl⟩) rfl ?_
        rw[cell_of_row w g _ cur T fz h2,zFc];have hlt:=(zAa.1 hb).1;have h8:(cur.toList.take s.length)[q]?=some (Value.int .u8 b.toNat):=by rw[h7];simp[hb]
        rw[zBb,if_pos hlt]at h8;simpa using h8
       ·cases h
      ·cases h
     ·cases h
   |strct cs=>
     simp only[frz,zBa]at h;obtain⟨us,hus,rfl⟩:=h;simp only[rep]at hr⊢;obtain⟨arr,rfl,h2,h3⟩:=hr;exact⟨arr,rfl,Aq (fun v u c h1 h2=>Gz H hp hM F X hX v u c h1 h2) hus h2,h3⟩
   |int k n=>simp only[frz,zAb]at h;subst h;exact aw (X:=X) hM (fun _ _ h=>h) _ _ hr |> fun h=>by simpa only[rep]using h
   |bool b=>simp only[frz,zAb]at h;subst h;simpa only[rep]using hr
   |str s=>simp only[frz,zAb]at h;subst h;simpa only[rep]using hr
   |nil sz=>
     simp only[frz,zAb]at h;subst h;simp only[rep]at hr⊢;exact⟨none,0,hr.1,by simp,by simp,hr.2,.inl trivial⟩
   |seq sz l=>simp only[frz,zAb]at h;subst h;exact aw hM (X:=NX) (fun _ _ h=>h) _ _ (by simpa only[rep]using hr)
   |nilptr=>simp only[frz,zAb]at h;subst h;simpa only[rep]using hr
   |niliface=>simp only[frz,zAb]at h;subst h;simpa only[rep]using hr
   |_=>simp[frz]at h
theorem Jx(H:Rel N M0 B w0 κ M σ a w){ms:List Po}(hp:σ.h[0]?=some (some (.pool ms)))(hM:∀p v,M p=some v->ext M w (gp κ [0]) p=some v){F:Nat}{vs us:List V}{cs:List Value}(h:fY (frz ms F) vs=some us)(hr:ae M (XX κ σ.h) vs cs):ae (ext M w (gp κ [0])) NX us cs:=
 Aq (fun v u c h1 h2=>Gz H hp hM F (XX κ σ.h) (fun _ _ h=>h) v u c h1 h2) h hr
theorem fu(H:Rel N M0 B w0 κ M σ a w)(hJC:gw P M0 B){d:Option Nat}(hd:∀t,d=some t->t<N/\t ∉ B.ps){f:FuncId}{vs:List V}{K:St->Prop}(hW:dL (Cn P) d f vs K σ)
 {cs:Array Value} (hcs:ae M (XX κ σ.h) vs cs.toList) {Nx:Act->World->Prop} (hK:∀κ' M' σ' a' w',K σ'->Rel N M0 B w0 κ' M' σ' a' w'->Nx a' w') {Q:Exit->Act->World->Prop} (o:Oper) (ho:o.dst=d):
 o.upon P a Nx Q ((callFunc f cs).run P w):=
 match hW with
 | .inl h=>uN H hJC hd h hcs hK o ho
 | .inr (.inl h)=>GW H hJC hd h hcs hK o ho
 | .inr (.inr (.inr h))=>w7 H hJC hd h hcs hK o ho
 | .inr (.inr (.inl ⟨r,⟨F,ms,us,hp,hus,hr⟩,hk⟩))=>by
   subst ho;have hp':=bJ hp;obtain⟨_,hM1⟩:=H.kill [0] (fun id hid=>by simp at hid;subst hid;exact⟨_,hp'⟩)
   exact v7 H hd hr (aD (fun p v h=>by unfold ext at h;split at h;exact h;exact H.snd p v h) (fun _ _ h=>h) _ _ (Jx H hp' hM1 hus hcs)) fun _ _ _ _ h=>hK _ _ _ _ _ (hk h)
theorem Pr(hJC:gw P M0 B)(H:Rel N M0 B w0 κ M σ a w){ty:TypeId}{op:Op}{act:Act'}(hl:LE P ty op act)(hny:∀g xs,act≠.yld g xs){d:Option Nat}(hd:∀t,d=some t->t<N/\t ∉ B.ps){K:St->Prop}(hW:af (Cn P) d act K σ)
 {Nx:Act->World->Prop} (hK:∀κ' M' σ' a' w',K σ'->Rel N M0 B w0 κ' M' σ' a' w'->Nx a' w') {Q:Exit->Act->World->Prop} (o:Oper) (ho:o.op=op) (hty:o.type=ty) (hod:o.dst=d):o.wp P a w Nx Q:=by
 unfold Oper.wp execOp;subst hod;cases hl<;>rw[ho]<;>dsimp only
 case alloc e i z v hi hz hv hnt=>
  simp only[af]at hW;have hr:=ko hv (M:=M) (X:=NX);have hk:=aX hr lh (eA hnt)
  have ho':aE (upd κ σ.h.length (.pointer (some ⟨w.heap.size,0,none⟩))) M (XX (upd κ σ.h.length (.pointer (some ⟨w.heap.size,0,none⟩))) (σ.h++[some (Ob.box (cl v))])) B (w.alloc (.cells z.cells e)) σ.h.length (.box (cl v)):=by
   simp only[aE];refine⟨w.heap.size,z.cells,e,cu,.inl (by rw[H.base];exact H.blw.size),heap_alloc_new w _,aD (fun _ _ h=>h) (fun _ _ h=>h.elim) _ _ hk.1,hk.2,fun g=>by rw[aJ];simp only[blk,zAb];exact eq_comm⟩
  have H':=H.newOb (ba w _) (kv:=.pointer (some ⟨w.heap.size,0,none⟩)) (fun g hg=>by cases hg;exact zAc _) ho'
  have hfin:=hK _ _ _ _ _ hW (H'.put' (c:=.pointer (some ⟨w.heap.size,0,none⟩)) hd (by
   simp only[rep,XX];exact⟨rfl,by simp,fun cs _=>⟨w.heap.size,cu,rfl⟩⟩))
  simp[Instr.alloc,zeroValue,typeInfo,hi,hz,newVar,newRow,Oper.upon];exact hfin
 case alq e i z v hi hz hv hnt=>
  simp only[af]at hW;split at hW
  ·rename_i ms z' hms hz'
   have hp:=bJ hms;have hr:=ko hv (M:=M) (X:=XX κ σ.h);have hk:=aX hr gU (eA hnt);have hlow:ae M (PX (XX κ σ.h)) z' z.cells.toList:=dZ (vh (κ:=κ) (h:=σ.h)) H.sub.fmS _ _ _ hz' hk.1
   obtain⟨κ',e2,H',hX⟩:=H.addMem (m':=.bx 0 z') hp (kv:=.pointer (some ⟨w.heap.size,0,none⟩)) (ba w (.cells z.cells e)) (fun g hg=>by cases hg;exact zAc _) (fun κ' X er hX=>by
    simp only[fc];exact⟨w.heap.size,z.cells,e,er,heap_alloc_new w _,aD (fun _ _ h=>h) hX _ _ hlow,hk.2,.inl trivial⟩)
   have hget:(ms++[Po.bx 0 z'])[ms.length]?=some (.bx 0 z'):=by simp
   have hfin:=hK _ _ _ _ _ hW (H'.put' hd (c:=.pointer (some ⟨w.heap.size,0,none⟩)) (kG (dx hp) rfl (by
    simp only[qAt,hget,e2];exact fun _=>⟨_,rfl,rfl⟩)))
   simp[Instr.alloc,zeroValue,typeInfo,hi,hz,newVar,newRow,Oper.upon];exact hfin
  ·exact hW.elim
 case mkq t l l' e i z v v1 n by' ht hi hz hv hnt hpv hs hby hb0 hn hl' hzs=>
  simp only[af]at hW;split at hW
  ·rename_i k m ms v' hm hms hlow0
   obtain⟨hm0,hmb,hW⟩:=hW;have hp:=bJ hms;obtain⟨em,_⟩:=aZ (H.op hl' hm);obtain⟨q,rfl⟩:=zEb hm0
   have hqb:q*by'<=140737488355328:=by
    have:((q*by':Nat):Int)<=140737488355328:=by rw[zDd];exact hmb
    omega
   have hq:q<=q*by':=zCd _ hb0
   have hqb':(by':Int)*(q:Int)<=281474976710656:=by
    have:((by'*q:Nat):Int)<=281474976710656:=by rw[zHe];omega
    rwa[zDd]at this
   have hrun:=run_make (P:=P) w t e i z ht hi hz k k (q:Int) (q:Int) hm0 (zIb _) (by rw[hby];exact hqb') (by omega)
   simp only[zFi]at hrun hW;have hr:rep M NX v1 z:=E4 (ko hv) hpv;have hrp:rep M (PX (XX κ σ.h)) v' z:=E3 (vh (κ:=κ) (h:=σ.h)) H.sub.fmS _ _ _ hlow0 (aB hr);have hk:=aX hr lh (eA (Rp hpv hnt))
   obtain⟨κ',e2,H',hX⟩:=H.addMem (m':=.rw e n (zBd q v')) hp (kv:=.slice (some ⟨w.heap.size,0,none⟩) q q) (ba w (.cells (madeCells z.cells (q*i.size)) e)) (fun g hg=>by cases hg;exact zAc _) (fun κ' X er hX=>by
    simp only[fc];refine⟨hn,by simp;omega,(madeCells z.cells (q*i.size)).toList,?_,?_⟩
    ·rw[er]
     have hsz:=size_madeCells z.cells (q*n);rw[hs];refine⟨by simp[hsz],.inr ⟨w.heap.size,q,_,by simp,zDb _,heap_alloc_new w _,by simp,by simp only[maxLen];omega,hsz,?_⟩⟩
     rw[zAg (by simp[hsz])]
    ·rw[hs,<-hzs,oT _ _ (by omega)]
     exact kH (aw (fun _ _ h=>h) hX _ _ hrp) rfl hk.2 q)
   have hget:(ms++[Po.rw e n (zBd q v')])[ms.length]?=some (.rw e n (zBd q v')):=by simp
   have hfin:=hK _ _ _ _ _ hW (H'.put' hd (c:=.slice (some ⟨w.heap.size,0,none⟩) q q) (kG (dx hp) rfl (by
    simp only[qAt,hget,e2];exact⟨fun _=>⟨by simp,fun _=>trivial⟩,fun h=>by simp at h⟩)))
   simp[em,hrun,Oper.upon];exact hfin
  ·exact hW.elim
 case apz t x y y' e i z n by' s0 ht hi hz hs hby hb0 hzs hn hx hy=>
  simp only[af]at hW;split at hW
  ·rename_i v hv
   split at hW
   ·rename_i sz l hl
    obtain⟨rfl,hb,hW⟩:=hW;have hrx:=H.op hx (σ:=σ) (v:=.nil s0) rfl;simp only[rep]at hrx;obtain⟨ad,cap,hcy,hll,_,hrow⟩:=yd H (H.op hy hv) hl;obtain⟨c,w1,hr,hfin⟩:=PH (P:=P) (ty:=o.type) H ht hi hz hs hby hb0 hzs hn hcy hll hrow hb (d:=o.dst) hd (K:=K) hW hK;simp[resolve,invoke,builtin,hrx.1,hr,Oper.upon];exact hfin
   ·exact hW.elim
  ·exact hW.elim
 case sbq s d x y e hx hs hd' he=>
  simp only[af]at hW;split at hW
  ·rename_i l ms hv hms
   obtain⟨⟨hne,hlen⟩,hW⟩:=hW;have hp:=bJ hms;obtain⟨bs,hc,rfl,_⟩:=jp (H.op hx hv);have hrun:=run_bytes_of_string (P:=P) w s d e bs hs hd' he;have hcap:=grownCap_ge w bs.size 0 e;have hcm:grownCap w bs.size 0 e<=maxLen:=grownCap_le_maxLen w bs.size 0 e (by have:=fI bs;simp only[maxLen];omega)
   generalize grownCap w bs.size 0 e=cap at *;have hbel:Below w.heap.size w (w.drew.alloc (.cells (bytesRow bs cap) e ((bytesRow bs cap).size,(bytesRow bs cap).size+1))):=((Below.refl _ w).drew).alloc (zAc _) _;have hbl:bs.data.toList.length=bs.size:=(fI bs).symm
   obtain⟨κ',e2,H',hX⟩:=H.addMem (m':=.byt 0 bs.data.toList) hp (kv:=.slice (some ⟨w.heap.size,0,none⟩) bs.size cap) hbel (fun g hg=>by cases hg;exact zAc _) (fun κ' X er hX=>by
    simp only[fc];refine⟨hlen,.inr ⟨hne,w.heap.size,cap,_,e,_,by rw[er,hbl],heap_alloc_new w.drew _,.inl trivial,fun o ho=>by simp only;omega,by rw[hbl];exact hcap,hcm,?_,?_⟩⟩
    ·unfold bytesRow
     simp;have:=fI bs;simp at this;omega
    ·unfold bytesRow
     simp)
   have hget:(ms++[Po.byt 0 bs.data.toList])[ms.length]?=some (.byt 0 bs.data.toList):=by simp
   have hfin:=hK _ _ _ _ _ hW (H'.put' hd (c:=.slice (some ⟨w.heap.size,0,none⟩) bs.size cap) (kG (dx hp) rfl (by
    simp only[qAt,hget,e2,hbl];exact⟨fun _=>⟨zAc _,fun _=>trivial⟩,fun h=>by simp at h⟩)))
   simp[hc,hrun,Oper.upon];exact hfin
  ·exact hW.elim
 case aps t u x y x' y' e i ht hu hi hz hs hby hx hy=>
  simp only[af]at hW;split at hW
  ·rename_i k j n i0 o0 l hx' hy'
   obtain⟨bs,hc,rfl,_⟩:=jp (H.op hy hy');obtain⟨c,w1,hr,hfin⟩:=EG (P:=P) (ty:=o.type) (t:=t) (u:=u) (cy:=.string bs) H (H.op hx hx') hd hW hK (fun hl=>Uz ht hu hi hz hs hby hl);simp[resolve,invoke,builtin,hc,hr,Oper.upon];exact hfin
  ·exact hW.elim
 case apb t x y x' y' e i z ht hi hz hs hby hzs hx hy=>
  simp only[af]at hW;split at hW
  ·rename_i k j n i0 o0 v hx' hy'
   split at hW
   ·rename_i s1 hsrc
    obtain⟨c,w1,hr,hfin⟩:=EG (P:=P) (ty:=o.type) (t:=t) (u:=t) (cy:=a.eval y) H (H.op hx hx') hd hW hK (fun hl=>UR H ht hi hz hs hby hzs (H.op hy hy') hsrc hl);simp[resolve,invoke,builtin,hr,Oper.upon];exact hfin
   ·exact hW.elim
  ·exact hW.elim
 case alb e i z v q hi hz hv hnt=>
  simp only[af]at hW;split at hW
  ·rename_i ms hms
   obtain⟨hzv,hW⟩:=hW;have hp:=bJ hms;have hr:=ko hv (M:=M) (X:=XX κ σ.h);have hk:=aX hr gU (eA hnt);rw[hzv]at hk
   have hkz:z.cells.toList=[.pointer none,.slice none 0 0]:=by
    have h:=hk.1;simp only[ae,rep]at h;obtain⟨c,cs',h1,h2,c2,cs2,h3,h4,h5⟩:=h;rw[h1,h3,h5,h2,h4.1]
   obtain⟨κ1,e1,H1,hX1⟩:=H.addMem (m':=.byt q []) hp (kv:=.slice none 0 0) (Below.refl _ w) (fun g hg=>by cases hg) (fun κ' X er hX=>by
    simp only[fc];exact⟨by simp,.inl ⟨trivial,er⟩⟩)
   have hp1:=dx (σ:=σ) (ms':=ms++[Po.byt q []]) hp;have hg1:(ms++[Po.byt q []])[ms.length]?=some (.byt q []):=by simp
   obtain⟨κ',e2,H',hX⟩:=H1.addMem (m':=.bx e [.nilptr,.q 1 ms.length 0 0 0]) hp1 (kv:=.pointer (some ⟨w.heap.size,0,none⟩)) (ba w (.cells z.cells e)) (fun g hg=>by cases hg;exact zAc _) (fun κ' X er hX=>by
    simp only[fc];refine⟨w.heap.size,z.cells,e,er,heap_alloc_new w _,?_,hk.2,.inr rfl⟩;rw[hkz];simp only[ae,rep];refine⟨_,_,rfl,rfl,_,_,rfl,hX _ _ ?_,rfl⟩
    have:=kG (M:=M) (κ:=κ1) hp1 (k:=1) (j:=ms.length) (n:=0) (i:=0) (off:=0) (c:=.slice none 0 0) rfl (by
     simp only[qAt,hg1,e1];exact⟨fun _=>⟨zAc _,fun _=>trivial⟩,fun h=>by simp at h⟩)
    simpa only[rep,PX]using this)
   have hlen:(ms++[Po.byt q []]).length=ms.length+1:=by simp
   have hms2:(ms++[Po.byt q []])++[Po.bx e [.nilptr,.q 1 ms.length 0 0 0]]=ms++[Po.byt q [],Po.bx e [.nilptr,.q 1 ms.length 0 0 0]]:=by simp
   have hst:(σ.setP (ms++[Po.byt q []])).setP ((ms++[Po.byt q []])++[Po.bx e [.nilptr,.q 1 ms.length 0 0 0]])=σ.setP (ms++[Po.byt q [],Po.bx e [.nilptr,.q 1 ms.length 0 0 0]]):=by
    rw[hms2];simp[St.setP]
   rw[hst]at H'
   have hget:(ms++[Po.byt q [],Po.bx e [.nilptr,.q 1 ms.length 0 0 0]])[ms.length+1]?=some (.bx e [.nilptr,.q 1 ms.length 0 0 0]):=by
    rw[zBc (by omega)];simp
   rw[hlen]at e2
   have hfin:=hK _ _ _ _ _ hW (H'.put' hd (c:=.pointer (some ⟨w.heap.size,0,none⟩)) (kG (dx hp) rfl (by
    simp only[qAt,hget,e2];exact fun _=>⟨_,rfl,rfl⟩)))
   simp[Instr.alloc,zeroValue,typeInfo,hi,hz,newVar,newRow,Oper.upon];exact hfin
  ·exact hW.elim
 case usd t x x' e hx ht=>
  simp only[af]at hW;split at hW
  ·rename_i k j n i0 o0 ms hx' hms
   split at hW
   ·rename_i e0 s0 hj
    obtain⟨rfl,rfl,hW⟩:=hW;have hp:=bJ hms;have hr:=H.op hx hx';simp only[rep,XX]at hr;have hq:=hr.2.2 ms hp;simp only[qAt,hj]at hq;have hck:=(hq.1 trivial).2 trivial;rcases((H.heap 0 _ hp).2.1 j _ hj).2 with⟨rfl,h1⟩|⟨hne,g,cap,cur,T,fz,h1,h2,h3,h4,h5,h6,h7,h8⟩
    ·have hrun:(Builtin.unsafeSliceData_ #[t] o.type #[a.eval x]).run P w=.ok (.pointer none) w:=by rw[hck,h1];rfl
     have hfin:=hK _ _ _ _ _ hW (H.put' hd (c:=.pointer none) (by simp[rep]))
     simp[resolve,invoke,builtin,hrun,Oper.upon];exact hfin
    ·have hl:=zEa.2 hne
     have hrun:(Builtin.unsafeSliceData_ #[t] o.type #[a.eval x]).run P w=.ok (.pointer (some ⟨g,0,none⟩)) w:=by
      rw[hck,h1];exact Lib.run_unsafeSliceData_row _ _ _ _ _ _ (by omega)
     rw[if_neg hne]at hW
     have hfin:=hK _ _ _ _ _ hW (H.put' hd (c:=.pointer (some ⟨g,0,none⟩)) (kG hp rfl (by
      simp only[qAt,hj];exact⟨fun h=>by simp at h,fun _=>⟨zAc _,fun _ _=>⟨g,cap,h1,rfl⟩⟩⟩)))
     simp[resolve,invoke,builtin,hrun,Oper.upon];exact hfin
   ·exact hW.elim
  ·exact hW.elim
 case ust pt it p n p' n' e hpt hce hx hy=>
  simp only[af]at hW;split at hW
  ·rename_i m hp' hn'
   obtain⟨rfl,hW⟩:=hW;have hr:=H.op hx hp';simp only[rep]at hr;obtain⟨en,_⟩:=aZ (H.op hy hn')
   have hrun:(Builtin.unsafeString_ #[pt,it] o.type #[a.eval p,a.eval n]).run P w=.ok (.string .empty) w:=by
    rw[hr,en];exact Lib.run_unsafeString_none _ _ _ _ _
   have hfin:=hK _ _ _ _ _ hW (H.put' hd (c:=.string .empty) (by simp only[rep];exact⟨_,rfl,rfl,by simp⟩))
   simp[resolve,invoke,builtin,hrun,Oper.upon];exact hfin
  ·rename_i k j m i0 o0 q hp' hn'
   split at hW
   ·rename_i ms hms
    split at hW
    ·rename_i e0 s0 hj
     obtain⟨rfl,rfl,rfl,hez,rfl,rfl,rfl,hne,hW⟩:=hW;have hp:=bJ hms;have hr:=H.op hx hp';simp only[rep,XX]at hr;have hq:=hr.2.2 ms hp;simp only[qAt,hj]at hq;have hl:=zEa.2 hne;obtain⟨b,cap0,hb1,hb2⟩:=(hq.2 trivial).2 trivial hl;obtain⟨en,_⟩:=aZ (H.op hy hn');obtain⟨_,hpo,hdis,hown,hbl,_⟩:=H.heap 0 _ hp;rcases(hpo j _ hj).2 with⟨h0,_⟩|⟨_,g,cap,cur,T,fz,h1,h2,h3,h4,h5,h6,h7,h8⟩
     ·exact(hne h0).elim
     ·rw[h1]at hb1
      simp only[Value.slice.injEq,zAb,Addr.mk.injEq,and_true]at hb1;obtain⟨rfl,_,_⟩:=hb1;have hT:T=e0:=h3.resolve_left hez;subst hT;have hll:s0.length<=140737488355328:=(hpo j _ hj).1
      have hrun:(Builtin.unsafeString_ #[pt,it] o.type #[a.eval p,a.eval n]).run P w=.ok (.string ⟨s0.toArray⟩) (w.freeze ⟨g,0,none⟩ s0.length):=by
       rw[hb2,en];refine Lib.run_unsafeString_row w pt it o.type T hpt hce g cur.size (by simp[World.shape?,h2]) s0 hne (by omega) (by omega) fun q x hx=>?_
       rw[Addr.add_lit,cell_of_row w g _ cur T fz h2];have h9:(cur.toList.take s0.length)[q]?=some (Value.int .u8 x.toNat):=by rw[h8];simp[hx]
       have hlt:=(zAa.1 hx).1;rw[zBb,if_pos hlt]at h9;simpa using h9
      have hgb:κ.bl 0 g:=(hbl g).2 ⟨j,_,hj,rfl,by rw[h1];rfl⟩
      obtain⟨fz',hfz⟩:∃fz',(w.freeze ⟨g,0,none⟩ s0.length).heap[g]?=some (.cells cur T fz'):=by
       obtain⟨lo,hi⟩:=fz;have hlt:g<w.heap.size:=(zBh.1 h2).1;have hl0:s0.length≠0:=by omega
       unfold World.freeze;rw[if_neg hl0];have hge:w.heap[g]=.cells cur T (lo,hi):=(zBh.1 h2).2;simp only[zEg];simp only[h2];exact⟨_,rfl⟩
      have hoth:∀k,k≠g->(w.freeze ⟨g,0,none⟩ s0.length).heap[k]?=w.heap[k]?:=fun k hk=>by
       unfold World.freeze;split
       ·rfl
       ·simp only[zEg]
        rw[if_neg (fun e=>hk e.symm)]
      have hsz:(w.freeze ⟨g,0,none⟩ s0.length).heap.size=w.heap.size:=by
       unfold World.freeze;split<;>simp
      obtain⟨κ',e2,H',hX⟩:=H.setMem (m':=.no) hp hj rfl (kv:=κ.row 0 j) (w':=w.freeze ⟨g,0,none⟩ s0.length) ⟨by unfold World.freeze;split<;>rfl,by unfold World.freeze;split<;>rfl,by unfold World.freeze;split<;>rfl,by rw[hsz];exact zAc _,fun k hk hs=>hoth k (fun e=>by subst e;rcases hown k hgb with h|h;omega;exact hs h),fun k cur1 T1 z hc=>by
       by_cases hk:k=g
       ·subst hk
        rw[h2]at hc;cases hc;exact⟨cur,T,fz',hfz,rfl⟩
       ·exact⟨cur1,T1,z,by rw[hoth k hk];exact hc,rfl⟩⟩ (fun k _ hne=>hoth k (fun e=>hne (by rw[h1,e];rfl))) (fun g hg=>.inl hg) (fun κ' er k n i off c hq=>by
       have hlt:j<ms.length:=(zAa.1 hj).1;have hget:(ms.set j .no)[j]?=some .no:=by simp[hlt]
       simp only[qAt,hget]) (fun κ' X er hX=>trivial)
      have hfin:=hK _ _ _ _ _ hW (H'.put' hd (c:=.string ⟨s0.toArray⟩) (by simp only[rep];exact⟨_,rfl,rfl,by omega⟩))
      simp[resolve,invoke,builtin,hrun,Oper.upon];exact hfin
    ·exact hW.elim
   ·exact hW.elim
  ·exact hW.elim
 case del t K E x k u b kt ht hk hx hkk=>
  simp only[af]at hW;split at hW
  ·rename_i id n kv h1 h2
   split at hW
   ·rename_i kt' l hm
    obtain⟨rfl,hf,hW⟩:=hW;have hmp:=vD hm;have r1:=H.op hx h1;simp only[rep,XX]at r1;have ex:=r1.2.2.2.2 _ hmp rfl;obtain⟨w',hrun,κ',H'⟩:=Ps (P:=P) (ty:=o.type) H ht hk hmp hf (H.op hkk h2);have hfin:=hK _ _ _ _ _ hW (H'.undef hd);simp[resolve,invoke,builtin,ex,hrun,Oper.upon];exact hfin
   ·exact hW.elim
  ·exact hW.elim
 case box e x y hx=>
  simp only[af]at hW;split at hW
  ·rename_i v hv
   split at hW
   ·rename_i hnt
    have hr:=H.op hx hv;have hk:=aX hr gU (eA hnt);have hX:∀u c,XX κ σ.h u c->XX (upd κ σ.h.length (.pointer (some ⟨w.heap.size,0,none⟩))) (σ.h++[some (Ob.box (cl v))]) u c:=fun u c hx=>Kg hx (by simp) (fun i hi=>QA (by omega)) (fun i hi=>(bz (by omega)).2.1) (fun i ob' hi h=>by rwa[zAh hi]at h)
    have ho':aE (upd κ σ.h.length (.pointer (some ⟨w.heap.size,0,none⟩))) M (XX (upd κ σ.h.length (.pointer (some ⟨w.heap.size,0,none⟩))) (σ.h++[some (Ob.box (cl v))])) B (w.alloc (.cells (a.eval x).cells e)) σ.h.length (.box (cl v)):=by
     simp only[aE];exact⟨w.heap.size,(a.eval x).cells,e,cu,.inl (by rw[H.base];exact H.blw.size),heap_alloc_new w _,aD (fun _ _ h=>h) hX _ _ hk.1,hk.2,fun g=>by rw[aJ];simp only[blk,zAb];exact eq_comm⟩
    have H':=H.newOb (ba w _) (kv:=.pointer (some ⟨w.heap.size,0,none⟩)) (fun g hg=>by cases hg;exact zAc _) ho'
    have hfin:=hK _ _ _ _ _ hW (H'.put' (c:=.pointer (some ⟨w.heap.size,0,none⟩)) hd (by
     simp only[rep,XX];exact⟨rfl,by simp,fun cs _=>⟨w.heap.size,cu,rfl⟩⟩))
    simp[Instr.box,newVar,newRow,Oper.upon];exact hfin
   ·exact hW.elim
  ·exact hW.elim
 case cvb s e x y hx hs he=>
  simp only[af]at hW;split at hW
  ·rename_i id n hv
   split at hW
   ·rename_i e' sz l hal
    obtain⟨rfl,hn,hne,hW⟩:=hW;have ha:=dT hal;simp only at ha;have hr0:=H.op hx hv;have hr:=hr0;have hpur:pur σ.h (.ref id n)=some (.seq 1 l):=by simp only[pur,pur1,ha];rw[if_pos hn]
    simp only[rep,XX]at hr;have hck:=(hr.2.2.1 _ _ _ ha).2 hn;obtain⟨h0,hll,xs,ho,hrow,hown,hbl⟩:=H.heap id _ ha;rcases ho.2 with⟨h4,h5⟩|⟨g,cap,cur,h4,h5,h6,h7,h8,h9⟩
    ·exact(hne (zAe h5)).elim
    ·have hbg:κ.bl id g:=(hbl g).2 (by rw[h4];rfl)
     obtain⟨H1,hM1⟩:=H.kill [id] (fun i hi=>by simp at hi;subst hi;exact⟨_,ha⟩)
     have hrs:rep (ext M w (gp κ [id])) NX (.seq 1 l) (a.eval x):=mD H hM1 (fun i hi g' hg p hpb=>by
      unfold ext;rw[if_pos (cf.2 ⟨i,by simpa[aA]using hi,by rw[hpb];exact hg⟩)]) hr0 hpur
     obtain⟨f1,f2,f3⟩:=O6 (k:=cur.size) h6
     have hcell:∀p v,w.cell? p=some v->(w.freeze ⟨g,cur.size,none⟩ 1).cell? p=some v:=fun p v hp=>by
      by_cases e:p.block=g
      ·have e1:w.heap[p.block]?=some (.cells cur e' (0,0)):=by rw[e];exact h6
       have e2:(w.freeze ⟨g,cur.size,none⟩ 1).heap[p.block]?=some (.cells cur e' (cur.size,cur.size+1)):=by rw[e];exact f2
       simp only[World.cell?,e1,e2]at hp⊢;exact hp
      ·have e2:=f1 p.block e
       simp only[World.cell?,e2]at hp⊢;exact hp
     have hU:Und B w (w.freeze ⟨g,cur.size,none⟩ 1):=by
      refine⟨rfl,rfl,rfl,by rw[f3];exact zAc _,fun k hk hS=>f1 k fun e=>?_,fun k c T z hc=>?_⟩
      ·subst e
       rcases hown k hbg with h|h
       ·omega
       ·exact hS h
      ·by_cases e:k=g
       ·subst e
        rw[h6]at hc;cases hc;exact⟨_,_,_,f2,rfl⟩
       ·exact⟨c,T,z,by rw[f1 k e];exact hc,rfl⟩
     have H2:=H1.refr (g:=g) (fun i ob hi hg=>by
      obtain⟨k1,k2⟩:=(oW [id] σ).2.2 i ob hi;have:=H.inj i id _ _ g k1 ha hg hbg;exact k2 (by simp[this])) hU f1 hcell
     have hsh:w.shape? g=some (e',cur.size):=by
      unfold World.shape?;rw[h6]
     have hrun:(convert s s (a.eval x)).run P w=.ok (a.eval x) (w.freeze ⟨g,cur.size,none⟩ 1):=by
      rw[hck,h4];simp[convert,run_underlying hs,run_underlying he,markStringish,hsh]
     have hfin:=hK _ _ _ _ _ hW (H2.put' hd (aB hrs));simp[hrun,Oper.upon];exact hfin
   ·exact hW.elim
  ·exact hW.elim
 case bxq e x y hx=>
  simp only[af,Di]at hW;split at hW
  ·rename_i p hpp
   split at hpp
   ·rename_i v ms hv hms
    split at hpp
    ·rename_i hnt
     split at hpp
     ·rename_i z' hz'
      cases hpp;have hp:=bJ hms;have hr:=H.op hx hv;have hk:=aX hr gU (eA hnt);have hlow:ae M (PX (XX κ σ.h)) z' (a.eval x).cells.toList:=dZ (vh (κ:=κ) (h:=σ.h)) H.sub.fmS _ _ _ hz' hk.1
      obtain⟨κ',e2,H',hX⟩:=H.addMem (m':=.bx 0 z') hp (kv:=.pointer (some ⟨w.heap.size,0,none⟩)) (ba w (.cells (a.eval x).cells e)) (fun g hg=>by cases hg;exact zAc _) (fun κ' X er hX=>by
       simp only[fc];exact⟨w.heap.size,(a.eval x).cells,e,er,heap_alloc_new w _,aD (fun _ _ h=>h) hX _ _ hlow,hk.2,.inl trivial⟩)
      have hget:(ms++[Po.bx 0 z'])[ms.length]?=some (.bx 0 z'):=by simp
      have hfin:=hK _ _ _ _ _ hW (H'.put' hd (c:=.pointer (some ⟨w.heap.size,0,none⟩)) (kG (dx hp) rfl (by
       simp only[qAt,hget,e2];exact fun _=>⟨_,rfl,rfl⟩)))
      simp[Instr.box,newVar,newRow,Oper.upon];exact hfin
     ·cases hpp
    ·cases hpp
   ·cases hpp
  ·exact hW.elim
 case store t p x p' x' n hp hx hs=>
  simp only[af]at hW;split at hW
  ·rename_i pv v hpv hv
   split at hW
   ·rename_i hnt
    split at hW
    ·rename_i σ' hst
     obtain⟨w',hrun,κ',M',H'⟩:=KE H hs (H.op hp hpv) (H.op hx hv) hnt hst;have hfin:=hK _ _ _ _ _ hW (H'.undef hd);simp[hrun,Oper.upon];exact hfin
    ·exact hW.elim
   ·exact hW.elim
  ·exact hW.elim
 case s2b s d x y e hx hs hd' he=>
  simp only[af]at hW;split at hW
  ·rename_i l hv
   obtain⟨hlen,hW⟩:=hW;obtain⟨bs,hc,rfl,_⟩:=jp (H.op hx hv);obtain⟨c,w',hrun,M',H',hr⟩:=N9 H bs hlen hs hd' he;have hfin:=hK _ _ _ _ _ hW (H'.put' hd (aB hr));simp[hc,hrun,Oper.upon];exact hfin
  ·exact hW.elim
 case lit t len parts xs e n i z ht hi hs h0 hz hzs hle hpi hps=>
  simp only[af]at hW;split at hW
  ·rename_i vs hvs
   split at hW
   ·rename_i us hus
    obtain⟨hsl,hul,hW⟩:=hW;obtain⟨c,w',hrun,κ',M',H',hr⟩:=OL H ht hi hs h0 hz hzs hle hpi (H.ops hps hvs) hus hsl hul;have hfin:=hK _ _ _ _ _ hW (H'.put' hd (aB hr));simp[hrun,Oper.upon];exact hfin
   ·exact hW.elim
  ·exact hW.elim
 case ltr t len parts xs e n i z ht hi hs h0 hz hzs hle hpi hps=>
  simp only[af]at hW;split at hW
  ·rename_i vs hvs
   split at hW
   ·rename_i us hus
    obtain⟨hsl,hul,hW⟩:=hW;obtain⟨c,w',hrun,κ',M',H',hr⟩:=OJ H ht hi hs h0 hz hzs hle hpi (H.ops hps hvs) hus hsl hul;have hfin:=hK _ _ _ _ _ hW (H'.put' hd hr);simp[hrun,Oper.upon];exact hfin
   ·obtain⟨c,w',hrun,hfin⟩:=Lf H ht hi hs h0 hz hzs hle hpi (H.ops hps hvs) hd hW hK
    simp[hrun,Oper.upon];exact hfin
  ·exact hW.elim
 case app t x y x' y' e i z n by' ht hi hz hs hby hb0 hzs hn hx hy=>
  obtain⟨c,w1,hr,hfin⟩:=PI (ty:=o.type) H ht hi hz hs hby hb0 hzs hn hx hy hd hW hK;simp[resolve,invoke,builtin,hr,Oper.upon];exact hfin
 case mks t l l' e i z v v' n by' ht hi hz hv hnt hpv hs hby hb0 hn hl' hzs=>
  simp only[af]at hW;split at hW
  ·rename_i k m hm
   obtain⟨hm0,hmb,hW⟩:=hW;obtain⟨c,w',hrun,κ',H',hr⟩:=Oz H ht hi hz hv hnt hpv hs hby hb0 hn hzs hm0 hmb (k:=k);obtain⟨em,_⟩:=aZ (H.op hl' hm);have hfin:=hK _ _ _ _ _ hW (H'.put' hd hr);simp[em,hrun,Oper.upon];exact hfin
  ·exact hW.elim
 case mk0 t k0 l l' e i z n by' ht hi hz hs hby hb0 hn hl'=>
  simp only[af]at hW;split at hW
  ·rename_i k m hm
   obtain⟨hm0,hmb,hW⟩:=hW;obtain⟨c,w',hrun,κ',H',hr⟩:=OC H ht hi hz hs hby hb0 hn hm0 hmb (k:=k) (k':=k0);obtain⟨em,_⟩:=aZ (H.op hl' hm);have hfin:=hK _ _ _ _ _ hW (H'.put' hd hr);have ec:a.eval (.const (.int k0 0))=.int k0 0:=rfl;simp[em,ec,hrun,Oper.upon];exact hfin
  ·exact hW.elim
 case mkm t l l' e i n by' e2 i2 ht hi hz hs hby hb0 ht2 hi2 hs2 hn hl'=>
  simp only[af]at hW;split at hW
  ·rename_i k m hm
   obtain⟨hm0,hmb,hW⟩:=hW;obtain⟨c,w',hrun,κ',H',hr⟩:=OB (e2:=e2) H ht hi hz hs hby hb0 hn hm0 hmb (k:=k);obtain⟨em,_⟩:=aZ (H.op hl' hm);have hfin:=hK _ _ _ _ _ hW (H'.put' hd hr);simp[em,hrun,Oper.upon];exact hfin
  ·exact hW.elim
 case mkp t K E kt ht hk=>
  simp only[af]at hW;obtain⟨c,w',hrun,κ',H',hr⟩:=OA (P:=P) (t:=t) (kt:=kt) H;have hfin:=hK _ _ _ _ _ hW (H'.put' hd hr);simp[hrun,Oper.upon];exact hfin
 case mup t K E x k v u b c kt ht hk hx hkk hvv=>
  simp only[af]at hW;split at hW
  ·rename_i id n kv u1 h1 h2 h3
   split at hW
   ·rename_i kt' l u' hm hp
    obtain⟨rfl,hf,hvi,hnt,hW⟩:=hW;have hmp:=vD hm;have r1:=H.op hx h1;simp only[rep,XX]at r1;have ex:=r1.2.2.2.2 _ hmp rfl;have hd':=mD H (fun _ _ h=>h) (fun id hid=>by rw[hvi]at hid;cases hid) (H.op hvv h3) hp
    obtain⟨w',hrun,κ',H'⟩:=DY (P:=P) H ht hk hmp hf (H.op hkk h2) hd';have hfin:=hK _ _ _ _ _ hW (H'.undef hd);simp[ex,hrun,Oper.upon];exact hfin
   ·exact hW.elim
  ·exact hW.elim
 case mui t K E x k v u b c kt ht hk hx hkk hvv=>
  simp only[af]at hW;split at hW
  ·rename_i id n kv u1 h1 h2 h3
   split at hW
   ·rename_i kt' l u' hm hp
    obtain⟨rfl,hf,hvi,hnt,hW⟩:=hW;have hmp:=vD hm;have r1:=H.op hx h1;simp only[rep,XX]at r1;have ex:=r1.2.2.2.2 _ hmp rfl;have hd':=mD H (fun _ _ h=>h) (fun id hid=>by rw[hvi]at hid;cases hid) (H.op hvv h3) hp
    obtain⟨w',hrun,κ',H'⟩:=DY (P:=P) H ht hk hmp hf (H.op hkk h2) hd';have hfin:=hK _ _ _ _ _ hW (H'.undef hd);simp[ex,hrun,Oper.upon];exact hfin
   ·exact hW.elim
  ·exact hW.elim
 case call f args ts xs hx=>
  simp only[af]at hW;split at hW
  ·rename_i vs hvs
   split at hW
   ·rename_i us hus
    have hcs:=H.ops hx hvs;have:=m4 H hd hW hus (cs:=args.map a.eval) (by simpa using hcs) hK (Q:=Q) o rfl
    simpa[resolve,Deferred.ofValue,invoke,Act.eval]using this
   ·have:=fu H hJC hd hW (cs:=args.map a.eval) (by simpa using H.ops hx hvs) hK (Q:=Q) o rfl
    simpa[resolve,Deferred.ofValue,invoke,Act.eval]using this
  ·exact hW.elim
 case inv r x name args ts xs tbl hx ht hxs=>
  simp only[af]at hW;split at hW
  ·rename_i t v vs he hvs
   split at hW
   ·rename_i f hf
    subst ht;have hr:=H.op hx he;simp only[rep]at hr;obtain⟨y,ey,hy⟩:=hr
    have hcs:ae M (XX κ σ.h) (v::vs) (#[y]++args.map a.eval).toList:=by
     have:=H.ops hxs hvs;simp only[zFa,zHb,zFb,ae];exact⟨y,_,rfl,hy,by simpa using this⟩
    have hrun:((do let d <-resolve a.eval { callee:=.invoke r name,args:=args,argTypes:=ts } o.type;invoke d.target d.args:Sem Next)).run P w=(callFunc f (#[y]++args.map a.eval)).run P w:=by
     have e0:∀l:Array Value,(#[Value.iface t y]++l)[0]?=some (.iface t y):=fun l=>by simp[zId]
     have e1:(args.map a.eval).extract 0 args.size=args.map a.eval:=by simp
     simp[resolve,invoke,callMethod,ey,Made.depth,KP hf,e0,e1]
    rw[hrun];split at hW
    ·rename_i us hus
     exact m4 H hd hW hus hcs hK (Q:=Q) o rfl
    ·exact fu H hJC hd hW hcs hK (Q:=Q) o rfl
   ·exact hW.elim
  ·exact hW.elim
 case ivp r x name args ts xs tbl hx ht hxs=>
  simp only[af]at hW;split at hW
  ·rename_i f ws hf
   subst ht;unfold St.ivpV at hf;split at hf
   ·rename_i t v vs he hvs
    split at hf
    ·rename_i f' l hl
     split at hf
     ·rename_i u hu
      cases hf;have hr:=H.op hx he;simp only[rep]at hr;obtain⟨y,ey,hy⟩:=hr;obtain⟨y',hmt,hy'⟩:∃y',(method (P.types.size+100) t y name).run P w=.ok (f,y') w/\rep M (XX κ σ.h) u y':=HT H hl (P.types.size+99) hy hu
      have hcs:ae M (XX κ σ.h) (u::vs) (#[y']++args.map a.eval).toList:=by
       have:=H.ops hxs hvs;simp only[zFa,zHb,zFb,ae];exact⟨y',_,rfl,hy',by simpa using this⟩
      have hrun:((do let d <-resolve a.eval { callee:=.invoke r name,args:=args,argTypes:=ts } o.type;invoke d.target d.args:Sem Next)).run P w=(callFunc f (#[y']++args.map a.eval)).run P w:=by
       have e0:∀l:Array Value,(#[Value.iface t y]++l)[0]?=some (.iface t y):=fun l=>by simp[zId]
       have e1:(args.map a.eval).extract 0 args.size=args.map a.eval:=by simp
       simp[resolve,invoke,callMethod,ey,Made.depth,hmt,e0,e1]
      rw[hrun];unfold Vp at hW;split at hW
      ·rename_i us hus
       rcases hW with hW|hW
       ·exact m4 H hd hW hus hcs hK (Q:=Q) o rfl
       ·exact fu H hJC hd hW hcs hK (Q:=Q) o rfl
      ·exact fu H hJC hd hW hcs hK (Q:=Q) o rfl
     ·cases hf
    ·cases hf
   ·cases hf
  ·exact hW.elim
 case trc t x hi u hi' e n hx hh ht hs=>
  simp only[af]at hW;split at hW
  ·rename_i k jj m i0 o0 kk b he hb
   split at hW
   ·rename_i ms hms
    have hp:=bJ hms;split at hW
    ·rename_i e' sz' l hj
     obtain⟨rfl,rfl,rfl,hb0,hbn,hW⟩:=hW;have hr:=H.op hx he;simp only[rep,XX]at hr;have hq:=hr.2.2 ms hp;simp only[qAt,hj]at hq;have hck:=(hq.1 trivial).2 trivial;obtain⟨ei,_⟩:=aZ (H.op hh hb);obtain⟨_,hpo,hdis,hown,hbl,_⟩:=H.heap 0 _ hp;obtain⟨h0,hll,xs,ho,hrow⟩:=hpo jj _ hj
     have hsl:∃(ad:Option Addr)(cap:Nat),κ.row 0 jj=.slice ad l.length cap/\l.length<=cap/\∀q,ad.map (·.add (0*q))=ad:=by
      rcases ho.2 with⟨h4,h5⟩|⟨g,cap,cur,h4,h5,h6,h7,_⟩
      ·exact⟨none,0,by rw[h4,h5],by omega,fun q=>rfl⟩
      ·exact⟨some ⟨g,0,none⟩,cap,h4,h7,fun q=>by simp[Addr.add_lit]⟩
     obtain⟨ad,cap,hκ,hcap,hadd⟩:=hsl
     have b3:(Instr.sliceBounds true l.length cap none (some (.int kk b)) none).run P w=.ok (0,b.toNat,cap) w:=
      mz (p:=0) (q:=b.toNat) (.inr ⟨kk,b,rfl,by omega,by omega,rfl⟩) (.inl ⟨rfl,rfl⟩) w
     obtain⟨κ',e2,H',hX⟩:=H.truncQ hp hj (b:=b.toNat) (by omega) hκ
     have hget:(ms.set jj .no++[Po.rw e' sz' (l.take b.toNat)])[ms.length]?=some (.rw e' sz' (l.take b.toNat)):=by
      rw[zBc (by simp)];simp
     have hfin:=hK _ _ _ _ _ hW (H'.put' hd (c:=.slice ad b.toNat cap) (kG (dx hp) rfl (by
      simp only[qAt,hget,e2];exact⟨fun _=>⟨by simp;omega,fun _=>trivial⟩,fun h=>by simp at h⟩)))
     have hrun:(Instr.sliceAt t (a.eval x) none (some (a.eval hi)) none).run P w=.ok (.slice ad b.toNat cap) w:=by
      rw[hck]at *;simp[Instr.sliceAt,run_underlying ht,Instr.slice,hκ,ei,b3,aM hs];intro hc0;simpa using hadd sz'
     simp only[zJh,zEe];simp[hrun,Oper.upon];exact hfin
    ·exact hW.elim
   ·exact hW.elim
  ·rename_i id m k b he hb
   split at hW
   ·rename_i e' sz' l hal
    obtain⟨rfl,hn,hb0,hbn,hW⟩:=hW;have ha:=dT hal;simp only at ha;have hr:=H.op hx he;simp only[rep,XX]at hr;have hck:=(hr.2.2.1 _ _ _ ha).2 hn;obtain⟨ei,_⟩:=aZ (H.op hh hb);obtain⟨h0,hll,xs,ho,hrow,_⟩:=H.heap id _ ha
    have hsl:∃(ad:Option Addr)(cap:Nat),κ id=.slice ad l.length cap/\l.length<=cap/\∀q,ad.map (·.add (0*q))=ad:=by
     rcases ho.2 with⟨h4,h5⟩|⟨g,cap,cur,h4,h5,h6,h7,_⟩
     ·exact⟨none,0,by rw[h4,h5],by omega,fun q=>rfl⟩
     ·exact⟨some ⟨g,0,none⟩,cap,h4,h7,fun q=>by simp[Addr.add_lit]⟩
    obtain⟨ad,cap,hκ,hcap,hadd⟩:=hsl;obtain⟨κ',H',hk'⟩:=H.trunc ha (b:=b.toNat) (by omega) hκ
    have b3:(Instr.sliceBounds true l.length cap none (some (.int k b)) none).run P w=.ok (0,b.toNat,cap) w:=
     mz (p:=0) (q:=b.toNat) (.inr ⟨k,b,rfl,by omega,by omega,rfl⟩) (.inl ⟨rfl,rfl⟩) w
    have hfin:=hK _ _ _ _ _ hW (H'.put' hd (c:=.slice ad b.toNat cap) (by
     simp only[rep,XX];refine⟨rfl,by simp,fun e2 sz2 l2 h2=>?_,fun e2 sz2 l2 l3 h2=>by simp at h2,fun o2 h2 hn=>by simp at h2;subst h2;cases hn⟩
     simp at h2;obtain⟨rfl,rfl,rfl⟩:=h2;exact⟨by simp;omega,fun _=>hk'.symm⟩))
    have hrun:(Instr.sliceAt t (a.eval x) none (some (a.eval hi)) none).run P w=.ok (.slice ad b.toNat cap) w:=by
     rw[hck]at *;simp[Instr.sliceAt,run_underlying ht,Instr.slice,hκ,ei,b3,aM hs];intro hc0;simpa using hadd sz'
    simp only[zJh,zEe];simp[hrun,Oper.upon];exact hfin
   ·exact hW.elim
  ·exact hW.elim
 case callH f args ts xs hx=>
  simp only[af]at hW;split at hW
  ·rename_i vs hvs
   have:=fu H hJC hd hW (cs:=args.map a.eval) (by simpa using H.ops hx hvs) hK (Q:=Q) o rfl
   simpa[resolve,Deferred.ofValue,invoke,Act.eval]using this
  ·exact hW.elim
 case b2s s d x u e hx hs he hd'=>
  simp only[af]at hW;split at hW
  ·rename_i v hv
   obtain⟨c,hrun,hc⟩:=PG H hx hs he hd' hv;have hfin:=hK _ _ _ _ _ hW (H.put' hd hc);simp[hrun,Oper.upon];exact hfin
  ·exact hW.elim
 case yld g args ts xs hx=>exact(hny _ _ rfl).elim
 case rgs t x u hx ht=>
  simp only[af]at hW;split at hW
  ·rename_i s hv
   obtain⟨bs,hc,rfl,hl⟩:=jp (H.op hx hv);obtain⟨c,w',hrun,κ',H',hr⟩:=Oi (P:=P) H ht hl;have hfin:=hK _ _ _ _ _ hW (H'.put' hd hr);simp[hc,hrun,Oper.upon];exact hfin
  ·exact hW.elim
 case nxs x u hx=>
  simp only[af]at hW;split at hW
  ·rename_i id n hv
   split at hW
   ·rename_i s p hi
    have hid:=Vr hi;have r1:=H.op hx hv;simp only[rep,XX]at r1;have ex:=r1.2.2.2.2 _ hid rfl;obtain⟨h1,h2,h3⟩:=Ow (P:=P) (ty:=o.type) H hid;split at hW
    ·rename_i hp
     obtain⟨w',κ',hrun,H'⟩:=h1 hp;have hdl:(uI s p).1<=2147483647:=decode_le _ _;have hsl:s.length<=4611686018427387904:=h3;have hp':p<s.length:=hp
     have hfin:=hK _ _ _ _ _ hW (H'.put' hd (c:=.tuple #[.bool true,.int .i64 p,.int .i32 (uI s p).1]) (by
      simp only[rep,ae];exact⟨_,rfl,_,_,rfl,rfl,_,_,rfl,⟨rfl,by simp[IntKind.min,IntKind.signed,IntKind.bits]<;>omega,by simp[IntKind.max,IntKind.signed,IntKind.bits]<;>omega⟩,_,_,rfl,⟨rfl,by simp[IntKind.min,IntKind.signed,IntKind.bits]<;>omega,by simp[IntKind.max,IntKind.signed,IntKind.bits]<;>omega⟩,rfl⟩))
     simp[ex,hrun,Oper.upon];exact hfin
    ·rename_i hp
     have hfin:=hK _ _ _ _ _ hW (H.put' hd (c:=.tuple #[.bool false]) (by
      simp only[rep,ae];exact⟨_,rfl,_,_,rfl,rfl,rfl⟩))
     simp[ex,h2 hp,Oper.upon];exact hfin
   ·exact hW.elim
  ·exact hW.elim
 case callv g args ts xs hx=>
  simp only[af]at hW;split at hW
  ·rename_i f x y vs hg hvs
   split at hW
   ·rename_i us hus
    have hcs:=H.ops hx hvs;simp only[St.ev]at hg;have hrg:=H.ev hg;simp only[rep]at hrg;obtain⟨a1,a2,e1,h1,h2⟩:=hrg;have:=m4 H hd hW hus (cs:=a1++args.map a.eval++a2) (by simpa using cQ h1 (cQ hcs h2)) hK (Q:=Q) o rfl
    simpa[resolve,Deferred.ofValue,invoke,e1]using this
   ·have hcs:=H.ops hx hvs
    simp only[St.ev]at hg;have hrg:=H.ev hg;simp only[rep]at hrg;obtain⟨a1,a2,e1,h1,h2⟩:=hrg;have:=fu H hJC hd hW (cs:=a1++args.map a.eval++a2) (by simpa using cQ h1 (cQ hcs h2)) hK (Q:=Q) o rfl
    simpa[resolve,Deferred.ofValue,invoke,e1]using this
  ·exact hW.elim
end
section
variable{P:Program}{N:Nat}{M0:Mem}{B:Bas}{w0:World}{κ:Kap}{M:Mem}{σ:St}{a:Act}{w w':World}
theorem KF{ρ:Option Nat}{m m':Machine}(h:Steps P m m'):StepsIn (Machine.fenced P (FR ρ)) P m m':=stepsIn_wide.2 h
theorem Mj{ρ:Option Nat}{m m':Machine}{e:Ending}(h:Comes P m m' e):ComesIn (Machine.fenced P (FR ρ)) P m m' e:=comesIn_wide.2 h
theorem AY{ρ:Option Nat}{n:Nat}{f:FuncId}{args:Array Value}{R:Ending->World->Prop}(h:Calls P f args w R):CallsIn (FR ρ) n P f args w R:=
 ⟨trivial,fun cs _=>let ⟨e,w',fr,r,s,x⟩:=h cs;⟨e,w',fr,r,Mj s,x⟩⟩
theorem SH{ρ:Option Nat}{n:Nat}{f:FuncId}{args:Array Value}{R:Ending->World->Prop}(h:CallsIn (FR ρ) n P f args w R):Calls P f args w R:=
 h.calls fun _ _ hd=>(by cases hd)
theorem NU{o:Oper}{Nx:Act->World->Prop}{Q:Exit->Act->World->Prop}{ρ:Option Nat}{r:Result Next}(h:o.upon P a Nx Q r):o.uponIn (FR ρ) 0 P a Nx Q r:=by
 cases r with
 |ok x w'=>
   cases x<;>simp only[Oper.upon]at h<;>simp only[Oper.uponIn]<;>first
    |exact h
    |exact h.elim
    |exact⟨fun h=>(by cases h),AY h⟩
    |exact⟨fun h=>(by cases h),fun c cs _=>let ⟨v,w',r,s⟩:=h c cs;⟨v,w',r,KF s⟩⟩
 |halt x w'=>cases x<;>simp only[Oper.upon]at h<;>simp only[Oper.uponIn]<;>exact h
theorem MG{o:Oper}{Nx:Act->World->Prop}{Q:Exit->Act->World->Prop}{ρ:Option Nat}(h:o.wp P a w Nx Q)(hd:∀c,o.op≠.defer c):o.wpIn (FR ρ) 0 P a w Nx Q:=by
 refine⟨fun _ _=>trivial,?_⟩;rw[Oper.semAt_eq _ _ _ hd];exact NU h
theorem Tj{ty:TypeId}{op:Op}{act:Act'}(h:LE P ty op act):∀c,op≠.defer c:=by
 cases h<;>(intro c hc;cases hc)
theorem aac{ty:TypeId}{op:Op}{act:Act'}(h:LV P ty op act):∀c,op≠.defer c:=by
 cases h<;>(intro c hc;cases hc)
theorem Rel.env(H:Rel N M0 B w0 κ M σ a w){id k:Nat}{l l':List (V×Bool)}(hid:σ.h[id]?=some (some (.gh l)))(hk:κ id=.func (.yield k) #[] #[]){S':Nat->Prop}{M':Mem}(E:EnvStep (κ.bl id) w S' M M' w')(hJ:B.J k l' S' M' w'):
 Rel N M0 B w0 (bW κ id (κ id) (κ.row id) S') M' { σ with h:=σ.h.set id (some (.gh l')) } a w':=by
 have hlt:id<σ.h.length:=(zAa.1 hid).1;obtain⟨_,_,_,hown⟩:=H.heap id _ hid;have hu:Und B w w':=⟨E.os,E.tape,E.output,E.size,fun g hg hs=>E.block g (by rw[H.base]at hg;have:=H.blw.size;omega) (fun h=>(hown g h).1.elim (fun h=>by omega) hs),E.siz⟩
 have hX:∀v c,XX κ σ.h v c->XX (bW κ id (κ id) (κ.row id) S') (σ.h.set id (some (.gh l'))) v c:=fun v c hx=>
  gG hid hx (fun _ h=>by cases h) (fun _ _ _ h=>by cases h) (fun _ _ _ _ h=>by cases h) (fun _=>⟨rfl,rfl⟩)
 have hne:∀{i},¬id=i->(bW κ id (κ id) (κ.row id) S').bl i=κ.bl i:=fun hi=>(bz (fun e=>hi e.symm)).2.2;have hse:(bW κ id (κ id) (κ.row id) S').bl id=S':=aJ
 have hoth:∀{i:Nat}{oi:Ob}{g:Nat},¬id=i->σ.h[i]?=some (some oi)->κ.bl i g->¬S' g:=fun{i oi g} hi ho hg hs=>by
  rcases E.sub g hs with h|h
  ·exact hi (H.inj id i _ oi g hid ho h hg)
  ·have:=(H.blk_lt ho hg).2;omega
 refine{ dfr:=H.dfr,jst:=H.jst,pin:=H.pin,size:=H.size,regs:=?_,heap:=?_,inj:=?_,snd:=E.snd,sep:=?_,sub:=⟨fun p v h=>E.mem p v (H.sub.sub p v h),fun p v h=>E.mem p v (H.sub.fmS p v h),H.sub.fmN,H.sub.fbn,H.sub.gl⟩,new:=?_,base:=H.base,blw:=H.blw.trans hu }
 ·intro t v ht
  obtain⟨h1,c,h2,h3⟩:=H.regs t v ht;exact⟨h1,c,h2,aw E.mem hX _ _ h3⟩
 ·intro i ob h
  rw[zAd]at h;split at h
  ·rename_i he
   subst he;simp only[hlt,if_true,zAb]at h;subst h;simp only[aE];rw[be,aJ];exact⟨k,hk,hJ,fun g hg=>⟨(E.sub g hg).elim (fun h=>(hown g h).1) (fun h=>.inl (by rw[H.base];have:=H.blw.size;omega)),E.lt g hg⟩⟩
  ·rename_i he
   refine c9 E.mem hX (bz (fun e=>he e.symm)) (fun g hg=>E.block g (H.blk_lt h hg).2 (fun hs=>he (H.inj id i _ ob g hid h hs hg))) H.jst hu E.snd (H.heap i ob h)
 ·intro i j oi oj g hi hj gi gj
  rw[zAd]at hi hj;split at hi<;>split at hj
  ·rename_i h1 h2;rw[<-h1,<-h2]
  ·rename_i h1 h2
   subst h1;rw[hse]at gi;rw[hne h2]at gj;exact(hoth h2 hj gj gi).elim
  ·rename_i h1 h2
   subst h2;rw[hse]at gj;rw[hne h1]at gi;exact(hoth h1 hi gi gj).elim
  ·rename_i h1 h2
   rw[hne h1]at gi;rw[hne h2]at gj;exact H.inj i j oi oj g hi hj gi gj
 ·intro p v hp i ob' h
  rw[zAd]at h;split at h
  ·rename_i he
   subst he;rw[hse];exact E.sep p v hp
  ·rename_i he
   rw[hne he];intro hg;rcases E.new p v hp with h1|h1|h1
   ·exact H.sep p v h1 i ob' h hg
   ·have:=(H.blk_lt h hg).2;omega
   ·exact he (H.inj id i _ ob' _ hid h h1 hg)
 ·intro p v hp
  rcases E.new p v hp with h1|h1|h1
  ·exact H.new p v h1
  ·exact .inr (.inl (by rw[H.base];have:=H.blw.size;omega))
  ·exact .inr (hown _ h1).1
theorem NF(hJC:gw P M0 B)(H:Rel N M0 B w0 κ M σ a w){g:AO}{xs:List AO}{ty:TypeId}{op:Op}(hl:LE P ty op (.yld g xs)){d:Option Nat}(hd:∀t,d=some t->t<N/\t ∉ B.ps){K:St->Prop}(hW:af (Cn P) d (.yld g xs) K σ)
 {Nx:Act->World->Prop} (hK:∀κ' M' σ' a' w',K σ'->Rel N M0 B w0 κ' M' σ' a' w'->Nx a' w') {Q:Exit->Act->World->Prop} (o:Oper) (ho:o.op=op) (hod:o.dst=d) {ρ:Option Nat}:o.wpIn (FR ρ) 0 P a w Nx Q:=by
 subst hod;refine⟨fun _ _=>trivial,?_⟩;rw[Oper.semAt_eq _ _ _ (by rw[ho];exact Tj hl)]
 unfold execOp;cases hl with
 | @yld g args ts xs hx=>
   rw[ho];dsimp only;simp only[af]at hW;split at hW
   ·rename_i id n vs hg hvs
    split at hW
    ·rename_i v b l us hgh hus
     obtain⟨rfl,hvi,hW⟩:=hW;have hid:=LH hgh;have hcs:=H.ops hx hvs;simp only[St.ev]at hg;have hrg:=H.ev hg;simp only[rep,XX]at hrg;have eg:=hrg.2.2.2.2 _ hid rfl;obtain⟨k,h1,h2,h3⟩:=H.heap id _ hid;rw[h1]at eg;have hpu:=bo H (fun _ _ h=>h) (fun i hi=>by rw[hvi]at hi;cases hi) hcs hus
     have hM:Snd M w:=⟨H.snd,H.sub.gl.mono H.sub.sub⟩;have:=hJC k us b l (κ.bl id) M w (args.map a.eval) h2 hM (fun p v hp=>H.sep p v hp id _ hid) H.new (by simpa using hpu) o a Nx Q ρ (fun M' S' w' hJ E=>hK _ _ _ _ _ hW ((H.env hid h1 E hJ).put' hd (by simp[rep])))
     simpa[resolve,Deferred.ofValue,invoke,eg]using this
    ·exact hW.elim
   ·exact hW.elim
end
end Go.Abs
end
