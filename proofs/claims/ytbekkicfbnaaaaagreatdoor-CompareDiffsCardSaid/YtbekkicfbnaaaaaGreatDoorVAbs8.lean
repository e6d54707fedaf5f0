/- From the model's operations to those of the abstract machine: what holds behind an operation's image holds behind the operation. No condition. -/
import Derived.Test.YtbekkicfbnaaaaaGreatDoorVAbs1
import Derived.Laws.IdiomStrings
import Derived.Laws.RangeAny
import Derived.OrdersIn
import Derived.TacticsIn
import Derived.Deep.LoopGhost
import Derived.ScopeJumps
set_option linter.all false open Iff renaming rfl->zA
open Option renaming map_eq_some_iff->zAa,map_some->zBj
open Option.some renaming injEq->zAb
open List renaming getElem?_eq_some_iff->zAc,getElem?_set->zAe,all_eq_true->zAh,take_of_length_le->zAi,replicate->zAj,length_take->zBb,range->zBf,mem_range->zBh,getElem?_append_left->zC,getElem?_drop->zCc,eq_nil_of_length_eq_zero->zCe,length_drop->zCg,length_map->zCj,getElem?_take->zD,length_append->zDa,getElem?_eq_getElem->zDb,getElem?_replicate->zDe,ext_getElem?->zDf,take_append->zDi,getElem?_eq_none->zDj,getElem?_set_ne->zE,getElem?_append_right->zEa,drop_eq_nil_of_le->zEe,take_take->zEf,mapM_cons->zEg,mem_cons_of_mem->zEh,mem_of_mem_take->zEi,mem_of_mem_drop->zEj,range_eq_range'->zF,mem_append_left->zFa,mem_cons->zFb,getElem_of_mem->zFc,getElem?_map->zFi,length->zG,any_eq_true->zGd,nil_append->zGe,mem_append->zGf,length_set->zGg,append_nil->zGh,map_map->zHa,mem_map->zHc,range'->zHf,take->zHj,drop->zI
open Nat renaming le_refl->zAd,zero_le->zBd,min_eq_left->zBe,le_mul_of_pos_right->zCa,mul_le_mul_right->zCf,add_sub_cancel_left->zDc,strongRecOn->zEc,eq_zero_or_pos->zFd,mul_comm->zFe,lt_or_ge->zFf,lt_of_le_of_lt->zFg,sub_zero->zFh,add_mul->zFj,testBit->zGb,add_zero->zGj,zero_add->zH,mul_pos->zHg,mul_one->zHh
open Array renaming getElem?_eq_some_iff->zAf,length_toList->zB,replicate->zBa,getElem?_append_left->zBc,getElem?_setIfInBounds->zBg,range->zBi,ext'->zCh,toList_map->zGc,map->zIa
open Bool renaming and_eq_true->zAg,false_or->zCi,not_eq_true'->zDg,not_true->zDh,or_eq_true->zEd
open Prod.mk renaming injEq->zCb
open Int renaming natCast_mul->zCd,eq_ofNat_of_zero_le->zDd,toNat_natCast->zEb,le_refl->zGa,ofNat_inj->zGi,ofNat_le->zHd,ofNat_lt->zHe
open Exists renaming intro->zHb
open UInt8 renaming ofNat->zHi open Option renaming some->ś,none->ń open Bool renaming true->ť,false->ğ
section
namespace Go.Abs
open Go.RowKit
section
variable{P:Program}{N:Nat}{M0:Mem}{B:Bas}{w0:World}{κ:Kap}{M:Mem}{σ:St}{a:Act}{w w':World}
theorem rp{id old ob h}(hid:h[id]?=ś (ś old)){kv kr kb v c}(hx:XX κ h v c)
 (hbox:∀cs,ob=.box cs->(∃cs',old=.box cs')/\kv=κ id)
 (harr:∀e sz l,ob=.arr e sz l->∃e' l',old=.arr e' sz l'/\l'.length<=l.length/\(l'.length=l.length->kv=κ id))
 (hmat:∀e e2 sz rows,ob=.mat e e2 sz rows->∃e' e2' rows',old=.mat e' e2' sz rows'/\rows'.length=rows.length/\kv=κ id/\(∀j r,bq rows j=ś r->(∃r',bq rows' j=ś r'/\r'.length<=r.length/\(r'.length=r.length->kr j=κ.row id j))\/∃k,rows'[j]?=ś (.g k)/\k<r.length)/\
   ∀j k,rows[j]?=ś (.g k)->(∃r',bq rows' j=ś r'/\r'.length<=k)\/∃k',rows'[j]?=ś (.g k')/\k'<=k)
 (hmp:ob.nam=ť->old.nam=ť/\kv=κ id:=by intro h;cases h):
 XX (dy κ id kv kr kb) (h.set id (ś ob)) v c:=by
 have hlt:id<h.length:=(zAc.1 hid).1
 have key:∀{i:Nat}{o:Ob},(h.set id (ś ob))[i]?=ś (ś o)->(i=id/\ob=o)\/(i≠id/\h[i]?=ś (ś o)):=by
  grind
 cases v<;>simp only[XX]at hx⊢
 case ref i n=>
  refine⟨hx.1,by simp_all,λe sz l hl=>?_,λe e2 sz l hl=>?_,λo hl hn=>by
   rcases key hl with⟨rfl,ho⟩|⟨he,hl⟩
   ·grind[cm]
   grind[dg]⟩
  ·rcases key hl with⟨rfl,ho⟩|⟨he,hl⟩
   ·grind[cm]
   grind[dg]
  ·rcases key hl with⟨rfl,ho⟩|⟨he,hl⟩
   ·grind[cm]
   grind[dg]
 case ptr i off=>
  refine⟨hx.1,by simp_all,λcs hl=>?_⟩
  rcases key hl with⟨rfl,ho⟩|⟨he,hl⟩
  ·grind[cm]
  grind[dg]
 case eptr i n j off=>
  refine⟨hx.1,by simp_all,λe sz l hl=>?_,λe e2 sz l hl=>?_⟩
  ·rcases key hl with⟨rfl,ho⟩|⟨he,hl⟩
   ·grind[cm]
   grind[dg]
  ·rcases key hl with⟨rfl,ho⟩|⟨he,hl⟩
   ·grind[cm]
   grind[dg]
 case fseq sz l=>exact hx
 case mref i j n=>
  refine⟨hx.1,by simp_all,λe e2 sz l hl=>?_⟩
  rcases key hl with⟨rfl,ho⟩|⟨he,hl⟩
  ·grind[rz]
  simp_all[dg]
 case mptr i j n k off=>
  refine⟨hx.1,by simp_all,λe e2 sz l hl=>?_⟩
  rcases key hl with⟨rfl,ho⟩|⟨he,hl⟩
  ·grind[rz]
  simp_all[dg]
theorem nQ{g}(hg:B.own g)(cs)(hsz:∀cur T z,w.heap[g]?=ś (.cells cur T z)->cs.size=cur.size):Und B w (w.setRow g cs):=
 ⟨rfl,rfl,rfl,by simp,λk hk hs=>setRow_other w g k cs (λe=>by subst e;rcases hg with h|h;omega;exact hs h),λk cur T z hc=>by
   by_cases hk:k=g
   ·subst hk
    exact⟨cs,T,z,setRow_heap w k cur cs T z hc,hsz cur T z hc⟩
   simp_all[setRow_other]⟩
theorem Wv{n row}(hg:w.grownBy w' row)(hr:∀g,row=ś g->n<=g)(hB:n<=w.heap.size):Below n w w':=
 ⟨hg.os,hg.tape,hg.output,hg.size,λk hk=>hg.block k (by omega) (λe=>by grind)⟩
theorem vw{e sz n n' b:Nat}{v row xs ys}(h1:w.ownsRow 0 e sz v n xs)(h2:(w.setRow b row).ownsRow 0 e sz v n' ys)(hb:blk v=ś b)(cur)(T)(z)(hc:w.heap[b]?=ś (Obj.cells cur T z)):row.size=cur.size:=by
 rcases h1.2 with⟨h3,_⟩|⟨g,cap,cur1,h3,_,h4,_,_,h5,_⟩
 ·rw[h3]at hb;cases hb
 ·rcases h2.2 with⟨h6,_⟩|⟨g',cap',cur2,h6,_,h7,_,_,h8,_⟩
  ·simp_all
  ·rw[h3]at hb h6
   simp only[blk,zAb]at hb;subst hb;simp only[Value.slice.injEq,zAb,Addr.mk.injEq,and_true]at h6;obtain⟨rfl,_,rfl⟩:=h6;rw[hc]at h4;simp only[zAb,Obj.cells.injEq]at h4;obtain⟨rfl,_,_⟩:=h4;rw[setRow_heap w g cur row T z hc]at h7;simp_all
theorem acN{row}(hg:w.grownBy w' row)(hr:∀g,row=ś g->B.own g)(hB:B.n<=w.heap.size)(hs:Siz w w'):Und B w w':=
 ⟨hg.os,hg.tape,hg.output,hg.size,λk hk hs=>hg.block k (by omega) (λe=>by rcases hr k e.symm with h|h;omega;exact hs h),hs⟩
theorem aau{e sz:Nat}{val l xs}(h2:w.ownsRow 0 e sz val l.length xs)(h3:aB M sz l xs)(h0:0<sz)(h1:l.length<=140737488355328):
 ∃(ad:Option Addr)(cap:Nat),val=.slice ad l.length cap/\l.length<=140737488355328/\0<sz/\(l=[]\/∃(b off:Nat)(xs:List Value),ad=ś ⟨b,off,ń⟩/\aB M sz l xs/\∀j u,xs[j]?=ś u->w.cell? ((⟨b,off,ń⟩:Addr).add j)=ś u):=by
 rcases h2.2 with⟨h4,h5⟩|⟨g,cap,cur,h4,h5,h6,h7,h8,h9⟩
 ·simp_all
 ·exact⟨ś ⟨g,0,ń⟩,cap,by rw[h4],h1,h0,.inr ⟨g,0,xs,rfl,h3,λj u hu=>h2.cells (g:=g) (by rw[h4];rfl) j u hu⟩⟩
theorem ah2(H:Rel N M0 B w0 κ M σ a w){v c sz l}(hr:rep M (XX κ σ.h) v c)(hp:src σ.h v=ś (.seq sz l)):
 ∃(ad:Option Addr)(cap:Nat),c=.slice ad l.length cap/\l.length<=140737488355328/\0<sz/\(l=[]\/∃(b off:Nat)(xs:List Value),ad=ś ⟨b,off,ń⟩/\aB M sz l xs/\∀j u,xs[j]?=ś u->w.cell? ((⟨b,off,ń⟩:Addr).add j)=ś u):=by
 cases v<;>simp only[src,pur]at hp<;>try (cases hp;done)
 case nil sz'=>
  simp_all[rep]
 case seq sz' l'=>
  cases hp;simp only[rep]at hr;obtain⟨ad,cap,h1,_,h2',h2,h3⟩:=hr;refine⟨ad,cap,h1,h2',h2,?_⟩;rcases h3 with h3|⟨b,off,h4,h5⟩
  ·exact .inl h3
  ·obtain⟨xs,g1,g2⟩:=AJ h5
   exact .inr ⟨b,off,xs,h4,g1,λj u hu=>by rw[Addr.add_lit];exact H.snd _ _ (g2 j u hu)⟩
 case fseq sz' l'=>
  cases hp;simp only[rep,XX]at hr;obtain⟨_,ad,cap,h1,_,h2',h2,h3⟩:=hr;refine⟨ad,cap,h1,h2',h2,?_⟩;rcases h3 with h3|⟨b,off,h4,h5⟩
  ·exact .inl h3
  ·obtain⟨xs,g1,g2⟩:=AJ (vN H.sub.fmS _ _ _ _ h5)
   exact .inr ⟨b,off,xs,h4,g1,λj u hu=>by rw[Addr.add_lit];exact H.snd _ _ (g2 j u hu)⟩
 case ref id n=>
  split at hp
  ·rename_i e sz' l' hh
   split at hp
   ·rename_i hn
    cases hp;simp only[rep,XX]at hr;have hc:=(hr.2.2.1 e _ _ hh).2 hn;obtain⟨h0,h1,xs,h2,h3,_⟩:=H.heap id _ hh;grind[aau]
   ·cases hp
  ·cases hp
 case mref id i n=>
  simp only[pur2]at hp;split at hp
  ·rename_i e e2 sz' rows hh
   split at hp
   ·rename_i r hrr
    split at hp
    ·rename_i hn
     cases hp;simp only[rep,XX]at hr;have hc:=((hr.2.2 _ _ _ _ hh).1 _ hrr).2 hn;obtain⟨h0,_,_,h5,_⟩:=H.heap id _ hh;grind[aau]
    ·cases hp
   ·cases hp
  ·cases hp
 all_goals grind[zAa]
theorem aaW{l:List V}(h:¬l=[]):0<l.length:=by
 grind
theorem sS{base e size n:Nat}{v xs}(h:w.ownsRow base e size v n xs):(v=.slice ń 0 0/\n=0)\/∃g cap,v=.slice (ś ⟨g,0,ń⟩) n cap:=by
 rcases h.2 with h|⟨g,cap,cur,h,_⟩
 ·exact .inl h
 simp_all
theorem abh(H:Rel N M0 B w0 κ M σ a w){ty t e' i z sz' by'}(ht:P.underlying t=ś (.slice e'))(hi:P.info? e'=ś i)(hz:i.zero=ś z)
 (hs:i.size=sz') (hby:i.bytes=by') (hb0:0<by') (hzs:z.cells.size=sz') (hn:0<sz') {d} (hd:∀t,d=ś t->t<N/\t ∉ B.ps) {id} {l0 l} (ha:σ.h[id]?=ś (ś (.arr e' sz' l0))) {cy} {ad} {cap}
 (hcy:cy=.slice ad l.length cap) (hll:l.length<=140737488355328) (hrow:l=[]\/∃(b off:Nat)(xs:List Value),ad=ś ⟨b,off,ń⟩/\aB M sz' l xs/\∀j u,xs[j]?=ś u->w.cell? ((⟨b,off,ń⟩:Addr).add j)=ś u)
 (hb:(l0.length+l.length)*by'<=140737488355328) {Nx:Act->World->Prop} (hK:∀κ' M' a' w',Rel N M0 B w0 κ' M' ({ σ with h:=σ.h.set id (ś (.arr e' sz' (l0++l))) }.put d (.ref id (l0.length+l.length))) a' w'->Nx a' w'):
 ∃c w1,(Builtin.append_ #[t,t] ty #[κ id,cy]).run P w=.ok c w1/\Nx (a.put d c) w1:=by
 have hBw:B.n<=w.heap.size:=by rw[H.base];exact H.blw.size
 obtain⟨h0,h1,xs0,ho0,hrow0,hown0,hbl0⟩:=H.heap id _ ha;rw[hcy]
 have fin:∀(v':Value)(w':World)(xs:List Value),w'.ownsRow 0 e' sz' v' (l0.length+l.length) (xs0++xs)->aB M sz' l xs->(l=[]->v'=κ id)->l0.length+l.length<=140737488355328->Und B w w'->
  (∀k,k<w.heap.size->¬κ.bl id k->w'.heap[k]?=w.heap[k]?)->(∀g,blk v'=ś g->κ.bl id g\/w.heap.size<=g)->Nx (a.put d v') w':=by
  intro v' w' xs g1 hrow g0 hle hBl hoth g3
  have hX:∀v c,XX κ σ.h v c->XX (upd κ id v') (σ.h.set id (ś (Ob.arr e' sz' (l0++l)))) v c:=λv c hx=>rp ha hx (λcs h=>by cases h) (λe2 sz2 l2 h=>by
   cases h;refine⟨e',l0,rfl,by simp,λhlen=>g0 ?_⟩
   simp at hlen;exact hlen) (λ_ _ _ _ h=>by cases h)
  have hlt:id<σ.h.length:=(zAc.1 ha).1
  have H':=H.setOb ha hBl hoth g3 hX (by
   simp only[bn]
   exact⟨hn,by simp_all,xs0++xs,by grind[cq],y9 hrow0 hrow,λg hg=>by
    rw[bj]at hg;rcases g3 g hg with h|h
    ·simp_all
    ·exact .inl (by omega),λg=>by rw[bj,cm]⟩)
  refine hK _ _ _ _ (H'.put' hd ?_);simp only[rep,XX];refine⟨?_,by simp_all,λe2 sz2 l2 h2=>?_,λe2 sz2 l2 l3 h2=>by simp_all,λo2 h2 hn=>by simp[zAe,hlt]at h2;subst h2;cases hn⟩
  ·rcases sS g1 with⟨h,_⟩|⟨g,cap,h⟩<;>rw[h]<;>rfl
  ·simp only[zAe,if_true,hlt,zAb,Ob.arr.injEq]at h2
   obtain⟨rfl,rfl,rfl⟩:=h2;exact⟨by simp,λ_=>cq.symm⟩
 by_cases hz0:l=[]
 ·subst hz0
  rcases sS ho0 with⟨hv0,hl0⟩|⟨g,cp,hv0⟩
  ·have hr:=mE (P:=P) (ty:=ty) ht hi ń ad 0 0 cap (zAd _) w
   rw[hv0];refine⟨_,_,hr,fin _ w [] ?_ (by simp[aB]) (λ_=>hv0.symm) (by omega) (Und.refl _ _) (λ_ _ _=>rfl) (λg hg=>.inl ((hbl0 g).2 (by simp_all)))⟩
   simp_all
  ·have hcp:l0.length<=cp:=by
    rcases ho0.2 with⟨h,_⟩|⟨g',cap',cur,h,_,_,h7,_⟩
    ·omega
    simp_all
   have hr:=mE (P:=P) (ty:=ty) ht hi (ś ⟨g,0,ń⟩) ad l0.length cp cap hcp w;rw[hv0];refine⟨_,_,hr,fin _ w [] ?_ (by simp[aB]) (λ_=>hv0.symm) (by omega) (Und.refl _ _) (λ_ _ _=>rfl) (λg hg=>.inl ((hbl0 g).2 (by simp_all)))⟩
   simp_all
 ·rcases hrow with hrow|⟨b,off,xs,had,hrow,hcells⟩
  ·simp_all
  ·have hlen:=dq hrow
   have hbytes:l0.length+l.length<=(l0.length+l.length)*by':=zCa _ hb0
   obtain⟨v',w',hr,g1,g2,g3,g4⟩:=tZ (P:=P) (ty:=ty) (base:=0) ht hi hz hs hby hzs hn ho0 ⟨b,off,ń⟩ l.length cap xs hlen hcells (sP hrow) (aaW hz0)
    hb (by grind[maxLen]) (zBd _)
   rw[had]
   have hown:(κ id).ownBlock=blk (κ id):=by
    rcases sS ho0 with⟨hv0,_⟩|⟨g,cp,hv0⟩<;>rw[hv0]<;>rfl
   rw[hown]at g2;refine⟨v',w',hr,fin v' w' xs g1 hrow (λh=>(hz0 h).elim) ?_ (acN g2 (λg hg=>(H.blk_lt ha ((hbl0 g).2 hg)).1) hBw g4) (λk hk hne=>g2.block k hk (λe=>hne ((hbl0 k).2 e.symm))) (λg hg=>(g3 g hg).imp (λh=>(hbl0 g).2 h) (λh=>h))⟩;omega
theorem nowR_XX{σ : St}{κ : Kap}{a n : Nat}{c : Value}(h : σ.nowR a n = true)(hx : XX κ σ.h (.ref a n) c) : c = κ a := by
  unfold St.nowR at h;simp only[XX]at hx;split at h
  ·rename_i e sz l hl;exact(hx.2.2.1 _ _ _ hl).2 (by simpa using h)
  ·rename_i e e2 sz rows hl;exact(hx.2.2.2.1 _ _ _ _ hl).2 (by simpa using h)
  ·cases h
theorem Rel.reCell(H : Rel N M0 B w0 κ M σ a w){id off : Nat}{cs : List V}{v v' : V}(hb : σ.h[id]? = some (some (.box cs)))(hoff : cs[off]? = some v)(hv : ∀c,rep M (XX κ σ.h) v c -> rep M (XX κ σ.h) v' c) :
    ∃κ',Rel N M0 B w0 κ' M { σ with h := σ.h.set id (some (.box (cs.set off v'))) } a w /\ ∀u c,XX κ σ.h u c -> XX κ' (σ.h.set id (some (.box (cs.set off v')))) u c := by
  obtain⟨b,arr,T,h1,h2,h3,h4,h5,h6⟩ := H.heap id _ hb;have hX : ∀u c,XX κ σ.h u c -> XX (upd κ id (κ id)) (σ.h.set id (some (.box (cs.set off v')))) u c := λu c hx => rp hb hx (λ_ _ => ⟨⟨cs,rfl⟩,rfl⟩) (λ_ _ _ h => by cases h) (λ_ _ _ _ h => by cases h)
  have H2 := H.setOb hb (ob := .box (cs.set off v')) (kv := κ id) (Und.refl _ _) (λ_ _ _ => rfl) (λg hg => .inl ((h6 g).2 (by rw[h1]at hg;cases hg;rfl))) hX (by
    simp only[bn];refine⟨b,arr,T,by rw[cq];exact h1,h2,h3,?_,h5,λg => by rw[bj,h1];simp only[blk,Option.some.injEq];exact eq_comm⟩
    obtain⟨c,g1,g2⟩ := f6 h4 hoff;have hs := I6 off (bv (λ_ _ h => h) hX _ _ h4) (v := v') (c := c) (U7 hX (hv c g2))
    have : arr.toList.set off c = arr.toList := by
      apply List.ext_getElem?;intro j;rw[List.getElem?_set];split
      ·rename_i he;subst he
       split
       ·exact g1.symm
       ·rename_i hn;rw[List.getElem?_eq_none (by omega)]
      ·rfl
    rwa[this]at hs)
  exact⟨_,H2,hX⟩
theorem callHh_sound(H : Rel N M0 B w0 κ M σ a w)(hJC : Aw P M0 B){d : Option Nat}(hd : ∀t,d = some t -> t<N /\ t ∉ B.ps){f : FuncId}{vs : List V}{K : St -> Prop}(hW : wcallHh (Cn P) d f vs K σ)
    {cs : Array Value} (hcs : af M (XX κ σ.h) vs cs.toList) {Nx : Act -> World -> Prop} (hK : ∀κ' M' σ' a' w',K σ' -> Rel N M0 B w0 κ' M' σ' a' w' -> Nx a' w') {Q : Exit -> Act -> World -> Prop} (o : Oper) (ho : o.dst = d) :
    o.upon P a Nx Q ((callFunc f cs).run P w) := by
  obtain⟨t,id,off,ra,n,bs,ht,hdt,hnow,hbox,hcell,hall⟩ := hW;have hb := tQ hbox;have hlt : id<σ.h.length := (List.getElem?_eq_some_iff.1 hb).1;obtain⟨htN,c0,hc0,hr0⟩ := H.regs t _ ht;simp only[rep]at hr0;have e0 := nowR_XX hnow hr0;have hcell0 := hr0.1
  have H1 : Rel N M0 ⟨B.n,B.S,t :: B.ps,a.tmps,B.fb,B.J,B.df⟩ w0 κ M σ a w :=
    { dfr := H.dfr,jst := λk l S M M' w1 w2 h1 h2 => H.jst k l S M M' w1 w2 h1 ⟨h2.os,h2.tape,h2.output,h2.size,h2.block,h2.siz⟩,pin := λ_ _ => rfl,size := H.size,regs := H.regs,
      heap := λi ob h => ab7 (B := B) (λg hg => (H.blk_lt h hg).1) rfl (H.heap i ob h),inj := H.inj,snd := H.snd,sep := H.sep,sub := ⟨H.sub.sub,H.sub.fmS,H.sub.fmN,H.sub.fbn,H.sub.gl⟩,new := H.new,base := H.base,
      blw := ⟨H.blw.os,H.blw.tape,H.blw.output,H.blw.size,H.blw.block,H.blw.siz⟩ }
  have H2 := H1.newOb' (w' := w) (Below.refl _ _) (ob := .tok c0) (kv := c0) (kr := λ_ => undef) (kb := λ_ => False) (λg hg => hg.elim) (λ_ _ _ hg => hg) (by
    simp only[bn];exact⟨cm,λg hg => by rw[bj]at hg;exact hg⟩)
  have hX2 : ∀v c,XX κ σ.h v c -> XX (dy κ σ.h.length c0 (λ_ => undef) (λ_ => False)) (σ.h ++ [some (.tok c0)]) v c := λv c hx => abk hx (by simp) (λi hi => (dg (by omega)).1) (λi hi => (dg (by omega)).2.1) (λi ob' hi h => by rwa[List.getElem?_append_left hi]at h)
  have hra : ra<σ.h.length := hr0.2.1
  obtain⟨κ3,H3,hX3⟩ := H2.reCell (id := id) (off := off) (cs := bs) (v := .ref ra n) (v' := .ref σ.h.length 0) (by simp only;rw[List.getElem?_append_left hlt];exact hb) hcell (λc hc => by
    simp only[rep]at hc⊢
    have e1 : c = κ ra := by
      have : (St.mk σ.r (σ.h ++ [some (.tok c0)])).nowR ra n = true := by
        unfold St.nowR at hnow⊢;simp only;rw[List.getElem?_append_left hra];exact hnow
      rw[nowR_XX this hc,(dg (by omega)).1]
    simp only[XX];refine⟨hc.1,by simp,λe sz l h => by simp at h,λe e2 sz l h => by simp at h,λo2 h2 hn => ?_⟩
    rw[cm,e1,e0])
  refine callH0_sound H3 hJC (λt' ht' => ⟨(hd t' ht').1,λhm => ?_⟩) (hall c0) (bv (λ_ _ h => h) (λv c h => hX3 v c (hX2 v c h)) _ _ hcs) ?_ o ho
  ·rcases List.mem_cons.1 hm with rfl|hm
   ·exact hdt ht'
   ·exact(hd t' ht').2 hm
  intro κ' M' σ' a' w' ⟨bs',j,g1,g2,g3,g4,g5⟩ HR;obtain⟨kj,_⟩ := HR.heap j _ g4;obtain⟨_,c1,q1,q2⟩ := HR.regs t _ g1;have q3 := HR.pin t (List.mem_cons_self ..);simp only at q3;rw[q1,hc0]at q3
  obtain⟨κ4,H4,_⟩ := HR.reCell (tQ g2) g3 (v' := .ref ra n) (λc hc => by
    simp only[rep,XX]at hc;have e1 := hc.2.2.2.2 _ g4 rfl;rw[kj]at e1;rw[e1];cases q3;exact q2)
  exact hK _ _ _ _ _ g5
    { dfr := H4.dfr,jst := H.jst,pin := λi hi => by rw[H4.pin i (List.mem_cons_of_mem _ hi)];exact H.pin i hi,size := H4.size,regs := H4.regs,
      heap := λi ob h => ab7 (B := ⟨B.n,B.S,t :: B.ps,a.tmps,B.fb,B.J,B.df⟩) (λg hg => (H4.blk_lt h hg).1) rfl (H4.heap i ob h),inj := H4.inj,snd := H4.snd,sep := H4.sep,sub := ⟨H4.sub.sub,H4.sub.fmS,H4.sub.fmN,H4.sub.fbn,H4.sub.gl⟩,new := H4.new,base := H4.base,
      blw := ⟨H4.blw.os,H4.blw.tape,H4.blw.output,H4.blw.size,H4.blw.block,H4.blw.siz⟩ }
theorem qq(H : Rel N M0 B w0 κ M σ a w)(hJC : Aw P M0 B){d : Option Nat}(hd : ∀t,d = some t -> t<N /\ t ∉ B.ps){f : FuncId}{vs : List V}{K : St -> Prop}(hW : kH (Cn P) d f vs K σ)
    {cs : Array Value} (hcs : af M (XX κ σ.h) vs cs.toList) {Nx : Act -> World -> Prop} (hK : ∀κ' M' σ' a' w',K σ' -> Rel N M0 B w0 κ' M' σ' a' w' -> Nx a' w') {Q : Exit -> Act -> World -> Prop} (o : Oper) (ho : o.dst = d) :
    o.upon P a Nx Q ((callFunc f cs).run P w) :=
  hW.elim (λh => callH0_sound H hJC hd h hcs hK o ho) λh => callHh_sound H hJC hd h hcs hK o ho
theorem ye{rows i j x r}(h:bq (rows.set i x) j=ś r):(j=i/\i<rows.length/\x=.a r)\/(j≠i/\bq rows j=ś r):=by
 have h':=(vH h).1;rw[zAe]at h';split at h'
 ·simp_all
 grind[bq]
theorem Pv{rows i k}(h:vG rows i=ś k):(∃r,bq rows i=ś r/\r.length=k)\/rows[i]?=ś (.g k):=by
 unfold vG at h;split at h
 ·simp_all[bq]
 ·simp_all
 ·cases h
theorem abV{rows i k}(h:vG rows i=ś k):i<rows.length:=by
 rcases Pv h with⟨r,h1,_⟩|h
 ·simp_all[vH]
 grind
theorem Rel.detach(H:Rel N M0 B w0 κ M σ a w){id e e2 sz i rows r}(hm:σ.h[id]?=ś (ś (.mat e e2 sz rows)))(hr:bq rows i=ś r):
 ∃κ',Rel N M0 B w0 κ' M { σ with h:=σ.h.set id (ś (.mat e e2 sz (rows.set i (.g r.length))))++[ś (.arr e2 sz r)] } a w/\κ' σ.h.length=κ.row id i:=by
 obtain⟨h0,h1,⟨xs,h2,h3,h4⟩,h5,h6,h7,hown,hbl⟩:=H.heap id _ hm;obtain⟨q1,ys,q2,q3⟩:=h5 i r hr;have hlt:id<σ.h.length:=(zAc.1 hm).1
 have hX:∀v c,XX κ σ.h v c->XX (dy κ id (κ id) (κ.row id) (λg=>blk (κ id)=ś g\/∃j s,bq (rows.set i (.g r.length)) j=ś s/\blk (κ.row id j)=ś g)) (σ.h.set id (ś (Ob.mat e e2 sz (rows.set i (.g r.length))))) v c:=λv c hx=>
  rp hm hx (λ_ h=>by cases h) (λ_ _ _ h=>by cases h) (λe' e2' sz' rows' h=>by
   cases h;refine⟨e,e2,rows,rfl,by simp,rfl,λj s hs=>?_,λj k hk=>?_⟩
   ·rcases ye hs with⟨_,_,h⟩|⟨_,h⟩
    ·cases h
    simp_all
   grind)
 have rs:∀{j:Nat}{s:List V},bq (rows.set i (.g r.length)) j=ś s->j≠i/\bq rows j=ś s:=by
  intro j s hs;rcases ye hs with⟨_,_,h⟩|h
  ·cases h
  ·exact h
 have H1:=H.setOb (ob:=.mat e e2 sz (rows.set i (.g r.length))) hm (Und.refl _ w) (λ_ _ _=>rfl) (kv:=κ id) (kr:=κ.row id) (kb:=λg=>blk (κ id)=ś g\/∃j s,bq (rows.set i (.g r.length)) j=ś s/\blk (κ.row id j)=ś g) (λg hg=>.inl ((hbl g).2 (hg.imp (λh=>h) λ⟨j,s,k1,k2⟩=>⟨j,s,(rs k1).2,k2⟩))) hX (by
  simp only[bn];rw[cm,rz,bj];grind)
 have hnb:∀g,blk (κ.row id i)=ś g->κ.bl id g:=λg hg=>(hbl g).2 (.inr ⟨i,r,hr,hg⟩);have hlen:(σ.h.set id (ś (Ob.mat e e2 sz (rows.set i (.g r.length))))).length=σ.h.length:=by simp
 have H2:=H1.newOb' (w':=w) (ob:=.arr e2 sz r) (Below.refl _ _) (kv:=κ.row id i) (kr:=λ_=>Go.undef) (kb:=λg=>blk (κ.row id i)=ś g) (λg hg j oj hj hj'=>by
  simp only at hj;rw[zAe]at hj;split at hj
  ·grind[bj]
  ·rename_i he
   rw[(dg (λe=>he e.symm)).2.2]at hj';exact he (H.inj id j _ oj g hm hj (hnb g hg) hj')) (λp v hp hg=>H.sep p v hp id _ hm (hnb _ hg)) (by
  simp only[bn];rw[cm,bj];exact⟨h0,q1,ys,q2,q3,λg hg=>hown g (hnb g hg),λg=>zA⟩)
 grind[cm]
theorem FY{sz}:∀(b:Nat){l:List V}{xs:List Value},aB M sz l xs->aB M sz (l.take b) (xs.take (b*sz))
 |0,l,xs,h=>by simp[aB]
 |b+1,[],xs,h=>by grind[aB]
 |b+1,v::vs,xs,h=>by
   simp only[aB]at h;obtain⟨y,rest,rfl,h1,h2,h3,h4⟩:=h;simp only[List.take_succ_cons,aB];refine⟨y,rest.take (b*sz),?_,h1,h2,h3,FY b h4⟩;grind[zDi,zAi,zFj]
theorem aaS{t f}:∀{l:List (Nat×FuncId)},lkF l t=ś f->(t,f)∈l
 |[],h=>by simp[lkF]at h
 |(u,g)::l,h=>by
   simp only[lkF]at h;split at h
   ·rename_i he;subst he;cases h;simp
   ·exact zEh _ (aaS h)
theorem afG{name t x}(h:aiE P name t=ś x):x.1=t:=by
 grind[aiE]
theorem X8{name}{t:TypeId}{f}(h:lkF (ak5 P name) t=ś f)(n)(v)(w):(method (n+1) t v name).run P w=.ok (f,v) w:=by
 obtain⟨i,_,hi⟩:=List.mem_filterMap.1 (aaS h);have:=afG hi;simp only at this;subst this;unfold aiE at hi;split at hi
 ·rename_i ti hti
  split at hi
  ·rename_i m hm
   split at hi
   ·cases hi
   ·simp_all[method,typeInfo,follow,receiverAt,run_underlying,Place.get]
   ·simp_all[method,typeInfo,follow,receiverAt,run_underlying,Place.get]
   ·cases hi
  ·cases hi
 ·cases hi
theorem lkG_mem{t : Nat}{f : FuncId×Option (Nat×Bool)} : ∀{l : List (Nat×FuncId×Option (Nat×Bool))},lkG l t = some f -> (t,f) ∈ l
  |[],h => by simp[lkG]at h
  |(u,g) :: l,h => by
    simp only[lkG]at h;split at h
    ·rename_i he;subst he;cases h;simp
    ·exact List.mem_cons_of_mem _ (lkG_mem h)
theorem invG_fst{name : String}{t : TypeId}{x : Nat×FuncId×Option (Nat×Bool)}(h : invG P name t = some x) : x.1 = t := by
  unfold invG at h;split at h
  ·split at h
   ·split at h
    ·split at h <;> first|(cases h;done)|(cases h;rfl)
    ·cases h;rfl
    ·cases h;rfl
    ·cases h
   ·cases h
  ·cases h
theorem ldOf_spec{e : TypeId}{n : Nat}{g : Bool}(h : ldOf P e = some (n,g)) : ik P e = some n /\ G4 P e = some g := by
  unfold ldOf at h;split at h
  ·split at h
   ·cases h;exact⟨by assumption,by assumption⟩
   ·cases h
  ·cases h
theorem run_methodU(H : Rel N M0 B w0 κ M σ a w){name : String}{t : TypeId}{f : FuncId}{l : Option (Nat×Bool)}(h : lkG (invU P name) t = some (f,l))(n : Nat){v v' : V}{y : Value}(hy : rep M (XX κ σ.h) v y)(hv : σ.recv v l = some v') :
    ∃y',(method (n+1) t y name).run P w = .ok (f,y') w /\ rep M (XX κ σ.h) v' y' := by
  obtain⟨i,_,hi⟩ := List.mem_filterMap.1 (lkG_mem h);have := invG_fst hi;simp only at this;subst this;unfold invG at hi;split at hi
  ·rename_i ti hti
   split at hi
   ·rename_i m hm
    split at hi
    ·rename_i e hp hf hu
     split at hi
     ·rename_i l' hl
      cases hi;obtain⟨k,g⟩ := l';obtain⟨hs,hg⟩ := ldOf_spec hl;simp only[St.recv]at hv;split at hv
      ·rename_i us hus
       obtain⟨b,o',cs,e',k1,k2,k3,k4⟩ := Gw H hy hus
       have hw : ∀(xs : Array TypeId)(z : TypeId)(b1 b2 : ByteArray),Builtin.ssaWrapNilChk_ xs z #[y,.string b1,.string b2] = pure y := λxs z b1 b2 => by
         rw[e'];rfl
       rw[e']at hw;have hpe : m.path = #[] := by apply Array.ext';simpa using hp
       rcases In hv k1 k2 with⟨rfl,hk⟩|⟨rfl,c,hk1,hk2⟩
       ·refine⟨_,?_,hk⟩
        have := run_loadCells_list (P := P) w ⟨b,o',none⟩ cs k4;rw[k3]at this;simp[method,typeInfo,hti,hm,hpe,follow,hf,receiverAt,run_underlying hu,Place.get,strVal,hw,asAddr,e',loadVar,nX hg,bQ hs,this]
       ·refine⟨c,?_,hk2⟩
        have := k4 0 c (by simp[hk1])
        rw[Addr.add_lit]at this;simp at this;simp[method,typeInfo,hti,hm,hpe,follow,hf,receiverAt,run_underlying hu,Place.get,strVal,hw,asAddr,e',loadVar,nX hg,this]
      ·cases hv
     ·cases hi
    ·rename_i hp hf hu
     cases hi;cases hv;exact⟨y,by simp[method,typeInfo,hti,hm,hp,follow,hf,receiverAt,run_underlying hu,Place.get],hy⟩
    ·rename_i d hne hp hf hu
     cases hi;cases hv;refine⟨y,?_,hy⟩;cases d <;> first|exact(hne _ rfl).elim|simp[method,typeInfo,hti,hm,hp,follow,hf,receiverAt,run_underlying hu,Place.get]
    ·cases hi
   ·cases hi
  ·cases hi
theorem Rel.trunc(H:Rel N M0 B w0 κ M σ a w){id e sz b l}(hm:σ.h[id]?=ś (ś (.arr e sz l)))(hb:b<=l.length){ad}{n cap}(hc:κ id=.slice ad n cap):
 ∃κ',Rel N M0 B w0 κ' M { σ with h:=σ.h.set id ń++[ś (.arr e sz (l.take b))] } a w/\κ' σ.h.length=.slice ad b cap:=by
 obtain⟨h0,h1,xs,h2,h3,hown,hbl⟩:=H.heap id _ hm;have hlt:id<σ.h.length:=(zAc.1 hm).1;have hlen:(σ.h.set id ń).length=σ.h.length:=by simp
 have H1:=H.drop id;have hbk:∀g,blk (.slice ad b cap)=ś g->κ.bl id g:=λg hg=>(hbl g).2 (by rw[hc];cases ad<;>exact hg)
 have H2:=H1.newOb' (w':=w) (ob:=.arr e sz (l.take b)) (Below.refl _ _) (kv:=.slice ad b cap) (kr:=λ_=>Go.undef) (kb:=λg=>blk (.slice ad b cap)=ś g) (λg hg j oj hj hj'=>by
  simp only at hj;rw[zAe]at hj;split at hj
  ·simp_all
  ·rename_i he
   exact he (H.inj id j _ oj g hm hj (hbk g hg) hj')) (λp v hp hg=>H.sep p v hp id _ hm (hbk _ hg)) (by
  simp only[bn];rw[cm,bj];refine⟨h0,by simp;omega,xs.take (b*sz),?_,FY b h3,λg hg=>hown g (hbk g hg),λg=>zA⟩
  have hxl:=dq h3;refine⟨by simp_all,?_⟩
  rcases h2.2 with⟨h4,h5⟩|⟨g,cap',cur,h4,h5,h6,h7,h8,h9,h10⟩
  ·grind
  grind[zBb,zBe,zCf])
 grind[cm]
theorem adu(H:Rel N M0 B w0 κ M σ a w){ty t e x y x' y' i z n by'}(ht:P.underlying t=ś (.slice e))(hi:P.info? e=ś i)(hz:i.zero=ś z)
 (hs:i.size=n) (hby:i.bytes=by') (hb0:0<by') (hzs:z.cells.size=n) (hn:0<n) (hx:cO P t x=ś x') (hy:cO P t y=ś y') {d} (hd:∀t,d=ś t->t<N/\t ∉ B.ps) {Φ} {K}
 (hW:ak Φ d (.app x' y' e n by') K σ) {Nx:Act->World->Prop} (hK:∀κ' M' σ' a' w',K σ'->Rel N M0 B w0 κ' M' σ' a' w'->Nx a' w'):
 ∃c w1,(Builtin.append_ #[t,t] ty #[a.eval x,a.eval y]).run P w=.ok c w1/\Nx (a.put d c) w1:=by
 have hBw:B.n<=w.heap.size:=by rw[H.base];exact H.blw.size
 simp only[ak]at hW;split at hW
 ·rename_i u v hu hv
  split at hW
  ·rename_i sz l hl
   obtain⟨rfl,hW⟩:=hW;have hrx:=H.op hx hu;obtain⟨ad,cap,hcy,hll,_,hrow⟩:=ah2 H (H.op hy hv) hl;split at hW
   ·
    rename_i sz0;obtain⟨hb,hW⟩:=hW;simp only[rep]at hrx;rw[hrx.1,hcy]
    have fin:∀(v':Value)(w':World)(xs:List Value),w'.ownsRow 0 e sz v' l.length xs->aB M sz l xs->Below w.heap.size w w'->(∀g,blk v'=ś g->w.heap.size<=g)->Nx (a.put d v') w':=by
     intro v' w' xs g1 hrow hBl g3
     have ho:bn (upd κ σ.h.length v') M (XX (upd κ σ.h.length v') (σ.h++[ś (Ob.arr e sz l)])) B w' σ.h.length (.arr e sz l):=by
      simp only[bn];exact⟨hn,hll,xs,by grind[cq],hrow,λg hg=>.inl (by grind[bj]),λg=>by rw[bj,cm]⟩
     have H':=H.newOb hBl g3 ho;refine hK _ _ _ _ _ hW (H'.put' hd ?_);simp only[rep,XX];refine⟨?_,by simp,λe2 sz2 l2 h2=>?_,λe2 sz2 l2 l3 h2=>by simp at h2,λo2 h2 hn=>by simp at h2;subst h2;cases hn⟩
     ·rcases sS g1 with⟨h,_⟩|⟨g,cap,h⟩<;>rw[h]<;>rfl
     ·simp at h2
      obtain⟨rfl,rfl,rfl⟩:=h2;exact⟨zAd _,λ_=>cq.symm⟩
    by_cases h0:l=[]
    ·subst h0
     have hr:=mE (P:=P) (ty:=ty) ht hi ń ad 0 0 cap (zAd _) w;exact⟨_,_,hr,fin _ w [] (World.ownsRow_nil w 0 e sz) (by simp[aB]) (Below.refl _ _) (λg hg=>by cases hg)⟩
    ·rcases hrow with hrow|⟨b,off,xs,had,hrow,hcells⟩
     ·simp_all
     ·have hlen:=dq hrow
      obtain⟨v',w',hr,g1,g2,g3,g4⟩:=tZ (P:=P) (ty:=ty) (base:=0) ht hi hz hs hby hzs hn (World.ownsRow_nil w 0 e sz) ⟨b,off,ń⟩ l.length cap xs hlen hcells (sP hrow) (aaW h0)
       (by simp_all) (by grind[maxLen]) (zBd _)
      rw[had];refine⟨v',w',hr,fin v' w' xs (by simp_all) hrow (Wv g2 (λg hg=>by grind[Value.ownBlock]) (zAd _)) (λg hg=>?_)⟩
      rcases g3 g hg with h|h
      ·cases h
      ·exact h
   ·
    rename_i id m;split at hW
    ·rename_i e' sz' l0 hal
     obtain⟨rfl,rfl,rfl,hb,hW⟩:=hW;have ha:=gT hal;simp only at ha;simp only[rep,XX]at hrx;have hck:=(hrx.2.2.1 _ _ _ ha).2 rfl;rw[hck];exact abh H ht hi hz hs hby hb0 hzs hn hd ha hcy hll hrow hb λκ' M' a' w' h=>hK _ _ _ _ _ hW h
    simp_all
   ·
    rename_i id j m;split at hW
    ·rename_i e1 e2 sz2 rows hal
     split at hW
     ·rename_i r hr
      obtain⟨rfl,rfl,rfl,hb,hW⟩:=hW;have ha:=iB hal;simp only at ha;simp only[rep,XX]at hrx;have hck:=((hrx.2.2 _ _ _ _ ha).1 _ hr).2 rfl;obtain⟨κ',H',hk'⟩:=H.detach ha hr;have hlen:(σ.h.set id (ś (Ob.mat e1 e2 sz2 (rows.set j (.g r.length))))).length=σ.h.length:=by simp
      rw[hck,<-hk'];refine abh H' ht hi hz hs hby hb0 hzs hn hd (id:=σ.h.length) (l0:=r) (by simp) hcy hll hrow hb λκ' M' a' w' h=>hK κ' M' _ a' w' hW ?_
      simp_all
     simp_all
    simp_all
   simp_all
  simp_all
 simp_all
theorem akE{h v u}(hp:pur h v=ś u)(hn:nt v=ť):nt u=true:=by
 cases v<;>simp only[pur]at hp<;>first
  |(cases hp;done)
  |(cases hp;rfl)
  |(simp[nt]at hn;done)
  |(obtain⟨_,_,rfl⟩:=zAa.1 hp;rfl)
  |(unfold pur1 at hp;split at hp<;>(try split at hp)<;>first|(cases hp;rfl)|(cases hp;done)|(obtain⟨_,_,rfl⟩:=zAa.1 hp;rfl))
  |(unfold pur2 at hp;split at hp<;>(try split at hp)<;>(try split at hp)<;>first|(cases hp;rfl)|cases hp)
  |(split at hp<;>first|(cases hp;rfl)|cases hp)
theorem IT{α:Type}(c d:List α)(p off s t)(h1:off+d.length<=s)(h2:p+s<=t)(h3:t<=c.length):
 (c.take (p+off)++d++c.drop (p+off+d.length)).take t=(c.take t).take p++(((c.drop p).take s).take off++d++((c.drop p).take s).drop (off+d.length))++(c.take t).drop (p+s):=by
 obtain⟨k,rfl⟩:∃k,t=p+(off+(d.length+k)):=⟨t-p-off-d.length,by omega⟩
 have e1:(c.take (p+(off+(d.length+k)))).take p=c.take p:=by grind
 have e2:((c.drop p).take s).take off=(c.drop p).take off:=by grind
 have e3:c.take (p+off)=c.take p++(c.drop p).take off:=by grind
 have l1:(c.take p).length=p:=by simp;omega
 have l2:((c.drop p).take off).length=off:=by simp;omega
 rw[e1,e2,e3];simp only[List.append_assoc];rw[zDi,l1,zAi (l:=c.take p) (by rw[l1];omega),zDc]
 rw[zDi,l2,zAi (l:=(c.drop p).take off) (by rw[l2];omega),zDc]
 rw[zDi,zAi (l:=d) (by omega),zDc]
 congr 3;apply zDf;intro j;by_cases hj:j<s-(off+d.length)
 ·rw[zC (by simp;omega),zD,if_pos (by omega),zCc,zCc,zD,if_pos (by omega),zCc]
  congr 1;omega
 ·rw[zEa (by simp;omega)]
  simp only[zD,zCc,zCg,zBb];split
  ·rw[if_pos (by omega)];congr 1;omega
  grind
theorem UT{α:Type}(c d:List α)(p t)(h2:p+d.length<=t)(h3:t<=c.length):
 (c.take p++d++c.drop (p+d.length)).take t=(c.take t).take p++d++(c.take t).drop (p+d.length):=by
 have h:=IT c d p 0 d.length t (by omega) h2 h3
 simp_all
theorem Je{t n}(hs:ik P t=ś n){e sz len:Nat}{val xs}(ho:w.ownsRow 0 e sz val len xs){b cap p}(g1:val=.slice (ś ⟨b,0,ń⟩) len cap){d}(hd:d.cells.size=n)(h1:∀u∈d.cells.toList,aI u)(hle:p+n<=len*sz):
 ∃row:Array Value,(Instr.storeAt t (.pointer (ś ⟨b,p,ń⟩)) d).run P w=.ok () (w.setRow b row)/\(w.setRow b row).ownsRow 0 e sz val len (xs.take p++d.cells.toList++xs.drop (p+n)):=by
 rcases ho.2 with⟨h,h0⟩|⟨g,cap',cur,h4,h5,h6,h7,h8,h9,h10⟩
 ·simp_all
 ·rw[g1]at h4
  cases h4;have hcl:len*sz<=cur.size:=by simp_all[zCf]
  have hdl:d.cells.toList.length=n:=by omega
  refine⟨_,B1 hs (off:=p) h6 hd h1 (by omega),?_,.inr ⟨b,cap,_,g1,h5,setRow_heap w b cur _ e (0,0) h6,h7,h8,?_,?_⟩⟩
  ·grind
  ·grind
  ·rw[<-h10,<-hdl]
   grind[UT]
theorem Ps {Mx} {t} {n} (hs:ik P t=ś n) {e sz:Nat} {val} {l} {xs} (ho:w.ownsRow 0 e sz val l.length xs) (hrow:aB Mx sz l xs) {b cap i off} (g1:val=.slice (ś ⟨b,0,ń⟩) l.length cap) {d} (hd:d.cells.size=n)
 (h1:∀ u∈d.cells.toList,aI u) {vo v'} (hvo:l[i]?=ś vo) {us cs'} (hcs':ju (cl vo) off us=ś cs') (hv':mkc (isS vo) cs'=ś v') (hpu:af Mx NX us d.cells.toList):
 ∃ row:Array Value,(Instr.storeAt t (.pointer (ś ⟨b,i * sz + off,ń⟩)) d).run P w=.ok () (w.setRow b row)∧∃ xs',(w.setRow b row).ownsRow 0 e sz val (l.set i v').length xs'∧aB Mx sz (l.set i v') xs':=by
 have hil:i < l.length:=(zAc.1 hvo).1
 obtain ⟨y,y1,y2,y3,y4⟩:=AI hrow hvo
 have hnto:∀ vs,vo≠.tup vs:=by
  rintro vs rfl
  simp only [rep] at y1
  obtain ⟨arr,rfl,_⟩:=y1
  simp_all[Value.cells,aI,Value.oneCell']
 have yk:=d5 y1 tU hnto
 have hsp:=AB hcs' yk.1 hpu
 have hoff:off + n≤sz:=by simp_all
 have hcells:∀ u∈y.cells.toList.take off++d.cells.toList++y.cells.toList.drop (off + d.cells.toList.length),aI u:=by
  grind
 have hclen:(y.cells.toList.take off++d.cells.toList++y.cells.toList.drop (off + d.cells.toList.length)).length=sz:=by
  grind
 obtain ⟨y',y1',y2',_⟩:∃ y':Value,rep Mx NX v' y'∧y'.cells.toList=y.cells.toList.take off++d.cells.toList++y.cells.toList.drop (off + d.cells.toList.length)∧True:=by
  rcases In hv' hsp.2 hcells with ⟨_,h⟩ | ⟨_,c',h,h'⟩
  · exact ⟨_,h,by simp [Value.cells],trivial⟩
  · refine ⟨c',h',?_,trivial⟩
    grind[dM]
 have hys:y'.cells.size=sz:=by grind
 have hle:(i + 1) * sz≤l.length * sz:=zCf _ (by omega)
 simp only [zFj,Nat.one_mul] at hle
 obtain ⟨row,r1,r2⟩:=Je hs ho g1 (p:=i * sz + off) hd h1 (by omega)
 refine ⟨row,r1,_,?_,I5 hrow hil y1' hys (by simp_all)⟩
 have hdl:d.cells.toList.length=n:=by omega
 have hxl:=dq hrow
 have hy4:y.cells.toList=(xs.drop (i * sz)).take sz:=by
  apply zDf
  grind
 have hsm:=IT xs d.cells.toList (i * sz) off sz xs.length (by omega) (by omega) (zAd _)
 rw [zAi (l:=xs) (zAd _)] at hsm
 rw [zGg,y2',hy4,←hsm,hdl]
 rw [zAi (by simp only [zDa,zBb,zCg,hdl]; omega)]
 exact r2
theorem XR(H:Rel N M0 B w0 κ M σ a w){t n}(hs:ik P t=ś n){p v c d}(hp:rep M (XX κ σ.h) p c)(hv:rep M (XX κ σ.h) v d)(hnt:nt v=ť){σ'}(hst:σ.stor n p (cl v)=ś σ'):
 ∃w',(Instr.storeAt t c d).run P w=.ok () w'/\∃κ' M',Rel N M0 B w0 κ' M' σ' a w':=by
 have hk:=d5 hv Uu (sT hnt);have hlen:=bg hk.1;cases p<;>simp only[St.stor]at hst<;>try (cases hst;done)
 case ptr id off=>
  split at hst
  ·rename_i cs hcs
   split at hst
   ·rename_i hn
    split at hst
    ·rename_i cs' hcs'
     cases hst;have hb:=tQ hcs;obtain⟨b,arr,T,h1,h2,h3,h4,h5,hbl⟩:=H.heap id _ hb;simp only[rep,XX]at hp;obtain⟨b',g1,g2⟩:=hp.2.2 cs hb;rw[h1]at g1;cases g1;subst g2;have hsp:=AB hcs' h4 hk.1;have hd:d.cells.size=n:=by simp_all
     refine⟨_,B1 hs h3 hd hk.2 (by simp_all),upd κ id (κ id),M,?_⟩
     have hX:∀u c,XX κ σ.h u c->XX (upd κ id (κ id)) (σ.h.set id (ś (Ob.box cs'))) u c:=λu c hx=>rp hb hx (λ_ _=>⟨⟨cs,rfl⟩,rfl⟩) (λ_ _ _ h=>by cases h) (λ_ _ _ _ h=>by cases h)
     refine H.setOb hb (nQ h2 _ λcur T z hc=>by grind) (λk _ hne=>setRow_other w b k _ (λe=>hne ((hbl k).2 e))) (λg hg=>.inl ((hbl g).2 (by rw[h1]at hg;cases hg;rfl))) hX ?_
     simp only[bn];refine⟨b,_,T,by rw[cq,h1],h2,setRow_heap w b arr _ T (0,0) h3,bv (λ_ _ h=>h) hX _ _ (by simp_all),?_,λg=>by rw[bj,h1];simp only[blk,zAb];exact eq_comm⟩
     grind
    ·cases hst
   ·cases hst
  ·cases hst
 case eptr id m i off=>
  split at hst
  ·rename_i us' hus'
   split at hst
   ·rename_i e sz l hal
    split at hst
    ·rename_i hn
     split at hst
     ·rename_i vo hvo
      split at hst
      ·rename_i cs' hcs'
       split at hst
       ·rename_i v' hv'
        cases hst;obtain⟨H1,hM1⟩:=H.kill (ax (cl v)) (eT hus');have ha:=gT hal;simp only at ha;obtain⟨k1,k2,k3⟩:=AX (ax (cl v)) σ;have ha0:=(k3 id _ ha).1;have hil:i<l.length:=(zAc.1 hvo).1;simp only[rep,XX]at hp;obtain⟨b,cap,g1,g2⟩:=(hp.2.2.1 e sz l ha0).2 hn.2 (by omega)
        subst g2
        have hpu:af (ext M w (rm κ (ax (cl v)))) NX us' d.cells.toList:=by
         refine cz H hM1 (λid hid g hg p hpb=>?_) hk.1 hus';unfold ext;rw[if_pos (eC.2 ⟨id,hid,by simp_all⟩)]
        obtain⟨hsz,hll,xs,ho,hrow,hown,hbl⟩:=H1.heap id _ ha;have hd:d.cells.size=n:=by simp_all
        rw[hn.2]at g1;obtain⟨row,r1,xs',r2,r3⟩:=Ps hs ho hrow g1 hd hk.2 hvo hcs' hv' hpu;have hb:κ.bl id b:=(hbl b).2 (by rw[g1];rfl)
        refine⟨_,r1,upd κ id (κ id),ext M w (rm κ (ax (cl v))),?_⟩
        have hX:∀u c,XX κ (σ.kill (ax (cl v))).h u c->XX (upd κ id (κ id)) ((σ.kill (ax (cl v))).h.set id (ś (Ob.arr e sz (l.set i v')))) u c:=λu c hx=>rp ha hx (λ_ h=>by cases h) (λe2 sz2 l2 h=>by
         grind) (λ_ _ _ _ h=>by cases h)
        refine H1.setOb ha (nQ (hown b hb) _ (vw ho r2 (by rw[g1];rfl))) (λk _ hne=>setRow_other w b k _ (λe=>hne (e ▸ hb))) (λg hg=>.inl ((hbl g).2 hg)) hX ?_
        simp only[bn];rw[cm,bj];exact⟨hsz,by simp_all,xs',r2,r3,λg hg=>hown g ((hbl g).2 hg),λg=>zA⟩
       ·cases hst
      ·cases hst
     ·cases hst
    ·cases hst
   ·unfold St.storM at hst
    split at hst
    ·rename_i id2 n2 hcl
     split at hst
     ·rename_i e e2 sz rows e2' sz' l hrm har
      split at hst
      ·rename_i kl hri
       split at hst
       ·rename_i hc
        cases hst;obtain⟨rfl,rfl,rfl,rfl,rfl,rfl,hlt⟩:=hc;have hm:=iB hrm;have ha:=gT har;simp only at hm ha;have hne:id2≠id:=by grind
        have hm':(σ.h.set id2 ń)[id]?=ś (ś (.mat e e2' sz' rows)):=by simp_all
        have H0:=H.drop id2;obtain⟨h0,h1,⟨xs,h2,h3,h4⟩,h5,h6,h7,hown,hbl⟩:=H.heap id _ hm;obtain⟨a0,a1,ys,a2,a3,aown,abl⟩:=H.heap id2 _ ha;simp only[rep,XX]at hp;have hil:=abV hri;obtain⟨b,cap,g1,g2⟩:=(hp.2.2.2 _ _ _ _ hm).2 rfl hil;subst g2;rw[hcl]at hk hlen
        have hdc:d.cells.toList=[κ id2]:=by
         have h:=hk.1;simp only[af,rep,XX]at h;grind
        have hd:d.cells.size=1:=by omega
        have hle:i*1+1<=rows.length*1:=by omega
        obtain⟨row,r1,r2⟩:=Je hs h2 g1 (p:=i+0) hd hk.2 (by omega)
        have hb:blk (κ id)=ś b:=by rw[g1];rfl
        have hbB:κ.bl id b:=(hbl b).2 (.inl hb);have hoth:∀k,k≠b->(w.setRow b row).heap[k]?=w.heap[k]?:=λk hk=>setRow_other w b k _ hk;have kid2:∀g,blk (κ id2)=ś g->¬κ.bl id g:=λg hg hg'=>hne (H.inj id2 id _ _ g ha hm ((abl g).2 hg) hg')
        let kr:Nat->Value:=λj=>if j=i then κ id2 else κ.row id j
        have kri:kr i=κ id2:=by simp[kr]
        have krn:∀{j},j≠i->kr j=κ.row id j:=λh=>by simp[kr,h]
        let kb:Nat->Prop:=λg=>blk (κ id)=ś g\/∃j s,bq (rows.set i (.a l)) j=ś s/\blk (kr j)=ś g
        have rs:∀{j:Nat}{s:List V},bq (rows.set i (.a l)) j=ś s->(j=i/\s=l/\kr j=κ id2)\/(j≠i/\bq rows j=ś s/\kr j=κ.row id j):=by
         intro j s hs;rcases ye hs with⟨h,_,h'⟩|⟨h,h'⟩
         ·grind
         grind
        have kbs:∀{g},kb g->κ.bl id g\/blk (κ id2)=ś g:=by
         grind
        have hrl:∀(j:Nat)(s:List V),bq rows j=ś s->∀g,blk (κ.row id j)=ś g->g≠b:=λj s hj g hg e=>h7 j s g hj hg (by grind)
        have hX:∀u c,XX κ (σ.h.set id2 ń) u c->XX (dy κ id (κ id) kr kb) ((σ.h.set id2 ń).set id (ś (Ob.mat e e2' sz' (rows.set i (.a l))))) u c:=λu c hx=>rp hm' hx (λ_ h=>by cases h) (λ_ _ _ h=>by cases h) (λe' e2'' sz'' rows' h=>by
         cases h;refine⟨e,e2',rows,rfl,by simp,rfl,λj s hs=>?_,λj k hk=>?_⟩
         ·rcases rs hs with⟨rfl,rfl,_⟩|⟨_,h',e⟩
          ·rcases Pv hri with⟨r,hr1,hr2⟩|hr1
           ·grind
           grind
          grind
         grind)
        refine⟨_,r1,dy κ id (κ id) kr kb,M,?_⟩;refine H0.setOb' hm' (nQ (hown b hbB) _ (vw h2 r2 hb)) (λk _ hne=>hoth k (λe=>hne (e ▸ hbB))) (λg hg j oj hj hj'=>?_) (λp v hp hg=>?_) hX ?_
        ·simp only at hj
         rw[zAe]at hj;split at hj
         ·grind
         ·rename_i hne2
          rcases kbs hg with h|h
          ·exact H.inj id j _ oj g hm hj h hj'
          ·exact(hne2 (H.inj id2 j _ oj g ha hj ((abl g).2 h) hj')).elim
        ·rcases kbs hg with h|h
         ·exact H.sep p v hp id _ hm h
         ·exact H.sep p v hp id2 _ ha ((abl _).2 h)
        ·simp only[bn]
         rw[cm,rz,bj];have hxl:i<xs.length:=by have:=h2.1;omega
         have hxs:xs.take (i+0)++d.cells.toList++xs.drop (i+0+1)=xs.set i (κ id2):=by
          rw[hdc,List.set_eq_take_append_cons_drop,if_pos hxl];simp
         rw[hxs]at r2;refine⟨h0,by grind,⟨xs.set i (κ id2),by grind,?_,?_⟩,?_,?_,?_,?_,λg=>zA⟩
         ·grind
         ·grind
         ·intro j s hs
          rcases rs hs with⟨rfl,rfl,e⟩|⟨_,h',e⟩
          ·grind[eU]
          ·rw[e]
           obtain⟨q1,zs,q2,q3⟩:=h5 j s h';grind[eU]
         ·grind
         ·grind
         grind
       ·cases hst
      ·cases hst
     ·cases hst
    ·cases hst
  ·cases hst
 case mptr id i m k off=>
  split at hst
  ·rename_i us' hus'
   split at hst
   ·rename_i e e2 sz rows hal
    split at hst
    ·rename_i r hri
     split at hst
     ·rename_i hn
      split at hst
      ·rename_i vo hvo
       split at hst
       ·rename_i cs' hcs'
        split at hst
        ·rename_i v' hv'
         cases hst;obtain⟨H1,hM1⟩:=H.kill (ax (cl v)) (eT hus');have ha:=iB hal;simp only at ha;obtain⟨k1,k2,k3⟩:=AX (ax (cl v)) σ;have ha0:=(k3 id _ ha).1;have hil:k<r.length:=(zAc.1 hvo).1;simp only[rep,XX]at hp;obtain⟨b,cap,g1,g2⟩:=((hp.2.2 _ _ _ _ ha0).1 r hri).2 hn.2 (by omega)
         subst g2
         have hpu:af (ext M w (rm κ (ax (cl v)))) NX us' d.cells.toList:=by
          refine cz H hM1 (λid hid g hg p hpb=>?_) hk.1 hus';unfold ext;rw[if_pos (eC.2 ⟨id,hid,by simp_all⟩)]
         obtain⟨h0,h1,⟨xs,h2,h3,h4⟩,h5,h6,h7,hown,hbl⟩:=H1.heap id _ ha;obtain⟨q1,ys,q2,q3⟩:=h5 i r hri;have hd:d.cells.size=n:=by simp_all
         rw[hn.2]at g1;obtain⟨row,r1,xs',r2,r3⟩:=Ps hs q2 q3 g1 hd hk.2 hvo hcs' hv' hpu;have hbi:blk (κ.row id i)=ś b:=by rw[g1];rfl
         have hb:κ.bl id b:=(hbl b).2 (.inr ⟨i,r,hri,hbi⟩);have hoth:∀k,k≠b->(w.setRow b row).heap[k]?=w.heap[k]?:=λk hk=>setRow_other w b k _ hk;have hir:=vH hri
         have rs:∀{j:Nat}{s:List V},bq (rows.set i (.a (r.set k v'))) j=ś s->(j=i/\s=r.set k v')\/(j≠i/\bq rows j=ś s):=by
          intro j s hs;rcases ye hs with⟨h,_,h'⟩|h
          ·simp_all
          grind
         have rr:∀{j:Nat}{s:List V},bq (rows.set i (.a (r.set k v'))) j=ś s->∃s',bq rows j=ś s'/\s'.length=s.length:=by
          grind
         have hX:∀u c,XX κ (σ.kill (ax (cl v))).h u c->XX (dy κ id (κ id) (κ.row id) (κ.bl id)) ((σ.kill (ax (cl v))).h.set id (ś (Ob.mat e e2 sz (rows.set i (.a (r.set k v')))))) u c:=λu c hx=>rp ha hx (λ_ h=>by cases h) (λ_ _ _ h=>by cases h) (λe' e2'' sz'' rows' h=>by
          grind)
         refine⟨_,r1,dy κ id (κ id) (κ.row id) (κ.bl id),ext M w (rm κ (ax (cl v))),?_⟩;refine H1.setOb ha (nQ (hown b hb) _ (vw q2 r2 hbi)) (λk _ hne=>hoth k (λe=>hne (e ▸ hb))) (λg hg=>.inl hg) hX ?_;simp only[bn];rw[cm,rz,bj];refine⟨h0,by simp_all,⟨xs,?_,h3,λj s hs=>by grind⟩,?_,?_,?_,hown,λg=>(hbl g).trans ?_⟩
         ·grind[zGg,eU]
         ·intro j s hs
          rcases rs hs with⟨rfl,rfl⟩|⟨hji,h⟩
          ·grind
          ·obtain⟨q4,zs,q5,q6⟩:=h5 j s h
           exact⟨q4,zs,eU q5 (λg hg=>hoth g (λe=>hji (h6 j i s r g h hri hg (by grind)))),q6⟩
         ·grind
         ·grind
         ·refine or_congr zA ⟨?_,?_⟩
          ·rintro⟨j,s,hj,hg⟩
           by_cases hji:j=i
           ·grind[bq]
           ·exact⟨j,s,by unfold bq at hj⊢;grind,hg⟩
          grind
        ·cases hst
       ·cases hst
      ·cases hst
     ·cases hst
    ·cases hst
   ·cases hst
  ·cases hst
theorem QI(l):lg l=l.map λb=>.int .u8 b.toNat:=by
 induction l with
 |nil=>rfl
 |cons b l ih=>simp[lg,ih]
theorem agw{M X}(b:UInt8):rep M X (.int .u8 b.toNat) (.int .u8 b.toNat):=by
 simp only[rep];have:=b.toNat_lt;exact⟨trivial,by simp[IntKind.min,IntKind.signed],by grind[IntKind.max,IntKind.signed,IntKind.bits]⟩
theorem QH{M g}:∀(l:List UInt8)(off:Nat),(∀j b,l[j]?=ś b->M ⟨g,off+j,ń⟩=ś (.int .u8 b.toNat))->cx M 1 (lg l) g off
 |[],_,_=>by simp[lg,cx]
 |b::l,off,h=>by
   simp only[lg,cx];refine⟨⟨.int .u8 b.toNat,agw b,rfl,by simp[Value.cells,aI,Value.oneCell'],λj hj=>?_⟩,QH l (off+1) λj c hc=>?_⟩
   ·obtain rfl:j=0:=by omega
    simpa[Value.cells]using h 0 b (by simp)
   ·have:=h (j+1) c (by simp_all)
    grind
theorem abS(H:Rel N M0 B w0 κ M σ a w)(bs)(hlen:bs.data.toList.length<=140737488355328){s d e}(hs:P.underlying s=ś .string)(hd:P.underlying d=ś (.slice e))(he:P.underlying e=ś (.int .u8)):
 ∃c w',(convert s d (.string bs)).run P w=.ok c w'/\∃M',Rel N M0 B w0 κ M' σ a w'/\rep M' NX (.seq 1 (lg bs.data.toList)) c:=by
 have hrun:=run_bytes_of_string (P:=P) w s d e bs hs hd he;have hcap:=grownCap_ge w bs.size 0 e;generalize grownCap w bs.size 0 e=cap at *;refine⟨_,_,hrun,ext M (w.drew.alloc (.cells (bytesRow bs cap) e ((bytesRow bs cap).size,(bytesRow bs cap).size+1))) (λg=>g=w.heap.size),?_,?_⟩
 ·have hb:Below w.heap.size w (w.drew.alloc (.cells (bytesRow bs cap) e ((bytesRow bs cap).size,(bytesRow bs cap).size+1))):=((Below.refl _ w).drew).alloc (zAd _) _
  refine H.grow hb ?_ ?_ ?_
  ·intro p v h
   unfold ext;rw[if_neg (by have:=H.mem_lt h;omega)]
   exact h
  ·intro p v h
   unfold ext at h;split at h
   ·exact h
   ·rw[hb.cell (H.mem_lt h)];exact H.snd p v h
  ·intro p v h
   unfold ext at h;grind
 ·simp only[rep]
  have hl:(lg bs.data.toList).length=bs.size:=by rw[QI,zCj,<-sI]
  refine⟨ś ⟨w.heap.size,0,ń⟩,cap,by rw[hl],by omega,by simp_all,by decide,.inr ⟨_,_,rfl,?_⟩⟩
  refine QH _ 0 λj b hj=>?_;unfold ext;rw[if_pos (by simp)]
  have hg:(w.drew.alloc (.cells (bytesRow bs cap) e ((bytesRow bs cap).size,(bytesRow bs cap).size+1))).heap[w.heap.size]?=ś (.cells (bytesRow bs cap) e ((bytesRow bs cap).size,(bytesRow bs cap).size+1)):=heap_alloc_new w.drew _;rw[cell_of_row _ _ _ _ _ _ hg];unfold bytesRow;grind
theorem aiy(H:Rel N M0 B w0 κ M σ a w){t e i n len z}{parts:Array (Nat×Operand)}(ht:P.underlying t=ś (.slice e))(hi:P.info? e=ś i)(hs:i.size=n)(h0:0<n)(hz:i.zero=ś z)(hzs:z.cells.size=n)
 (hle:len*n<=16777216) (hpi:parts.toList.map (·.1)=zBf len) {vs us:List V} (hvs:af M (XX κ σ.h) vs ((parts.toList.map (·.2)).map a.eval)) (hus:purs σ.h vs=ś us) (hsl:cw n us=ť) (hul:us.length<=16777216):
 ∃(M1:Mem)(xs:List Value),Rel N M0 B w0 κ M1 (σ.kill (ax vs)) a w/\aB M1 n us xs/\us.length=len/\
   (Instr.buildSlice t len (parts.map λx=>(x.1,a.eval x.2))).run P w=.ok (.slice (ś ⟨w.heap.size,0,ń⟩) len len) (w.alloc (.cells xs.toArray e)):=by
 obtain⟨H1,hM1⟩:=H.kill (ax vs) (eT hus);generalize hcs:(parts.toList.map (·.2)).map a.eval=cs at *
 have hpu:af (ext M w (rm κ (ax vs))) NX us cs:=by
  refine cz H hM1 (λid hid g hg p hpb=>?_) hvs hus;unfold ext;rw[if_pos (eC.2 ⟨id,hid,by simp_all⟩)]
 have hcl:cs.length=len:=by
  rw[<-hcs,zCj,zCj];have:=congrArg zG hpi;grind
 have hul':us.length=len:=by grind[bg]
 have hc1:∀c∈cs,c.cells.size=n:=by
  intro c hc;obtain⟨j,hj,hj'⟩:=zFc hc;exact(vA hsl hpu j c (by grind)).1
 have hz0:0<z.cells.size:=by omega
 have hbase:((zBi (len*n)).map (λx=>z.cells[x%z.cells.size]!)).size=len*n:=by simp
 have hfill:=KZ n cs 0 ((zBi (len*n)).map (λx=>z.cells[x%z.cells.size]!)) hc1 (by simp_all)
 have hparts:(parts.map λx=>(x.1,a.eval x.2)).toList=(zHf 0 cs.length).zip cs:=by
  grind[zF,zGc,zHa]
 rw[<-hparts]at hfill;have hrow0:=Eo hsl hpu;have hrl:=dq hrow0
 have hres:(zHj (0*n) ((zBi (len*n)).map (λx=>z.cells[x%z.cells.size]!)).toList++pW cs++zI ((0+cs.length)*n) ((zBi (len*n)).map (λx=>z.cells[x%z.cells.size]!)).toList).toArray=(pW cs).toArray:=by
  simp_all
 rw[hres]at hfill
 have hrun:(Instr.buildSlice t len (parts.map λx=>(x.1,a.eval x.2))).run P w=.ok (.slice (ś ⟨w.heap.size,0,ń⟩) len len) (w.alloc (.cells (pW cs).toArray e)):=by
  have hsz:ik P e=ś n:=by grind[ik]
  have hn2:¬len*n>2^24:=by omega
  unfold Instr.buildSlice;simp only[Sem.run_bind,run_underlying ht,Result.andThen_ok,bQ hsz,hn2,if_false];by_cases hln:len*n=0
  ·have hl0:len=0:=by
    rcases zFd len with h|h
    ·exact h
    ·have:=zHg h h0;omega
   have hcs0:cs=[]:=zCe (by omega)
   subst hcs0;simp only[hln,if_true,Sem.run_pure,Result.andThen_ok]at hfill⊢;have e0:∀(f:Nat->Value),zIa f (zBi 0)=#[]:=λf=>by simp
   simp only[e0]at hfill⊢;simp_all[Sem.run_bind,Sem.run_pure,Result.andThen_ok,newRow]
  simp_all[if_false,Sem.run_bind,zeroValue,typeInfo,run_program,Result.andThen_ok,Sem.run_pure,newRow]
 grind
theorem acp(H:Rel N M0 B w0 κ M σ a w){t e i n len z}{parts:Array (Nat×Operand)}(ht:P.underlying t=ś (.slice e))(hi:P.info? e=ś i)(hs:i.size=n)(h0:0<n)(hz:i.zero=ś z)(hzs:z.cells.size=n)
 (hle:len*n<=16777216) (hpi:parts.toList.map (·.1)=zBf len) {vs us:List V} (hvs:af M (XX κ σ.h) vs ((parts.toList.map (·.2)).map a.eval)) (hus:purs σ.h vs=ś us) (hsl:cw n us=ť) (hul:us.length<=16777216):
 ∃c w',(Instr.buildSlice t len (parts.map λx=>(x.1,a.eval x.2))).run P w=.ok c w'/\∃κ' M',Rel N M0 B w0 κ' M' ⟨(σ.kill (ax vs)).r,(σ.kill (ax vs)).h++[ś (Ob.arr e n us)]⟩ a w'/\
   rep M' (XX κ' ((σ.kill (ax vs)).h++[ś (Ob.arr e n us)])) (.ref (σ.kill (ax vs)).h.length us.length) c:=by
 obtain⟨M1,xs,H1,hrow,hl,hrun⟩:=aiy H ht hi hs h0 hz hzs hle hpi hvs hus hsl hul;have hxl:=dq hrow;refine⟨_,_,hrun,upd κ (σ.kill (ax vs)).h.length (.slice (ś ⟨w.heap.size,0,ń⟩) len len),M1,?_,?_⟩
 ·have hBw:B.n<=w.heap.size:=by rw[H1.base];exact H1.blw.size
  refine H1.newOb (dv w _) (λg hg=>by cases hg;exact zAd _) ?_
  simp only[bn];refine⟨h0,by omega,xs,?_,hrow,λg hg=>.inl (by rw[bj]at hg;cases hg;exact hBw),λg=>by rw[bj,cm]⟩
  rw[cq];refine⟨hxl,.inr ⟨w.heap.size,len,_,by rw[hl],zBd _,heap_alloc_new w _,by omega,by grind[maxLen],by simp[hxl,hl],?_⟩⟩
  grind
 ·simp only[rep,XX]
  refine⟨rfl,by simp,λe2 sz2 l2 h2=>?_,λe2 sz2 l2 l3 h2=>by simp at h2,λo2 h2 hn=>by simp at h2;subst h2;cases hn⟩
  simp at h2;obtain⟨rfl,rfl,rfl⟩:=h2;exact⟨by simp,λ_=>cq.symm⟩
theorem acr(H:Rel N M0 B w0 κ M σ a w){t e i n len z}{parts:Array (Nat×Operand)}(ht:P.underlying t=ś (.slice e))(hi:P.info? e=ś i)(hs:i.size=n)(h0:0<n)(hz:i.zero=ś z)(hzs:z.cells.size=n)
 (hle:len*n<=16777216) (hpi:parts.toList.map (·.1)=zBf len) {vs us:List V} (hvs:af M (XX κ σ.h) vs ((parts.toList.map (·.2)).map a.eval)) (hus:purs σ.h vs=ś us) (hsl:cw n us=ť) (hul:us.length<=16777216):
 ∃c w',(Instr.buildSlice t len (parts.map λx=>(x.1,a.eval x.2))).run P w=.ok c w'/\∃κ' M',Rel N M0 B w0 κ' M' (σ.kill (ax vs)) a w'/\rep M' NX (.seq n us) c:=by
 obtain⟨H1,hM1⟩:=H.kill (ax vs) (eT hus);generalize hcs:(parts.toList.map (·.2)).map a.eval=cs at *
 have hpu:af (ext M w (rm κ (ax vs))) NX us cs:=by
  refine cz H hM1 (λid hid g hg p hpb=>?_) hvs hus;unfold ext;rw[if_pos (eC.2 ⟨id,hid,by simp_all⟩)]
 have hcl:cs.length=len:=by
  rw[<-hcs,zCj,zCj];have:=congrArg zG hpi;grind
 have hul':us.length=len:=by grind[bg]
 have hc1:∀c∈cs,c.cells.size=n:=by
  intro c hc;obtain⟨j,hj,hj'⟩:=zFc hc;exact(vA hsl hpu j c (by grind)).1
 have hz0:0<z.cells.size:=by omega
 have hbase:((zBi (len*n)).map (λx=>z.cells[x%z.cells.size]!)).size=len*n:=by simp
 have hfill:=KZ n cs 0 ((zBi (len*n)).map (λx=>z.cells[x%z.cells.size]!)) hc1 (by simp_all)
 have hparts:(parts.map λx=>(x.1,a.eval x.2)).toList=(zHf 0 cs.length).zip cs:=by
  grind[zF,zGc,zHa]
 rw[<-hparts]at hfill;have hrow0:=Eo hsl hpu;have hrl:=dq hrow0
 have hres:(zHj (0*n) ((zBi (len*n)).map (λx=>z.cells[x%z.cells.size]!)).toList++pW cs++zI ((0+cs.length)*n) ((zBi (len*n)).map (λx=>z.cells[x%z.cells.size]!)).toList).toArray=(pW cs).toArray:=by
  simp_all
 rw[hres]at hfill
 have hrun:(Instr.buildSlice t len (parts.map λx=>(x.1,a.eval x.2))).run P w=.ok (.slice (ś ⟨w.heap.size,0,ń⟩) len len) (w.alloc (.cells (pW cs).toArray e)):=by
  have hsz:ik P e=ś n:=by grind[ik]
  have hn2:¬len*n>2^24:=by omega
  unfold Instr.buildSlice;simp only[Sem.run_bind,run_underlying ht,Result.andThen_ok,bQ hsz,hn2,if_false];by_cases hln:len*n=0
  ·have hl0:len=0:=by
    rcases zFd len with h|h
    ·exact h
    ·have:=zHg h h0;omega
   have hcs0:cs=[]:=zCe (by omega)
   subst hcs0;simp only[hln,if_true,Sem.run_pure,Result.andThen_ok]at hfill⊢;have e0:∀(f:Nat->Value),zIa f (zBi 0)=#[]:=λf=>by simp
   simp only[e0]at hfill⊢;simp_all[Sem.run_bind,Sem.run_pure,Result.andThen_ok,newRow]
  simp_all[if_false,Sem.run_bind,zeroValue,typeInfo,run_program,Result.andThen_ok,Sem.run_pure,newRow]
 refine⟨_,_,hrun,κ,ext (ext M w (rm κ (ax vs))) (w.alloc (.cells (pW cs).toArray e)) (λg=>g=w.heap.size),?_,?_⟩
 ·refine H1.grow (dv w _) ?_ ?_ ?_
  ·intro p v h
   have:=H1.mem_lt h;unfold ext at h⊢;rw[if_neg (by omega)]
   exact h
  ·intro p v h
   have h':=h;unfold ext at h;split at h
   ·exact h
   ·rw[(dv w _).cell (H1.mem_lt h)];exact H1.snd p v h
  ·intro p v h
   have h':=h;unfold ext at h;split at h
   ·omega
   ·exact .inl h
 ·simp only[rep]
  refine⟨ś ⟨w.heap.size,0,ń⟩,len,by rw[hul'],by omega,by omega,h0,.inr ⟨_,_,rfl,?_⟩⟩
  refine AH (λp v h=>?_) 0 hrow0 λj u hu=>?_
  ·have:=H1.mem_lt h
   unfold ext at h⊢;rw[if_neg (by omega)]
   exact h
  simp_all[ext,if_pos,cell_of_row,heap_alloc_new]
mutual
theorem Yg{M:Mem}{h:List (Option Ob)}:∀{v u:V}{c:Value},rep M NX v c->pur h v=ś u->rep M NX u c
 | .int _ _,u,c,h,hp=>by grind[pur]
 | .bool _,u,c,h,hp=>by grind[pur]
 | .str _,u,c,h,hp=>by grind[pur]
 | .nil sz,u,c,h,hp=>by
   grind[pur,rep]
 | .seq sz l,u,c,h,hp=>by grind[pur]
 | .ref id n,u,c,h,hp=>h.elim
 | .strct cs,u,c,h,hp=>by
   simp only[pur]at hp;obtain⟨us,hus,rfl⟩:=zAa.1 hp;simp only[rep]at h⊢;obtain⟨arr,h1,h2,h3⟩:=h;exact⟨arr,h1,Cb h2 hus,h3⟩
 | .ptr _ _,u,c,h,hp=>h.elim
 | .eptr _ _ _ _,u,c,h,hp=>h.elim
 | .mref _ _ _,u,c,h,hp=>h.elim
 | .fseq _ _,u,c,h,hp=>h.elim
 | .mptr _ _ _ _ _,u,c,h,hp=>h.elim
 | .sptr x off,u,c,h,hp=>by grind[pur]
 | .nilptr,u,c,h,hp=>by grind[pur]
 | .fn f x y,u,c,h,hp=>by
   simp only[pur]at hp;split at hp
   ·rename_i x' y' hx hy
    cases hp;simp only[rep]at h⊢;obtain⟨a1,a2,h1,h2,h3⟩:=h;exact⟨a1,a2,h1,Cb h2 hx,Cb h3 hy⟩
   ·cases hp
 | .nilfn,u,c,h,hp=>by grind[pur]
 | .iface t x,u,c,h,hp=>by
   simp only[pur]at hp;obtain⟨x',hx,rfl⟩:=zAa.1 hp;simp only[rep]at h⊢;obtain⟨y,h1,h2⟩:=h;exact⟨y,h1,Yg h2 hx⟩
 | .niliface,u,c,h,hp=>by grind[pur]
 | .tup vs,u,c,h,hp=>by
   simp only[pur]at hp;obtain⟨us,hus,rfl⟩:=zAa.1 hp;simp only[rep]at h⊢;obtain⟨arr,h1,h2⟩:=h;exact⟨arr,h1,Cb h2 hus⟩
 | .junk,u,c,h,hp=>by grind[pur]
theorem Cb{M:Mem}{h:List (Option Ob)}:∀{vs us:List V}{cs:List Value},af M NX vs cs->purs h vs=ś us->af M NX us cs
 |[],us,cs,h,hp=>by grind[purs]
 |v::vs,us,cs,h,hp=>by
   simp only[purs]at hp;split at hp
   ·rename_i u us' hu hus
    cases hp;simp only[af]at h⊢;obtain⟨c,cs',h1,h2,h3⟩:=h;exact⟨c,cs',h1,Yg h2 hu,Cb h3 hus⟩
   ·cases hp
end
theorem ace(H:Rel N M0 B w0 κ M σ a w){t e i n by' z v v'}(ht:P.underlying t=ś (.slice e))(hi:P.info? e=ś i)(hz:i.zero=ś z)(hv:cV P e z=ś v)(hnt:nt v=ť)(hpv:pur [] v=ś v')
 (hs:i.size=n) (hby:i.bytes=by') (hb0:0<by') (hn:0<n) (hzs:z.cells.size=n) {m:Int} (hm0:0<=m) (hmb:m*by'<=140737488355328) {k}:
 ∃c w',(Instr.makeSlice t (.int k m) (.int k m)).run P w=.ok c w'/\∃κ',Rel N M0 B w0 κ' M { σ with h:=σ.h++[ś (Ob.arr e n (zAj m.toNat v'))] } a w'/\rep M (XX κ' (σ.h++[ś (Ob.arr e n (zAj m.toNat v'))])) (.ref σ.h.length m.toNat) c:=by
 obtain⟨q,rfl⟩:=zDd hm0
 have hqb:q*by'<=140737488355328:=by
  omega
 have hq:q<=q*by':=zCa _ hb0
 have hqb':(by':Int)*(q:Int)<=281474976710656:=by
  grind
 have hr:=run_make (P:=P) w t e i z ht hi hz k k (q:Int) (q:Int) hm0 (zGa _) (by simp_all) (by omega)
 simp only[zEb]at hr⊢;refine⟨_,_,hr,upd κ σ.h.length (.slice (ś ⟨w.heap.size,0,ń⟩) q q),?_,?_⟩
 ·have hBw:B.n<=w.heap.size:=by rw[H.base];exact H.blw.size
  refine H.newOb (dv w _) (λg hg=>by cases hg;exact zAd _) ?_
  simp only[bn];have hrp:rep M NX v' z:=Yg (LR hv) hpv;have hk:=d5 hrp tU (sT (akE hpv hnt));refine⟨hn,by simp;omega,(madeCells z.cells (q*i.size)).toList,?_,?_,λg hg=>.inl (by rw[bj]at hg;cases hg;exact hBw),λg=>by rw[bj,cm]⟩
  ·rw[cq]
   have hsz:=size_madeCells z.cells (q*n);rw[hs];refine⟨by simp[hsz],.inr ⟨w.heap.size,q,_,by simp,zBd _,heap_alloc_new w _,by simp,by grind[maxLen],hsz,?_⟩⟩
   grind[zAi]
  ·rw[hs,<-hzs,JO _ _ (by omega)]
   simp_all[rF]
 ·simp only[rep,XX]
  refine⟨rfl,by simp,λe2 sz2 l2 h2=>?_,λe2 sz2 l2 l3 h2=>by simp at h2,λo2 h2 hn=>by simp at h2;subst h2;cases hn⟩
  simp at h2;obtain⟨rfl,rfl,rfl⟩:=h2;exact⟨by simp,λ_=>cq.symm⟩
theorem ach(H:Rel N M0 B w0 κ M σ a w){t e i n by' z}(ht:P.underlying t=ś (.slice e))(hi:P.info? e=ś i)(hz:i.zero=ś z)
 (hs:i.size=n) (hby:i.bytes=by') (hb0:0<by') (hn:0<n) {m:Int} (hm0:0<=m) (hmb:m*by'<=140737488355328) {k k'}:
 ∃c w',(Instr.makeSlice t (.int k' 0) (.int k m)).run P w=.ok c w'/\∃κ',Rel N M0 B w0 κ' M { σ with h:=σ.h++[ś (Ob.arr e n [])] } a w'/\rep M (XX κ' (σ.h++[ś (Ob.arr e n [])])) (.ref σ.h.length 0) c:=by
 obtain⟨q,rfl⟩:=zDd hm0
 have hqb:q*by'<=140737488355328:=by
  omega
 have hq:q<=q*by':=zCa _ hb0
 have hqb':(by':Int)*(q:Int)<=281474976710656:=by
  grind
 have hr:=run_make (P:=P) w t e i z ht hi hz k' k 0 (q:Int) (zGa _) hm0 (by simp_all) (by omega)
 simp only[zEb,Int.toNat_zero]at hr;refine⟨_,_,hr,upd κ σ.h.length (.slice (ś ⟨w.heap.size,0,ń⟩) 0 q),?_,?_⟩
 ·have hBw:B.n<=w.heap.size:=by rw[H.base];exact H.blw.size
  refine H.newOb (dv w _) (λg hg=>by cases hg;exact zAd _) ?_
  simp only[bn];refine⟨hn,by simp,[],?_,by simp[aB],λg hg=>.inl (by rw[bj]at hg;cases hg;exact hBw),λg=>by rw[bj,cm]⟩
  rw[cq];have hsz:=size_madeCells z.cells (q*n);rw[hs];exact⟨by simp,.inr ⟨w.heap.size,q,_,by simp,zBd _,heap_alloc_new w _,by simp,by grind[maxLen],hsz,by simp⟩⟩
 ·simp only[rep,XX]
  refine⟨rfl,by simp,λe2 sz2 l2 h2=>?_,λe2 sz2 l2 l3 h2=>by simp at h2,λo2 h2 hn=>by simp at h2;subst h2;cases hn⟩
  simp at h2;obtain⟨rfl,rfl,rfl⟩:=h2;exact⟨by simp,λ_=>cq.symm⟩
theorem acg(H:Rel N M0 B w0 κ M σ a w){t e e2:TypeId}{i n by'}(ht:P.underlying t=ś (.slice e))(hi:P.info? e=ś i)(hz:i.zero=ś (.slice ń 0 0))
 (hs:i.size=1) (hby:i.bytes=by') (hb0:0<by') (hn:0<n) {m:Int} (hm0:0<=m) (hmb:m*by'<=140737488355328) {k}:
 ∃c w',(Instr.makeSlice t (.int k m) (.int k m)).run P w=.ok c w'/\∃κ',Rel N M0 B w0 κ' M { σ with h:=σ.h++[ś (Ob.mat e e2 n (zAj m.toNat (.a [])))] } a w'/\rep M (XX κ' (σ.h++[ś (Ob.mat e e2 n (zAj m.toNat (.a [])))])) (.ref σ.h.length m.toNat) c:=by
 obtain⟨q,rfl⟩:=zDd hm0
 have hqb:q*by'<=140737488355328:=by
  omega
 have hq:q<=q*by':=zCa _ hb0
 have hqb':(by':Int)*(q:Int)<=281474976710656:=by
  grind
 have hr:=run_make (P:=P) w t e i _ ht hi hz k k (q:Int) (q:Int) hm0 (zGa _) (by simp_all) (by omega)
 simp only[zEb]at hr⊢;refine⟨_,_,hr,dy κ σ.h.length (.slice (ś ⟨w.heap.size,0,ń⟩) q q) (λ_=>.slice ń 0 0) (λg=>g=w.heap.size),?_,?_⟩
 ·have hBw:B.n<=w.heap.size:=by rw[H.base];exact H.blw.size
  have rs:∀{j:Nat}{s:List V},bq (zAj q (.a [])) j=ś s->s=[]/\j<q:=by
   intro j s h;obtain⟨h1,h2⟩:=vH h;simp_all
  refine H.newOb (dv w _) (λg hg=>by omega) ?_
  simp only[bn];rw[cm,rz,bj];have hc:(Value.slice ń 0 0).cells=#[Value.slice ń 0 0]:=rfl
  have hcells:(madeCells (Value.slice ń 0 0).cells (q*i.size)).toList=zAj q (.slice ń 0 0):=by
   rw[hs,zHh];apply zDf;intro j;simp[madeCells,hc,zDe];grind
  refine⟨hn,by simp;omega,⟨(madeCells (Value.slice ń 0 0).cells (q*i.size)).toList,?_,?_,?_⟩,?_,?_,?_,λg hg=>.inl (by omega),λg=>?_⟩
  ·have hsz:=size_madeCells (Value.slice ń 0 0).cells (q*1)
   rw[hs,List.length_replicate];refine⟨by rw[zB,hsz],.inr ⟨w.heap.size,q,_,rfl,zBd _,heap_alloc_new w _,zAd _,by grind[maxLen],hsz,?_⟩⟩
   simp_all
  ·intro u hu
   rw[hcells]at hu;rw[(List.mem_replicate.1 hu).2];rfl
  ·simp_all
  ·intro j r hj
   rw[(rs hj).1];simp_all[World.ownsRow_nil,aB]
  ·intro j k r s g _ _ h
   cases h
  ·intro j r g _ h
   cases h
  ·constructor
   ·intro h;exact .inl (by rw[h];rfl)
   ·rintro(h|⟨_,_,_,h⟩)
    ·cases h;rfl
    ·cases h
 ·simp only[rep,XX]
  refine⟨rfl,by simp,λe3 sz2 l2 h2=>by simp at h2,λe3 sz2 l2 l3 h2=>?_,λo2 h2 hn=>by simp at h2;subst h2;cases hn⟩
  simp at h2;obtain⟨rfl,rfl,rfl,rfl⟩:=h2;exact⟨by simp,λ_=>cm.symm⟩
theorem Ci:∀{l:List V}{s:List UInt8},ez l=ś s->s.length=l.length/\∀(j:Nat)(b:UInt8),s[j]?=ś b->∃n,l[j]?=ś (.int .u8 n)/\b=zHi n.toNat
 |[],s,h=>by grind[ez,zAb]
 |v::l,s,h=>by
   cases v<;>try (simp only[ez]at h;cases h;done)
   rename_i k n;cases k<;>try (simp only[ez]at h;cases h;done)
   simp only[ez,zAa]at h;obtain⟨t,h1,rfl⟩:=h;obtain⟨h2,h3⟩:=Ci h1;refine⟨by simp[h2],λj b hj=>?_⟩
   cases j with
   |zero=>simp at hj;exact⟨n,by simp,hj.symm⟩
   |succ j=>simp at hj;simpa using h3 j b hj
theorem ads(H:Rel N M0 B w0 κ M σ a w){s d e x u}(hx:cO P s x=ś u)(hs:P.underlying s=ś (.slice e))(he:P.underlying e=ś (.int .u8))(hd:P.underlying d=ś .string)
 {v} (hv:σ.val (.b2s u)=ś v):∃c,(convert s d (a.eval x)).run P w=.ok c w/\rep M (XX κ σ.h) v c:=by
 simp only[St.val]at hv;split at hv
 ·rename_i v0 hv0
  split at hv
  ·rename_i l hl
   simp only[zAa]at hv;obtain⟨t,ht,rfl⟩:=hv;have hr:=yf H H.snd (λ_ _ _ _ _ _=>rfl) (H.op hx hv0) hl;simp only[rep]at hr;obtain⟨p,cap,e1,_,hlen,_,hmem⟩:=hr;obtain⟨hlt,hget⟩:=Ci ht;rcases hmem with rfl|⟨b,off,rfl,hm⟩
   ·have:t=[]:=by simp_all
    subst this;refine⟨.string .empty,?_,by simp_all[rep]⟩
    rw[e1];cases p with
    |none=>grind[run_convert_bytes_nil]
    |some p=>exact run_convert_bytes_back w s d e p cap [] hs he hd (λj hj=>by simp at hj)
   ·refine⟨.string ⟨t.toArray⟩,?_,by simp only[rep];grind⟩
    rw[e1,<-hlt];refine run_convert_bytes_back w s d e _ cap t hs he hd λj hj=>?_;obtain⟨n,h1,h2⟩:=hget j t[j] (by simp)
    obtain⟨y,g1,g2,g3,g4⟩:=sQ hm h1;simp only[rep]at g1;obtain⟨rfl,hn1,hn2⟩:=g1;have:=g4 0 (by omega)
    rw[Addr.add_lit];simp only[zHh,zGj]at this;rw[this,h2];have hmin:IntKind.u8.min=0:=by decide
    have hmax:IntKind.u8.max=255:=by decide
    rw[hmin]at hn1;rw[hmax]at hn2;have hn:n.toNat<256:=by omega
    simp only[Value.cells,List.getElem?_toArray,List.getElem?_cons_zero];congr 2;simp[UInt8.toNat_ofNat,Nat.mod_eq_of_lt hn,Int.toNat_of_nonneg hn1]
  ·cases hv
 ·cases hv
theorem acf(H:Rel N M0 B w0 κ M σ a w){t kt}:∃c w',(Instr.makeMap t ń).run P w=.ok c w'/\∃κ',Rel N M0 B w0 κ' M { σ with h:=σ.h++[ś (Ob.mp kt [])] } a w'/\rep M (XX κ' (σ.h++[ś (Ob.mp kt [])])) (.ref σ.h.length 0) c:=by
 refine⟨_,_,run_makeMap (P:=P) t w,dy κ σ.h.length (.map (ś w.heap.size)) (λ_=>.nilFunc) (λg=>g=w.heap.size),?_,?_⟩
 ·have hBw:B.n<=w.heap.size:=by rw[H.base];exact H.blw.size
  refine H.newOb (dv w _) (λg hg=>by omega) ?_
  simp only[bn];rw[cm,bj];refine⟨w.heap.size,#[],0,rfl,.inl hBw,?_,rfl,λg=>zA⟩
  show(w.heap.push _)[w.heap.size]?=_
  simp
 ·simp only[rep,XX]
  refine⟨rfl,by simp,λe2 sz2 l2 h2=>by simp at h2,λe2 sz2 l2 l3 h2=>by simp at h2,λe2 l3 h2=>?_⟩
  rw[cm]
theorem aiD{σ:St}{id x}(h:σ.itr? id=ś x):σ.h[id]?=ś (ś (.itr x.1 x.2)):=by
 grind[St.itr?]
theorem PP(H:Rel N M0 B w0 κ M σ a w){t K E kt}(ht:P.underlying t=ś (.map K E))(hk:ktT P K=ś kt){id l}(hm:σ.h[id]?=ś (ś (.mp kt l))){kv u'}{c d}
 (hf:bH kt kv=ť) (hc:rep M (XX κ σ.h) kv c) (hd:rep M NX u' d):∃w',(Instr.mapUpdate t (κ id) c d).run P w=.ok () w'/\∃κ',Rel N M0 B w0 κ' M { σ with h:=σ.h.set id (ś (Ob.mp kt (nq kv u' l))) } a w':=by
 obtain⟨b,es,clock,e1,e2,e3,e4,e5⟩:=H.heap id _ hm;obtain⟨r,g1,g2⟩:=UZ hk hf hc w l es.toList e4;have gc:=Pp hk hf hc ğ w;have hobj:=Go.MapKept.run_getObj_map (P:=P) e3
 have hkN:rep M NX kv c:=by
  grind[ny,ak3]
 have fin:∀(es':Array MapEntry)(clock':Nat),qL M kt (nq kv u' l) es'.toList->∃κ',Rel N M0 B w0 κ' M { σ with h:=σ.h.set id (ś (Ob.mp kt (nq kv u' l))) } a { w with heap:=w.heap.setIfInBounds b (.map es' clock') }:=by
  intro es' clock' hes;have hlt:b<w.heap.size:=(zAf.1 e3).1
  refine⟨dy κ id (κ id) (κ.row id) (κ.bl id),H.setOb hm ⟨rfl,rfl,rfl,by simp,λk hk1 hk2=>?_,λk cur T z hc=>⟨cur,T,z,by
   grind,rfl⟩⟩ (λk hk1 hk2=>?_) (λg hg=>.inl hg) (λv c hx=>rp hm hx (λ_ h=>by cases h) (λ_ _ _ h=>by cases h) (λ_ _ _ _ h=>by cases h) (λ_=>⟨rfl,rfl⟩)) ?_⟩
  ·have:b≠k:=λe=>by
    subst e;rcases e2 with h|h
    ·omega
    ·exact hk2 h
   simp_all
  ·grind
  simp_all[bn,cm,bj,zBg]
 rcases g2 with⟨rfl,g3,g4⟩|⟨j,e,k',v2,rfl,hj,g3,_,hfk,hke,heq,g4⟩
 ·refine⟨_,?_,fin (es.push { key:=c,val:=d,born:=clock }) (clock+1) (by simp_all)⟩
  unfold Instr.mapUpdate;simp[run_underlying ht,e1,hobj,gc,g1,Go.MapKept.run_setObj_map _ e3]
 ·have hcc:e.key=c:=(afC hf hfk heq hc hke).symm
  have hjs:es[j]?=ś e:=by simp_all
  have hst:(Instr.keyThatStays (((es[j]?).map (·.key)).getD c) c).run P w=.ok c w:=by
   rw[hjs];simp only[zBj,Option.getD_some,hcc,Instr.keyThatStays,adq hf hc,if_true];rfl
  refine⟨_,?_,fin (es.modify j λe=>{ e with key:=c,val:=d }) clock (by simp_all)⟩
  unfold Instr.mapUpdate;simp[run_underlying ht,e1,hobj,gc,g1,hst,Go.MapKept.run_setObj_map _ e3]
theorem aiT{bs p}:Lt bs.data.toList p=Utf8.decode bs p:=by
 unfold Lt;simp
theorem abX(H:Rel N M0 B w0 κ M σ a w){t}(ht:P.underlying t=ś .string){bs}(hl:bs.data.toList.length<=4611686018427387904):∃c w',(Instr.range t (.string bs)).run P w=.ok c w'/\∃κ',Rel N M0 B w0 κ' M { σ with h:=σ.h++[ś (Ob.itr bs.data.toList 0)] } a w'/\rep M (XX κ' (σ.h++[ś (Ob.itr bs.data.toList 0)])) (.ref σ.h.length 0) c:=by
 refine⟨_,_,run_range_string (P:=P) w t bs ht,dy κ σ.h.length (.pointer (ś ⟨w.heap.size,0,ń⟩)) (λ_=>.nilFunc) (λg=>g=w.heap.size),?_,?_⟩
 ·have hBw:B.n<=w.heap.size:=by rw[H.base];exact H.blw.size
  refine H.newOb (dv w _) (λg hg=>by omega) ?_
  simp only[bn];rw[cm,bj];exact⟨w.heap.size,bs,rfl,.inl hBw,World.iter_heap w bs 0,rfl,hl,λg=>zA⟩
 ·simp only[rep,XX]
  refine⟨rfl,by simp,λe2 sz2 l2 h2=>by simp at h2,λe2 sz2 l2 l3 h2=>by simp at h2,λe2 l3 h2=>?_⟩
  rw[cm]
theorem UY{b p}{bs:ByteArray}{ty}(h:w.heap[b]?=ś (.stringIter bs p)):(Instr.next (.pointer (ś ⟨b,0,ń⟩)) ť ty).run P w=
 if p<bs.size then .ok (.tuple #[.bool ť,.int .i64 p,.int .i32 (Utf8.decode bs p).1]) { w with heap:=w.heap.setIfInBounds b (.stringIter bs (p+(Utf8.decode bs p).2)) }else .ok (.tuple #[.bool ğ]) w:=by
 simp_all[Instr.next,getObj,setObj,Sem.run_bind,Sem.run,Result.andThen,if_true,goInt]
theorem ab8(H:Rel N M0 B w0 κ M σ a w){id s}{p:Nat}(hm:σ.h[id]?=ś (ś (.itr s p))){ty}:
 (p<s.length->∃w' κ',(Instr.next (κ id) ť ty).run P w=.ok (.tuple #[.bool ť,.int .i64 p,.int .i32 (Lt s p).1]) w'/\Rel N M0 B w0 κ' M { σ with h:=σ.h.set id (ś (Ob.itr s (p+(Lt s p).2))) } a w')/\
 (¬p<s.length->(Instr.next (κ id) ť ty).run P w=.ok (.tuple #[.bool ğ]) w)/\s.length<=4611686018427387904:=by
 obtain⟨b,bs,e1,e2,e3,rfl,e5,e6⟩:=H.heap id _ hm;have hsz:bs.size=bs.data.toList.length:=by simp
 rw[e1,UY e3,hsz,aiT];refine⟨λhp=>?_,λhp=>by rw[if_neg hp],e5⟩
 rw[if_pos hp];have hlt:b<w.heap.size:=(zAf.1 e3).1;have hne:∀k,k≠b->({ w with heap:=w.heap.setIfInBounds b (.stringIter bs (p+(Utf8.decode bs p).2)) }:World).heap[k]?=w.heap[k]?:=λk hk=>Array.getElem?_setIfInBounds_ne (Ne.symm hk)
 refine⟨_,dy κ id (κ id) (κ.row id) (λg=>g=b),rfl,?_⟩
 refine H.setOb hm ⟨rfl,rfl,rfl,by simp,λk hk hs=>hne k (λe=>by subst e;rcases e2 with h|h;omega;exact hs h),λk cur T z hc=>?_⟩ (λk hk1 hk2=>hne k (λe=>hk2 ((e6 k).2 e))) (λg hg=>.inl ((e6 g).2 hg))
  (λv c hx=>rp hm hx (λ_ h=>by cases h) (λ_ _ _ h=>by cases h) (λ_ _ _ _ h=>by cases h) (λ_=>⟨rfl,rfl⟩)) ?_
 ·grind
 ·simp only[bn]
  rw[cm,bj];grind
theorem ade(hJC : Aw P M0 B)(H : Rel N M0 B w0 κ M σ a w){ty : TypeId}{op : Op}{act : Act'}(hl : LE P ty op act)(hny : ∀g xs,act≠ .yld g xs){d : Option Nat}(hd : ∀t,d = some t -> t<N /\ t ∉ B.ps){K : St -> Prop}(hW : ak (Cn P) d act K σ)
    {Nx : Act -> World -> Prop} (hK : ∀κ' M' σ' a' w',K σ' -> Rel N M0 B w0 κ' M' σ' a' w' -> Nx a' w') {Q : Exit -> Act -> World -> Prop} (o : Oper) (ho : o.op = op) (hty : o.type = ty) (hod : o.dst = d) : o.wp P a w Nx Q := by
  unfold Oper.wp execOp;subst hod;cases hl <;> rw[ho] <;> dsimp only
  case alloc e i z v hi hz hv hnt =>
    simp only[ak]at hW;have hr := LR hv (M := M) (X := NX);have hk := d5 hr tU (sT hnt)
    have ho' : bn (upd κ σ.h.length (.pointer (some ⟨w.heap.size,0,none⟩))) M (XX (upd κ σ.h.length (.pointer (some ⟨w.heap.size,0,none⟩))) (σ.h ++ [some (Ob.box (cl v))])) B (w.alloc (.cells z.cells e)) σ.h.length (.box (cl v)) := by
      simp only[bn];refine⟨w.heap.size,z.cells,e,cq,.inl (by rw[H.base];exact H.blw.size),heap_alloc_new w _,bv (λ_ _ h => h) (λ_ _ h => h.elim) _ _ hk.1,hk.2,λg => by rw[bj];simp only[blk,Option.some.injEq];exact eq_comm⟩
    have H' := H.newOb (dv w _) (kv := .pointer (some ⟨w.heap.size,0,none⟩)) (λg hg => by cases hg;exact Nat.le_refl _) ho'
    have hfin := hK _ _ _ _ _ hW (H'.put' (c := .pointer (some ⟨w.heap.size,0,none⟩)) hd (by
      simp only[rep,XX];exact⟨rfl,by simp,λcs _ => ⟨w.heap.size,cq,rfl⟩⟩))
    simp[Instr.alloc,zeroValue,typeInfo,hi,hz,newVar,newRow,Oper.upon];exact hfin
  case box e x y hx =>
    simp only[ak]at hW;split at hW
    ·rename_i v hv
     split at hW
     ·rename_i hnt
      have hr := H.op hx hv;have hk := d5 hr Uu (sT hnt);have hX : ∀u c,XX κ σ.h u c -> XX (upd κ σ.h.length (.pointer (some ⟨w.heap.size,0,none⟩))) (σ.h ++ [some (Ob.box (cl v))]) u c := λu c hx => abk hx (by simp) (λi hi => aei (by omega)) (λi hi => (dg (by omega)).2.1) (λi ob' hi h => by rwa[List.getElem?_append_left hi]at h)
      have ho' : bn (upd κ σ.h.length (.pointer (some ⟨w.heap.size,0,none⟩))) M (XX (upd κ σ.h.length (.pointer (some ⟨w.heap.size,0,none⟩))) (σ.h ++ [some (Ob.box (cl v))])) B (w.alloc (.cells (a.eval x).cells e)) σ.h.length (.box (cl v)) := by
        simp only[bn];exact⟨w.heap.size,(a.eval x).cells,e,cq,.inl (by rw[H.base];exact H.blw.size),heap_alloc_new w _,bv (λ_ _ h => h) hX _ _ hk.1,hk.2,λg => by rw[bj];simp only[blk,Option.some.injEq];exact eq_comm⟩
      have H' := H.newOb (dv w _) (kv := .pointer (some ⟨w.heap.size,0,none⟩)) (λg hg => by cases hg;exact Nat.le_refl _) ho'
      have hfin := hK _ _ _ _ _ hW (H'.put' (c := .pointer (some ⟨w.heap.size,0,none⟩)) hd (by
        simp only[rep,XX];exact⟨rfl,by simp,λcs _ => ⟨w.heap.size,cq,rfl⟩⟩))
      simp[Instr.box,newVar,newRow,Oper.upon];exact hfin
     ·exact hW.elim
    ·exact hW.elim
  case store t p x p' x' n hp hx hs =>
    simp only[ak]at hW;split at hW
    ·rename_i pv v hpv hv
     split at hW
     ·rename_i hnt
      split at hW
      ·rename_i σ' hst
       obtain⟨w',hrun,κ',M',H'⟩ := XR H hs (H.op hp hpv) (H.op hx hv) hnt hst;have hfin := hK _ _ _ _ _ hW (H'.undef hd);simp[hrun,Oper.upon];exact hfin
      ·exact hW.elim
     ·exact hW.elim
    ·exact hW.elim
  case s2b s d x y e hx hs hd' he =>
    simp only[ak]at hW;split at hW
    ·rename_i l hv
     obtain⟨hlen,hW⟩ := hW;obtain⟨bs,hc,rfl,_⟩ := sO (H.op hx hv);obtain⟨c,w',hrun,M',H',hr⟩ := abS H bs hlen hs hd' he;have hfin := hK _ _ _ _ _ hW (H'.put' hd (aX hr));simp[hc,hrun,Oper.upon];exact hfin
    ·exact hW.elim
  case lit t len parts xs e n i z ht hi hs h0 hz hzs hle hpi hps =>
    simp only[ak]at hW;split at hW
    ·rename_i vs hvs
     split at hW
     ·rename_i us hus
      obtain⟨hsl,hul,hW⟩ := hW;obtain⟨c,w',hrun,κ',M',H',hr⟩ := acr H ht hi hs h0 hz hzs hle hpi (H.ops hps hvs) hus hsl hul;have hfin := hK _ _ _ _ _ hW (H'.put' hd (aX hr));simp[hrun,Oper.upon];exact hfin
     ·exact hW.elim
    ·exact hW.elim
  case ltr t len parts xs e n i z ht hi hs h0 hz hzs hle hpi hps =>
    simp only[ak]at hW;split at hW
    ·rename_i vs hvs
     split at hW
     ·rename_i us hus
      obtain⟨hsl,hul,hW⟩ := hW;obtain⟨c,w',hrun,κ',M',H',hr⟩ := acp H ht hi hs h0 hz hzs hle hpi (H.ops hps hvs) hus hsl hul;have hfin := hK _ _ _ _ _ hW (H'.put' hd hr);simp[hrun,Oper.upon];exact hfin
     ·exact hW.elim
    ·exact hW.elim
  case app t x y x' y' e i z n by' ht hi hz hs hby hb0 hzs hn hx hy =>
    obtain⟨c,w1,hr,hfin⟩ := adu (ty := o.type) H ht hi hz hs hby hb0 hzs hn hx hy hd hW hK;simp[resolve,invoke,builtin,hr,Oper.upon];exact hfin
  case mks t l l' e i z v v' n by' ht hi hz hv hnt hpv hs hby hb0 hn hl' hzs =>
    simp only[ak]at hW;split at hW
    ·rename_i k m hm
     obtain⟨hm0,hmb,hW⟩ := hW;obtain⟨c,w',hrun,κ',H',hr⟩ := ace H ht hi hz hv hnt hpv hs hby hb0 hn hzs hm0 hmb (k := k);obtain⟨em,_⟩ := ci (H.op hl' hm);have hfin := hK _ _ _ _ _ hW (H'.put' hd hr);simp[em,hrun,Oper.upon];exact hfin
    ·exact hW.elim
  case mk0 t k0 l l' e i z n by' ht hi hz hs hby hb0 hn hl' =>
    simp only[ak]at hW;split at hW
    ·rename_i k m hm
     obtain⟨hm0,hmb,hW⟩ := hW;obtain⟨c,w',hrun,κ',H',hr⟩ := ach H ht hi hz hs hby hb0 hn hm0 hmb (k := k) (k' := k0);obtain⟨em,_⟩ := ci (H.op hl' hm);have hfin := hK _ _ _ _ _ hW (H'.put' hd hr);have ec : a.eval (.const (.int k0 0)) = .int k0 0 := rfl;simp[em,ec,hrun,Oper.upon];exact hfin
    ·exact hW.elim
  case mkm t l l' e i n by' e2 i2 ht hi hz hs hby hb0 ht2 hi2 hs2 hn hl' =>
    simp only[ak]at hW;split at hW
    ·rename_i k m hm
     obtain⟨hm0,hmb,hW⟩ := hW;obtain⟨c,w',hrun,κ',H',hr⟩ := acg (e2 := e2) H ht hi hz hs hby hb0 hn hm0 hmb (k := k);obtain⟨em,_⟩ := ci (H.op hl' hm);have hfin := hK _ _ _ _ _ hW (H'.put' hd hr);simp[em,hrun,Oper.upon];exact hfin
    ·exact hW.elim
  case mkp t K E kt ht hk =>
    simp only[ak]at hW;obtain⟨c,w',hrun,κ',H',hr⟩ := acf (P := P) (t := t) (kt := kt) H;have hfin := hK _ _ _ _ _ hW (H'.put' hd hr);simp[hrun,Oper.upon];exact hfin
  case mup t K E x k v u b c kt ht hk hx hkk hvv =>
    simp only[ak]at hW;split at hW
    ·rename_i id n kv u1 h1 h2 h3
     split at hW
     ·rename_i kt' l u' hm hp
      obtain⟨rfl,hf,hvi,hnt,hW⟩ := hW;have hmp := RZ hm;have r1 := H.op hx h1;simp only[rep,XX]at r1;have ex := r1.2.2.2.2 _ hmp rfl;have hd' := yf H (λ_ _ h => h) (λid hid => by rw[hvi]at hid;cases hid) (H.op hvv h3) hp
      obtain⟨w',hrun,κ',H'⟩ := PP (P := P) H ht hk hmp hf (H.op hkk h2) hd';have hfin := hK _ _ _ _ _ hW (H'.undef hd);simp[ex,hrun,Oper.upon];exact hfin
     ·exact hW.elim
    ·exact hW.elim
  case mui t K E x k v u b c kt ht hk hx hkk hvv =>
    simp only[ak]at hW;split at hW
    ·rename_i id n kv u1 h1 h2 h3
     split at hW
     ·rename_i kt' l u' hm hp
      obtain⟨rfl,hf,hvi,hnt,hW⟩ := hW;have hmp := RZ hm;have r1 := H.op hx h1;simp only[rep,XX]at r1;have ex := r1.2.2.2.2 _ hmp rfl;have hd' := yf H (λ_ _ h => h) (λid hid => by rw[hvi]at hid;cases hid) (H.op hvv h3) hp
      obtain⟨w',hrun,κ',H'⟩ := PP (P := P) H ht hk hmp hf (H.op hkk h2) hd';have hfin := hK _ _ _ _ _ hW (H'.undef hd);simp[ex,hrun,Oper.upon];exact hfin
     ·exact hW.elim
    ·exact hW.elim
  case call f args ts xs hx =>
    simp only[ak]at hW;split at hW
    ·rename_i vs hvs
     split at hW
     ·rename_i us hus
      have hcs := H.ops hx hvs;have := BB H hd hW hus (cs := args.map a.eval) (by simpa using hcs) hK (Q := Q) o rfl
      simpa[resolve,Deferred.ofValue,invoke,Act.eval]using this
     ·have := qq H hJC hd hW (cs := args.map a.eval) (by simpa using H.ops hx hvs) hK (Q := Q) o rfl
      simpa[resolve,Deferred.ofValue,invoke,Act.eval]using this
    ·exact hW.elim
  case inv r x name args ts xs tbl hx ht hxs =>
    simp only[ak]at hW;split at hW
    ·rename_i t v vs he hvs
     split at hW
     ·rename_i f hf
      subst ht;have hr := H.op hx he;simp only[rep]at hr;obtain⟨y,ey,hy⟩ := hr
      have hcs : af M (XX κ σ.h) (v :: vs) (#[y] ++ args.map a.eval).toList := by
        have := H.ops hxs hvs;simp only[Array.toList_append,List.cons_append,List.nil_append,af];exact⟨y,_,rfl,hy,by simpa using this⟩
      have hrun : ((do let d <- resolve a.eval { callee := .invoke r name,args := args,argTypes := ts } o.type;invoke d.target d.args : Sem Next)).run P w = (callFunc f (#[y] ++ args.map a.eval)).run P w := by
        have e0 : ∀l : Array Value,(#[Value.iface t y] ++ l)[0]? = some (.iface t y) := λl => by simp[Array.getElem?_append]
        have e1 : (args.map a.eval).extract 0 args.size = args.map a.eval := by simp
        simp[resolve,invoke,callMethod,ey,Made.depth,X8 hf,e0,e1]
      rw[hrun];split at hW
      ·rename_i us hus
       exact BB H hd hW hus hcs hK (Q := Q) o rfl
      ·exact qq H hJC hd hW hcs hK (Q := Q) o rfl
     ·exact hW.elim
    ·exact hW.elim
  case ivp r x name args ts xs tbl hx ht hxs =>
    simp only[ak]at hW;split at hW
    ·rename_i f ws hf
     subst ht;unfold St.ivpV at hf;split at hf
     ·rename_i t v vs he hvs
      split at hf
      ·rename_i f' l hl
       split at hf
       ·rename_i u hu
        cases hf;have hr := H.op hx he;simp only[rep]at hr;obtain⟨y,ey,hy⟩ := hr;obtain⟨y',hmt,hy'⟩ : ∃y',(method (P.types.size+100) t y name).run P w = .ok (f,y') w /\ rep M (XX κ σ.h) u y' := run_methodU H hl (P.types.size+99) hy hu
        have hcs : af M (XX κ σ.h) (u :: vs) (#[y'] ++ args.map a.eval).toList := by
          have := H.ops hxs hvs;simp only[Array.toList_append,List.cons_append,List.nil_append,af];exact⟨y',_,rfl,hy',by simpa using this⟩
        have hrun : ((do let d <- resolve a.eval { callee := .invoke r name,args := args,argTypes := ts } o.type;invoke d.target d.args : Sem Next)).run P w = (callFunc f (#[y'] ++ args.map a.eval)).run P w := by
          have e0 : ∀l : Array Value,(#[Value.iface t y] ++ l)[0]? = some (.iface t y) := λl => by simp[Array.getElem?_append]
          have e1 : (args.map a.eval).extract 0 args.size = args.map a.eval := by simp
          simp[resolve,invoke,callMethod,ey,Made.depth,hmt,e0,e1]
        rw[hrun];unfold ivpK at hW;split at hW
        ·rename_i us hus
         rcases hW with hW|hW
         ·exact BB H hd hW hus hcs hK (Q := Q) o rfl
         ·exact qq H hJC hd hW hcs hK (Q := Q) o rfl
        ·exact qq H hJC hd hW hcs hK (Q := Q) o rfl
       ·cases hf
      ·cases hf
     ·cases hf
    ·exact hW.elim
  case trc t x hi u hi' e n hx hh ht hs =>
    simp only[ak]at hW;split at hW
    ·rename_i id m k b he hb
     split at hW
     ·rename_i e' sz' l hal
      obtain⟨rfl,hn,hb0,hbn,hW⟩ := hW;have ha := gT hal;simp only at ha;have hr := H.op hx he;simp only[rep,XX]at hr;have hck := (hr.2.2.1 _ _ _ ha).2 hn;obtain⟨ei,_⟩ := ci (H.op hh hb);obtain⟨h0,hll,xs,ho,hrow,_⟩ := H.heap id _ ha
      have hsl : ∃(ad : Option Addr)(cap : Nat),κ id = .slice ad l.length cap /\ l.length <= cap /\ ∀q,ad.map (·.add (0*q)) = ad := by
        rcases ho.2 with⟨h4,h5⟩|⟨g,cap,cur,h4,h5,h6,h7,_⟩
        ·exact⟨none,0,by rw[h4,h5],by omega,λq => rfl⟩
        ·exact⟨some ⟨g,0,none⟩,cap,h4,h7,λq => by simp[Addr.add_lit]⟩
      obtain⟨ad,cap,hκ,hcap,hadd⟩ := hsl;obtain⟨κ',H',hk'⟩ := H.trunc ha (b := b.toNat) (by omega) hκ
      have b3 : (Instr.sliceBounds true l.length cap none (some (.int k b)) none).run P w = .ok (0,b.toNat,cap) w :=
        AD (p := 0) (q := b.toNat) (.inr ⟨k,b,rfl,by omega,by omega,rfl⟩) (.inl ⟨rfl,rfl⟩) w
      have hfin := hK _ _ _ _ _ hW (H'.put' hd (c := .slice ad b.toNat cap) (by
        simp only[rep,XX];refine⟨rfl,by simp,λe2 sz2 l2 h2 => ?_,λe2 sz2 l2 l3 h2 => by simp at h2,λo2 h2 hn => by simp at h2;subst h2;cases hn⟩
        simp at h2;obtain⟨rfl,rfl,rfl⟩ := h2;exact⟨by simp;omega,λ_ => hk'.symm⟩))
      have hrun : (Instr.sliceAt t (a.eval x) none (some (a.eval hi)) none).run P w = .ok (.slice ad b.toNat cap) w := by
        rw[hck]at *;simp[Instr.sliceAt,run_underlying ht,Instr.slice,hκ,ei,b3,bQ hs];intro hc0;simpa using hadd sz'
      simp only[Option.map_none,Option.map_some];simp[hrun,Oper.upon];exact hfin
     ·exact hW.elim
    ·exact hW.elim
  case callH f args ts xs hx =>
    simp only[ak]at hW;split at hW
    ·rename_i vs hvs
     have := qq H hJC hd hW (cs := args.map a.eval) (by simpa using H.ops hx hvs) hK (Q := Q) o rfl
     simpa[resolve,Deferred.ofValue,invoke,Act.eval]using this
    ·exact hW.elim
  case b2s s d x u e hx hs he hd' =>
    simp only[ak]at hW;split at hW
    ·rename_i v hv
     obtain⟨c,hrun,hc⟩ := ads H hx hs he hd' hv;have hfin := hK _ _ _ _ _ hW (H.put' hd hc);simp[hrun,Oper.upon];exact hfin
    ·exact hW.elim
  case yld g args ts xs hx => exact(hny _ _ rfl).elim
  case rgs t x u hx ht =>
    simp only[ak]at hW;split at hW
    ·rename_i s hv
     obtain⟨bs,hc,rfl,hl⟩ := sO (H.op hx hv);obtain⟨c,w',hrun,κ',H',hr⟩ := abX (P := P) H ht hl;have hfin := hK _ _ _ _ _ hW (H'.put' hd hr);simp[hc,hrun,Oper.upon];exact hfin
    ·exact hW.elim
  case nxs x u hx =>
    simp only[ak]at hW;split at hW
    ·rename_i id n hv
     split at hW
     ·rename_i s p hi
      have hid := aiD hi;have r1 := H.op hx hv;simp only[rep,XX]at r1;have ex := r1.2.2.2.2 _ hid rfl;obtain⟨h1,h2,h3⟩ := ab8 (P := P) (ty := o.type) H hid;split at hW
      ·rename_i hp
       obtain⟨w',κ',hrun,H'⟩ := h1 hp;have hdl : (Lt s p).1 <= 2147483647 := decode_le _ _;have hsl : s.length <= 4611686018427387904 := h3;have hp' : p<s.length := hp
       have hfin := hK _ _ _ _ _ hW (H'.put' hd (c := .tuple #[.bool true,.int .i64 p,.int .i32 (Lt s p).1]) (by
         simp only[rep,af];exact⟨_,rfl,_,_,rfl,rfl,_,_,rfl,⟨rfl,by simp[IntKind.min,IntKind.signed,IntKind.bits] <;> omega,by simp[IntKind.max,IntKind.signed,IntKind.bits] <;> omega⟩,_,_,rfl,⟨rfl,by simp[IntKind.min,IntKind.signed,IntKind.bits] <;> omega,by simp[IntKind.max,IntKind.signed,IntKind.bits] <;> omega⟩,rfl⟩))
       simp[ex,hrun,Oper.upon];exact hfin
      ·rename_i hp
       have hfin := hK _ _ _ _ _ hW (H.put' hd (c := .tuple #[.bool false]) (by
         simp only[rep,af];exact⟨_,rfl,_,_,rfl,rfl,rfl⟩))
       simp[ex,h2 hp,Oper.upon];exact hfin
     ·exact hW.elim
    ·exact hW.elim
  case callv g args ts xs hx =>
    simp only[ak]at hW;split at hW
    ·rename_i f x y vs hg hvs
     split at hW
     ·rename_i us hus
      have hcs := H.ops hx hvs;simp only[St.ev]at hg;have hrg := H.ev hg;simp only[rep]at hrg;obtain⟨a1,a2,e1,h1,h2⟩ := hrg;have := BB H hd hW hus (cs := a1 ++ args.map a.eval ++ a2) (by simpa using d6 h1 (d6 hcs h2)) hK (Q := Q) o rfl
      simpa[resolve,Deferred.ofValue,invoke,e1]using this
     ·have hcs := H.ops hx hvs
      simp only[St.ev]at hg;have hrg := H.ev hg;simp only[rep]at hrg;obtain⟨a1,a2,e1,h1,h2⟩ := hrg;have := qq H hJC hd hW (cs := a1 ++ args.map a.eval ++ a2) (by simpa using d6 h1 (d6 hcs h2)) hK (Q := Q) o rfl
      simpa[resolve,Deferred.ofValue,invoke,e1]using this
    ·exact hW.elim
end
section
variable{P:Program}{N:Nat}{M0:Mem}{B:Bas}{w0:World}{κ:Kap}{M:Mem}{σ:St}{a:Act}{w w':World}
theorem XS{ρ m m'}(h:Steps P m m'):StepsIn (Machine.fenced P (FR ρ)) P m m':=stepsIn_wide.2 h
theorem ZU{ρ m m' e}(h:Comes P m m' e):ComesIn (Machine.fenced P (FR ρ)) P m m' e:=comesIn_wide.2 h
theorem ZY{ρ n f args R}(h:Calls P f args w R):CallsIn (FR ρ) n P f args w R:=
 ⟨trivial,λcs _=>let ⟨e,w',fr,r,s,x⟩:=h cs;⟨e,w',fr,r,ZU s,x⟩⟩
theorem abG{o:Oper}{Nx Q ρ r}(h:o.upon P a Nx Q r):o.uponIn (FR ρ) 0 P a Nx Q r:=by
 cases r with
 |ok x w'=>
   cases x<;>simp only[Oper.upon]at h<;>simp only[Oper.uponIn]<;>first
    |exact h
    |exact h.elim
    |exact⟨λh=>(by cases h),ZY h⟩
    |exact⟨λh=>(by cases h),λc cs _=>let ⟨v,w',r,s⟩:=h c cs;⟨v,w',r,XS s⟩⟩
 |halt x w'=>cases x<;>simp only[Oper.upon]at h<;>simp only[Oper.uponIn]<;>exact h
theorem aaj{o:Oper}{Nx Q ρ}(h:o.wp P a w Nx Q)(hd:∀c,o.op≠.defer c):o.wpIn (FR ρ) 0 P a w Nx Q:=by
 refine⟨λ_ _=>trivial,?_⟩;rw[Oper.semAt_eq _ _ _ hd];exact abG h
theorem agR{ty op act}(h:LE P ty op act):∀c,op≠.defer c:=by
 cases h<;>(simp)
theorem al9{ty op act}(h:LV P ty op act):∀c,op≠.defer c:=by
 cases h<;>(simp)
theorem Rel.env(H:Rel N M0 B w0 κ M σ a w){id k l l'}(hid:σ.h[id]?=ś (ś (.gh l)))(hk:κ id=.func (.yield k) #[] #[]){S'}{M'}(E:EnvStep (κ.bl id) w S' M M' w')(hJ:B.J k l' S' M' w'):
 Rel N M0 B w0 (dy κ id (κ id) (κ.row id) S') M' { σ with h:=σ.h.set id (ś (.gh l')) } a w':=by
 have hlt:id<σ.h.length:=(zAc.1 hid).1;obtain⟨_,_,_,hown⟩:=H.heap id _ hid;have hu:Und B w w':=⟨E.os,E.tape,E.output,E.size,λg hg hs=>E.block g (by rw[H.base]at hg;have:=H.blw.size;omega) (λh=>(hown g h).1.elim (λh=>by omega) hs),E.siz⟩
 have hX:∀v c,XX κ σ.h v c->XX (dy κ id (κ id) (κ.row id) S') (σ.h.set id (ś (.gh l'))) v c:=λv c hx=>
  rp hid hx (λ_ h=>by cases h) (λ_ _ _ h=>by cases h) (λ_ _ _ _ h=>by cases h) (λ_=>⟨rfl,rfl⟩)
 have hne:∀{i},¬id=i->(dy κ id (κ id) (κ.row id) S').bl i=κ.bl i:=λhi=>(dg (λe=>hi e.symm)).2.2;have hse:(dy κ id (κ id) (κ.row id) S').bl id=S':=bj
 have hoth:∀{i:Nat}{oi:Ob}{g:Nat},¬id=i->σ.h[i]?=ś (ś oi)->κ.bl i g->¬S' g:=λ{i oi g} hi ho hg hs=>by
  rcases E.sub g hs with h|h
  ·exact hi (H.inj id i _ oi g hid ho h hg)
  ·have:=(H.blk_lt ho hg).2;omega
 refine{ dfr:=H.dfr,jst:=H.jst,pin:=H.pin,size:=H.size,regs:=?_,heap:=?_,inj:=?_,snd:=E.snd,sep:=?_,sub:=⟨λp v h=>E.mem p v (H.sub.sub p v h),λp v h=>E.mem p v (H.sub.fmS p v h),H.sub.fmN,H.sub.fbn,H.sub.gl⟩,new:=?_,base:=H.base,blw:=H.blw.trans hu }
 ·intro t v ht
  obtain⟨h1,c,h2,h3⟩:=H.regs t v ht;exact⟨h1,c,h2,aO E.mem hX _ _ h3⟩
 ·intro i ob h
  rw[zAe]at h;split at h
  ·rename_i he
   subst he;simp only[hlt,if_true,zAb]at h;subst h;simp only[bn];rw[cm,bj];exact⟨k,hk,hJ,λg hg=>⟨(E.sub g hg).elim (λh=>(hown g h).1) (λh=>.inl (by rw[H.base];have:=H.blw.size;omega)),E.lt g hg⟩⟩
  ·rename_i he
   refine i6 E.mem hX (dg (λe=>he e.symm)) (λg hg=>E.block g (H.blk_lt h hg).2 (λhs=>he (H.inj id i _ ob g hid h hs hg))) H.jst hu E.snd (H.heap i ob h)
 ·intro i j oi oj g hi hj gi gj
  rw[zAe]at hi hj;split at hi<;>split at hj
  ·omega
  ·rename_i h1 h2
   subst h1;rw[hse]at gi;rw[hne h2]at gj;grind
  ·rename_i h1 h2
   subst h2;rw[hse]at gj;rw[hne h1]at gi;grind
  ·rename_i h1 h2
   rw[hne h1]at gi;rw[hne h2]at gj;exact H.inj i j oi oj g hi hj gi gj
 ·intro p v hp i ob' h
  rw[zAe]at h;split at h
  ·rename_i he
   subst he;rw[hse];exact E.sep p v hp
  ·rename_i he
   rw[hne he];intro hg;rcases E.new p v hp with h1|h1|h1
   ·exact H.sep p v h1 i ob' h hg
   ·have:=(H.blk_lt h hg).2;omega
   ·exact he (H.inj id i _ ob' _ hid h h1 hg)
 ·intro p v hp
  rcases E.new p v hp with h1|h1|h1
  ·exact H.new p v h1
  ·exact .inr (.inl (by rw[H.base];have:=H.blw.size;omega))
  simp_all
theorem abr(hJC:Aw P M0 B)(H:Rel N M0 B w0 κ M σ a w){g xs ty op}(hl:LE P ty op (.yld g xs)){d}(hd:∀t,d=ś t->t<N/\t ∉ B.ps){K}(hW:ak (Cn P) d (.yld g xs) K σ)
 {Nx} (hK:∀κ' M' σ' a' w',K σ'->Rel N M0 B w0 κ' M' σ' a' w'->Nx a' w') {Q} (o:Oper) (ho:o.op=op) (hod:o.dst=d) {ρ}:o.wpIn (FR ρ) 0 P a w Nx Q:=by
 subst hod;refine⟨λ_ _=>trivial,?_⟩;rw[Oper.semAt_eq _ _ _ (by grind[agR])]
 unfold execOp;cases hl with
 | @yld g args ts xs hx=>
   rw[ho];dsimp only;simp only[ak]at hW;split at hW
   ·rename_i id n vs hg hvs
    split at hW
    ·rename_i v b l us hgh hus
     obtain⟨rfl,hvi,hW⟩:=hW;have hid:=Zb hgh;have hcs:=H.ops hx hvs;simp only[St.ev]at hg;have hrg:=H.ev hg;simp only[rep,XX]at hrg;have eg:=hrg.2.2.2.2 _ hid rfl;obtain⟨k,h1,h2,h3⟩:=H.heap id _ hid;rw[h1]at eg;have hpu:=cz H (λ_ _ h=>h) (λi hi=>by simp_all) hcs hus
     have hM:Snd M w:=⟨H.snd,H.sub.gl.mono H.sub.sub⟩;have:=hJC k us b l (κ.bl id) M w (args.map a.eval) h2 hM (λp v hp=>H.sep p v hp id _ hid) H.new (by simp_all) o a Nx Q ρ (λM' S' w' hJ E=>hK _ _ _ _ _ hW ((H.env hid h1 E hJ).put' hd (by simp[rep])))
     grind[resolve,Deferred.ofValue,invoke]
    simp_all
   simp_all
end
section
variable{P:Program}{N:Nat}{M0:Mem}{B:Bas}{w0:World}{κ:Kap}{M:Mem}{σ:St}{a:Act}{w w':World}
theorem Rel.mat(H:Rel N M0 B w0 κ M σ a w){m σ'}(h:σ.mat m=ś σ'):∃κ' M',Rel N M0 B w0 κ' M' σ' a w:=by
 cases m with
 |r t e sz=>
   simp only[St.mat]at h;split at h
   ·rename_i sz0 hlk
    split at h
    ·rename_i hsz
     cases h
     have ho:bn (upd κ σ.h.length (.slice ń 0 0)) M (XX (upd κ σ.h.length (.slice ń 0 0)) (σ.h++[ś (Ob.arr e sz [])])) B w σ.h.length (.arr e sz []):=by
      simp only[bn];exact⟨hsz,by simp,[],by grind[cq,World.ownsRow_nil],by simp[aB],λg hg=>(by rw[bj]at hg;cases hg),λg=>by rw[bj,cm]⟩
     have H':=H.newOb (Below.refl _ _) (kv:=.slice ń 0 0) (λg hg=>by cases hg) ho
     refine⟨_,_,{ dfr:=H'.dfr,jst:=H'.jst,pin:=H'.pin,size:=H'.size,regs:=?_,heap:=H'.heap,inj:=H'.inj,snd:=H'.snd,sep:=H'.sep,sub:=H'.sub,new:=H'.new,base:=H'.base,blw:=H'.blw }⟩;intro t' v hv;simp only[lk]at hv;split at hv
     ·rename_i he
      subst he;cases hv;obtain⟨h1,c,h2,h3⟩:=H.regs _ _ hlk;simp only[rep]at h3;refine⟨h1,c,h2,?_⟩;simp only[rep,XX];rw[h3.1];refine⟨rfl,by simp,λe2 sz2 l2 h2=>?_,λe2 sz2 l2 l3 h2=>by simp at h2,λo2 h2 hn=>by simp at h2;subst h2;cases hn⟩
      simp at h2;obtain⟨rfl,rfl,rfl⟩:=h2;exact⟨by simp,λ_=>cq.symm⟩
     ·exact H'.regs t' v hv
    ·cases h
   ·cases h
 |b id off e sz=>
   simp only[St.mat]at h;split at h
   ·rename_i cs hcs
    split at h
    ·rename_i sz0 hoff
     split at h
     ·rename_i hsz
      cases h
      have ho:bn (upd κ σ.h.length (.slice ń 0 0)) M (XX (upd κ σ.h.length (.slice ń 0 0)) (σ.h++[ś (Ob.arr e sz [])])) B w σ.h.length (.arr e sz []):=by
       simp only[bn];exact⟨hsz,by simp,[],by grind[cq,World.ownsRow_nil],by simp[aB],λg hg=>(by rw[bj]at hg;cases hg),λg=>by rw[bj,cm]⟩
      have H':=H.newOb (Below.refl _ _) (kv:=.slice ń 0 0) (λg hg=>by cases hg) ho
      have hb:=tQ hcs;have hlt:id<σ.h.length:=(zAc.1 hb).1;have hb':(σ.h++[ś (Ob.arr e sz [])])[id]?=ś (ś (.box cs)):=by grind
      obtain⟨b,arr,T,h1,h2,h3,h4,h5,h6⟩:=H'.heap id _ hb'
      let κ1:=upd κ σ.h.length (.slice ń 0 0)
      have hX:∀u c,XX κ1 (σ.h++[ś (Ob.arr e sz [])]) u c->XX (upd κ1 id (κ1 id)) ((σ.h++[ś (Ob.arr e sz [])]).set id (ś (Ob.box (cs.set off (.ref σ.h.length 0))))) u c:=λu c hx=>rp hb' hx (λ_ _=>⟨⟨cs,rfl⟩,rfl⟩) (λ_ _ _ h=>by cases h) (λ_ _ _ _ h=>by cases h)
      have H2:=H'.setOb hb' (ob:=.box (cs.set off (.ref σ.h.length 0))) (kv:=κ1 id) (Und.refl _ _) (λ_ _ _=>rfl) (λg hg=>.inl ((h6 g).2 (by rw[h1]at hg;cases hg;rfl))) hX (by
       simp only[bn];refine⟨b,arr,T,by grind[cq],h2,h3,?_,h5,λg=>by rw[bj,h1];simp_all[blk,zAb,eq_comm]⟩
       obtain⟨c,g1,g2⟩:=f6 (bv (λ_ _ h=>h) hX _ _ h4) hoff;simp only[rep]at g2
       have hs:=I6 off (bv (λ_ _ h=>h) hX _ _ h4) (v:=.ref σ.h.length 0) (c:=c) (by
        simp only[rep,XX];rw[g2.1];refine⟨rfl,by simp,λe2 sz2 l2 h2=>?_,λe2 sz2 l2 l3 h2=>by simp_all,λo2 h2 hn=>by rw[zE (by omega)]at h2;simp at h2;subst h2;cases hn⟩
        rw[zE (by omega)]at h2
        simp at h2;obtain⟨rfl,rfl,rfl⟩:=h2;refine⟨by simp,λ_=>?_⟩
        rw[aei (by omega)]
        exact cq.symm)
       have:arr.toList.set off c=arr.toList:=by
        apply zDf;grind
       grind)
      grind
     ·cases h
    ·cases h
   ·cases h
 |z t=>
   simp only[St.mat]at h;split at h
   ·rename_i v hv
    split at h
    ·rename_i u hu
     cases h;obtain⟨H2,hM1⟩:=H.kill (aF v) (Yf hu);obtain⟨h1,c,h2,h3⟩:=H.regs t v hv
     have k3:rep (ext M w (rm κ (aF v))) NX u c:=by
      refine yf H hM1 (λid hid g hg p hpb=>?_) h3 hu;unfold ext;rw[if_pos (eC.2 ⟨id,hid,by simp_all⟩)]
     refine⟨κ,_,{ dfr:=H2.dfr,jst:=H2.jst,pin:=H2.pin,size:=H2.size,regs:=?_,heap:=H2.heap,inj:=H2.inj,snd:=H2.snd,sep:=H2.sep,sub:=H2.sub,new:=H2.new,base:=H2.base,blw:=H2.blw }⟩;intro t' v' hv';simp only[lk]at hv';split at hv'
     ·grind[aX]
     ·exact H2.regs t' v' (by grind[AX])
    ·cases h
   ·cases h
theorem Rel.mats:∀{ms:List Mat}{σ σ':St}{κ:Kap}{M:Mem},Rel N M0 B w0 κ M σ a w->σ.mats ms=ś σ'->∃κ' M',Rel N M0 B w0 κ' M' σ' a w
 |[],σ,σ',κ,M,H,h=>by simp only[St.mats]at h;cases h;exact⟨κ,M,H⟩
 |m::ms,σ,σ',κ,M,H,h=>by
   simp only[St.mats]at h;split at h
   ·rename_i σ1 h1
    obtain⟨κ1,M1,H1⟩:=H.mat h1;exact Rel.mats H1 h
   ·cases h
theorem Rel.nrm(H:Rel N M0 B w0 κ M σ a w)(ks):∃κ',Rel N M0 B w0 κ' M (σ.nrm ks) a w:=by
 unfold St.nrm;exact⟨_,H.ren (d3 _ _ (d3 _ _ (d3 _ _ List.nodup_nil))) _ (λt v h=>aaQ h)⟩
structure LO (P:Program) (N:Nat) (ps:List Nat) (ops:Array Oper) (o:Oper) (x:AOp):Prop where
 dst:x.d=o.dst
 lt:∀t,o.dst=ś t->t<N/\t ∉ ps
 act:LV P o.type o.op x.a\/LE P o.type o.op x.a\/x.a=.bad
 grd:(o.guard=ń/\x.g=ń)\/∃j b oj t,o.guard=ś (j,b)/\ops[j]?=ś oj/\oj.dst=ś t/\x.g=ś (t,b)
theorem al6{ty op act}(h:LV P ty op act)(Φ)(d:Option Nat)(K:St->Prop)(σ):ak Φ d act K σ=match σ.val act with
 |some v=>K (σ.put d v)
 |none=>False:=by cases h<;>rfl
theorem FC(hJC:Aw P M0 B){ρ}(H:Rel N M0 B w0 κ M σ a w){ops o x}(hl:LO P N B.ps ops o x){K}(hW:ak (Cn P) x.d x.a K σ)
 {Nx} (hK:∀κ' M' σ' a' w',K σ'->Rel N M0 B w0 κ' M' σ' a' w'->Nx a' w') {Q}:o.wpIn (FR ρ) 0 P a w Nx Q:=by
 have hd:∀t,x.d=ś t->t<N/\t ∉ B.ps:=by rw[hl.dst];exact hl.lt
 rcases hl.act with h|h|h
 ·rw[al6 h]at hW
  split at hW
  ·rename_i v hv
   obtain⟨c,hr,hc⟩:=abE H h hv o rfl rfl;refine aaj ?_ (al9 h);unfold Oper.wp;rw[hr,Oper.upon_value,<-hl.dst];exact hK _ _ _ _ _ hW (H.put' hd hc)
  simp_all
 ·by_cases hy:∃g xs,x.a=.yld g xs
  ·obtain⟨g,xs,hy⟩:=hy
   rw[hy]at h hW;exact abr hJC H h hd hW hK o rfl hl.dst.symm
  ·exact aaj (ade hJC H h (λg xs e=>hy ⟨g,xs,e⟩) hd hW hK o rfl rfl hl.dst.symm) (agR h)
 grind[ak,St.val]
theorem Vf(hJC:Aw P M0 B){ρ}(H:Rel N M0 B w0 κ M σ a w){ops o x}(hl:LO P N B.ps ops o x){K}(hW:wop (Cn P) x K σ)
 {Nx} (hK:∀κ' M' σ' a' w',K σ'->Rel N M0 B w0 κ' M' σ' a' w'->Nx a' w') {Q}:
 if Region.wanted o (yielded ops a.tmps)then o.wpIn (FR ρ) 0 P a w Nx Q else Nx (a.put o.dst undef) w:=by
 have hd:∀t,x.d=ś t->t<N/\t ∉ B.ps:=by rw[hl.dst];exact hl.lt
 have hu:K (σ.put x.d (.tup []))->Nx (a.put o.dst undef) w:=λh=>by
  rw[<-hl.dst];exact hK _ _ _ _ _ h (H.undef hd)
 unfold wop at hW;rcases hl.grd with⟨h1,h2⟩|⟨j,b,oj,t,h1,h2,h3,h4⟩
 ·rw[h2]at hW
  have:Region.wanted o (yielded ops a.tmps)=true:=by grind[Region.wanted]
  rw[if_pos this];grind[FC]
 ·rw[h4]at hW
  simp only at hW;split at hW
  ·rename_i y hy
   obtain⟨_,c,g1,g2⟩:=H.regs t _ hy;have hc:=lL g2;grind[yielded,Region.wanted,decide,Br,FC]
  ·rename_i hy
   obtain⟨_,c,g1,g2⟩:=H.regs t _ hy;simp_all[rep,af,yielded,Region.wanted,if_neg]
  simp_all
inductive LOs (P:Program) (N:Nat) (ps:List Nat) (ops:Array Oper):List Oper->List AOp->Prop
 |nil:LOs P N ps ops [] []
 |cons {o os x xs}:LO P N ps ops o x->LOs P N ps ops os xs->LOs P N ps ops (o::os) (x::xs)
theorem PI(hJC:Aw P M0 B){ρ ops Q K}(hK:∀κ' M' σ' a' w',K σ'->Rel N M0 B w0 κ' M' σ' a' w'->Q .normal a' w'):
 ∀{os:List Oper}{xs:List AOp},LOs P N B.ps ops os xs->∀{κ:Kap}{M:Mem}{σ:St}{a:Act}{w:World},Rel N M0 B w0 κ M σ a w->D7 (Cn P) xs K σ->wpListIn (FR ρ) 0 P ops Q os a w
 |_,_,.nil,_,_,_,_,_,H,hW=>hK _ _ _ _ _ hW H
 |_,_,.cons hl hs,_,_,_,_,_,H,hW=>by
   refine wpListIn_step λK' hK'=>?_;have:=Vf hJC (ρ:=ρ) H hl hW (Q:=Q) (λκ' M' σ' a' w' hk H'=>hK' _ _ (PI hJC hK hs H' hk));split
   ·simp_all
   ·rename_i hw;rw[if_neg hw]at this;exact⟨λ_ _=>trivial,this⟩
end
end Go.Abs
end
section
namespace Go.Abs
def AO.rd:AO->List Nat
 | .t n=>[n]
 | .v _=>[]
def rdo:Option AO->List Nat
 |none=>[]
 |some x=>x.rd
def rdl:List AO->List Nat
 |[]=>[]
 |x::xs=>x.rd++rdl xs
def rdp:List (Nat×Nat×AO)->List Nat
 |[]=>[]
 |(_,_,x)::ps=>x.rd++rdp ps
def Act'.rds : Act' -> List Nat
  | .mov x => x.rd
  | .pick c a b => c.rd ++ (a.rd ++ b.rd)
  | .fld x _ _ _ => x.rd
  | .fa x _ => x.rd
  | .ia x i _ => x.rd ++ i.rd
  | .iaa x i _ _ => x.rd ++ i.rd
  | .ld x _ _ => x.rd
  | .ixs x i => x.rd ++ i.rd
  | .ixa x i _ _ _ => x.rd ++ i.rd
  | .bin _ x y => x.rd ++ y.rd
  | .un _ x => x.rd
  | .cii _ x => x.rd
  | .r2s x => x.rd
  | .s2b x => x.rd
  | .b2s x => x.rd
  | .sls x lo hi => x.rd ++ (rdo lo ++ rdo hi)
  | .slq x lo hi _ => x.rd ++ (rdo lo ++ rdo hi)
  | .lens x => x.rd
  | .lenq x => x.rd
  | .beq _ x y => x.rd ++ y.rd
  | .ext x _ => x.rd
  | .bld _ ps => rdp ps
  | .lit _ _ xs => rdl xs
  | .ltr _ _ xs => rdl xs
  | .mkf _ a b => rdl a ++ rdl b
  | .nlc x => x.rd
  | .alc _ => []
  | .box x => x.rd
  | .st _ a x => a.rd ++ x.rd
  | .app x y _ _ _ => x.rd ++ y.rd
  | .mks _ _ _ _ n => n.rd
  | .mkm _ _ _ _ n => n.rd
  | .mk0 _ _ _ n => n.rd
  | .call _ xs => rdl xs
  | .callv g xs => g.rd ++ rdl xs
  | .callH _ xs => rdl xs
  | .mki _ x => x.rd
  | .tya _ _ _ x => x.rd
  | .aeq _ _ x y => x.rd ++ y.rd
  | .mkp _ => []
  | .lkp _ _ _ x k => x.rd ++ k.rd
  | .mup _ x k v => x.rd ++ (k.rd ++ v.rd)
  | .inv _ x xs => x.rd ++ rdl xs
  | .ivp _ x xs => x.rd ++ rdl xs
  | .mm _ x y => x.rd ++ y.rd
  | .trc x hi _ => x.rd ++ hi.rd
  | .nlq _ _ x => x.rd
  | .yld g xs => g.rd ++ rdl xs
  | .rgs x => x.rd
  | .nxs x => x.rd
  | .bad => []
def tR:AO->Nat
 | .v (.nil _)=>2
 |_=>3
theorem aaa(x):2<=tR x:=by unfold tR;grind
def Act'.kind : Act' -> Nat
  | .fa _ _ => 1
  | .ia _ _ _ => 1
  | .iaa _ _ _ _ => 1
  | .ld _ _ _ => 1
  | .b2s _ => 1
  | .lenq _ => 1
  | .nlc _ => 1
  | .call _ _ => 1
  | .callv _ _ => 1
  | .alc _ => 2
  | .box _ => 2
  | .mks _ _ _ _ _ => 2
  | .mkm _ _ _ _ _ => 2
  | .mk0 _ _ _ _ => 2
  | .st _ _ _ => 3
  | .callH _ _ => 3
  | .lkp _ _ _ _ _ => 1
  | .mkp _ => 2
  | .mup _ _ _ _ => 3
  | .inv _ _ _ => 3
  | .ivp _ _ _ => 3
  | .trc _ _ _ => 3
  | .ltr _ _ _ => 3
  | .yld _ _ => 3
  | .rgs _ => 2
  | .nxs _ => 3
  | .nlq _ _ _ => 1
  | .app x _ _ _ _ => tR x
  |_ => 0
def AOp.rds(o:AOp):List Nat:=o.a.rds++(match o.g with
 |none=>[]
 |some (t,_)=>[t])
def Agr(σ σ':St)(rs:List Nat):Prop:=∀t,t∈rs->lk σ'.r t=lk σ.r t
def Ext(σ σ':St):Prop:=∀(id:Nat)(ob:Ob),σ.h[id]?=ś (ś ob)->σ'.h[id]?=ś (ś ob)
section
variable{σ σ':St}
theorem Agr.sub{rs ss}(h:Agr σ σ' rs)(hs:∀t,t∈ss->t∈rs):Agr σ σ' ss:=λt ht=>h t (hs t ht)
theorem Agr.l{rs ss}(h:Agr σ σ' (rs++ss)):Agr σ σ' rs:=h.sub λt ht=>zFa _ ht
theorem Agr.r{rs ss}(h:Agr σ σ' (rs++ss)):Agr σ σ' ss:=h.sub λt ht=>List.mem_append_right _ ht
theorem Agr.ev{x}(h:Agr σ σ' x.rd):σ'.ev x=σ.ev x:=by
 cases x with
 |t n=>exact h n (by simp[AO.rd])
 |v x=>rfl
theorem Agr.evo{d x}(h:Agr σ σ' (rdo x)):σ'.evo d x=σ.evo d x:=by
 cases x with
 |none=>rfl
 |some x=>exact Agr.ev (x:=x) h
theorem Agr.evs:∀{xs:List AO},Agr σ σ' (rdl xs)->σ'.evs xs=σ.evs xs
 |[],_=>rfl
 |x::xs,h=>by simp only[St.evs,Agr.ev (Agr.l h),Agr.evs (Agr.r h)]
theorem Agr.bldV:∀{ps:List (Nat×Nat×AO)}{cs:List V},Agr σ σ' (rdp ps)->bldV σ' cs ps=bldV σ cs ps
 |[],_,_=>rfl
 |(off,n,x)::ps,cs,h=>by
   simp only[Abs.bldV,Agr.ev (Agr.l h)];cases σ.ev x with
   |none=>rfl
   |some v=>
     simp only;split
     ·cases ju cs off (cl v)with
      |none=>rfl
      |some cs'=>exact Agr.bldV (Agr.r h)
     ·rfl
theorem Ext.box(h:Ext σ σ'){id cs}(hb:σ.box? id=ś cs):σ'.box? id=ś cs:=by
 simp only[St.box?,h _ _ (tQ hb)]
theorem Ext.arr(h:Ext σ σ'){id x}(hb:σ.arr? id=ś x):σ'.arr? id=ś x:=by
 simp only[St.arr?,h _ _ (gT hb)]
theorem Ext.mat(h:Ext σ σ'){id x}(hb:σ.rws? id=ś x):σ'.rws? id=ś x/\σ'.arr? id=none:=by
 constructor
 ·simp only[St.rws?,h _ _ (iB hb)]
 ·simp only[St.arr?,h _ _ (iB hb)]
theorem Ext.mp(h:Ext σ σ'){id x}(hb:σ.mp? id=ś x):σ'.mp? id=ś x:=by
 simp only[St.mp?,h _ _ (RZ hb)]
theorem Ext.live(h:Ext σ σ'){v}(hv:σ.live v=ť):σ'.live v=true:=by
 cases v<;>simp only[St.live]at hv⊢<;>try assumption
 case ptr id off=>
  obtain⟨cs,hc⟩:=Option.isSome_iff_exists.1 hv;rw[h.box hc];rfl
 case eptr id n i off=>
  split at hv
  ·rename_i e sz l hl
   rw[h.arr hl];exact hv
  ·cases hv
 case mptr id i n k off=>
  split at hv
  ·rename_i e e2 sz l hl
   rw[(h.mat hl).1];exact hv
  ·cases hv
 grind
theorem Ext.fetch(h:Ext σ σ'){p n us}(hv:σ.fetch p n=ś us):σ'.fetch p n=ś us:=by
 cases p<;>simp only[St.fetch]at hv⊢<;>try assumption
 case ptr id off=>
  split at hv
  ·rename_i cs hc;rw[h.box hc];exact hv
  ·cases hv
 case eptr id m i off=>
  split at hv
  ·rename_i e sz l hl;rw[h.arr hl];exact hv
  ·split at hv
   ·rename_i e e2 sz l hl;simp only[(h.mat hl).1,(h.mat hl).2];exact hv
   ·cases hv
 case mptr id i n k off=>
  split at hv
  ·rename_i e e2 sz l hl
   rw[(h.mat hl).1];exact hv
  ·cases hv
theorem Ext.pur1(h:Ext σ σ'){id n u}(hv:pur1 σ.h id n=ś u):pur1 σ'.h id n=ś u:=by
 unfold Abs.pur1 at hv⊢;split at hv
 ·rename_i hb;rw[h _ _ hb];exact hv
 ·rename_i hb;rw[h _ _ hb];exact hv
 ·cases hv
theorem Ext.pur2(h:Ext σ σ'){id i n u}(hv:pur2 σ.h id i n=ś u):pur2 σ'.h id i n=ś u:=by
 unfold Abs.pur2 at hv⊢;split at hv
 ·rename_i hb;rw[h _ _ hb];exact hv
 ·cases hv
mutual
theorem Ext.pur(h:Ext σ σ'):∀{v u:V},pur σ.h v=ś u->pur σ'.h v=ś u
 | .nil sz,_,hv=>by simp only[Abs.pur]at hv⊢;exact hv
 | .ref id n,_,hv=>by simp only[Abs.pur]at hv⊢;exact h.pur1 hv
 | .mref id i n,_,hv=>by simp only[Abs.pur]at hv⊢;exact h.pur2 hv
 | .fseq _ _,_,hv=>by simp only[Abs.pur]at hv⊢;exact hv
 | .mptr _ _ _ _ _,_,hv=>by simp only[Abs.pur]at hv;cases hv
 | .strct cs,_,hv=>by
   simp only[Abs.pur,zAa]at hv⊢;obtain⟨us,h1,h2⟩:=hv;exact⟨us,Ext.purs h h1,h2⟩
 | .tup cs,_,hv=>by
   simp only[Abs.pur,zAa]at hv⊢;obtain⟨us,h1,h2⟩:=hv;exact⟨us,Ext.purs h h1,h2⟩
 | .fn f a b,_,hv=>by
   simp only[Abs.pur]at hv⊢;split at hv
   ·rename_i a' b' h1 h2;rw[Ext.purs h h1,Ext.purs h h2];exact hv
   ·cases hv
 | .iface t x,_,hv=>by
   simp only[Abs.pur,zAa]at hv⊢;obtain⟨us,h1,h2⟩:=hv;exact⟨us,Ext.pur h h1,h2⟩
 | .ptr _ _,_,hv=>by simp only[Abs.pur]at hv;cases hv
 | .eptr _ _ _ _,_,hv=>by simp only[Abs.pur]at hv;cases hv
 | .int _ _,_,hv=>by simp only[Abs.pur]at hv⊢;exact hv
 | .bool _,_,hv=>by simp only[Abs.pur]at hv⊢;exact hv
 | .str _,_,hv=>by simp only[Abs.pur]at hv⊢;exact hv
 | .seq _ _,_,hv=>by simp only[Abs.pur]at hv⊢;exact hv
 | .sptr _ _,_,hv=>by simp only[Abs.pur]at hv⊢;exact hv
 | .nilptr,_,hv=>by simp only[Abs.pur]at hv⊢;exact hv
 | .nilfn,_,hv=>by simp only[Abs.pur]at hv⊢;exact hv
 | .niliface,_,hv=>by simp only[Abs.pur]at hv⊢;exact hv
 | .junk,_,hv=>by simp only[Abs.pur]at hv⊢;exact hv
theorem Ext.purs(h:Ext σ σ'):∀{v u:List V},purs σ.h v=ś u->purs σ'.h v=ś u
 |[],_,hv=>by simp only[Abs.purs]at hv⊢;exact hv
 |v::vs,_,hv=>by
   simp only[Abs.purs]at hv⊢;split at hv
   ·rename_i a' b' h1 h2;rw[Ext.pur h h1,Ext.purs h h2];exact hv
   ·cases hv
end
theorem ahS{a : Act'}(hk : a.kind = 0)(h : Agr σ σ' a.rds) : σ'.val a = σ.val a := by
  cases a <;> simp only[Act'.kind]at hk <;> first|exact absurd hk (by decide)|skip
  all_goals simp only[Act'.rds]at h
  all_goals simp only[St.val]
  case mov x => exact h.ev
  case pick c a b => rw[h.l.ev,h.r.l.ev,h.r.r.ev]
  case fld => rw[h.ev]
  case ixs => rw[h.l.ev,h.r.ev]
  case ixa => rw[h.l.ev,h.r.ev]
  case bin => rw[h.l.ev,h.r.ev]
  case un => rw[h.ev]
  case cii => rw[h.ev]
  case r2s => rw[h.ev]
  case sls => simp only[h.l.ev,h.r.l.evo,h.r.r.evo]
  case slq => simp only[h.l.ev,h.r.l.evo,h.r.r.evo]
  case lens => rw[h.ev]
  case beq => rw[h.l.ev,h.r.ev]
  case ext => rw[h.ev]
  case bld => rw[h.bldV]
  case mkf => rw[h.l.evs,h.r.evs]
  case mki => rw[h.ev]
  case tya => rw[h.ev]
  case aeq => rw[h.l.ev,h.r.ev]
  case mm => rw[h.l.ev,h.r.ev]
theorem Ext.isNil(h:Ext σ σ'){k v b}(hb:St.isNil k (σ.live v) v=ś b):St.isNil k (σ'.live v) v=ś b:=by
 cases hl:σ.live v with
 |true=>rw[h.live hl];simp_all
 |false=>
   rw[hl]at hb;cases v<;>simp[St.isNil]at hb⊢<;>exact hb
theorem abF{a}(hk:a.kind=1)(h:Agr σ σ' a.rds)(hx:Ext σ σ'){v}(hv:σ.val a=ś v):σ'.val a=ś v:=by
 cases a<;>simp only[Act'.kind]at hk<;>first|exact absurd hk (by decide)|skip
 all_goals simp only[Act'.rds]at h
 all_goals simp only[St.val]at hv⊢
 case call=>cases hv
 case callv=>cases hv
 case app=>cases hv
 case fa x off=>
  rw[h.ev];split at hv
  ·rename_i u hu
   split at hv
   ·rename_i hl;rw[if_pos (hx.live hl)];exact hv
   ·cases hv
  ·cases hv
 case ia x i sz=>
  rw[h.l.ev,h.r.ev];split at hv
  ·exact hv
  ·exact hv
  ·rename_i id m k n h1 h2
   split at hv
   ·rename_i e sz' l hl;rw[hx.arr hl];exact hv
   ·split at hv
    ·rename_i e e2 sz l hl;simp only[(hx.mat hl).1,(hx.mat hl).2];exact hv
    ·cases hv
  ·split at hv
   ·rename_i e e2 sz l hl;rw[(hx.mat hl).1];exact hv
   ·cases hv
  ·cases hv
 case iaa x i len sz=>
  rw[h.l.ev,h.r.ev];split at hv
  ·rename_i u k n h1 h2
   split at hv
   ·rename_i hl;rw[if_pos ⟨hx.live hl.1,hl.2⟩];exact hv
   ·cases hv
  ·cases hv
 case ld x n agg=>
  rw[h.ev];split at hv
  ·rename_i p hp
   split at hv
   ·rename_i us hus;simp only[hx.fetch hus];exact hv
   ·cases hv
  ·cases hv
 case b2s x=>
  rw[h.ev];split at hv
  ·rename_i u hu
   split at hv
   ·rename_i l hl;simp only[hx.pur hl];exact hv
   ·cases hv
  ·cases hv
 case lenq x=>
  rw[h.ev];split at hv
  ·exact hv
  ·exact hv
  ·exact hv
  ·rename_i id n hu
   split at hv
   ·rename_i e sz l hl;simp only[hx.arr hl];exact hv
   ·split at hv
    ·rename_i e e2 sz l hl;simp only[(hx.mat hl).1,(hx.mat hl).2];exact hv
    ·cases hv
  ·split at hv
   ·rename_i e e2 sz l hl;simp only[(hx.mat hl).1];exact hv
   ·cases hv
  ·cases hv
 case nlc x=>
  rw[h.ev];split at hv
  ·rename_i u hu
   split at hv
   ·rename_i hl;rw[if_pos (hx.live hl)];exact hv
   ·cases hv
  ·cases hv
 case nlq k neg x=>
  rw[h.ev];split at hv
  ·rename_i u hu
   split at hv
   ·rename_i b hb;simp only[hx.isNil hb];exact hv
   ·cases hv
  ·cases hv
 case lkp kt z okk x k=>
  rw[h.l.ev,h.r.ev];split at hv
  ·rename_i id n kv h1 h2
   split at hv
   ·rename_i kt' l hm
    simp only[hx.mp hm];exact hv
   ·cases hv
  ·cases hv
def ame(k:Nat)(σ σ':St):Prop:=k=0\/(k=1/\Ext σ σ')\/σ'.h=σ.h
def post(k:Nat)(σ':St)(h':List (Option Ob))(d:Option Nat)(v:V):St:=St.put { σ' with h:=if k<=1 then σ'.h else h' } d v
def XB(T:(St->Prop)->St->Prop)(k:Nat)(rs:List Nat)(d:Option Nat)(σ:St)(K:St->Prop):Prop:=
 ∃h' v,(k<=1->h'=σ.h)/\(k=2->∀(id:Nat)(ob:Ob),σ.h[id]?=ś (ś ob)->h'[id]?=ś (ś ob))/\K (St.put { σ with h:=h' } d v)/\
   ∀(σ':St)(K':St->Prop),Agr σ σ' rs->ame k σ σ'->K' (post k σ' h' d v)->T K' σ'
theorem ame.ext{k}(h:ame k σ σ')(hk:k=1):Ext σ σ':=by
 rcases h with h|h|h
 ·omega
 ·exact h.2
 ·intro i ob h';simp_all
theorem ame.heq{k}(h:ame k σ σ')(hk:2<=k):σ'.h=σ.h:=by
 rcases h with h|h|h
 ·omega
 ·omega
 ·exact h
variable{Φ:Ctr}{d:Option Nat}{K:St->Prop}
theorem abC{a v}(h:σ.val a=ś v)(hK:K (σ.put d v))(hk:a.kind<=1):an Φ d a K σ:=by
 cases a<;>simp only[an,ak]<;>simp only[Act'.kind]at hk<;>first|(simp only[h];exact hK)|(exfalso;revert hk;decide)|grind[St.val]
theorem agd{a}(hk:a.kind<=1){v}(h:σ.val a=ś v)(hK:K (σ.put d v)):XB (an Φ d a) a.kind a.rds d σ K:=by
 refine⟨σ.h,v,λ_=>rfl,λ_ _ _ h=>h,hK,λσ' K' ha hf hK'=>?_⟩;simp only[post,if_pos hk]at hK';refine abC (v:=v) ?_ hK' hk;rcases Nat.le_one_iff_eq_zero_or_eq_one.1 hk with h0|h1
 ·grind[ahS]
 ·exact abF h1 ha (hf.ext h1) h
theorem du{α:Type}{l}{x y:α}{i:Nat}(h:l[i]?=ś x):(l++[y])[i]?=ś x:=by
 grind
theorem afB(r:List (Nat×V)):∀(ids:List Nat)(σ:St),({ σ with r:=r }:St).kill ids={ (σ.kill ids)with r:=r }
 |[],σ=>rfl
 |id::ids,σ=>by simp only[St.kill];exact afB r ids { σ with h:=σ.h.set id ń }
theorem ahW(r)(σ:St)(n id m i off)(us):({ σ with r:=r }:St).storM n id m i off us=(σ.storM n id m i off us).map λτ=>{ τ with r:=r }:=by
 have e1:∀id,St.arr? { σ with r:=r } id=σ.arr? id:=λ_=>rfl
 have e2:∀id,St.rws? { σ with r:=r } id=σ.rws? id:=λ_=>rfl
 unfold St.storM;split
 ·grind
 ·rfl
theorem aeu(r)(σ:St)(n)(p)(us):({ σ with r:=r }:St).stor n p us=(σ.stor n p us).map λτ=>{ τ with r:=r }:=by
 have e1:∀(τ:St)id,St.arr? { τ with r:=r } id=τ.arr? id:=λ_ _=>rfl
 have e2:∀(τ:St)id,St.rws? { τ with r:=r } id=τ.rws? id:=λ_ _=>rfl
 have e3:∀(τ:St)id,St.box? { τ with r:=r } id=τ.box? id:=λ_ _=>rfl
 cases p<;>simp only[St.stor,afB,e1,e2,e3,ahW]<;>try rfl
 ·grind
 ·split
  ·split
   ·grind
   ·rfl
  ·rfl
 ·split
  ·split
   ·split
    ·grind
    ·rfl
   ·rfl
  ·rfl
theorem ahV(σ:St)(n)(p)(us){τ}(h:σ.stor n p us=ś τ):τ.r=σ.r:=by
 have h1:=aeu σ.r σ n p us;have h2:({ σ with r:=σ.r }:St)=σ:=rfl
 rw[h2,h]at h1;grind
theorem bU{σ σ':St}(he:σ'.h=σ.h)(v):σ'.cur0 v=σ.cur0 v:=by
 simp_all[St.cur0,St.box?,St.arr?,St.gh?]
mutual
theorem Fs{σ σ':St}(he:σ'.h=σ.h):∀v:V,σ'.cur v=σ.cur v
 | .fn _ a b=>by simp only[St.cur,pq he a,pq he b]
 | .strct a=>by simp only[St.cur,pq he a]
 | .tup a=>by simp only[St.cur,pq he a]
 | .iface _ x=>by simp only[St.cur,Fs he x]
 | .int _ _=>by grind[St.cur,bU]
 | .bool _=>by grind[St.cur,bU]
 | .str _=>by grind[St.cur,bU]
 | .nil _=>by grind[St.cur,bU]
 | .seq _ _=>by grind[St.cur,bU]
 | .fseq _ _=>by grind[St.cur,bU]
 | .sptr _ _=>by grind[St.cur,bU]
 | .nilptr=>by grind[St.cur,bU]
 | .nilfn=>by grind[St.cur,bU]
 | .niliface=>by grind[St.cur,bU]
 | .junk=>by grind[St.cur,bU]
 | .mref _ _ _=>by grind[St.cur,bU]
 | .mptr _ _ _ _ _=>by grind[St.cur,bU]
 | .ref _ _=>by grind[St.cur,bU]
 | .ptr _ _=>by grind[St.cur,bU]
 | .eptr _ _ _ _=>by grind[St.cur,bU]
theorem pq{σ σ':St}(he:σ'.h=σ.h):∀v:List V,σ'.curA v=σ.curA v
 |[]=>rfl
 |v::vs=>by simp only[St.curA,Fs he v,pq he vs]
end
theorem Lw{σ σ':St}(he:σ'.h=σ.h):∀l:List V,σ'.curs l=σ.curs l
 |[]=>rfl
 |v::l=>by simp only[St.curs,Fs he,Lw he l]
theorem JT:∀(l:List Nat){σ σ':St},σ'.h=σ.h->(σ'.kill l).h=(σ.kill l).h
 |[],_,_,he=>he
 |id::l,σ,σ',he=>by
   simp only[St.kill];exact JT l (by simp only[he])
theorem Z5{σ σ':St}(he:σ'.h=σ.h){q m H'}:σ'.back q m H'=σ.back q m H':=by
 grind[St.back,JT]
theorem Gl:∀(ids:List Nat){σ σ':St},σ'.h=σ.h->(σ'.kill ids).h=(σ.kill ids).h
 |[],_,_,he=>he
 |id::ids,σ,σ',he=>by
   simp only[St.kill];exact Gl ids (by simp only[he])
theorem IG{a : Act'}(h : an Φ d a K σ) : XB (an Φ d a) a.kind a.rds d σ K := by
  cases a with
  |lit e0 sz xs =>
    simp only[an]at h;split at h
    ·rename_i vs hvs
     split at h
     ·rename_i us hus
      refine⟨σ.h,.seq sz us,λ_ => rfl,λ_ _ _ h => h,h.2.2,λσ' K' ha hf hK' => ?_⟩
      simp only[Act'.rds]at ha;simp only[an,ha.evs,hvs,hus];exact⟨h.1,h.2.1,hK'⟩
     ·exact h.elim
    ·exact h.elim
  |call f xs =>
    simp only[an]at h;split at h
    ·rename_i vs hvs
     split at h
     ·rename_i us hus
      obtain⟨r,h1,h3⟩ := h;refine⟨σ.h,r,λ_ => rfl,λ_ _ _ h => h,h3,λσ' K' ha hf hK' => ?_⟩
      simp only[Act'.rds]at ha;simp only[an,ha.evs,hvs,(hf.ext rfl).purs hus];exact Exists.intro r ⟨h1,hK'⟩
     ·exact h.elim
    ·exact h.elim
  |callv g xs =>
    simp only[an]at h;split at h
    ·rename_i f a b vs hg hvs
     split at h
     ·rename_i us hus
      obtain⟨r,h1,h3⟩ := h;refine⟨σ.h,r,λ_ => rfl,λ_ _ _ h => h,h3,λσ' K' ha hf hK' => ?_⟩
      simp only[Act'.rds]at ha;simp only[an,ha.l.ev,hg,ha.r.evs,hvs,(hf.ext rfl).purs hus];exact Exists.intro r ⟨h1,hK'⟩
     ·exact h.elim
    ·exact h.elim
  |alc z =>
    simp only[an,ak]at h;refine⟨_,_,λh => absurd h (by simp[Act'.kind]),λ_ id ob h => du h,h,λσ' K' ha hf hK' => ?_⟩
    simp only[an,ak];rw[hf.heq (by simp[Act'.kind])]
    exact hK'
  |box x =>
    simp only[an,ak]at h;split at h
    ·rename_i v hv
     split at h
     ·rename_i hn
      refine⟨_,_,λh => absurd h (by simp[Act'.kind]),λ_ id ob h => du h,h,λσ' K' ha hf hK' => ?_⟩
      simp only[Act'.rds]at ha;simp only[an,ak,ha.ev,hv,if_pos hn];rw[hf.heq (by simp[Act'.kind])]
      exact hK'
     ·exact h.elim
    ·exact h.elim
  |mkm e by' e2 sz n =>
    simp only[an,ak]at h;split at h
    ·rename_i k m hm
     obtain⟨h1,h2,h3⟩ := h;refine⟨_,_,λh => absurd h (by simp[Act'.kind]),λ_ id ob h => du h,h3,λσ' K' ha hf hK' => ?_⟩
     simp only[Act'.rds]at ha;simp only[an,ak,ha.ev,hm];rw[hf.heq (by simp[Act'.kind])]
     exact⟨h1,h2,hK'⟩
    ·exact h.elim
  |mk0 e sz by' n =>
    simp only[an,ak]at h;split at h
    ·rename_i k m hm
     obtain⟨h1,h2,h3⟩ := h;refine⟨_,_,λh => absurd h (by simp[Act'.kind]),λ_ id ob h => du h,h3,λσ' K' ha hf hK' => ?_⟩
     simp only[Act'.rds]at ha;simp only[an,ak,ha.ev,hm];rw[hf.heq (by simp[Act'.kind])]
     exact⟨h1,h2,hK'⟩
    ·exact h.elim
  |mks e sz by' z n =>
    simp only[an,ak]at h;split at h
    ·rename_i k m hm
     obtain⟨h1,h2,h3⟩ := h;refine⟨_,_,λh => absurd h (by simp[Act'.kind]),λ_ id ob h => du h,h3,λσ' K' ha hf hK' => ?_⟩
     simp only[Act'.rds]at ha;simp only[an,ak,ha.ev,hm];rw[hf.heq (by simp[Act'.kind])]
     exact⟨h1,h2,hK'⟩
    ·exact h.elim
  |s2b x =>
    simp only[an,ak]at h;split at h
    ·rename_i s hs
     refine⟨σ.h,_,λ_ => rfl,λ_ _ _ h => h,h.2,λσ' K' ha hf hK' => ?_⟩
     simp only[Act'.rds]at ha;simp only[an,ak,ha.ev,hs];exact⟨h.1,hK'⟩
    ·exact h.elim
  |st n p x =>
    simp only[an,ak]at h;split at h
    ·rename_i a v ha hv
     split at h
     ·rename_i hn
      split at h
      ·rename_i σ1 hs
       have hr : σ1.r = σ.r /\ ∀σ' : St,σ'.h = σ.h -> σ'.stor n a (cl v) = some { σ' with h := σ1.h } := by
         refine⟨ahV _ _ _ _ hs,λσ' he => ?_⟩
         have h1 := aeu σ'.r σ n a (cl v);have h2 : ({ σ with r := σ'.r } : St) = σ' := by rw[<- he]
         rw[h2,hs]at h1;rw[h1,Option.map_some]
       refine⟨σ1.h,.tup [],λh => absurd h (by simp[Act'.kind]),λh => absurd h (by simp[Act'.kind]),?_,λσ' K' hg hf hK' => ?_⟩
       ·have : ({ σ with h := σ1.h } : St) = σ1 := by rw[<- hr.1]
        rw[this];exact h
       ·simp only[Act'.rds]at hg
        simp only[an,ak,hg.l.ev,ha,hg.r.ev,hv,if_pos hn,hr.2 σ' (hf.heq (by simp[Act'.kind]))]
        exact hK'
      ·exact h.elim
     ·exact h.elim
    ·exact h.elim
  |app x y e sz by' =>
    simp only[an,ak]at h;split at h
    ·rename_i u v hu hv
     split at h
     ·rename_i sz' l hl
      obtain⟨h0,h⟩ := h;have hk2 : ∀y' e' sz' b',2 <= (Act'.app x y' e' sz' b').kind := λ_ _ _ _ => aaa x
      split at h
      ·rename_i sz2
       refine⟨_,_,λh => absurd h (by have := hk2 y e sz by';omega),λ_ id ob h => du h,h.2,λσ' K' hg hf hK' => ?_⟩
       have hne : ¬ (Act'.app x y e sz by').kind <= 1 := by have := hk2 y e sz by';omega
       simp only[post,if_neg hne]at hK';simp only[Act'.rds]at hg;have he := hf.heq (hk2 y e sz by');simp only[an,ak,hg.l.ev,hu,hg.r.ev,hv];rw[he];simp only[hl];exact⟨h0,h.1,hK'⟩
      ·rename_i id n
       split at h
       ·rename_i e' sz2 l0 ha
        obtain⟨h1,h2,h3,h4,h5⟩ := h;have hne : ¬ (Act'.app x y e sz by').kind <= 1 := by have := hk2 y e sz by';omega
        have hn2 : (Act'.app x y e sz by').kind≠2 := by
          cases x with
          |t n => simp[Act'.kind,tR]
          |v x =>
            simp only[St.ev,Option.some.injEq]at hu;subst hu;simp[Act'.kind,tR]
        refine⟨_,_,λh => absurd h hne,λh => absurd h hn2,h5,λσ' K' hg hf hK' => ?_⟩
        simp only[post,if_neg hne]at hK';simp only[Act'.rds]at hg;have he := hf.heq (hk2 y e sz by');have ha' : σ'.arr? id = some (e',sz2,l0) := by simp only[St.arr?,he];exact ha
        simp only[an,ak,hg.l.ev,hu,hg.r.ev,hv,ha'];rw[he];simp only[hl];exact⟨h0,h1,h2,h3,h4,hK'⟩
       ·exact h.elim
      ·rename_i id i n
       split at h
       ·rename_i e1 e2 sz2 rows ha
        split at h
        ·rename_i r hr
         obtain⟨h1,h2,h3,h4,h5⟩ := h;have hne : ¬ (Act'.app x y e sz by').kind <= 1 := by have := hk2 y e sz by';omega
         have hn2 : (Act'.app x y e sz by').kind≠2 := by
           cases x with
           |t n => simp[Act'.kind,tR]
           |v x =>
             simp only[St.ev,Option.some.injEq]at hu;subst hu;simp[Act'.kind,tR]
         refine⟨_,_,λh => absurd h hne,λh => absurd h hn2,h5,λσ' K' hg hf hK' => ?_⟩
         simp only[post,if_neg hne]at hK';simp only[Act'.rds]at hg;have he := hf.heq (hk2 y e sz by');have ha' : σ'.rws? id = some (e1,e2,sz2,rows) := by simp only[St.rws?,he];exact ha
         simp only[an,ak,hg.l.ev,hu,hg.r.ev,hv,ha',hr];rw[he];simp only[hl];exact⟨h0,h1,h2,h3,h4,hK'⟩
        ·exact h.elim
       ·exact h.elim
      ·exact h.elim
     ·exact h.elim
    ·exact h.elim
  |callH f xs =>
    simp only[an]at h;split at h
    ·rename_i vs hvs
     obtain⟨ps,h1,r,H',h2,h3,h4⟩ := h;refine⟨_,_,λh => absurd h (by simp[Act'.kind]),λh => absurd h (by simp[Act'.kind]),h4,λσ' K' ha hf hK' => ?_⟩
     simp only[Act'.rds]at ha;have he := hf.heq (show 2 <= (Act'.callH f xs).kind by simp[Act'.kind])
     simp only[an,ha.evs,hvs];refine⟨ps,by rw[Lw he];exact h1,r,H',by rw[he];exact h2,by rw[he];exact h3,?_⟩
     rw[he,Z5 he];exact hK'
    ·exact h.elim
  |inv tbl x xs =>
    simp only[an]at h;split at h
    ·rename_i t v vs hx hvs
     split at h
     ·rename_i f hf'
      split at h
      ·rename_i us hus
       obtain⟨r,h1,h3⟩ := h;refine⟨σ.h,r,λ_ => rfl,λ_ _ _ h => h,h3,λσ' K' ha hf hK' => ?_⟩
       simp only[Act'.rds]at ha;have he := hf.heq (show 2 <= (Act'.inv tbl x xs).kind by simp[Act'.kind])
       simp only[an,ha.l.ev,hx,ha.r.evs,hvs,hf',he,hus];refine Exists.intro r ⟨h1,?_⟩
       have : post (Act'.inv tbl x xs).kind σ' σ.h d r = St.put σ' d r := by
         simp only[post,Act'.kind,show ¬ (3 <= 1) by omega,if_false,<- he]
       rw[this]at hK';exact hK'
      ·exact h.elim
     ·exact h.elim
    ·exact h.elim
  |ivp tbl x xs => exact(show False from h).elim
  |rgs x =>
    simp only[an,ak]at h;split at h
    ·rename_i s hs
     refine⟨_,_,λh => absurd h (by simp[Act'.kind]),λ_ id ob h => du h,h,λσ' K' ha hf hK' => ?_⟩
     simp only[Act'.rds]at ha;simp only[an,ak,ha.ev,hs];rw[hf.heq (by simp[Act'.kind])]
     exact hK'
    ·exact h.elim
  |nxs x =>
    simp only[an,ak]at h;split at h
    ·rename_i id n hs
     split at h
     ·rename_i s p hi
      split at h
      ·rename_i hp
       refine⟨_,_,λh => absurd h (by simp[Act'.kind]),λh => absurd h (by simp[Act'.kind]),h,λσ' K' ha hf hK' => ?_⟩
       simp only[Act'.rds]at ha;have he := hf.heq (show 2 <= (Act'.nxs x).kind by simp[Act'.kind])
       have hi' : σ'.itr? id = some (s,p) := by simp only[St.itr?,he];exact hi
       simp only[an,ak,ha.ev,hs,hi',if_pos hp,he];exact hK'
      ·rename_i hp
       refine⟨σ.h,_,λh => absurd h (by simp[Act'.kind]),λh => absurd h (by simp[Act'.kind]),h,λσ' K' ha hf hK' => ?_⟩
       simp only[Act'.rds]at ha;have he := hf.heq (show 2 <= (Act'.nxs x).kind by simp[Act'.kind])
       have hi' : σ'.itr? id = some (s,p) := by simp only[St.itr?,he];exact hi
       simp only[an,ak,ha.ev,hs,hi',if_neg hp];simp only[post,show ¬ (Act'.nxs x).kind <= 1 by simp[Act'.kind],if_false]at hK'
       rw[<- he]at hK';exact hK'
     ·exact h.elim
    ·exact h.elim
  |yld g xs =>
    simp only[an,ak]at h;split at h
    ·rename_i id n vs hg hvs
     split at h
     ·rename_i v b l us hgh hus
      obtain⟨h1,h2,h3⟩ := h;refine⟨_,_,λh => absurd h (by simp[Act'.kind]),λh => absurd h (by simp[Act'.kind]),h3,λσ' K' ha hf hK' => ?_⟩
      simp only[Act'.rds]at ha;have he := hf.heq (show 2 <= (Act'.yld g xs).kind by simp[Act'.kind])
      have hgh' : σ'.gh? id = some ((v,b) :: l) := by simp only[St.gh?,he];exact hgh
      simp only[an,ak,ha.l.ev,hg,ha.r.evs,hvs,hgh',he,hus];exact⟨h1,h2,hK'⟩
     ·exact h.elim
    ·exact h.elim
  |trc x hi sz => exact(show False from h).elim
  |ltr e sz xs =>
    simp only[an,ak]at h;split at h
    ·rename_i vs hvs
     split at h
     ·rename_i us hus
      obtain⟨h1,h2,h3⟩ := h;rw[aaR]at h3;refine⟨(σ.kill (ax vs)).h ++ [some (Ob.arr e sz us)],.ref (σ.kill (ax vs)).h.length us.length,λh => absurd h (by simp[Act'.kind]),λh => absurd h (by simp[Act'.kind]),h3,λσ' K' ha hf hK' => ?_⟩
      simp only[Act'.rds]at ha;have he := hf.heq (show 2 <= (Act'.ltr e sz xs).kind by simp[Act'.kind])
      have hk : (σ'.kill (ax vs)).h = (σ.kill (ax vs)).h := Gl _ he;simp only[an,ak,ha.evs,hvs,he,hus,hk,aaR];exact⟨h1,h2,hK'⟩
     ·exact h.elim
    ·exact h.elim
  |mkp kt =>
    simp only[an,ak]at h;refine⟨_,_,λh => absurd h (by simp[Act'.kind]),λ_ id ob h => du h,h,λσ' K' ha hf hK' => ?_⟩
    simp only[an,ak];rw[hf.heq (by simp[Act'.kind])]
    exact hK'
  |mup kt x k v =>
    simp only[an,ak]at h;split at h
    ·rename_i id n kv u h1 h2 h3
     split at h
     ·rename_i kt' l u' hm hp
      obtain⟨g1,g2,g3,g4,g5⟩ := h;refine⟨_,_,λh => absurd h (by simp[Act'.kind]),λh => absurd h (by simp[Act'.kind]),g5,λσ' K' hg hf hK' => ?_⟩
      simp only[Act'.rds]at hg;have he := hf.heq (show 2 <= (Act'.mup kt x k v).kind by simp[Act'.kind])
      have hm' : σ'.mp? id = some (kt',l) := by simp only[St.mp?,he];exact hm
      simp only[an,ak,hg.l.ev,h1,hg.r.l.ev,h2,hg.r.r.ev,h3,hm'];rw[he];simp only[hp];exact⟨g1,g2,g3,g4,hK'⟩
     ·exact h.elim
    ·exact h.elim
  |_ =>
    simp only[an,ak]at h;split at h
    ·rename_i v hv
     exact agd (by simp only[Act'.kind];decide) hv h
    ·exact h.elim
theorem nU{x}(h:a8 Φ x K σ):XB (a8 Φ x) x.a.kind x.rds x.d σ K:=by
 have sk:(∀σ'(K':St->Prop),Agr σ σ' x.rds->K' (σ'.put x.d (.tup []))->a8 Φ x K' σ')->K (σ.put x.d (.tup []))->XB (a8 Φ x) 0 x.rds x.d σ K:=
  λh1 h2=>⟨σ.h,.tup [],λ_=>rfl,λ_ _ _ h=>h,h2,λσ' K' ha _ hK'=>h1 σ' K' ha hK'⟩
 have up:∀{T:(St->Prop)->St->Prop},XB T 0 x.rds x.d σ K->XB T x.a.kind x.rds x.d σ K:=by
  rintro T ⟨h',v,h1,_,h3,h4⟩;have e:=h1 (by decide)
  subst e;refine⟨σ.h,v,λ_=>rfl,λ_ _ _ h=>h,h3,λσ' K' ha hf hK'=>h4 σ' K' ha (.inl rfl) ?_⟩;simp only[post,zBd,if_true]at hK'⊢;split at hK'
  ·exact hK'
  ·rw[hf.heq (by omega)]
   exact hK'
 have lift:∀{T:(St->Prop)->St->Prop}{rs:List Nat},XB (an Φ x.d x.a) x.a.kind rs x.d σ K->(∀t,t∈rs->t∈x.rds)->(∀σ' K',Agr σ σ' x.rds->an Φ x.d x.a K' σ'->T K' σ')->XB T x.a.kind x.rds x.d σ K:=by
  rintro T rs ⟨h',v,h1,h2,h3,h4⟩ hs hT;exact⟨h',v,h1,h2,h3,λσ' K' ha hf hK'=>hT _ _ ha (h4 σ' K' (ha.sub hs) hf hK')⟩
 have hsub:∀t,t∈x.a.rds->t∈x.rds:=λt ht=>zFa _ ht;unfold a8 at h;cases hg:x.g with
 |none=>
   simp only[hg]at h;refine lift (IG h) hsub λσ' K' _ h'=>?_;grind[a8]
 |some tb=>
   obtain⟨t,b⟩:=tb;have ht:t∈x.rds:=by grind[AOp.rds]
   simp only[hg]at h;split at h
   ·rename_i y hy
    have hgo:∀σ'(K':St->Prop),Agr σ σ' x.rds->y=b->an Φ x.d x.a K' σ'->a8 Φ x K' σ':=by
     intro σ' K' ha hyb h';subst hyb;unfold a8;simp only[hg,ha t ht,hy];grind[Br]
    have hsk:∀σ'(K':St->Prop),Agr σ σ' x.rds->y≠b->K' (σ'.put x.d (.tup []))->a8 Φ x K' σ':=by
     intro σ' K' ha hyb h';unfold a8;simp only[hg,ha t ht,hy];cases y<;>cases b<;>first|exact absurd rfl hyb|simp[Br,h']
    by_cases hyb:y=b
    ·have h':an Φ x.d x.a K σ:=by grind[Br]
     exact lift (IG h') hsub λσ' K' ha h''=>hgo σ' K' ha hyb h''
    ·have h':K (σ.put x.d (.tup [])):=by cases y<;>cases b<;>first|exact absurd rfl hyb|grind[Br]
     simp_all
   ·rename_i hy
    refine up (sk (λσ' K' ha h''=>?_) h);unfold a8;simp only[hg,ha t ht,hy];exact h''
   simp_all
def Eqv(σ τ:St):Prop:=τ.h=σ.h/\∀t,lk τ.r t=lk σ.r t
def Inv(R:St->Prop):Prop:=∀σ τ,Eqv σ τ->R σ->R τ
theorem R2(σ:St)(h')(d)(v)(t):lk (St.put { σ with h:=h' } d v).r t=if d=ś t then ś v else lk σ.r t:=by
 cases d with
 |none=>simp[St.put]
 |some k=>grind[St.put,lk,zAb]
theorem Gq(σ:St)(d)(v):(σ.put d v).h=σ.h:=by cases d<;>rfl
theorem aea{x R}(hR:Inv R):Inv (a8 Φ x R):=by
 intro σ τ he h;obtain⟨h',v,h1,h2,h3,h4⟩:=nU h;refine h4 τ R (λt _=>he.2 t) (.inr (.inr he.1)) (hR _ _ ⟨?_,λt=>?_⟩ h3)
 ·simp only[post,Gq]
  split
  ·rename_i hk;rw[h1 hk];exact he.1
  ·rfl
 ·simp only[post,R2,he.2]
def FA(x y:AOp):Bool:=
 (match x.d with
  |some d=>!(nu d y.rds)&&decide (y.d≠ś d)
  |none=>ť)&&
 (match y.d with
  |some d=>!(nu d x.rds)
  |none=>ť)&&
 (x.a.kind == 0||y.a.kind == 0||(x.a.kind == 1&&decide (y.a.kind<=2)))
theorem Xr{x y}(h:FA x y=ť):
 (∀d,x.d=ś d->d ∉ y.rds/\y.d≠ś d)/\(∀d,y.d=ś d->d ∉ x.rds)/\(x.a.kind=0\/y.a.kind=0\/(x.a.kind=1/\y.a.kind<=2)):=by
 simp only[FA,zAg]at h;obtain⟨⟨h1,h2⟩,h3⟩:=h;refine⟨λd hd=>?_,λd hd=>?_,by grind⟩
 ·simp only[hd,zAg,zDg,decide_eq_true_eq]at h1
  grind[rM]
 grind[zDg,rM]
theorem aby{x y}(hap:FA x y=ť){R}(hR:Inv R)(h:a8 Φ x (a8 Φ y R) σ):a8 Φ y (a8 Φ x R) σ:=by
 obtain⟨a1,a2,a3⟩:=Xr hap;obtain⟨hx,vx,x1,x2,x3,x4⟩:=nU h;obtain⟨hy,vy,y1,y2,y3,y4⟩:=nU x3;rw[Gq]at y1 y2
 have key:Eqv (St.put { (St.put { σ with h:=hx } x.d vx)with h:=hy } y.d vy) (post x.a.kind (post y.a.kind σ hy y.d vy) hx x.d vx)->a8 Φ y (a8 Φ x R) σ:=by
  intro he;refine y4 σ _ ?_ ?_ ?_
  ·intro t ht
   grind[R2,absurd]
  ·rcases a3 with h|h|h
   ·refine .inr (.inr ?_);grind[Gq]
   ·exact .inl h
   ·refine .inr (.inr ?_);grind[Gq]
  ·refine x4 _ _ ?_ ?_ (hR _ _ he y3)
   ·intro t ht
    grind[post,R2,absurd]
   ·rcases a3 with h|h|h
    ·exact .inl h
    ·refine .inr (.inr ?_)
     simp_all[post,Gq,zBd,if_true]
    ·by_cases hk:y.a.kind<=1
     ·refine .inr (.inr ?_)
      simp_all[post,Gq,if_pos]
     ·refine .inr (.inl ⟨h.1,?_⟩)
      intro id ob hid;simp only[post,Gq,if_neg hk];grind
 apply key;constructor
 ·simp only[post,Gq]
  grind
 ·intro t
  simp only[post,R2];grind
end
end Go.Abs
end
section
namespace Go.Abs
open Go.RowKit
section
variable{P:Program}{N:Nat}{M0:Mem}{B:Bas}{w0:World}{Φ:Ctr}
theorem nT{x σ K K'}(h:a8 Φ x K σ)(hk:∀τ,K τ->K' τ):a8 Φ x K' σ:=by
 obtain⟨h',v,h1,h2,h3,h4⟩:=nU h;refine h4 σ K' (λ_ _=>rfl) (.inr (.inr rfl)) (hk _ ?_);grind[post]
mutual
theorem Vb:∀{v u:V},pur [] v=ś u->aF v=[]/\∀h,pur h v=ś u
 | .nil sz,_,hv=>⟨rfl,λh=>by grind[pur]⟩
 | .ref id n,_,hv=>by grind[pur,pur1]
 | .strct cs,_,hv=>by
   simp only[pur,zAa]at hv;obtain⟨us,h1,h2⟩:=hv;obtain⟨k1,k2⟩:=n6 h1;exact⟨by simpa only[aF]using k1,λh=>by simp only[pur,k2 h,zBj,h2]⟩
 | .tup cs,_,hv=>by
   simp only[pur,zAa]at hv;obtain⟨us,h1,h2⟩:=hv;obtain⟨k1,k2⟩:=n6 h1;exact⟨by simpa only[aF]using k1,λh=>by simp only[pur,k2 h,zBj,h2]⟩
 | .fn f a b,_,hv=>by
   simp only[pur]at hv;split at hv
   ·rename_i a' b' h1 h2
    obtain⟨k1,k2⟩:=n6 h1;obtain⟨k3,k4⟩:=n6 h2;exact⟨by simp only[aF,k1,k3,zGh],λh=>by simp only[pur,k2 h,k4 h];exact hv⟩
   ·cases hv
 | .iface t x,_,hv=>by
   simp only[pur,zAa]at hv;obtain⟨us,h1,h2⟩:=hv;obtain⟨k1,k2⟩:=Vb h1;exact⟨by simpa only[aF]using k1,λh=>by simp only[pur,k2 h,zBj,h2]⟩
 | .ptr _ _,_,hv=>by grind[pur]
 | .eptr _ _ _ _,_,hv=>by grind[pur]
 | .int _ _,_,hv=>⟨rfl,λh=>by grind[pur]⟩
 | .bool _,_,hv=>⟨rfl,λh=>by grind[pur]⟩
 | .str _,_,hv=>⟨rfl,λh=>by grind[pur]⟩
 | .seq _ _,_,hv=>⟨rfl,λh=>by grind[pur]⟩
 | .fseq _ _,_,hv=>⟨rfl,λh=>by grind[pur]⟩
 | .sptr _ _,_,hv=>⟨rfl,λh=>by grind[pur]⟩
 | .nilptr,_,hv=>⟨rfl,λh=>by grind[pur]⟩
 | .nilfn,_,hv=>⟨rfl,λh=>by grind[pur]⟩
 | .niliface,_,hv=>⟨rfl,λh=>by grind[pur]⟩
 | .junk,_,hv=>⟨rfl,λh=>by grind[pur]⟩
theorem n6:∀{v u:List V},purs [] v=ś u->ax v=[]/\∀h,purs h v=ś u
 |[],_,hv=>⟨rfl,λh=>by grind[purs]⟩
 |v::vs,_,hv=>by
   simp only[purs]at hv;split at hv
   ·rename_i a' b' h1 h2
    obtain⟨k1,k2⟩:=Vb h1;obtain⟨k3,k4⟩:=n6 h2;exact⟨by simp only[ax,k1,k3,zGh],λh=>by simp only[purs,k2 h,k4 h];exact hv⟩
   ·cases hv
end
theorem Ay{d : Option Nat}{a : Act'}{K : St -> Prop}{σ : St}(h : an Φ d a K σ) : ak Φ d a K σ := by
  cases a with
  |lit e0 sz xs =>
    simp only[an]at h;split at h
    ·rename_i vs hvs
     split at h
     ·rename_i us hus
      obtain⟨k1,k2⟩ := n6 hus;simp only[ak,hvs,k2 σ.h,k1,St.kill];exact h
     ·exact h.elim
    ·exact h.elim
  |call f xs =>
    simp only[an]at h;split at h
    ·rename_i vs hvs
     split at h
     ·rename_i us hus
      obtain⟨r,h1,h3⟩ := h;simp only[ak,hvs,hus];exact⟨r,.inl ⟨h1,λ_ => h3⟩⟩
     ·exact h.elim
    ·exact h.elim
  |callH f xs =>
    simp only[an]at h;split at h
    ·rename_i vs hvs
     obtain⟨ps,h1,r,H',h2,h3,h4⟩ := h;simp only[ak,hvs];exact .inl ⟨ps,h1,r,H',h2,h3,λ_ _ => h4⟩
    ·exact h.elim
  |inv tbl x xs =>
    simp only[an]at h;split at h
    ·rename_i t v vs hx hvs
     split at h
     ·rename_i f hf
      split at h
      ·rename_i us hus
       obtain⟨r,h1,h3⟩ := h;simp only[ak,hx,hvs,hf,hus];exact⟨r,.inl ⟨h1,λ_ => h3⟩⟩
      ·exact h.elim
     ·exact h.elim
    ·exact h.elim
  |ivp tbl x xs => exact(show False from h).elim
  |trc x hi sz => exact(show False from h).elim
  |callv g xs =>
    simp only[an]at h;split at h
    ·rename_i f a b vs hg hvs
     split at h
     ·rename_i us hus
      obtain⟨r,h1,h3⟩ := h;simp only[ak,hg,hvs,hus];exact⟨r,.inl ⟨h1,λ_ => h3⟩⟩
     ·exact h.elim
    ·exact h.elim
  |_ => exact h
theorem ad8{x K σ}(h:a8 Φ x K σ):wop Φ x K σ:=by
 unfold a8 at h;unfold wop;split at h
 ·exact Ay h
 ·split at h
  ·split
   ·rename_i hb;rw[if_pos hb]at h;exact⟨λhy=>Ay (h.1 hy),h.2⟩
   ·rename_i hb;rw[if_neg hb]at h;exact⟨h.1,λhy=>Ay (h.2 hy)⟩
  ·exact h
  ·exact h
def BK(Φ:Ctr)(ops:Array Oper)(xs:List AOp)(K:St->Prop):Nat->Array Bool->St->Prop
 |0,listed,σ=>Region.ready .any ops listed=[]/\K σ
 |f+1,listed,σ=>(Region.ready .any ops listed=[]->K σ)/\∀i∈Region.ready .any ops listed,∃x,xs[i]?=ś x/\a8 Φ x (BK Φ ops xs K f (listed.setIfInBounds i ť)) σ
def aal(Φ:Ctr)(ops:Array Oper)(xs:List AOp)(K:St->Prop):Nat->Array Bool->St->Prop
 |0,listed,σ=>Region.ready .any ops listed=[]/\K σ
 |f+1,listed,σ=>(Region.ready .any ops listed=[]->K σ)/\∀i∈Region.ready .any ops listed,∃x,xs[i]?=ś x/\wop Φ x (aal Φ ops xs K f (listed.setIfInBounds i ť)) σ
variable{ops:Array Oper}{xs:List AOp}{K:St->Prop}
theorem Pd(hK:Inv K):∀(f:Nat)(listed:Array Bool),Inv (BK Φ ops xs K f listed)
 |0,listed=>λσ τ he h=>⟨h.1,hK σ τ he h.2⟩
 |f+1,listed=>λσ τ he h=>⟨λh0=>hK σ τ he (h.1 h0),λi hi=>by
   obtain⟨x,hx,hw⟩:=h.2 i hi;exact⟨x,hx,aea (Pd hK f _) σ τ he hw⟩⟩
def BF(ops:Array Oper)(listed:Array Bool):Prop:=∀j oj,ops[j]?=ś oj->listed.getD j ğ=ť->∀e∈oj.after,Region.binds .any e=ť->listed.getD e.on ğ=ť
def If(anc:List Nat)(j i:Nat):Bool:=decide (i<j)&&zGb (anc.getD j 0) i
def QQ(ops:Array Oper)(anc:List Nat):Prop:=∀j i oj,ops[j]?=ś oj->If anc j i=ť->∃e∈oj.after,Region.binds .any e=ť/\e.on<j/\(e.on=i\/If anc e.on i=ť)
theorem BF.set{listed i}(h:BF ops listed)(hi:i∈Region.ready .any ops listed):BF ops (listed.setIfInBounds i ť):=by
 obtain⟨_,oi,hoi,hall⟩:=mem_ready.1 hi;intro j oj hj hl e he hb;by_cases hij:i=j
 ·grind[Option.some.inj,getD_set_true]
 ·rw[getD_set_ne ğ hij]at hl
  exact getD_set_true (h j oj hj hl e he hb)
theorem QQ.listed{anc}(ha:QQ ops anc){listed}(hc:BF ops listed){i}:∀(j:Nat)(oj:Oper),ops[j]?=ś oj->(∀e∈oj.after,Region.binds .any e=ť->listed.getD e.on ğ=ť)->
 If anc j i=ť->(∀e o',e<ops.size->ops[e]?=ś o'->True)->(∀e∈oj.after,Region.binds .any e=ť->e.on<j->∃o',ops[e.on]?=ś o')->listed.getD i ğ=true:=by
 intro j
 induction j using zEc with
 |_ j ih=>
   intro oj hj hp hanc _ hex;obtain⟨e,he,hb,hlt,h⟩:=ha j i oj hj hanc;have hl:=hp e he hb;rcases h with h|h
   ·simp_all
   ·obtain⟨o',ho'⟩:=hex e he hb hlt
    refine ih e.on hlt o' ho' (λe' he' hb'=>hc e.on o' ho' hl e' he' hb') h (λ_ _ _ _=>trivial) (λe' he' hb' hlt'=>?_)
    grind
theorem FM{anc}(ha:QQ ops anc)(hK:Inv K){i x}(hi:xs[i]?=ś x):
 ∀(f:Nat)(listed:Array Bool)(σ:St),BF ops listed->
   (∀j y,xs[j]?=ś y->j≠i->listed.getD j ť=ğ->If anc j i=ğ->FA x y=ť)->
   i∈Region.ready .any ops listed->a8 Φ x (BK Φ ops xs K f (listed.setIfInBounds i ť)) σ->BK Φ ops xs K (f+1) listed σ:=by
 intro f
 induction f with
 |zero=>
   intro listed σ _ _ hr H;refine⟨λh=>(by simp_all),λj hj=>?_⟩
   by_cases hji:j=i
   ·simp_all
   ·obtain⟨h',v,_,_,h3,_⟩:=nU H
    have:=ready_mono hj hji;rw[h3.1]at this;cases this
 |succ f ih=>
   intro listed σ hc hfree hr H;refine⟨λh=>(by simp_all),λj hj=>?_⟩
   by_cases hji:j=i
   ·simp_all
   ·obtain⟨h',v,_,_,h3,_⟩:=nU H
    obtain⟨y,hy,_⟩:=h3.2 j (ready_mono hj hji);obtain⟨hjun,oj,hoj,hall⟩:=mem_ready.1 hj;have hiun:=(mem_ready.1 hr).1
    have hnot:If anc j i=false:=by
     cases hb:If anc j i with
     |false=>rfl
     |true=>
       have hs:j<ops.size:=(zAf.1 hoj).1;have:=ha.listed hc j oj hoj hall hb (λ_ _ _ _=>trivial) (λe _ _ hlt=>⟨ops[e.on]'(by omega),by simp⟩)
       grind
    have H':a8 Φ x (a8 Φ y (BK Φ ops xs K f ((listed.setIfInBounds i ť).setIfInBounds j ť))) σ:=nT H λτ hτ=>by
     obtain⟨y',hy',hw⟩:=hτ.2 j (ready_mono hj hji);simp_all
    have H2:=aby (hfree j y hy hji hjun hnot) (Pd hK f _) H';refine⟨y,hy,nT H2 λτ hτ=>ih (listed.setIfInBounds j ť) τ (hc.set hj) ?_ (ready_mono hr (Ne.symm hji)) ?_⟩
    ·intro k z hz hki hun hno
     refine hfree k z hz hki ?_ hno;by_cases hjk:j=k
     ·simp_all
     simp_all
    grind[Array.setIfInBounds_comm]
def Rf(ops:Array Oper)(xs:List AOp)(anc:List Nat):List Nat->Bool
 |[]=>ť
 |i::l=>!(nu i l)&&
   (match ops[i]? with
    |some o=>o.after.toList.all λe=>!(Region.binds .any e)||(decide (e.on<ops.size)&& !(nu e.on (i::l)))
    |none=>ğ)&&
   (match xs[i]? with
    |some x=>l.all λj=>If anc j i||(match xs[j]? with
      |some y=>FA x y
      |none=>ğ)
    |none=>ğ)&&Rf ops xs anc l
def Fp(ops:Array Oper)(xs:List AOp)(anc perm:List Nat):Bool:=
 decide (ops.size=xs.length)&&decide (perm.length=ops.size)&&
 ((zBf ops.size).all λj=>nu j perm)&&
 ((zBf ops.size).all λj=>match ops[j]? with
   |some o=>o.after.toList.all λe=>!(Region.binds .any e)||decide (e.on<j)
   |none=>ť)&&
 ((zBf ops.size).all λj=>match ops[j]? with
   |some o=>(zBf j).all λi=>!(zGb (anc.getD j 0) i)||o.after.toList.any λe=>Region.binds .any e&&(decide (e.on=i)||If anc e.on i)
   |none=>ť)&&Rf ops xs anc perm
def mT(xs:List AOp):List Nat->Option (List AOp)
 |[]=>ś []
 |i::l=>match xs[i]?,mT xs l with
   |some x,ś ys=>ś (x::ys)
   |_,_=>ń
theorem ZQ{anc perm}(hd:Fp ops xs anc perm=ť):QQ ops anc:=by
 simp only[Fp,zAg,decide_eq_true_eq]at hd;obtain⟨⟨⟨⟨⟨hsz,hpl⟩,hall⟩,hed⟩,hanc⟩,hap⟩:=hd;intro j i oj hj hb;simp only[If,zAg,decide_eq_true_eq]at hb;grind
theorem abA{anc}(ha:QQ ops anc)(hK:Inv K):∀(l:List Nat)(ys:List AOp)(listed:Array Bool)(σ:St),Rf ops xs anc l=ť->mT xs l=ś ys->
 listed.size=ops.size->(∀j,j<ops.size->listed.getD j ğ=!(nu j l))->BF ops listed->BJ Φ ys K σ->BK Φ ops xs K l.length listed σ:=by
 intro l
 induction l with
 |nil=>
   intro ys listed σ _ hys hls hl hc h;simp only[mT,zAb]at hys;subst hys;refine⟨?_,h⟩;rw[List.eq_nil_iff_forall_not_mem];grind[mem_ready,zAf,nu]
 |cons i l ih=>
   intro ys listed σ hp hys hls hl hc h;simp only[Rf,zAg,zDg]at hp;obtain⟨⟨⟨hnd,hpre⟩,hap⟩,hrest⟩:=hp;simp only[mT]at hys;split at hys
   ·rename_i x ys' hx hys'
    cases hys;split at hpre
    ·rename_i o ho
     have hks:i<ops.size:=(zAf.1 ho).1
     have hr:i∈Region.ready .any ops listed:=by
      refine mem_ready.2 ⟨?_,o,ho,λe he hb=>?_⟩
      ·grind[nu]
      grind
     refine FM ha hK hx l.length listed σ hc ?_ hr ?_
     ·intro j y hy hji hun hno
      simp only[hx]at hap;by_cases hjs:j<ops.size
      ·have h2:=hl j hjs
       have hlt:j<listed.size:=by omega
       simp[hlt]at hun h2;rw[hun]at h2
       have h3:nu j (i::l)=true:=by
        simp_all
       simp only[nu,if_neg hji]at h3;have h4:=zAh.1 hap j (rM.1 h3);simp_all
      simp_all
     ·refine nT h λτ hτ=>ih ys' _ τ hrest hys' (by simp[hls]) ?_ (hc.set hr) hτ
      intro j hj;by_cases hkj:i=j
      ·simp_all
      ·rw[getD_set_ne ğ hkj,hl j hj]
       have:j≠i:=λh=>hkj h.symm;simp_all[nu,if_neg]
    ·cases hpre
   ·cases hys
theorem Xc{anc perm ys σ}(hd:Fp ops xs anc perm=ť)(hp:mT xs perm=ś ys)(hK:Inv K)(h:BJ Φ ys K σ):
 BK Φ ops xs K ops.size (zBa ops.size ğ) σ:=by
 have ha:=ZQ hd;simp only[Fp,zAg,decide_eq_true_eq]at hd;obtain⟨⟨⟨⟨⟨hsz,hpl⟩,hall⟩,hed⟩,hanc⟩,hap⟩:=hd
 have:=abA ha hK perm ys (zBa ops.size ğ) σ hap hp (by simp) (λj hj=>by
  simp_all) (λj oj hj hl=>by
  have hs:=(zAf.1 hj).1;simp[hs]at hl) h
 simp_all
def MR(ops:Array Oper):Nat->Array Bool->List (List Nat)
 |0,listed=>match Region.ready .any ops listed with
   |[]=>[[]]
   |_=>[[ops.size]]
 |f+1,listed=>match Region.ready .any ops listed with
   |[]=>[[]]
   |i::r=>(i::r).flatMap λi=>(MR ops f (listed.setIfInBounds i ť)).map (i::·)
def Ew : List AOp -> Bool
  |[] => true
  |x :: xs => (match x.a with
    | .call _ _ => false
    | .callv _ _ => false
    | .callH _ _ => false
    | .inv _ _ _ => false
    | .ivp _ _ _ => false
    |_ => true)&&Ew xs
def Jd(xs:List AOp):List (List Nat)->Option (List (List AOp))
 |[]=>ś []
 |p::ps=>match mT xs p,Jd xs ps with
   |some y,ś ys=>ś (y::ys)
   |_,_=>ń
theorem UH{d : Option Nat}{a : Act'}(hn : (match a with| .call _ _ => false| .callv _ _ => false| .callH _ _ => false| .inv _ _ _ => false| .ivp _ _ _ => false|_ => true) = true){σ : St}{K : St -> Prop}(h : ak Φ d a K σ) : ∃τ,∀K',ak Φ d a K' σ ↔ K' τ := by
  cases a with
  |call => cases hn
  |callv => cases hn
  |callH => cases hn
  |inv => cases hn
  |ivp => cases hn
  |mkp kt => exact⟨_,λK' => Iff.rfl⟩
  |ltr e sz xs =>
    simp only[ak]at h⊢;split at h
    ·split at h
     ·exact⟨_,λK' => ⟨λh => h.2.2,λh' => ⟨h.1,h.2.1,h'⟩⟩⟩
     ·exact h.elim
    ·exact h.elim
  |trc x hi sz =>
    simp only[ak]at h⊢;split at h
    ·split at h
     ·exact⟨_,λK' => ⟨λh => h.2.2.2.2,λh' => ⟨h.1,h.2.1,h.2.2.1,h.2.2.2.1,h'⟩⟩⟩
     ·exact h.elim
    ·exact h.elim
  |mup kt x k v =>
    simp only[ak]at h⊢;split at h
    ·split at h
     ·exact⟨_,λK' => ⟨λh => h.2.2.2.2,λh' => ⟨h.1,h.2.1,h.2.2.1,h.2.2.2.1,h'⟩⟩⟩
     ·exact h.elim
    ·exact h.elim
  |alc z => exact⟨_,λK' => Iff.rfl⟩
  |box x =>
    simp only[ak]at h⊢;split at h
    ·split at h
     ·rename_i hc;simp only[if_pos hc];exact⟨_,λK' => Iff.rfl⟩
     ·exact h.elim
    ·exact h.elim
  |st n p x =>
    simp only[ak]at h⊢;split at h
    ·split at h
     ·rename_i hc
      simp only[if_pos hc];split at h
      ·exact⟨_,λK' => Iff.rfl⟩
      ·exact h.elim
     ·exact h.elim
    ·exact h.elim
  |s2b x =>
    simp only[ak]at h⊢;split at h
    ·exact⟨_,λK' => ⟨λh => h.2,λh' => ⟨h.1,h'⟩⟩⟩
    ·exact h.elim
  |lit e0 sz xs =>
    simp only[ak]at h⊢;split at h
    ·split at h
     ·exact⟨_,λK' => ⟨λh => h.2.2,λh' => ⟨h.1,h.2.1,h'⟩⟩⟩
     ·exact h.elim
    ·exact h.elim
  |app x y e sz by' =>
    simp only[ak]at h⊢;split at h
    ·split at h
     ·obtain⟨h0,h⟩ := h
      split at h
      ·exact⟨_,λK' => ⟨λh => h.2.2,λh' => ⟨h0,h.1,h'⟩⟩⟩
      ·split at h
       ·exact⟨_,λK' => ⟨λh => h.2.2.2.2.2,λh' => ⟨h0,h.1,h.2.1,h.2.2.1,h.2.2.2.1,h'⟩⟩⟩
       ·exact h.elim
      ·split at h
       ·split at h
        ·exact⟨_,λK' => ⟨λh => h.2.2.2.2.2,λh' => ⟨h0,h.1,h.2.1,h.2.2.1,h.2.2.2.1,h'⟩⟩⟩
        ·exact h.elim
       ·exact h.elim
      ·exact h.elim
     ·exact h.elim
    ·exact h.elim
  |rgs x =>
    simp only[ak]at h⊢;split at h
    ·exact⟨_,λK' => Iff.rfl⟩
    ·exact h.elim
  |nxs x =>
    simp only[ak]at h⊢;split at h
    ·split at h
     ·split at h
      ·rename_i hp;simp only[if_pos hp];exact⟨_,λK' => Iff.rfl⟩
      ·rename_i hp;simp only[if_neg hp];exact⟨_,λK' => Iff.rfl⟩
     ·exact h.elim
    ·exact h.elim
  |yld g xs =>
    simp only[ak]at h⊢;split at h
    ·split at h
     ·exact⟨_,λK' => ⟨λh => h.2.2,λh' => ⟨h.1,h.2.1,h'⟩⟩⟩
     ·exact h.elim
    ·exact h.elim
  |mkm e by' e2 sz n =>
    simp only[ak]at h⊢;split at h
    ·exact⟨_,λK' => ⟨λh => h.2.2,λh' => ⟨h.1,h.2.1,h'⟩⟩⟩
    ·exact h.elim
  |mk0 e sz by' n =>
    simp only[ak]at h⊢;split at h
    ·exact⟨_,λK' => ⟨λh => h.2.2,λh' => ⟨h.1,h.2.1,h'⟩⟩⟩
    ·exact h.elim
  |mks e sz by' z n =>
    simp only[ak]at h⊢;split at h
    ·exact⟨_,λK' => ⟨λh => h.2.2,λh' => ⟨h.1,h.2.1,h'⟩⟩⟩
    ·exact h.elim
  |_ =>
    simp only[ak]at h⊢;split at h
    ·exact⟨_,λK' => Iff.rfl⟩
    ·exact h.elim
theorem ahn{x : AOp}(hn : (match x.a with| .call _ _ => false| .callv _ _ => false| .callH _ _ => false| .inv _ _ _ => false| .ivp _ _ _ => false|_ => true) = true){σ : St}{K : St -> Prop}(h : wop Φ x K σ) : ∃τ,∀K',wop Φ x K' σ ↔ K' τ := by
  unfold wop at h⊢;split at h
  ·exact UH hn h
  ·split at h
   ·rename_i t b _ _ y hy
    cases y <;> cases b <;> simp[Br]at h⊢ <;> first|exact UH hn h|exact⟨_,λK' => Iff.rfl⟩
   ·exact⟨_,λK' => Iff.rfl⟩
   ·exact h.elim
theorem aaV(ops):∀(f:Nat)(listed:Array Bool),MR ops f listed≠[]
 |0,listed=>by grind[MR]
 |f+1,listed=>by
   unfold MR;split
   ·simp
   ·rename_i i r _
    have:=aaV ops f (listed.setIfInBounds i ť);intro h;rw[List.flatMap_cons]at h;exact this (List.map_eq_nil_iff.1 (List.append_eq_nil_iff.1 h).1)
theorem Jn{i : Nat}{x : AOp} : ∀{xs : List AOp},Ew xs = true -> xs[i]? = some x -> (match x.a with| .call _ _ => false| .callv _ _ => false| .callH _ _ => false| .inv _ _ _ => false| .ivp _ _ _ => false|_ => true) = true
  |[],_,h => by simp at h
  |y :: ys,hn,h => by
    simp only[Ew,Bool.and_eq_true]at hn;revert h;revert i;intro i h;cases i with
    |zero => simp at h;subst h;exact hn.1
    |succ i => simp at h;exact Jn hn.2 h
theorem acy (hn:Ew xs=ť) (hsz:ops.size=xs.length):∀ (f:Nat) (listed:Array Bool) (σ:St),(∀ p∈MR ops f listed,∃ ys,mT xs p=ś ys∧D7 Φ ys K σ)→
 aal Φ ops xs K f listed σ:=by
 intro f
 induction f with
 | zero=>
   intro listed σ h
   unfold MR at h
   split at h
   · rename_i hr
     obtain ⟨ys,h1,h2⟩:=h [] (by simp)
     simp only [mT,zAb] at h1
     subst h1
     exact ⟨hr,h2⟩
   simp_all[mT]
 | succ f ih=>
   intro listed σ h
   unfold MR at h
   split at h
   · rename_i hr
     obtain ⟨ys,h1,h2⟩:=h [] (by simp)
     simp only [mT,zAb] at h1
     subst h1
     refine ⟨λ_=>h2,λi hi=>?_⟩
     simp_all
   · rename_i i0 r hr
     refine ⟨λh0=>(by simp_all),λi hi=>?_⟩
     rw [hr] at hi
     have hall:∀ p∈MR ops f (listed.setIfInBounds i ť),∃ ys,mT xs (i::p)=ś ys∧D7 Φ ys K σ:=λp hp=>h (i::p) (List.mem_flatMap.2 ⟨i,hi,zHc.2 ⟨p,hp,rfl⟩⟩)
     obtain ⟨p0,hp0⟩:=List.exists_mem_of_ne_nil _ (aaV ops f (listed.setIfInBounds i ť))
     obtain ⟨ys0,h0,hw0⟩:=hall p0 hp0
     simp only [mT] at h0
     split at h0
     · rename_i x ys1 hx hy1
       cases h0
       obtain ⟨τ,hτ⟩:=ahn (Jn hn hx) hw0
       refine ⟨x,hx,(hτ _).2 (ih _ τ (λp hp=>?_))⟩
       obtain ⟨ys,h2,hw⟩:=hall p hp
       simp only [mT,hx] at h2
       split at h2
       · rename_i x' ys2 hx' hy2
         cases hx'
         cases h2
         exact ⟨ys2,hy2,(hτ _).1 hw⟩
       · cases h2
     · cases h0
theorem ad6{x σ K K'}(h:a8 Φ x K σ)(hk:∀τ,K τ->K' τ):wop Φ x K' σ:=ad8 (nT h hk)
theorem QV:∀(f:Nat)(listed:Array Bool){σ:St},BK Φ ops xs K f listed σ->aal Φ ops xs K f listed σ
 |0,_,_,h=>h
 |f+1,_,_,h=>⟨h.1,λi hi=>by
   obtain⟨x,hx,hw⟩:=h.2 i hi;exact⟨x,hx,ad6 hw λτ hτ=>QV f _ hτ⟩⟩
def Zc(xs:List AOp)(anc:List Nat)(listed:Array Bool)(i:Nat):Bool:=match xs[i]? with
 |some x=>(zBf xs.length).all λj=>decide (j=i)||listed.getD j ť||If anc j i||(match xs[j]? with
   |some y=>FA x y
   |none=>ť)
 |none=>ğ
def TF(xs:List AOp)(anc:List Nat)(listed:Array Bool):List Nat->Option Nat
 |[]=>ń
 |i::l=>if Zc xs anc listed i=ť then ś i else TF xs anc listed l
def Qh:List (Option OT)->Option OT
 |[]=>ń
 |[t]=>t
 |t::ts=>match t,Qh ts with
   |some a,ś b=>ś (.both a b)
   |_,_=>ń
def opT:Option AOp->Option OT->Option OT
 |some x,ś t=>ś (.op x t)
 |_,_=>ń
def YH(ops:Array Oper)(xs:List AOp)(anc:List Nat):Nat->Array Bool->Option OT
 |0,listed=>match Region.ready .any ops listed with
   |[]=>ś .nil
   |_=>ń
 |f+1,listed=>match Region.ready .any ops listed with
   |[]=>ś .nil
   |i::r=>match TF xs anc listed (i::r)with
     |some k=>opT xs[k]? (YH ops xs anc f (listed.setIfInBounds k ť))
     |none=>Qh ((i::r).map λk=>opT xs[k]? (YH ops xs anc f (listed.setIfInBounds k ť)))
theorem Vg{x t u}(h:opT x t=ś u):∃y v,x=ś y/\t=ś v/\u=.op y v:=by
 unfold opT at h;grind
theorem Qg{K σ}:∀{ts:List (Option OT)}{t:OT},Qh ts=ś t->lJ Φ t K σ->∀u∈ts,∃v,u=ś v/\lJ Φ v K σ
 |[],_,h,_,_,_=>by cases h
 |[t0],t,h,hW,u,hu=>by
   simp_all[Qh,List.mem_singleton]
 |t0::t1::ts,t,h,hW,u,hu=>by
   simp only[Qh]at h;cases t0 with
   |none=>cases h
   |some a=>
     cases h2:Qh (t1::ts)with
     |none=>simp[h2]at h
     |some b=>
       simp only[h2,zAb]at h;subst h;rcases zFb.1 hu with rfl|hu
       ·exact⟨a,rfl,hW.1⟩
       ·exact Qg h2 hW.2 u hu
theorem Zg{anc listed l k}(h:TF xs anc listed l=ś k):k∈l/\Zc xs anc listed k=true:=by
 induction l with
 |nil=>cases h
 |cons i l ih=>
   grind[TF,zEh]
theorem acx{anc}(ha:QQ ops anc)(hK:Inv K):∀(f:Nat)(listed:Array Bool)(σ:St)(t:OT),BF ops listed->YH ops xs anc f listed=ś t->lJ Φ t K σ->
 BK Φ ops xs K f listed σ:=by
 intro f
 induction f with
 |zero=>
   intro listed σ l hc h hW;unfold YH at h;split at h
   ·rename_i hr
    cases h;exact⟨hr,hW⟩
   ·cases h
 |succ f ih=>
   intro listed σ l hc h hW;unfold YH at h;split at h
   ·rename_i hr
    cases h;exact⟨λ_=>hW,λi hi=>by simp_all⟩
   ·rename_i i r hr
    split at h
    ·rename_i k hk
     obtain⟨x,l',hx,hl',rfl⟩:=Vg h;obtain⟨hk1,hfree⟩:=Zg hk;have hkr:k∈Region.ready .any ops listed:=by rw[hr];exact hk1
     refine FM ha hK hx f listed σ hc ?_ hkr (nT hW λτ hτ=>ih _ τ l' (hc.set hkr) hl' hτ);intro j y hy hjk hun hno;unfold Zc at hfree;grind
    ·refine⟨λh0=>(by simp_all),λk hk=>?_⟩
     obtain⟨v,hv,hWv⟩:=Qg h hW _ (zHc.2 ⟨k,by simp_all,rfl⟩)
     obtain⟨x,l',hx,hl',rfl⟩:=Vg hv;exact⟨x,hx,nT hWv λτ hτ=>ih _ τ l' (hc.set hk) hl' hτ⟩
def Us(ops:Array Oper)(anc:List Nat):Bool:=
 ((zBf ops.size).all λj=>match ops[j]? with
   |some o=>o.after.toList.all λe=>!(Region.binds .any e)||decide (e.on<j)
   |none=>ť)&&
 ((zBf ops.size).all λj=>match ops[j]? with
   |some o=>(zBf j).all λi=>!(zGb (anc.getD j 0) i)||o.after.toList.any λe=>Region.binds .any e&&(decide (e.on=i)||If anc e.on i)
   |none=>ť)
theorem aab{anc}(hd:Us ops anc=ť):QQ ops anc:=by
 simp only[Us,zAg]at hd;obtain⟨hed,hanc⟩:=hd;intro j i oj hj hb;simp only[If,zAg,decide_eq_true_eq]at hb;grind
theorem BF.start{n}:BF ops (zBa n ğ):=by
 intro j oj hj hl;by_cases hjn:j<n
 ·simp[hjn]at hl
 ·simp[hjn]at hl
theorem ajk{ps os ys}(h:LOs P N ps ops os ys):∀{i:Nat}{o:Oper}{y:AOp},os[i]?=ś o->ys[i]?=ś y->LO P N ps ops o y:=by
 induction h with
 |nil=>simp
 |cons hl hs ih=>
   grind
theorem yx(hJC:Aw P M0 B){ρ Q K}(hL:LOs P N B.ps ops ops.toList xs)(hK:∀κ' M' σ' a' w',K σ'->Rel N M0 B w0 κ' M' σ' a' w'->Q .normal a' w'):
 ∀(f:Nat)(listed:Array Bool){κ:Kap}{M:Mem}{σ:St}{a:Act}{w:World},Rel N M0 B w0 κ M σ a w->aal (Cn P) ops xs K f listed σ->wpAnyIn (FR ρ) 0 P .any ops Q f listed a w
 |0,_,_,_,_,_,_,H,hW=>⟨hW.1,hK _ _ _ _ _ hW.2 H⟩
 |f+1,listed,_,_,_,_,_,H,hW=>by
   refine⟨λh0=>hK _ _ _ _ _ (hW.1 h0) H,λi hi=>?_⟩;obtain⟨x,hx,hw⟩:=hW.2 i hi;obtain⟨_,o,ho,_⟩:=mem_ready.1 hi;have hl:=ajk hL (by simpa using ho) hx
   have:=Vf hJC (ρ:=ρ) H hl hw (Q:=Q) (λκ' M' σ' a' w' hk H'=>yx (ρ:=ρ) hJC hL hK f _ H' hk);unfold wpOpIn;simp only[ho];split
   ·simp_all
   ·rename_i hwd;rw[if_neg hwd]at this;exact⟨λ_ _=>trivial,this⟩
theorem Rel.draw{κ M σ a w}(H:Rel N M0 B w0 κ M σ a w)(n):Rel N M0 B w0 κ M σ a { w with drawn:=n }:=
 { dfr:=H.dfr,jst:=H.jst,pin:=H.pin,size:=H.size,regs:=H.regs,heap:=λid ob h=>by
    have:=H.heap id ob h;cases ob with
    |gh l=>
      simp only[bn]at this⊢;obtain⟨k,h1,h2,h3⟩:=this;exact⟨k,h1,H.jst _ _ _ _ _ _ _ h2 ⟨rfl,rfl,rfl,zAd _,λ_ _ _=>rfl,λ_ cur T z h=>⟨cur,T,z,h,rfl⟩⟩ (λ_ _=>rfl) (λ_ _ h=>h) H.snd,h3⟩
    |_=>exact this
   inj:=H.inj,snd:=H.snd,sep:=H.sep,sub:=H.sub,new:=H.new,base:=H.base,blw:=⟨H.blw.os,H.blw.tape,H.blw.output,H.blw.size,H.blw.block,H.blw.siz⟩ }
inductive LC (P:Program) (N:Nat) (ps:List Nat):Code->AC->Prop
 |skip:LC P N ps .skip .skip
 |reg {id ops xs ks}:LOs P N ps ops ops.toList xs->LC P N ps (.region id ops ğ) (.reg xs ks)
 |regD {id ops xs ys anc perm ks}:LOs P N ps ops ops.toList xs->Fp ops xs anc perm=ť->mT xs perm=ś ys->LC P N ps (.region id ops ť) (.regD ys ks)
 |regE {id ops xs yss ks}:LOs P N ps ops ops.toList xs->Ew xs=ť->ops.size=xs.length->Jd xs (MR ops ops.size (zBa ops.size ğ))=ś yss->LC P N ps (.region id ops ť) (.regE yss ks)
 |regF {id ops xs yss anc ks}:LOs P N ps ops ops.toList xs->Us ops anc=ť->YH ops xs anc ops.size (zBa ops.size ğ)=ś yss->LC P N ps (.region id ops ť) (.regF yss ks)
 |scope {c rest a b l ks}:LC P N ps c a->findLabel c l=ś rest->LC P N ps rest b->LC P N ps (.scope c) (.scope l ks a b)
 |label {l}:LC P N ps (.label l) (.label l)
 |goto {l}:LC P N ps (.goto l) (.goto l)
 |bad {x}:LC P N ps x .bad
 |seq {x y a b}:LC P N ps x a->LC P N ps y b->LC P N ps (.seq x y) (.seq a b)
 |cond {c c' x y a b t}:cO P t c=ś c'->LC P N ps x a->LC P N ps y b->LC P N ps (.cond c x y) (.cond c' a b)
 |block {id x a}:LC P N ps x a->LC P N ps (.block id x) (.block id a)
 |loop {x a ks}:LC P N ps x a->LC P N ps (.loop x) (.loop ks a)
 |exit {id}:LC P N ps (.exit id) (.exit id)
 |ret:LC P N ps .ret .ret
def Ex.out:Ex->Exit
 | .norm=>.normal
 | .exit id=>.exit id
 | .goto l=>.goto l
 | .ret=>.ret
theorem Fu{κ M}{σ σ':St}{a w}(H:Rel N M0 B w0 κ M σ' a w)(ks):Rel N M0 B w0 κ M (σ.cls σ' ks) a w:=H.forget _ λt v h=>aaQ h
theorem Jc{r s}(h:∀t,lk s t=lk r t):∀ks,pk s ks=pk r ks
 |[]=>rfl
 |k::ks=>by simp only[pk,h k,Jc h ks]
theorem aip{R:St->Prop}(ks):Inv (λσ'=>R (σ'.nrm ks)):=by
 intro σ1 τ he h1
 have:τ.nrm ks=σ1.nrm ks:=by
  simp only[St.nrm,he.1,Jc he.2]
 simp_all
theorem VE{p:Nat->Prop}(h:∃n,p n):∃n,p n/\∀m,p m->n<=m:=by
 obtain⟨n,hn⟩:=h
 induction n using zEc with
 |_ n ih=>
   grind
open Classical in
noncomputable def AV(p:Nat->Prop):Nat:=if h:∃n,p n then(VE h).choose else 0
theorem qh{p}(h:∃n,p n):p (AV p)/\∀m,p m->AV p<=m:=by
 unfold AV;grind
theorem UO{b:Frame}{a c k cs w}:step P (lone (b.atR a (.code (.scope c)::k)) cs w)=.next (lone (b.atR a (.code c::.inScope c::k)) cs w):=
 step_lone_go (by simp[stepG,stepG.exec,Frame.atR])
theorem y6{b:Frame}{a c k cs w}:step P (lone (b.atR a (.inScope c::k)) cs w)=.next (lone (b.atR a k) cs w):=
 step_lone_go (by simp[stepG,stepG.exec,Frame.atR])
theorem D5{F n Q a w c rest}(l)(J)(μ:Act->World->Nat)(hf:findLabel c l=ś rest)
 (first:c.wpIn F n P (Exit.jump l J Q) a w)
 (pass:∀a w,J a w->rest.wpIn F n P (Exit.jump l (λa' w'=>J a' w'/\μ a' w'<μ a w) Q) a w):(Code.scope c).wpIn F n P Q a w:=by
 intro b k cs hro hb hr;have hg:gotoIn l (.inScope c::k)=ś (.code rest::.inScope c::k):=by simp[gotoIn,hf]
 have hS:∀{I:Machine->Prop}{m:Machine}{e:Exit}{a₁:Act}{w₁:World},(∀l',e≠.goto l')->e≠.normal->ArrivesIn I P m b (.inScope c::k) cs e a₁ w₁->ArrivesIn I P m b k cs e a₁ w₁:=by
  intro I m e a₁ w₁ hng hnn harr;cases e with
  |normal=>simp_all
  |exit id=>exact⟨λk' hk=>harr.1 k' (by simp[exitTo,hk]),λhr hk=>harr.2 hr (by simp[exitTo,hk])⟩
  |goto l'=>simp_all
  |ret=>exact harr
  |panic ch=>exact harr
  |outgrown=>exact harr
 have key:∀n a w,μ a w=n->J a w->∃e a' w',Q e a' w'/\ArrivesIn (Machine.fenced P F) P (lone (b.atR a (.code rest::.inScope c::k)) cs w) b k cs e a' w':=by
  intro n
  induction n using zEc with
  |_ n ih=>
    intro a w hn hJ;obtain⟨e,a₁,w₁,hq,harr⟩:=pass a w hJ b (.inScope c::k) cs hro hb hr;cases e with
    |normal=>exact⟨.normal,a₁,w₁,hq,StepsIn.trans harr (.one (fenced_calm hb hr rfl) y6)⟩
    |exit id=>exact⟨.exit id,a₁,w₁,hq,hS (λ_ h=>by cases h) (λh=>by cases h) harr⟩
    |goto l'=>
      obtain⟨rfl,hJ',hlt⟩:=hq;obtain⟨e₂,a₂,w₂,hq₂,harr₂⟩:=ih _ (by omega) a₁ w₁ rfl hJ'
      exact⟨e₂,a₂,w₂,hq₂,.of_steps (harr.1 _ hg) harr₂⟩
    |ret=>exact⟨_,a₁,w₁,hq,hS (λ_ h=>by cases h) (λh=>by cases h) harr⟩
    |panic ch=>exact⟨_,a₁,w₁,hq,hS (λ_ h=>by cases h) (λh=>by cases h) harr⟩
    |outgrown=>exact⟨_,a₁,w₁,hq,hS (λ_ h=>by cases h) (λh=>by cases h) harr⟩
 have h0:StepsIn (Machine.fenced P F) P (lone (b.atR a (.code (.scope c)::k)) cs w) (lone (b.atR a (.code c::.inScope c::k)) cs w):=.one (fenced_calm hb hr rfl) UO;obtain⟨e,a₁,w₁,hq,harr⟩:=first b (.inScope c::k) cs hro hb hr
 cases e with
 |normal=>exact⟨.normal,a₁,w₁,hq,StepsIn.trans h0 (StepsIn.trans harr (.one (fenced_calm hb hr rfl) y6))⟩
 |exit id=>exact⟨.exit id,a₁,w₁,hq,.of_steps h0 (hS (λ_ h=>by cases h) (λh=>by cases h) harr)⟩
 |goto l'=>
   obtain⟨rfl,hJ'⟩:=hq;obtain⟨e₂,a₂,w₂,hq₂,harr₂⟩:=key _ a₁ w₁ rfl hJ';exact⟨e₂,a₂,w₂,hq₂,.of_steps (StepsIn.trans h0 (harr.1 _ hg)) harr₂⟩
 |ret=>exact⟨_,a₁,w₁,hq,.of_steps h0 (hS (λ_ h=>by cases h) (λh=>by cases h) harr)⟩
 |panic ch=>exact⟨_,a₁,w₁,hq,.of_steps h0 (hS (λ_ h=>by cases h) (λh=>by cases h) harr)⟩
 |outgrown=>exact⟨_,a₁,w₁,hq,.of_steps h0 (hS (λ_ h=>by cases h) (λh=>by cases h) harr)⟩
theorem G6{F n Q a w c}(I:Nat->Act->World->Prop)(n₀)(h₀:I n₀ a w)
 (round:∀k a w,I k a w->c.wpIn F n P (Exit.then (λa' w'=>∃k',k'<k/\I k' a' w') Q) a w):(Code.loop c).wpIn F n P Q a w:=by
 refine wpIn_loop (λa w=>∃k,I k a w) (λa w=>AV (λk=>I k a w)) ⟨n₀,h₀⟩ ?_;intro a w hI;refine wpIn_mono (round _ a w (qh hI).1) ?_;intro e a' w' hq;cases e with
 |normal=>
   obtain⟨k',hlt,hI'⟩:=hq;exact show(∃k,I k a' w')/\AV (λk=>I k a' w')<AV (λk=>I k a w)from⟨⟨k',hI'⟩,zFg ((qh ⟨k',hI'⟩).2 k' hI') hlt⟩
 |exit id=>exact hq
 |goto l=>exact hq
 |ret=>exact hq
 |panic ch=>exact hq
 |outgrown=>exact hq
theorem Uv(hm:P.follows .mixedOrders=ť)(hJC:Aw P M0 B){ρ c x}(h:LC P N B.ps c x):∀{Q:Exit->Act->World->Prop}{R:Ex->St->Prop},
 (∀e κ M σ a w,R e σ->Rel N M0 B w0 κ M σ a w->Q e.out a w)->∀{κ:Kap}{M:Mem}{σ:St}{a:Act}{w:World},Rel N M0 B w0 κ M σ a w->W (Cn P) x R σ->c.wpIn (FR ρ) 0 P Q a w:=by
 induction h with
 |skip=>intro Q R hQ κ M σ a w H hW;exact wpIn_skip (hQ .norm _ _ _ _ _ hW H)
 |reg hL=>
   intro Q R hQ κ M σ a w H hW;refine wpIn_region_list (PI hJC (λκ' M' σ' a' w' hk H'=>?_) hL H hW);exact hQ .norm _ _ _ _ _ hk (Fu H' _)
 | @regD id ops xs ys anc perm ks hL hd hp=>
   intro Q R hQ κ M σ a w H hW;refine wpIn_region_any hm ?_
   have hinv:Inv (λσ'=>R .norm (σ.cls σ' ks)):=by
    intro σ1 τ he h1
    have:σ.cls τ ks=σ.cls σ1 ks:=by
     simp only[St.cls,he.1,Jc he.2]
    rw[this];exact h1
   refine yx hJC hL (λκ' M' σ' a' w' hk H'=>?_) _ _ (H.draw _) (QV _ _ (Xc hd hp hinv hW));exact hQ .norm _ _ _ _ _ hk (Fu H' _)
 | @regE id ops xs yss ks hL hn hsz hp=>
   intro Q R hQ κ M σ a w H hW;refine wpIn_region_any hm ?_
   have key:∀(ps:List (List Nat))(yss:List (List AOp)),Jd xs ps=ś yss->XJ (Cn P) yss (λσ'=>R .norm (σ.cls σ' ks)) σ->∀p∈ps,∃ys,mT xs p=ś ys/\D7 (Cn P) ys (λσ'=>R .norm (σ.cls σ' ks)) σ:=by
    intro ps
    induction ps with
    |nil=>simp
    |cons q ps ih=>
      intro yss h1 h2 p hp;simp only[Jd]at h1;split at h1
      ·rename_i y ys hy hys
       cases h1;rcases zFb.1 hp with rfl|hp
       ·exact⟨y,hy,h2.1⟩
       ·exact ih ys hys h2.2 p hp
      ·cases h1
   refine yx hJC hL (λκ' M' σ' a' w' hk H'=>?_) _ _ (H.draw _) (acy hn hsz _ _ σ (key _ _ hp hW));exact hQ .norm _ _ _ _ _ hk (Fu H' _)
 | @regF id ops xs yss anc ks hL hanc hp=>
   intro Q R hQ κ M σ a w H hW;refine wpIn_region_any hm ?_;refine yx hJC hL (λκ' M' σ' a' w' hk H'=>?_) _ _ (H.draw _) (QV _ _ (acx (aab hanc) (aip (R:=R .norm) ks) _ _ σ _ BF.start hp hW));obtain⟨κ2,H2⟩:=H'.nrm ks;exact hQ .norm _ _ _ _ _ hk H2
 | @scope c rest x y l ks _ hf _ iha ihb=>
   intro Q R hQ κ M σ a w H hW;obtain⟨I,h1,h2⟩:=hW;have G:∀a w,(∃n κ M τ,I n τ/\Rel N M0 B w0 κ M τ a w)->∃n,∃κ M τ,I n τ/\Rel N M0 B w0 κ M τ a w:=λ_ _ h=>h;refine D5 l (λa w=>∃n κ M τ,I n τ/\Rel N M0 B w0 κ M τ a w) (λa w=>AV λn=>∃κ M τ,I n τ/\Rel N M0 B w0 κ M τ a w) hf (iha ?_ H h1) ?_
   ·intro e κ M σ a w hR H
    cases e with
    |norm=>exact hQ .norm _ _ _ _ _ hR H
    |exit id=>exact hQ (.exit id) _ _ _ _ _ hR H
    |ret=>exact hQ .ret _ _ _ _ _ hR H
    |goto l'=>
      obtain⟨rfl,n,ms,τ'',g1,g2⟩:=hR;obtain⟨κ',M',H'⟩:=H.mats g1;obtain⟨κ2,H2⟩:=H'.nrm ks;exact⟨rfl,n,_,_,_,g2,H2⟩
   ·intro a w hJ
    obtain⟨⟨κ,M,τ,hI,H⟩,hmin⟩:=qh hJ;refine ihb ?_ H (h2 _ τ hI);intro e κ M σ a w hR H;cases e with
    |norm=>exact hQ .norm _ _ _ _ _ hR H
    |exit id=>exact hQ (.exit id) _ _ _ _ _ hR H
    |ret=>exact hQ .ret _ _ _ _ _ hR H
    |goto l'=>
      obtain⟨rfl,m,ms,τ'',g1,g2,g3⟩:=hR;obtain⟨κ',M',H'⟩:=H.mats g1;obtain⟨κ2,H2⟩:=H'.nrm ks;have hJ':∃n,∃κ M τ,I n τ/\Rel N M0 B w0 κ M τ a w:=⟨m,_,_,_,g2,H2⟩;exact⟨rfl,hJ',zFg ((qh hJ').2 m ⟨_,_,_,g2,H2⟩) g3⟩
 |label=>intro Q R hQ κ M σ a w H hW;exact wpIn_label (hQ .norm _ _ _ _ _ hW H)
 |goto=>intro Q R hQ κ M σ a w H hW;exact wpIn_goto (hQ (.goto _) _ _ _ _ _ hW H)
 |bad=>
   intro Q R hQ κ M σ a w H hW;exact hW.elim
 |seq _ _ iha ihb=>
   intro Q R hQ κ M σ a w H hW;refine wpIn_seq (iha ?_ H hW);intro e κ M σ a w hR H;cases e with
   |norm=>exact ihb hQ H hR
   |exit id=>exact hQ (.exit id) _ _ _ _ _ hR H
   |goto l=>exact hQ (.goto l) _ _ _ _ _ hR H
   |ret=>exact hQ .ret _ _ _ _ _ hR H
 |cond hc _ _ iha ihb=>
   intro Q R hQ κ M σ a w H hW;simp only[W]at hW;split at hW
   ·rename_i t ht
    have hv:=H.op hc ht;exact wpIn_cond_split (lL hv) (λh=>iha hQ H (hW.1 h)) (λh=>ihb hQ H (hW.2 h))
   ·exact hW.elim
 | @block id x a _ ih=>
   intro Q R hQ κ M σ a w H hW;refine wpIn_block (ih ?_ H hW);intro e κ M σ a w hR H;cases e with
   |norm=>exact hQ .norm _ _ _ _ _ hR H
   |exit id'=>
     simp only[Ex.inBlock]at hR;simp only[Ex.out,Exit.inBlock];split
     ·rename_i he;rw[if_pos he]at hR;exact hQ .norm _ _ _ _ _ hR H
     ·rename_i he;rw[if_neg he]at hR;exact hQ (.exit id') _ _ _ _ _ hR H
   |goto l=>exact hQ (.goto l) _ _ _ _ _ hR H
   |ret=>exact hQ .ret _ _ _ _ _ hR H
 | @loop x a ks _ ih=>
   intro Q R hQ κ M σ a w H hW;obtain⟨I,⟨n,ms,σ',hms,hI⟩,hr⟩:=hW;obtain⟨κ',M',H'⟩:=H.mats hms;obtain⟨κ2,H2⟩:=H'.nrm ks;refine G6 (λn a w=>∃κ M τ,I n τ/\Rel N M0 B w0 κ M τ a w) n ⟨_,_,_,hI,H2⟩ ?_;rintro n a w ⟨κ,M,τ,hI,H⟩;refine ih ?_ H (hr n τ hI);intro e κ M σ a w hR H;cases e with
   |norm=>
     obtain⟨m,ms,τ',h1,h2,h3⟩:=hR;obtain⟨κ',M',H'⟩:=H.mats h1;obtain⟨κ2,H2⟩:=H'.nrm ks;exact⟨m,h3,_,_,_,h2,H2⟩
   |exit id=>exact hQ (.exit id) _ _ _ _ _ hR H
   |goto l=>exact hQ (.goto l) _ _ _ _ _ hR H
   |ret=>exact hQ .ret _ _ _ _ _ hR H
 |exit=>intro Q R hQ κ M σ a w H hW;exact wpIn_exit (hQ (.exit _) _ _ _ _ _ hW H)
 |ret=>intro Q R hQ κ M σ a w H hW;exact wpIn_ret (hQ .ret _ _ _ _ _ hW H)
end
def alg(P:Program)(op:BinOp)(xt:TypeId)(u v:AO):Act':=
 match P.underlying xt,op with
 |some .bool,.eql=>.beq ğ u v
 |some .bool,.neq=>.beq ť u v
 |some (.struct _),.eql=>match ktT P xt with
   |some kt=>if kt.agg=ť then .aeq ğ kt u v else .bin op u v
   |none=>.bin op u v
 |some (.struct _),.neq=>match ktT P xt with
   |some kt=>if kt.agg=ť then .aeq ť kt u v else .bin op u v
   |none=>.bin op u v
 |some (.array _ _),.eql=>match ktT P xt with
   |some kt=>if kt.agg=ť then .aeq ğ kt u v else .bin op u v
   |none=>.bin op u v
 |some (.array _ _),.neq=>match ktT P xt with
   |some kt=>if kt.agg=ť then .aeq ť kt u v else .bin op u v
   |none=>.bin op u v
 |_,_=>.bin op u v
def Pk(P:Program)(t:TypeId):Option (Nat×Bool):=
 match ik P t,G4 P t with
 |some n,ś g=>if g=ť\/n=1 then ś (n,g)else ń
 |_,_=>ń
def abf(P:Program)(t:TypeId)(i:Nat):Option (Nat×TypeId):=
 match P.underlying t with
 |some (.struct fs)=>match fs[i]? with
   |some f=>ś (f.offset,f.type)
   |none=>ń
 |_=>ń
def agv(P : Program)(c : Call) : Option Act' :=
  match c with
  | { callee := .builtin .len,args := args,argTypes := ts } => match args.toList,ts.toList with
    |[x],[t] => match cO P t x,P.underlying t with
      |some u,some .string => some (.lens u)
      |some u,some (.slice _) => some (.lenq u)
      |_,_ => none
    |_,_ => none
  | { callee := .builtin .append,args := args,argTypes := ts } => match args.toList,ts.toList with
    |[x,y],[t,t'] => if t = t' then(match P.underlying t with
      |some (.slice e) => match P.info? e with
        |some i => match i.zero,cO P t x,cO P t y with
          |some z,some x',some y' => if 0<i.bytes /\ z.cells.size = i.size /\ 0<i.size then some (.app x' y' e i.size i.bytes)else none
          |_,_,_ => none
        |none => none
      |_ => none)else none
    |_,_ => none
  | { callee := .builtin .max,args := args,argTypes := ts } => match args.toList,ts.toList with
    |[x,y],[t,t'] => match cO P t x,cO P t' y with
      |some u,some v => some (.mm true u v)
      |_,_ => none
    |_,_ => none
  | { callee := .builtin .min,args := args,argTypes := ts } => match args.toList,ts.toList with
    |[x,y],[t,t'] => match cO P t x,cO P t' y with
      |some u,some v => some (.mm false u v)
      |_,_ => none
    |_,_ => none
  | { callee := .invoke r name,args := args,argTypes := ts } => match cO P 0 r,cOs P ts.toList args.toList with
    |some x,some xs => some (if((invU P name).any λy => y.2.2.isSome) = true then .ivp (invU P name) x xs else .inv (ak5 P name) x xs)
    |_,_ => none
  | { callee := .value (.func f),args := args,argTypes := ts } => match cOs P ts.toList args.toList with
    |some xs => some (.call f xs)
    |none => none
  | { callee := .value (.tmp g),args := args,argTypes := ts } => match cOs P ts.toList args.toList with
    |some xs => some (.callv (.t g) xs)
    |none => none
  |_ => none
def aeG:Operand->Operand->Bool
 | .tmp a,.tmp b=>decide (a=b)
 | .const (.int k n),.const (.int k' n')=>decide (k=k'/\n=n')
 |_,_=>ğ
theorem X2{x y}(h:aeG x y=ť):x=y:=by
 unfold aeG at h;grind
def alf(P:Program)(op:BinOp)(xt:TypeId)(y:Operand):Option (Nat×Bool):=match y,op with
 | .const c,.eql=>match Rj P xt c with
   |some k=>ś (k,ğ)
   |none=>ń
 | .const c,.neq=>match Rj P xt c with
   |some k=>ś (k,ť)
   |none=>ń
 |_,_=>ń
theorem adm{P op xt y k neg}(h:alf P op xt y=ś (k,neg)):∃c,y=.const c/\Rj P xt c=ś k/\((op=.eql/\neg=ğ)\/(op=.neq/\neg=ť)):=by
 unfold alf at h;grind
def fo(P : Program)(ty : TypeId) : Op -> Option Act'
  | .move x => (cO P ty x).map .mov
  | .assign x => (cO P ty x).map .mov
  | .pick c a b => match cO P ty c,cO P ty a,cO P ty b with
    |some c',some a',some b' => some (.pick c' a' b')
    |_,_,_ => none
  | .field t x i => match cO P t x,abf P t i with
    |some y,some (off,ft) => match Pk P ft with
      |some (n,g) => some (.fld y off n g)
      |none => none
    |_,_ => none
  | .fieldAddr t x i => match cO P 0 x,abf P t i with
    |some y,some (off,ft) => match ik P ft with
      |some n => if n≠0 then some (.fa y off)else none
      |none => none
    |_,_ => none
  | .indexAddr t x i => match cO P 0 i,P.underlying t with
    |some j,some (.slice e) => match cO P t x,ik P e with
      |some y,some n => some (.ia y j n)
      |_,_ => none
    |some j,some (.array m e) => match cO P 0 x,ik P e with
      |some y,some n => some (.iaa y j m n)
      |_,_ => none
    |_,_ => none
  | .load t x => match cO P 0 x,Pk P t with
    |some y,some (n,g) => some (.ld y n g)
    |_,_ => none
  | .index t x i => match cO P t x,cO P 0 i,P.underlying t with
    |some y,some j,some .string => some (.ixs y j)
    |some y,some j,some (.array m e) => match Pk P e with
      |some (n,g) => some (.ixa y j m n g)
      |none => none
    |_,_,_ => none
  | .binOp op xt x y yt => match cO P xt x,alf P op xt y with
    |some u,some (k,neg) => some (.nlq k neg u)
    |some u,none => match cO P yt y with
      |some v => some (alg P op xt u v)
      |none => none
    |none,_ => none
  | .unOp op t x => (cO P t x).map (.un op)
  | .convert s d x => match cO P s x,P.underlying s,P.underlying d with
    |some u,some (.slice e),some .string => match P.underlying e with
      |some (.int .u8) => some (.b2s u)
      |_ => none
    |some u,some _,some (.int k) => some (.cii k u)
    |some u,some (.int _),some .string => some (.r2s u)
    |some u,some .string,some (.slice e) => match P.underlying e with
      |some (.int .u8) => some (.s2b u)
      |_ => none
    |_,_,_ => none
  | .slice t x lo hi none => match cO P t x,cOo P 0 lo,cOo P 0 hi with
    |some u,some lo',some hi' => match P.underlying t with
      |some .string => some (.sls u lo' hi')
      |some (.slice e) => match ik P e with
        |some n => some (.slq u lo' hi' n)
        |none => none
      |_ => none
    |_,_,_ => none
  | .extract x i => (cO P 0 x).map λu => .ext u i
  | .build t parts => match P.built t [],P.info? t with
    |some _,some i => match i.zero with
      |some (.agg z) => match WB P 20 t with
        |some zc => match cSs P zc z.toList,Fz P t parts.toList with
          |some zs,some ps => some (.bld zs ps)
          |_,_ => none
        |none => none
      |_ => none
    |_,_ => none
  | .makeFunc f a b => match cOs P (List.replicate a.size 0) a.toList,cOs P (List.replicate b.size 0) b.toList with
    |some a',some b' => some (.mkf f a' b')
    |_,_ => none
  | .nilCheck x => (cO P 0 x).map .nlc
  | .alloc e => match P.info? e with
    |some i => match i.zero with
      |some z => match cV P e z with
        |some v => if nt v = true then some (.alc (cl v))else none
        |none => none
      |none => none
    |none => none
  | .box e x => (cO P e x).map .box
  | .store t p x => match cO P 0 p,cO P t x,ik P t with
    |some p',some x',some n => some (.st n p' x')
    |_,_,_ => none
  | .buildSlice t len parts => match P.underlying t with
    |some (.slice e) => match P.info? e with
      |some i => match i.zero with
        |some z => match cOs P (List.replicate len e) (parts.toList.map (·.2))with
          |some xs => if 0<i.size /\ z.cells.size = i.size /\ len*i.size <= 16777216 /\ parts.toList.map (·.1) = List.range len then some (.lit e i.size xs)else none
          |none => none
        |none => none
      |none => none
    |_ => none
  | .makeSlice t l l' => if aeG l l' = true then(match P.underlying t with
      |some (.slice e) => match P.info? e with
        |some i => match i.zero with
          |some (.slice none 0 0) => match P.underlying e with
            |some (.slice e2) => match P.info? e2,cO P 0 l with
              |some i2,some u => if 0<i.bytes /\ i.size = 1 /\ 0<i2.size then some (.mkm e i.bytes e2 i2.size u)else none
              |_,_ => none
            |_ => none
          |some z => match cV P e z,cO P 0 l with
            |some v,some u => match pur [] v with
              |some v' => if nt v = true /\ 0<i.bytes /\ 0<i.size /\ z.cells.size = i.size then some (.mks e i.size i.bytes v' u)else none
              |none => none
            |_,_ => none
          |none => none
        |none => none
      |_ => none)else(match l with
        | .const (.int _ 0) => (match P.underlying t with
          |some (.slice e) => match P.info? e with
            |some i => match i.zero,cO P 0 l' with
              |some _,some u => if 0<i.bytes /\ 0<i.size then some (.mk0 e i.size i.bytes u)else none
              |_,_ => none
            |none => none
          |_ => none)
        |_ => none)
  | .makeInterface t x => match cO P t x,P.underlying t with
    |some u,some ds => match ds with
      | .interface _ => none
      |_ => some (.mki t u)
    |_,_ => none
  | .typeAssert x xt t okk => match P.underlying t,cO P xt x,P.info? t with
    |some ds,some u,some i => match i.zero with
      |some z => match cV P t z with
        |some zv => match ds with
          | .interface _ => none
          |_ => some (.tya t zv okk u)
        |none => none
      |none => none
    |_,_,_ => none
  | .range t x => match cO P t x,P.underlying t with
    |some u,some .string => some (.rgs u)
    |_,_ => none
  | .next x true => (cO P 0 x).map .nxs
  | .makeMap t none => match P.underlying t with
    |some (.map K _) => match ktT P K with
      |some kt => some (.mkp kt)
      |none => none
    |_ => none
  | .lookup t x k okk => match P.underlying t with
    |some (.map K E) => match ktT P K,cO P t x,cO P K k,P.info? E with
      |some kt,some u,some v,some i => match i.zero with
        |some z => match cV P E z with
          |some zv => some (.lkp kt zv okk u v)
          |none => none
        |none => none
      |_,_,_,_ => none
    |_ => none
  | .mapUpdate t x k v => match P.underlying t with
    |some (.map K E) => match ktT P K,cO P t x,cO P K k,cO P E v with
      |some kt,some u,some b,some c => some (.mup kt u b c)
      |_,_,_,_ => none
    |_ => none
  | .insert t x k v => match P.underlying t with
    |some (.map K E) => match ktT P K,cO P t x,cO P K k,cO P E v with
      |some kt,some u,some b,some c => some (.mup kt u b c)
      |_,_,_,_ => none
    |_ => none
  | .call c => agv P c
  |_ => none
theorem sG{P}{t}{n}{g}(h:Pk P t=ś (n,g)):ik P t=ś n/\G4 P t=ś g/\(g=ğ->n=1):=by
 grind[Pk]
theorem LT{P t i off ft}(h:abf P t i=ś (off,ft)):∃fs f,P.underlying t=ś (.struct fs)/\fs[i]?=ś f/\off=f.offset/\ft=f.type:=by
 unfold abf at h;grind
theorem adn {P} {ty xt yt} {op} {x y} {u v} (hu:cO P xt x=ś u) (hv:cO P yt y=ś v):LV P ty (.binOp op xt x y yt) (alg P op xt u v):=by
 unfold alg
 split
 · exact .beq ‹_› hu hv
 · exact .bne ‹_› hu hv
 all_goals
  first
   | exact .bin hu hv
   | (split
      · split
        · first | exact .aeq ‹_› ‹_› hu hv | exact .ane ‹_› ‹_› hu hv
        · exact .bin hu hv
      · exact .bin hu hv)
theorem Z0{P : Program}{ty : TypeId}{c : Call}{x : Act'}(h : agv P c = some x) : LV P ty (.call c) x \/ LE P ty (.call c) x := by
  unfold agv at h;split at h
  ·rename_i args ts
   split at h
   ·rename_i x t hx ht
    have e1 : args = #[x] := by apply Array.ext';simpa using hx
    have e2 : ts = #[t] := by apply Array.ext';simpa using ht
    subst e1;subst e2;split at h
    ·cases h;exact .inl (.lens ‹_› ‹_›)
    ·cases h;exact .inl (.lenq ‹_› ‹_›)
    ·cases h
   ·cases h
  ·rename_i args ts
   split at h
   ·rename_i x y t t' hx ht
    have e1 : args = #[x,y] := by apply Array.ext';simpa using hx
    have e2 : ts = #[t,t'] := by apply Array.ext';simpa using ht
    subst e1;subst e2;split at h
    ·rename_i ett
     subst ett;split at h
     ·split at h
      ·split at h
       ·split at h
        ·rename_i hc;cases h;exact .inr (.app ‹_› ‹_› ‹_› rfl rfl hc.1 hc.2.1 hc.2.2 ‹_› ‹_›)
        ·cases h
       ·cases h
      ·cases h
     ·cases h
    ·cases h
   ·cases h
  ·rename_i args ts
   split at h
   ·rename_i x y t t' hx ht
    have e1 : args = #[x,y] := by apply Array.ext';simpa using hx
    have e2 : ts = #[t,t'] := by apply Array.ext';simpa using ht
    subst e1;subst e2;split at h
    ·cases h;exact .inl (.mmx ‹_› ‹_›)
    ·cases h
   ·cases h
  ·rename_i args ts
   split at h
   ·rename_i x y t t' hx ht
    have e1 : args = #[x,y] := by apply Array.ext';simpa using hx
    have e2 : ts = #[t,t'] := by apply Array.ext';simpa using ht
    subst e1;subst e2;split at h
    ·cases h;exact .inl (.mmn ‹_› ‹_›)
    ·cases h
   ·cases h
  ·split at h
   ·simp only[Option.some.injEq]at h
    subst h;split
    ·exact .inr (.ivp ‹_› rfl ‹_›)
    ·exact .inr (.inv ‹_› rfl ‹_›)
   ·cases h
  ·split at h
   ·cases h;exact .inr (.call ‹_›)
   ·cases h
  ·split at h
   ·cases h;exact .inr (.callv ‹_›)
   ·cases h
  ·cases h
theorem ado{P : Program}{ty : TypeId}{o : Op}{x : Act'}(h : fo P ty o = some x) : LV P ty o x \/ LE P ty o x := by
  cases o with
  |move x => simp only[fo,Option.map_eq_some_iff]at h;obtain⟨y,hy,rfl⟩ := h;exact .inl (.move hy)
  |assign x => simp only[fo,Option.map_eq_some_iff]at h;obtain⟨y,hy,rfl⟩ := h;exact .inl (.assign hy)
  |pick c a b =>
    simp only[fo]at h;split at h
    ·cases h;exact .inl (.pick ‹_› ‹_› ‹_›)
    ·cases h
  |field t x i =>
    simp only[fo]at h;split at h
    ·rename_i y off ft hy hs
     obtain⟨fs,f,h1,h2,rfl,rfl⟩ := LT hs;split at h
     ·rename_i n g hn
      obtain⟨k1,k2,k3⟩ := sG hn;cases h;exact .inl (.field hy h1 h2 k1 k2 k3)
     ·cases h
    ·cases h
  |fieldAddr t x i =>
    simp only[fo]at h;split at h
    ·rename_i y off ft hy hs
     obtain⟨fs,f,h1,h2,rfl,rfl⟩ := LT hs;split at h
     ·split at h
      ·cases h;exact .inl (.fieldAddr hy h1 h2 ‹_› ‹_›)
      ·cases h
     ·cases h
    ·cases h
  |indexAddr t x i =>
    simp only[fo]at h;split at h
    ·split at h
     ·cases h;exact .inl (.indexAddr ‹_› ‹_› ‹_› ‹_›)
     ·cases h
    ·split at h
     ·cases h;exact .inl (.indexAddrA ‹_› ‹_› ‹_› ‹_›)
     ·cases h
    ·cases h
  |load t x =>
    simp only[fo]at h;split at h
    ·rename_i y n g hy hs
     obtain⟨k1,k2,k3⟩ := sG hs;cases h;exact .inl (.load hy k1 k2 k3)
    ·cases h
  |index t x i =>
    simp only[fo]at h;split at h
    ·cases h;exact .inl (.indexS ‹_› ‹_› ‹_›)
    ·split at h
     ·rename_i n g hs
      obtain⟨k1,k2,k3⟩ := sG hs;cases h;exact .inl (.indexA ‹_› ‹_› ‹_› k1 k2 k3)
     ·cases h
    ·cases h
  |binOp op xt x y yt =>
    simp only[fo]at h;split at h
    ·rename_i hn
     cases h;obtain⟨c,rfl,h1,h2⟩ := adm hn;exact .inl (.nlq h1 h2 ‹_›)
    ·split at h
     ·cases h;exact .inl (adn ‹_› ‹_›)
     ·cases h
    ·cases h
  |unOp op t x => simp only[fo,Option.map_eq_some_iff]at h;obtain⟨y,hy,rfl⟩ := h;exact .inl (.un hy)
  |convert s d x =>
    simp only[fo]at h;split at h
    ·split at h
     ·cases h;exact .inr (.b2s ‹_› ‹_› ‹_› ‹_›)
     ·cases h
    ·cases h;exact .inl (.cii ‹_› ‹_› ‹_›)
    ·cases h;exact .inl (.r2s ‹_› ‹_› ‹_›)
    ·split at h
     ·cases h;exact .inr (.s2b ‹_› ‹_› ‹_› ‹_›)
     ·cases h
    ·cases h
  |slice t x lo hi m =>
    cases m with
    |some m => simp only[fo]at h;cases h
    |none =>
      simp only[fo]at h;split at h
      ·split at h
       ·cases h;exact .inl (.sls ‹_› ‹_› ‹_› ‹_›)
       ·split at h
        ·cases h;exact .inl (.slq ‹_› ‹_› ‹_› ‹_› ‹_›)
        ·cases h
       ·cases h
      ·cases h
  |extract x i => simp only[fo,Option.map_eq_some_iff]at h;obtain⟨y,hy,rfl⟩ := h;exact .inl (.ext hy)
  |build t parts =>
    simp only[fo]at h;split at h
    ·split at h
     ·split at h
      ·split at h
       ·cases h;exact .inl (.bld ‹_› ‹_› ‹_› ‹_› ‹_› ‹_›)
       ·cases h
      ·cases h
     ·cases h
    ·cases h
  |makeFunc f a b =>
    simp only[fo]at h;split at h
    ·cases h;exact .inl (.mkf ‹_› ‹_›)
    ·cases h
  |nilCheck x => simp only[fo,Option.map_eq_some_iff]at h;obtain⟨y,hy,rfl⟩ := h;exact .inl (.nlc hy)
  |alloc e =>
    simp only[fo]at h;split at h
    ·split at h
     ·split at h
      ·split at h
       ·cases h;exact .inr (.alloc ‹_› ‹_› ‹_› ‹_›)
       ·cases h
      ·cases h
     ·cases h
    ·cases h
  |box e x => simp only[fo,Option.map_eq_some_iff]at h;obtain⟨y,hy,rfl⟩ := h;exact .inr (.box hy)
  |store t p x =>
    simp only[fo]at h;split at h
    ·cases h;exact .inr (.store ‹_› ‹_› ‹_›)
    ·cases h
  |buildSlice t len parts =>
    simp only[fo]at h;split at h
    ·split at h
     ·split at h
      ·split at h
       ·split at h
        ·rename_i hc;cases h;exact .inr (.lit ‹_› ‹_› rfl hc.1 ‹_› hc.2.1 hc.2.2.1 hc.2.2.2 ‹_›)
        ·cases h
       ·cases h
      ·cases h
     ·cases h
    ·cases h
  |makeSlice t l l' =>
    simp only[fo]at h;split at h
    ·rename_i hab
     have hab := X2 hab;subst hab;split at h
     ·split at h
      ·split at h
       ·split at h
        ·split at h
         ·split at h
          ·rename_i hc;cases h;exact .inr (.mkm ‹_› ‹_› ‹_› hc.2.1 rfl hc.1 ‹_› ‹_› rfl hc.2.2 ‹_›)
          ·cases h
         ·cases h
        ·cases h
       ·split at h
        ·split at h
         ·split at h
          ·rename_i hc;cases h;exact .inr (.mks ‹_› ‹_› ‹_› ‹_› hc.1 ‹_› rfl rfl hc.2.1 hc.2.2.1 ‹_› hc.2.2.2)
          ·cases h
         ·cases h
        ·cases h
       ·cases h
      ·cases h
     ·cases h
    ·split at h
     ·split at h
      ·split at h
       ·split at h
        ·split at h
         ·rename_i hc;cases h;exact .inr (.mk0 ‹_› ‹_› ‹_› rfl rfl hc.1 hc.2 ‹_›)
         ·cases h
        ·cases h
       ·cases h
      ·cases h
     ·cases h
  |makeInterface t x =>
    simp only[fo]at h;split at h
    ·rename_i u ds hu hds
     split at h
     ·cases h
     ·rename_i hne
      cases h;exact .inl (.mki hu hds (λms e => hne ms e))
    ·cases h
  |typeAssert x xt t okk =>
    simp only[fo]at h;split at h
    ·rename_i ds u i hds hu hi
     split at h
     ·rename_i z hz
      split at h
      ·rename_i zv hzv
       split at h
       ·cases h
       ·rename_i hne
        cases h;exact .inl (.tya hds (λms e => hne ms e) hu hi hz hzv)
      ·cases h
     ·cases h
    ·cases h
  |range t x =>
    simp only[fo]at h;split at h
    ·cases h;exact .inr (.rgs ‹_› ‹_›)
    ·cases h
  |next x b =>
    cases b with
    |true =>
      simp only[fo,Option.map_eq_some_iff]at h;obtain⟨u,hu,rfl⟩ := h;exact .inr (.nxs hu)
    |false => simp only[fo]at h;cases h
  |makeMap t r =>
    cases r with
    |some r => simp only[fo]at h;cases h
    |none =>
      simp only[fo]at h;split at h
      ·split at h
       ·cases h;exact .inr (.mkp ‹_› ‹_›)
       ·cases h
      ·cases h
  |lookup t x k okk =>
    simp only[fo]at h;split at h
    ·split at h
     ·split at h
      ·split at h
       ·cases h;exact .inl (.lkp ‹_› ‹_› ‹_› ‹_› ‹_› ‹_› ‹_›)
       ·cases h
      ·cases h
     ·cases h
    ·cases h
  |mapUpdate t x k v =>
    simp only[fo]at h;split at h
    ·split at h
     ·cases h;exact .inr (.mup ‹_› ‹_› ‹_› ‹_› ‹_›)
     ·cases h
    ·cases h
  |insert t x k v =>
    simp only[fo]at h;split at h
    ·split at h
     ·cases h;exact .inr (.mui ‹_› ‹_› ‹_› ‹_› ‹_›)
     ·cases h
    ·cases h
  |call c => simp only[fo]at h;exact Z0 h
  |_ => simp only[fo]at h;cases h
def ags(P:Program)(N:Nat)(ps:List Nat)(ops:Array Oper)(o:Oper):Option AOp:=
 match(fo P o.type o.op).getD .bad,(match o.dst with
  |some t=>decide (t<N)&& !nu t ps
  |none=>ť)with
 |a,ť=>match o.guard with
   |none=>ś ⟨o.dst,a,ń⟩
   |some (j,b)=>match ops[j]? with
     |some oj=>match oj.dst with
       |some t=>ś ⟨o.dst,a,ś (t,b)⟩
       |none=>ń
     |none=>ń
 |_,_=>ń
def tP(P:Program)(N:Nat)(ps:List Nat)(ops:Array Oper):List Oper->Option (List AOp)
 |[]=>ś []
 |o::os=>match ags P N ps ops o,tP P N ps ops os with
   |some x,ś xs=>ś (x::xs)
   |_,_=>ń
def ak8(E:List Nat)(x:AOp):AOp:=match x.a with
 | .call f xs=>if nu f E=ť then⟨x.d,.callH f xs,x.g⟩else x
 | .slq y ń (ś hi) sz=>if nu 1000000 E=ť then⟨x.d,.trc y hi sz,x.g⟩else x
 | .callv g xs=>if nu 1000002 E=ť then⟨x.d,.yld g xs,x.g⟩else x
 | .lit e sz ys=>if(nu 1000001 E||nu (2000000+e) E)=ť then⟨x.d,.ltr e sz ys,x.g⟩else x
 |_=>x
def fHs(E:List Nat):List AOp->List AOp
 |[]=>[]
 |x::xs=>ak8 E x::fHs E xs
section
variable{P:Program}
theorem ajj{ty op f xs}(h:LV P ty op (.call f xs)):False:=by cases h
theorem agS{ty op f xs}(h:LE P ty op (.call f xs)):LE P ty op (.callH f xs):=by
 cases h;exact .callH ‹_›
theorem agQ{ty op f xs}(h:LV P ty op (.callv f xs)):False:=by cases h
theorem ama{ty op f xs}(h:LE P ty op (.callv f xs)):LE P ty op (.yld f xs):=by
 cases h;exact .yld ‹_›
theorem al8{ty op e sz xs}(h:LV P ty op (.lit e sz xs)):False:=by cases h
theorem amc{ty op e sz xs}(h:LE P ty op (.lit e sz xs)):LE P ty op (.ltr e sz xs):=by
 cases h with
 |lit h1 h2 h3 h4 h5 h6 h7 h8 h9=>exact .ltr h1 h2 h3 h4 h5 h6 h7 h8 h9
theorem amb{ty op y lo hi sz}(h:LE P ty op (.slq y lo hi sz)):False:=by cases h
theorem agu{t o}(h:cOo P t o=ś ń):o=none:=by
 cases o with
 |none=>rfl
 |some o=>grind[cOo,zAa]
theorem agt{t o y}(h:cOo P t o=ś (ś y)):∃o',o=ś o'/\cO P t o'=ś y:=by
 cases o with
 |none=>grind[cOo,zAb]
 |some o=>simp_all[cOo,zAa]
theorem al7{ty op y hi sz}(h:LV P ty op (.slq y ń (ś hi) sz)):LE P ty op (.trc y hi sz):=by
 cases h with
 |slq h1 h2 h3 h4 h5=>
   have e1:=agu h2;obtain⟨o',e2,h6⟩:=agt h3;subst e1;subst e2;exact .trc h1 h6 h4 h5
theorem ac8{E ps N ops o x}(h:LO P N ps ops o x):LO P N ps ops o (ak8 E x):=by
 unfold ak8;split
 ·rename_i f xs hx
  split
  ·refine⟨h.dst,h.lt,.inr (.inl ?_),h.grd⟩
   rcases h.act with h1|h1|h1
   ·grind[ajj]
   ·grind[agS]
   simp_all
  ·exact h
 ·rename_i y hi sz hx
  split
  ·refine⟨h.dst,h.lt,.inr (.inl ?_),h.grd⟩
   rcases h.act with h1|h1|h1
   ·grind[al7]
   ·grind[amb]
   simp_all
  ·exact h
 ·rename_i g xs hx
  split
  ·refine⟨h.dst,h.lt,.inr (.inl ?_),h.grd⟩
   rcases h.act with h1|h1|h1
   ·grind[agQ]
   ·grind[ama]
   simp_all
  ·exact h
 ·rename_i e sz ys hx
  split
  ·refine⟨h.dst,h.lt,.inr (.inl ?_),h.grd⟩
   rcases h.act with h1|h1|h1
   ·grind[al8]
   ·grind[amc]
   simp_all
  ·exact h
 ·exact h
theorem af3{E ps N ops os xs}(h:LOs P N ps ops os xs):LOs P N ps ops os (fHs E xs):=by
 induction h with
 |nil=>exact .nil
 |cons h1 _ ih=>exact .cons (ac8 h1) ih
end
def Jl:AC->Bool
 | .seq a b=>Jl a&&Jl b
 | .label _=>ğ
 | .bad=>ğ
 |_=>ť
def Bj(l:Nat):AC->Option AC
 | .seq a b=>match Bj l a with
   |some r=>ś (.seq r b)
   |none=>if Jl a=ť then Bj l b else ń
 | .label l'=>if(l' == l)=ť then ś .skip else ń
 |_=>ń
theorem Yt{P N ps c a}(h:LC P N ps c a)(l):Jl a=ť->findLabel c l=none:=by
 induction h with
 |seq _ _ ih1 ih2=>
   simp_all[Jl,zAg,findLabel]
 |label=>grind[Jl]
 |bad=>grind[Jl]
 |_=>intro _;rfl
theorem WK{P N ps c a}(h:LC P N ps c a){l}:∀{b:AC},Bj l a=ś b->∃rest,findLabel c l=ś rest/\LC P N ps rest b:=by
 induction h with
 |seq h1 h2 ih1 ih2=>
   intro b hb;simp only[Bj]at hb;split at hb
   ·cases hb
    obtain⟨r,g1,g2⟩:=ih1 ‹_›;exact⟨_,by grind[findLabel],.seq g2 h2⟩
   grind[findLabel,Yt]
 | @label l'=>
   intro b hb;simp only[Bj]at hb;split at hb
   ·rename_i he
    cases hb;exact⟨.skip,by simp_all[findLabel,if_true],.skip⟩
   ·cases hb
 |_=>grind[Bj]
def cY(P:Program)(N:Nat)(ps E:List Nat):Code->List (List Nat)->Option (AC×List (List Nat))
 | .skip,K=>ś (.skip,K)
 | .region _ ops ğ,ks::K=>match(tP P N ps ops ops.toList).map (fHs E)with
   |some xs=>ś (.reg xs ks,K)
   |none=>ń
 | .region _ ops ť,[]::ks::K=>match(tP P N ps ops ops.toList).map (fHs E)with
   |some xs=>if Ew xs=ť/\ops.size=xs.length then(match Jd xs (MR ops ops.size (zBa ops.size ğ))with
     |some yss=>ś (.regE yss ks,K)
     |none=>ń)else ś (.bad,K)
   |none=>ń
 | .region _ ops ť,(1::anc)::ks::K=>match(tP P N ps ops ops.toList).map (fHs E)with
   |some xs=>if Us ops anc=ť then(match YH ops xs anc ops.size (zBa ops.size ğ)with
     |some yss=>ś (.regF yss ks,K)
     |none=>ń)else ń
   |none=>ń
 | .region _ ops ť,(0::anc)::perm::ks::K=>match(tP P N ps ops ops.toList).map (fHs E)with
   |some xs=>if Fp ops xs anc perm=ť then(match mT xs perm with
     |some ys=>ś (.regD ys ks,K)
     |none=>ń)else ń
   |none=>ń
 | .seq x y,K=>match cY P N ps E x K with
   |some (a,K')=>match cY P N ps E y K' with
     |some (b,K'')=>ś (.seq a b,K'')
     |none=>ń
   |none=>ń
 | .cond c x y,K=>match cO P 0 c,cY P N ps E x K with
   |some c',ś (a,K')=>match cY P N ps E y K' with
     |some (b,K'')=>ś (.cond c' a b,K'')
     |none=>ń
   |_,_=>ń
 | .block id x,K=>match cY P N ps E x K with
   |some (a,K')=>ś (.block id a,K')
   |none=>ń
 | .loop x,ks::K=>match cY P N ps E x K with
   |some (a,K')=>ś (.loop ks a,K')
   |none=>ń
 | .exit id,K=>ś (.exit id,K)
 | .ret,K=>ś (.ret,K)
 | .rangeFunc _ _ _ _,K=>ś (.bad,K)
 | .scope x,(l::ks)::K=>match cY P N ps E x K with
   |some (a,K')=>match Bj l a with
     |some b=>ś (.scope l ks a b,K')
     |none=>ś (.bad,K')
   |none=>ń
 | .scope _,[]::K=>ś (.bad,K)
 | .label l,K=>ś (.label l,K)
 | .goto l,K=>ś (.goto l,K)
 | .refuse _,K=>ś (.bad,K)
 | .region _ _ _,_=>ń
 | .loop _,_=>ń
 | .scope _,_=>ń
section
variable{P:Program}{N:Nat}{ps:List Nat}
theorem ZZ{ops o x}(h:ags P N ps ops o=ś x):LO P N ps ops o x:=by
 unfold ags at h;split at h
 ·rename_i a hd
  have ha:LV P o.type o.op ((fo P o.type o.op).getD .bad)\/LE P o.type o.op ((fo P o.type o.op).getD .bad)\/(fo P o.type o.op).getD .bad=.bad:=by
   cases hc:fo P o.type o.op with
   |none=>simp
   |some y=>grind[ado]
  have hlt:∀t,o.dst=ś t->t<N/\t ∉ ps:=by
   intro t ht;rw[ht]at hd;simp only[zAg,decide_eq_true_eq,zDg]at hd;grind[rM]
  split at h
  ·rename_i hg
   cases h;exact⟨rfl,hlt,ha,.inl ⟨hg,rfl⟩⟩
  ·rename_i j b hg
   split at h
   ·rename_i oj hj
    split at h
    ·rename_i t ht
     cases h;exact⟨rfl,hlt,ha,.inr ⟨j,b,oj,t,hg,hj,ht,rfl⟩⟩
    ·cases h
   ·cases h
 ·cases h
theorem G0{ops}:∀{os:List Oper}{xs:List AOp},tP P N ps ops os=ś xs->LOs P N ps ops os xs
 |[],xs,h=>by simp only[tP,zAb]at h;subst h;exact .nil
 |o::os,xs,h=>by
   simp only[tP]at h;split at h
   ·rename_i x ys hx hy;cases h;exact .cons (ZZ hx) (G0 hy)
   ·cases h
theorem Cv{E ops xs}(h:(tP P N ps ops ops.toList).map (fHs E)=ś xs):LOs P N ps ops ops.toList xs:=by
 obtain⟨ys,h1,rfl⟩:=zAa.1 h;exact af3 (G0 h1)
theorem pM{E}:∀{c:Code}{K K':List (List Nat)}{a:AC},cY P N ps E c K=ś (a,K')->LC P N ps c a:=by
 intro c
 induction c with
 |skip=>intro K K' a h;simp only[cY,zAb,zCb]at h;rw[<-h.1];exact .skip
 |region id ops d=>
   intro K K' a h;cases d with
   |false=>
     cases K with
     |nil=>grind[cY]
     |cons ks K=>
       simp only[cY]at h;split at h
       ·cases h;exact .reg (Cv ‹_›)
       ·cases h
   |true=>
     match K,h with
     |[],h=>grind[cY]
     |[[]],h=>grind[cY]
     |[_::_],h=>grind[cY]
     |[]::ks::K,h=>
       simp only[cY]at h;split at h
       ·split at h
        ·rename_i hc
         split at h
         ·cases h;exact .regE (Cv ‹_›) hc.1 hc.2 ‹_›
         ·cases h
        ·cases h;exact .bad
       ·cases h
     |[0::anc,perm],h=>grind[cY]
     |(1::anc)::ks::K,h=>
       simp only[cY]at h;split at h
       ·split at h
        ·rename_i hc
         split at h
         ·cases h;exact .regF (Cv ‹_›) hc ‹_›
         ·cases h
        ·cases h
       ·cases h
     |((n+2)::l)::k::K,h=>simp_all[cY]
     |(0::anc)::perm::ks::K,h=>
       simp only[cY]at h;split at h
       ·split at h
        ·rename_i hc
         split at h
         ·cases h;exact .regD (Cv ‹_›) hc ‹_›
         ·cases h
        ·cases h
       ·cases h
 |seq x y ihx ihy=>
   intro K K' a h;simp only[cY]at h;split at h
   ·split at h
    ·cases h;exact .seq (ihx ‹_›) (ihy ‹_›)
    ·cases h
   ·cases h
 |cond c x y ihx ihy=>
   intro K K' a h;simp only[cY]at h;split at h
   ·split at h
    ·cases h;exact .cond (t:=0) ‹_› (ihx ‹_›) (ihy ‹_›)
    ·cases h
   ·cases h
 |block id x ih=>
   intro K K' a h;simp only[cY]at h;split at h
   ·cases h;exact .block (ih ‹_›)
   ·cases h
 |loop x ih=>
   intro K K' a h;cases K with
   |nil=>grind[cY]
   |cons ks K=>
     simp only[cY]at h;split at h
     ·cases h;exact .loop (ih ‹_›)
     ·cases h
 |scope x ih=>
   intro K K' a h
   match K,h with
   |[],h=>grind[cY]
   |[]::K,h=>simp only[cY,zAb,zCb]at h;rw[<-h.1];exact .bad
   |(l::ks)::K,h=>
     simp only[cY]at h;split at h
     ·split at h
      ·cases h
       have hx:=ih ‹_›;obtain⟨rest,g1,g2⟩:=WK hx ‹_›;exact .scope hx g1 g2
      ·cases h;exact .bad
     ·cases h
 |label l=>intro K K' a h;simp only[cY,zAb,zCb]at h;rw[<-h.1];exact .label
 |goto l=>intro K K' a h;simp only[cY,zAb,zCb]at h;rw[<-h.1];exact .goto
 |exit id=>intro K K' a h;simp only[cY,zAb,zCb]at h;rw[<-h.1];exact .exit
 |ret=>intro K K' a h;simp only[cY,zAb,zCb]at h;rw[<-h.1];exact .ret
 |_=>intro K K' a h;simp only[cY,zAb,zCb]at h;rw[<-h.1];exact .bad
inductive RV where
 |t (n:Nat)
 |c (a n:Nat) (agg:Bool)
def Ie(P:Program):List ResultVar->Option (List RV)
 |[]=>ś []
 | .tmp t::rs=>(Ie P rs).map (.t t::·)
 | .cell a t::rs=>match Pk P t,Ie P rs with
   |some (n,g),ś xs=>ś (.c a n g::xs)
   |_,_=>ń
def St.rv(σ:St):RV->Option V
 | .t n=>match lk σ.r n with
   |some v=>if nt v=ť then ś v else ń
   |none=>ń
 | .c a n g=>match lk σ.r a with
   |some p=>match σ.fetch p n with
     |some us=>mkc g us
     |none=>ń
   |none=>ń
def St.rvs(σ:St):List RV->Option (List V)
 |[]=>ś []
 |x::xs=>match σ.rv x,σ.rvs xs with
   |some v,ś vs=>ś (v::vs)
   |_,_=>ń
def nc:List V->V
 |[v]=>v
 |vs=>.tup vs
def Res(rs:List RV)(post:V->Prop):Ex->St->Prop:=λe σ=>(match e with
    | .exit _=>False
    | .goto _=>False
    |_=>True)/\match σ.rvs rs with
    |some vs=>match purs σ.h vs with
      |some us=>post (nc us)
      |none=>False
    |none=>False
def ent:Nat->List V->List (Nat×V)
 |_,[]=>[]
 |k,v::vs=>(k,v)::ent (k+1) vs
theorem R3:∀{vs:List V}{k t:Nat}{v:V},lk (ent k vs) t=ś v->k<=t/\vs[t-k]?=ś v
 |[],k,t,v,h=>by simp[ent,lk]at h
 |u::us,k,t,v,h=>by
   simp only[ent,lk]at h;split at h
   ·simp_all
   ·rename_i he
    obtain⟨h1,h2⟩:=R3 h;grind
variable{M0:Mem}{B:Bas}{w0:World}{κ:Kap}{M:Mem}{σ:St}{a:Act}{w:World}
def U6(a:Act):ResultVar->Sem Value
 | .tmp t=>pure (a.tmps.getD t undef)
 | .cell x t=>do loadVar t (<-asAddr (a.tmps.getD x undef))
theorem vC{fn:Func}{rs:List RV}(hr:Ie P fn.results.toList=ś rs)(H:Rel N M0 B w0 κ M σ a w){vs:List V}(hv:σ.rvs rs=ś vs):
 ∃cs:List Value,af M (XX κ σ.h) vs cs/\(results fn a.tmps).run P w=.ok (if h:cs.length=1 then cs[0]else .tuple cs.toArray) w:=by
 have key:∀(l:List ResultVar)(rs:List RV)(vs:List V),Ie P l=ś rs->σ.rvs rs=ś vs->
  ∃cs:List Value,af M (XX κ σ.h) vs cs/\(l.mapM (U6 a)).run P w=.ok cs w:=by
  intro l
  induction l with
  |nil=>
    simp_all[Ie,zAb,St.rvs,af]
  |cons x l ih=>
    intro rs vs h1 h2;cases x with
    |tmp t=>
      simp only[Ie,zAa]at h1;obtain⟨rs',h1,rfl⟩:=h1;simp only[St.rvs]at h2;split at h2
      ·rename_i v us g1 g2
       cases h2;obtain⟨cs,k1,k2⟩:=ih rs' us h1 g2;simp only[St.rv]at g1;split at g1
       ·rename_i u hu
        split at g1
        ·cases g1
         obtain⟨_,c,e1,e2⟩:=H.regs _ _ hu;refine⟨c::cs,by simp only[af];grind,?_⟩
         simp_all[U6,ok,zEg,Sem.run_bind,Result.andThen_ok,Sem.run_pure]
        ·cases g1
       ·cases g1
      ·cases h2
    |cell t ty=>
      simp only[Ie]at h1;split at h1
      ·rename_i n g xs hs hx
       cases h1;simp only[St.rvs]at h2;split at h2
       ·rename_i v us g1 g2
        cases h2;obtain⟨cs,k1,k2⟩:=ih _ us hx g2;simp only[St.rv]at g1;split at g1
        ·rename_i p hp
         split at g1
         ·rename_i vs' hf
          obtain⟨s1,s2,s3⟩:=sG hs;obtain⟨_,c,e1,e2⟩:=H.regs _ _ hp;obtain⟨b,o',ds,e,f1,f2,f3,f4⟩:=Gw H e2 hf;subst e;rcases In g1 f1 f2 with⟨rfl,hk⟩|⟨rfl,c,hk1,hk2⟩
          ·refine⟨.agg ds.toArray::cs,by simp only[af];grind,?_⟩
           have:=run_loadCells_list (P:=P) w ⟨b,o',ń⟩ ds f4;rw[f3]at this;have hF:(U6 a (.cell t ty)).run P w=.ok (.agg ds.toArray) w:=by simp_all[U6,asAddr,loadVar,nX,bQ]
           simp_all
          ·refine⟨c::cs,by simp only[af];grind,?_⟩
           have:=f4 0 c (by simp[hk1])
           rw[Addr.add_lit]at this;simp at this;have hF:(U6 a (.cell t ty)).run P w=.ok c w:=by simp_all[U6,asAddr,loadVar,nX]
           simp_all
         ·cases g1
        ·cases g1
       ·cases h2
      ·cases h1
 obtain⟨cs,k1,k2⟩:=key _ _ _ hr hv;refine⟨cs,k1,?_⟩
 have e:results fn a.tmps=(do
  let vs <-fn.results.mapM (U6 a)
  pure (if h:vs.size=1 then vs[0]else .tuple vs)):=by
  unfold results;congr 2
 simp_all[Array.mapM_eq_mapM_toList,Sem.run_bind]
theorem IA{c:Code}{Q a w}(h:c.wpIn (FR ń) 0 P Q a w):c.wp P Q a w:=wpIn_wide.1 h
theorem FnE.of_W{f}{fn:Func}{c}{us:List V}{r x}{rs:List RV}(hm:P.follows .mixedOrders=ť)(hf:P.funcs[f]?=ś fn)(hb:fn.body=ś c)
 (hn:(fn.name == "runtime.NumGoroutine")=ğ) (hc:LC P fn.ntmps [] c x) (hr:Ie P fn.results.toList=ś rs) (hs:us.length<=fn.ntmps)
 (hW:oks us->W (Cn P) x (Res rs (·=r)) ⟨ent 0 us,[]⟩):FnE P f us r where
 call:=λargs w=>by
  simp_all[callFunc,beq_eq_false_iff_ne,ne_eq,Sem.run_bind]
 does:=λM w cs hM hus=>by
  have hl:cs.size=us.length:=by have:=bg hus;simpa using this
  refine calls_of_wp hf hb ?_
  have H:Rel fn.ntmps M ⟨w.heap.size,λ_=>False,[],#[],w.heap.size,noJ,[]⟩ w ⟨λ_=>undef,λ_ _=>undef,λ_ _=>False,λ_=>ń⟩ M ⟨ent 0 us,[]⟩ { tmps:=cs++zBa (fn.ntmps-cs.size) undef,defers:=[] } w:=
   { dfr:=rfl,jst:=Jm rfl,pin:=λi hi=>by cases hi
     size:=by simp;omega
     regs:=λt v ht=>by
      obtain⟨_,h2⟩:=R3 ht;simp only[zFh]at h2;have hlt:t<us.length:=(zAc.1 h2).1;obtain⟨c,h3,h4⟩:=f6 hus h2;refine⟨by omega,c,?_,aO (λ_ _ h=>h) (λ_ _ h=>h.elim) _ _ h4⟩
      grind
     heap:=λid ob h=>by simp at h
     inj:=λi j oi oj g h=>by simp at h
     snd:=hM.snd
     sep:=λp v _ id ob h=>by simp at h
     sub:=⟨λ_ _ h=>h,λ_ _ h=>(by cases h),λ_ _ h=>(by cases h),zAd _,hM.gl⟩
     new:=λ_ _ h=>.inl h
     base:=rfl
     blw:=Und.refl _ _ }
  refine IA (Uv hm (rI rfl) (B:=⟨w.heap.size,λ_=>False,[],#[],w.heap.size,noJ,[]⟩) hc ?_ H (hW (gI hus)));intro e κ M1 σ a w1 hR H1;simp only[Res]at hR;obtain⟨he,hR⟩:=hR;split at hR
  ·rename_i vs hvs
   split at hR
   ·rename_i ws hws
    obtain⟨ds,k1,k2⟩:=vC hr H1 hvs;obtain⟨H2,hM1⟩:=H1.kill (ax vs) (eT hws)
    have k3:af (ext M1 w1 (rm κ (ax vs))) NX ws ds:=by
     refine cz H1 hM1 (λid hid g hg p hpb=>?_) k1 hws;unfold ext;rw[if_pos (eC.2 ⟨id,hid,by rw[hpb];exact hg⟩)]
    have fin:bodyPost P fn (λe w'=>∃(c:Value)(M':Mem),e=.returned c/\rep M' NX r c/\Below w.heap.size w w'/\(∀p v,M' p=ś v->w'.cell? p=ś v)/\
     (∀p v,M p=ś v->M' p=ś v)/\∀p v,M' p=ś v->M p=ś v\/w.heap.size<=p.block) .normal a w1:=by
     refine⟨H1.dfr,_,k2,_,_,rfl,?_,⟨H1.blw.os,H1.blw.tape,H1.blw.output,H1.blw.size,λk hk=>H1.blw.block k hk id⟩,H2.snd,H2.sub.sub,λp v h=>(H2.new p v h).imp_right λh=>h.elim id False.elim⟩;subst hR
     match ws,ds,k3 with
     |[],[],k3=>simp_all[nc,rep,af]
     |[v],[d],k3=>
       grind[af,nc]
     |v::v'::vs',d::d'::ds',k3=>
       simp_all[dif_neg,nc,rep]
     |[],d::ds,k3=>simp[af]at k3
     |v::vs,[],k3=>simp[af]at k3
     |[v],d::d'::ds,k3=>simp[af]at k3
     |v::v'::vs,[d],k3=>
       grind[af]
    cases e with
    |norm=>exact fin
    |ret=>exact fin
    |exit id=>exact he.elim
    |goto l=>exact he.elim
   ·exact hR.elim
  ·exact hR.elim
def Uw(rs:List RV)(r:V):Ex->St->Prop:=λe σ=>(match e with
    | .exit _=>False
    | .goto _=>False
    |_=>True)/\match σ.rvs rs with
    |some vs=>KU σ.h vs=ť/\(match purs σ.h vs with
      |some us=>nc us=r
      |none=>False)
    |none=>False
theorem aek{M}{X:V->Value->Prop}:∀{ws:List V}{ds:List Value},af M X ws ds->rep M X (nc ws) (if h:ds.length=1 then ds[0]else .tuple ds.toArray)
 |[],[],k3=>by simp_all[nc,rep,af]
 |[v],[d],k3=>by
   grind[af,nc]
 |v::v'::vs',d::d'::ds',k3=>by
   simp_all[dif_neg,nc,rep]
 |[],d::ds,k3=>by simp[af]at k3
 |v::vs,[],k3=>by simp[af]at k3
 |[v],d::d'::ds,k3=>by simp[af]at k3
 |v::v'::vs,[d],k3=>by
   grind[af]
theorem FnN.of_W{f fn c us r x rs}(hm:P.follows .mixedOrders=ť)(hf:P.funcs[f]?=ś fn)(hb:fn.body=ś c)
 (hn:(fn.name == "runtime.NumGoroutine")=ğ) (hc:LC P fn.ntmps [] c x) (hr:Ie P fn.results.toList=ś rs) (hs:us.length<=fn.ntmps)
 (hW:oks us->W (Cn P) x (Uw rs r) ⟨ent 0 us,[]⟩):FnN P f us r:=by
 intro M w cs hM hus o a Nx Q hN
 have hcall:(callFunc f cs).run P w=.ok (.enter f cs) w:=by
  simp_all[callFunc,beq_eq_false_iff_ne,ne_eq,Sem.run_bind]
 have hl:cs.size=us.length:=by have:=bg hus;simpa using this
 rw[hcall,Oper.upon_enter]
 have key:Calls P f cs w λe w'=>∃(c:Value)(M':Mem),e=.returned c/\rep (AL w M') NX r c/\Below w.heap.size w w'/\∀p v,M' p=ś v->w'.cell? p=ś v:=by
  refine calls_of_wp hf hb ?_
  have H:Rel fn.ntmps M ⟨w.heap.size,λ_=>False,[],#[],w.heap.size,noJ,[]⟩ w ⟨λ_=>undef,λ_ _=>undef,λ_ _=>False,λ_=>ń⟩ M ⟨ent 0 us,[]⟩ { tmps:=cs++zBa (fn.ntmps-cs.size) undef,defers:=[] } w:=
   { dfr:=rfl,jst:=Jm rfl,pin:=λi hi=>by cases hi
     size:=by simp;omega
     regs:=λt v ht=>by
      obtain⟨_,h2⟩:=R3 ht;simp only[zFh]at h2;have hlt:t<us.length:=(zAc.1 h2).1;obtain⟨c,h3,h4⟩:=f6 hus h2;refine⟨by omega,c,?_,aO (λ_ _ h=>h) (λ_ _ h=>h.elim) _ _ h4⟩
      grind
     heap:=λid ob h=>by simp at h
     inj:=λi j oi oj g h=>by simp at h
     snd:=hM.snd
     sep:=λp v _ id ob h=>by simp at h
     sub:=⟨λ_ _ h=>h,λ_ _ h=>(by cases h),λ_ _ h=>(by cases h),zAd _,hM.gl⟩
     new:=λ_ _ h=>.inl h
     base:=rfl
     blw:=Und.refl _ _ }
  refine IA (Uv hm (rI rfl) (B:=⟨w.heap.size,λ_=>False,[],#[],w.heap.size,noJ,[]⟩) hc ?_ H (hW (gI hus)));intro e κ M1 σ a w1 hR H1;simp only[Uw]at hR;obtain⟨he,hR⟩:=hR;split at hR
  ·rename_i vs hvs
   obtain⟨hfr,hR⟩:=hR;split at hR
   ·rename_i ws hws
    obtain⟨ds,k1,k2⟩:=vC hr H1 hvs;obtain⟨H2,hM1⟩:=H1.kill (ax vs) (eT hws)
    have k3:af (AL w (ext M1 w1 (rm κ (ax vs)))) NX ws ds:=by
     refine C1 H1 (λp v hp=>by unfold AL;rw[if_pos (H1.sub.fmN p v hp)];exact hM1 p v (H1.sub.fmS p v hp)) (λid hid g hg p hpb=>?_) hfr k1 hws
     obtain⟨ob,hob⟩:=eT hws id hid
     have hgw:w.heap.size<=g:=by
      rcases(H1.blk_lt hob hg).1 with h|h
      ·exact h
      ·exact h.elim
     unfold AL;rw[if_pos (by omega)]
     unfold ext;rw[if_pos (eC.2 ⟨id,hid,by rw[hpb];exact hg⟩)]
    have fin:bodyPost P fn (λe w'=>∃(c:Value)(M':Mem),e=.returned c/\rep (AL w M') NX r c/\Below w.heap.size w w'/\∀p v,M' p=ś v->w'.cell? p=ś v) .normal a w1:=by
     refine⟨H1.dfr,_,k2,_,_,rfl,?_,⟨H1.blw.os,H1.blw.tape,H1.blw.output,H1.blw.size,λk hk=>H1.blw.block k hk id⟩,H2.snd⟩;grind[aek]
    cases e with
    |norm=>exact fin
    |ret=>exact fin
    |exit id=>exact he.elim
    |goto l=>exact he.elim
   ·exact hR.elim
  ·exact hR.elim
 refine key.mono ?_;grind
mutual
def jk:V->V
 | .seq sz l=>if l.isEmpty=ť then .seq sz l else .junk
 | .strct cs=>.strct (jks cs)
 | .tup cs=>.tup (jks cs)
 | .sptr _ _=>.junk
 |v=>v
def jks:List V->List V
 |[]=>[]
 |v::vs=>jk v::jks vs
end
mutual
theorem afE{M:Mem}{X:V->Value->Prop}:∀{v:V}{c:Value},rep M X v c->rep M X (jk v) c
 | .seq sz l,c,h=>by
   simp only[jk];split
   ·exact h
   ·simp only[rep]at h⊢
    obtain⟨a,cap,rfl,_⟩:=h;rfl
 | .strct cs,c,h=>by
   simp only[rep,jk]at h⊢;obtain⟨arr,h1,h2,h3⟩:=h;exact⟨arr,h1,R9 h2,h3⟩
 | .tup cs,c,h=>by
   simp only[rep,jk]at h⊢;obtain⟨arr,h1,h2⟩:=h;exact⟨arr,h1,R9 h2⟩
 | .sptr _ _,c,h=>by
   simp only[rep,jk]at h⊢;obtain⟨b,o,y,rfl,_⟩:=h;rfl
 | .int _ _,_,h=>h
 | .bool _,_,h=>h
 | .str _,_,h=>h
 | .nil _,_,h=>h
 | .ref _ _,_,h=>h
 | .ptr _ _,_,h=>h
 | .eptr _ _ _ _,_,h=>h
 | .mref _ _ _,_,h=>h
 | .fseq _ _,_,h=>h
 | .mptr _ _ _ _ _,_,h=>h
 | .nilptr,_,h=>h
 | .fn _ _ _,_,h=>h
 | .nilfn,_,h=>h
 | .iface _ _,_,h=>h
 | .niliface,_,h=>h
 | .junk,_,h=>h
theorem R9{M:Mem}{X:V->Value->Prop}:∀{vs:List V}{cs:List Value},af M X vs cs->af M X (jks vs) cs
 |[],_,h=>h
 |v::vs,cs,h=>by
   simp only[af,jks]at h⊢;obtain⟨c,cs',h1,h2,h3⟩:=h;exact⟨c,cs',h1,afE h2,R9 h3⟩
end
theorem Fn.weak{f us r r'}(h:Fn P f us r)(hr:∀M c,rep M NX r c->rep M NX r' c):Fn P f us r':=
 λM w cs hM hus o a Nx Q hN=>h M w cs hM hus o a Nx Q λc M' w' h1=>hN c M' w' (hr M' c h1)
theorem Fn.jk{f us r}(h:Fn P f us r):Fn P f us (jk r):=h.weak λ_ _=>afE
def aj(P:Program)(fn:Func)(K:List (List Nat))(n:Nat):Option (AC×List RV):=
 match fn.body with
 |some c=>match cY P fn.ntmps [] [] c K,Ie P fn.results.toList with
   |some (x,[]),ś rs=>if(fn.name == "runtime.NumGoroutine")=ğ/\n<=fn.ntmps then ś (x,rs)else ń
   |_,_=>ń
 |none=>ń
theorem FnE.of_image{f fn}{us:List V}{r x}{K:List (List Nat)}{rs:List RV}{n}(hm:P.follows .mixedOrders=ť)(hf:P.funcs[f]?=ś fn)
 (hi:aj P fn K n=ś (x,rs)) (hn:us.length=n) (hW:oks us->W (Cn P) x (Res rs (·=r)) ⟨ent 0 us,[]⟩):FnE P f us r:=by
 unfold aj at hi;split at hi
 ·split at hi
  ·split at hi
   ·rename_i hc
    cases hi;exact FnE.of_W hm hf ‹_› hc.1 (pM ‹_›) ‹_› (by rw[hn];exact hc.2) hW
   ·cases hi
  ·cases hi
 ·cases hi
theorem Fn.of_image{f fn}{us:List V}{r x}{K:List (List Nat)}{rs:List RV}{n}(hm:P.follows .mixedOrders=ť)(hf:P.funcs[f]?=ś fn)
 (hi:aj P fn K n=ś (x,rs)) (hn:us.length=n) (hW:oks us->W (Cn P) x (Res rs (·=r)) ⟨ent 0 us,[]⟩):Fn P f us r:=(FnE.of_image hm hf hi hn hW).fn
theorem FnN.of_image{f fn us r x K rs n}(hm:P.follows .mixedOrders=ť)(hf:P.funcs[f]?=ś fn)
 (hi:aj P fn K n=ś (x,rs)) (hn:us.length=n) (hW:oks us->W (Cn P) x (Uw rs r) ⟨ent 0 us,[]⟩):FnN P f us r:=by
 unfold aj at hi;split at hi
 ·split at hi
  ·split at hi
   ·rename_i hc
    cases hi;exact FnN.of_W hm hf ‹_› hc.1 (pM ‹_›) ‹_› (by rw[hn];exact hc.2) hW
   ·cases hi
  ·cases hi
 ·cases hi
def B9:List (Nat×V)->List V
 |[]=>[]
 |(_,v)::r=>v::B9 r
def PG(m:List Nat)(r:List (Nat×V))(us:List V):List Nat->Prop
 |[]=>True
 |i::is=>(match lk r i,us[i]? with
   |some v,ś u=>ren m v=u
   |_,_=>False)/\PG m r us is
def U4(σ:St)(ps:List Nat)(us:List V)(r:V)(H':List (Option Ob))(vs:List V)(m:List Nat):Prop:=
 PG m σ.r us ps/\nc (fq m vs)=r/\kN σ.h m m=H'
def Xy(rs:List RV)(ps:List Nat)(us:List V)(r:V)(H':List (Option Ob)):Ex->St->Prop:=λe σ=>(match e with
    | .exit _=>False
    | .goto _=>False
    |_=>True)/\match σ.rvs rs with
    |some vs=>U4 σ ps us r H' vs (ir σ.h (B9 (pk σ.r ps)) vs).2
    |none=>False
theorem PF{m r us}:∀{is:List Nat},PG m r us is->∀i,i∈is->∃v u,lk r i=ś v/\us[i]?=ś u/\ren m v=u
 |[],_,i,hi=>by cases hi
 |j::is,h,i,hi=>by
   simp only[PG]at h;rcases zFb.1 hi with rfl|hi
   ·grind
   ·exact PF h.2 i hi
theorem FnH.of_W{f fn c ps us H H' r x rs}(hm:P.follows .mixedOrders=ť)(hf:P.funcs[f]?=ś fn)(hb:fn.body=ś c)
 (hn:(fn.name == "runtime.NumGoroutine")=ğ) (hc:LC P fn.ntmps ps c x) (hr:Ie P fn.results.toList=ś rs) (hs:us.length<=fn.ntmps) (hps:∀i∈ps,i<us.length)
 (hW:oks us->okH H->W (Cn P) x (Xy rs ps us r H') ⟨ent 0 us,H⟩):FnH P f ps us H r H':=by
 intro M w κ cs J hJC hp hus o a Nx Q hN
 have hcall:(callFunc f cs).run P w=.ok (.enter f cs) w:=by
  simp_all[callFunc,beq_eq_false_iff_ne,ne_eq,Sem.run_bind]
 have hl:cs.size=us.length:=by have:=bg hus;simpa using this
 rw[hcall,Oper.upon_enter]
 have key:Calls P f cs w λe w'=>∃(c:Value)(M':Mem)(κ':Kap),e=.returned c/\rep M' (XX κ' H') r c/\Und (dR κ H w ps cs J) w w'/\Heap κ' M' (dR κ H w ps cs J) w' H'/\
  (∀p v,M p=ś v->M' p=ś v)/\(∀p v,M' p=ś v->M p=ś v\/(dR κ H w ps cs J).own p.block)/\
  (∀i,i∈ps->∀u d,us[i]?=ś u->cs[i]?=ś d->rep M' (XX κ' H') u d):=by
  refine calls_of_wp hf hb ?_
  have H0:Rel fn.ntmps M (dR κ H w ps cs J) w κ M ⟨ent 0 us,H⟩ { tmps:=cs++zBa (fn.ntmps-cs.size) undef,defers:=[] } w:=
   { dfr:=rfl
     jst:=hp.jst
     pin:=λi hi=>by
      have hi:i∈ps:=hi;have:=hps i hi
      show(cs++zBa (fn.ntmps-cs.size) undef)[i]?=cs[i]?
      rw[zBc (by omega)]
     size:=by simp;omega
     regs:=λt v ht=>by
      obtain⟨_,h2⟩:=R3 ht;simp only[zFh]at h2;grind[zAc,f6,zBc]
     heap:=hp.heap
     inj:=hp.inj
     snd:=hp.snd
     sep:=hp.sep
     sub:=⟨λ_ _ h=>h,hp.fmS,λ_ _ _=>zBd _,zBd _,hp.gl⟩
     new:=λ_ _ h=>.inl h
     base:=rfl
     blw:=Und.refl _ _ }
  refine IA (Uv hm hJC (B:=dR κ H w ps cs J) hc ?_ H0 (hW (gI hus) (aa0 hp.heap)));intro e κ1 M1 σ a w1 hR H1;simp only[Xy]at hR;obtain⟨he,hR⟩:=hR;split at hR
  ·rename_i vs hvs
   obtain⟨ds,k1,k2⟩:=vC hr H1 hvs;obtain⟨hmn,_,_⟩:=P7 (h:=σ.h) (pvs:=B9 (pk σ.r ps)) (vs:=vs);generalize(ir σ.h (B9 (pk σ.r ps)) vs).2=m at *;obtain⟨hR1,hR2,hR3⟩:=hR;have H2:=H1.ren hmn [] (λt v h=>by simp[lk]at h)
   have k3:=lN (L2 (M:=M1) (κ:=κ1) (h:=σ.h) hmn) k1;simp only[Rb]at H2;rw[hR3]at H2 k3
   have hpin:∀i,i∈ps->∀u d,us[i]?=ś u->cs[i]?=ś d->rep M1 (XX (κ1.ren m) H') u d:=by
    intro i hi u d hu hd;obtain⟨v,u',e1,e2,e3⟩:=PF hR1 i hi;rw[hu]at e2;cases e2;obtain⟨_,c,g2,g3⟩:=H1.regs i v e1;rw[H1.pin i hi]at g2;have g2:cs[i]?=ś c:=g2;grind[Ii,L2]
   generalize hk':κ1.ren m=κ' at *
   have fin:bodyPost P fn (λe w'=>∃(c:Value)(M':Mem)(κ':Kap),e=.returned c/\rep M' (XX κ' H') r c/\Und (dR κ H w ps cs J) w w'/\Heap κ' M' (dR κ H w ps cs J) w' H'/\
    (∀p v,M p=ś v->M' p=ś v)/\(∀p v,M' p=ś v->M p=ś v\/(dR κ H w ps cs J).own p.block)/\
    (∀i,i∈ps->∀u d,us[i]?=ś u->cs[i]?=ś d->rep M' (XX κ' H') u d)) .normal a w1:=by
    refine⟨H1.dfr,_,k2,_,M1,κ',rfl,?_,H1.blw,⟨H2.heap,H2.inj,H2.snd,H2.sep,H2.sub.fmS,H2.sub.gl.mono H2.sub.sub,H2.jst⟩,H1.sub.sub,H1.new,hpin⟩;subst hR2;generalize fq m vs=ws at *
    match ws,ds,k3 with
    |[],[],k3=>simp_all[nc,rep,af]
    |[v],[d],k3=>
      grind[af,nc]
    |v::v'::vs',d::d'::ds',k3=>
      simp_all[dif_neg,nc,rep]
    |[],d::ds,k3=>simp[af]at k3
    |v::vs,[],k3=>simp[af]at k3
    |[v],d::d'::ds,k3=>simp[af]at k3
    |v::v'::vs,[d],k3=>
      grind[af]
   cases e with
   |norm=>exact fin
   |ret=>exact fin
   |exit id=>exact he.elim
   |goto l=>exact he.elim
  ·exact hR.elim
 refine key.mono ?_;grind
def ay(P:Program)(fn:Func)(ps E:List Nat)(K:List (List Nat))(n:Nat):Option (AC×List RV):=
 match fn.body with
 |some c=>match cY P fn.ntmps ps E c K,Ie P fn.results.toList with
   |some (x,[]),ś rs=>if(fn.name == "runtime.NumGoroutine")=ğ/\n<=fn.ntmps/\ps.all (λi=>decide (i<n))=ť then ś (x,rs)else ń
   |_,_=>ń
 |none=>ń
theorem FnH.of_image{f fn ps E us H H' r x K rs n}(hm:P.follows .mixedOrders=ť)(hf:P.funcs[f]?=ś fn)
 (hi:ay P fn ps E K n=ś (x,rs)) (hn:us.length=n) (hW:oks us->okH H->W (Cn P) x (Xy rs ps us r H') ⟨ent 0 us,H⟩):FnH P f ps us H r H':=by
 unfold ay at hi;split at hi
 ·split at hi
  ·split at hi
   ·rename_i hc
    cases hi;exact FnH.of_W hm hf ‹_› hc.1 (pM ‹_›) ‹_› (by rw[hn];exact hc.2.1) (λi hi=>by simp_all) hW
   ·cases hi
  ·cases hi
 ·cases hi
theorem Fn.of_imageE{f fn}{E:List Nat}{us:List V}{r x}{K:List (List Nat)}{rs:List RV}{n}(hm:P.follows .mixedOrders=ť)(hf:P.funcs[f]?=ś fn)
 (hi:ay P fn [] E K n=ś (x,rs)) (hn:us.length=n) (hW:oks us->W (Cn P) x (Res rs (·=r)) ⟨ent 0 us,[]⟩):Fn P f us r:=by
 unfold ay at hi;split at hi
 ·split at hi
  ·split at hi
   ·rename_i hc
    cases hi;exact(FnE.of_W hm hf ‹_› hc.1 (pM ‹_›) ‹_› (by rw[hn];exact hc.2.1) hW).fn
   ·cases hi
  ·cases hi
 ·cases hi
end
end Go.Abs
end
section
namespace Go.Abs
def oM{α:Type}(x:Option α)(k:α->Prop):Prop:=match x with
 |some v=>k v
 |none=>False
def oN{α:Type}(x:Option α)(k:α->Prop)(e:Prop):Prop:=match x with
 |some v=>k v
 |none=>e
theorem ail{α v}{k:α->Prop}{e}:oN (ś v) k e=k v:=propext zA
theorem aim{α}{k:α->Prop}{e}:oN ń k e=e:=propext zA
def BrK(t:Bool)(A B:St->Prop)(σ:St):Prop:=Br t (A σ) (B σ)
def rqK(p:Prop)(K:St->Prop)(σ:St):Prop:=p/\K σ
def cM(x:Option V)(A B:St->Prop)(σ:St):Prop:=match x with
 |some (.bool t)=>Br t (A σ) (B σ)
 |_=>False
def gM(x:Option V)(b:Bool)(A B:St->Prop)(σ:St):Prop:=match x with
 |some (.bool y)=>if b=ť then Br y (A σ) (B σ)else Br y (B σ) (A σ)
 |some (.tup [])=>B σ
 |_=>False
def aiW(Q:Ex->St->Prop)(ks:List Nat)(σ:St):Prop:=Q .norm { σ with r:=pk σ.r ks }
def skK(d:Option Nat)(K:St->Prop)(σ:St):Prop:=K (σ.put d (.tup []))
def jh(σ:St)(d:Option Nat)(K:St->Prop)(v:V):Prop:=K (σ.put d v)
theorem BrK.mk{t A B σ}(h:t=ť->A σ)(h':t=ğ->B σ):BrK t A B σ:=⟨h,h'⟩
theorem XC{A B σ}:BrK ť A B σ=A σ:=by simp[BrK,Br]
theorem QP{A B σ}:BrK ğ A B σ=B σ:=by simp[BrK,Br]
theorem BrKd.mk{p}[Decidable p]{A B}{σ}(h:p->A σ)(h':¬p->B σ):BrK (decide p) A B σ:=⟨λe=>h (of_decide_eq_true e),λe=>h' (of_decide_eq_false e)⟩
theorem BrK_t{p}[Decidable p]{A B}{σ}(h:p):BrK (decide p) A B σ=A σ:=by grind[decide_eq_true,XC]
theorem BrK_f{p}[Decidable p]{A B}{σ}(h:¬p):BrK (decide p) A B σ=B σ:=by grind[decide_eq_false,QP]
theorem BrK_n{b A B σ}:BrK (!b) A B σ=BrK b B A σ:=by grind[BrK,Br]
theorem rqK_t{p K σ}(h:p):rqK p K σ=K σ:=by simp[rqK,h]
theorem aeJ{K σ}:rqK True K σ=K σ:=by simp[rqK]
theorem ain{α v}{k:α->Prop}:oM (ś v) k=k v:=propext zA
theorem aio{α}{k:α->Prop}:oM ń k=False:=propext zA
theorem ai1{t A B σ}:cM (ś (.bool t)) A B σ=BrK t A B σ:=propext zA
theorem aiI{y A B σ}:gM (ś (.bool y)) ť A B σ=BrK y A B σ:=propext zA
theorem afT{y A B σ}:gM (ś (.bool y)) ğ A B σ=BrK y B A σ:=propext zA
theorem ak7{b A B σ}:gM (ś (.tup [])) b A B σ=B σ:=by cases b<;>rfl
section
variable{Φ:Ctr}{Q:Ex->St->Prop}{σ:St}{K:St->Prop}{d:Option Nat}
theorem agh{ks}:aiW Q ks σ=Q .norm { σ with r:=pk σ.r ks }:=propext zA
theorem ah0:skK d K σ=K (σ.put d (.tup [])):=propext zA
theorem aeZ{v}:jh σ d K v=K (σ.put d v):=propext zA
theorem al1{ops ks}:W Φ (.reg ops ks) Q σ=D7 Φ ops (aiW Q ks) σ:=propext zA
theorem ajd{ops ks}:W Φ (.regD ops ks) Q σ=BJ Φ ops (aiW Q ks) σ:=propext zA
theorem ajc{alts ks}:W Φ (.regE alts ks) Q σ=XJ Φ alts (aiW Q ks) σ:=propext zA
theorem ajf{c a b}:W Φ (.cond c a b) Q σ=cM (σ.ev c) (W Φ a Q) (W Φ b Q) σ:=propext zA
theorem al0{a b}:W Φ (.seq a b) Q σ=W Φ a (Ex.then (W Φ b Q) Q) σ:=propext zA
theorem ad5:D7 Φ [] K σ=K σ:=propext zA
theorem abw{o os}:D7 Φ (o::os) K σ=wop Φ o (D7 Φ os K) σ:=propext zA
theorem wop_n{d a}:wop Φ ⟨d,a,ń⟩ K σ=ak Φ d a K σ:=propext zA
theorem ad7{d a t b}:wop Φ ⟨d,a,ś (t,b)⟩ K σ=gM (lk σ.r t) b (ak Φ d a K) (skK d K) σ:=by
 simp only[wop,gM];split<;>rename_i heq<;>simp only[heq]<;>rfl
theorem abx:BJ Φ [] K σ=K σ:=propext zA
theorem XF{o os}:BJ Φ (o::os) K σ=a8 Φ o (BJ Φ os K) σ:=propext zA
theorem aj2{d a}:a8 Φ ⟨d,a,ń⟩ K σ=an Φ d a K σ:=propext zA
theorem XG{d a t b}:a8 Φ ⟨d,a,ś (t,b)⟩ K σ=gM (lk σ.r t) b (an Φ d a K) (skK d K) σ:=by
 simp only[a8,gM];split<;>rename_i heq<;>simp only[heq]<;>rfl
theorem abt:lJ Φ .nil K σ=K σ:=propext zA
theorem adD{x t}:lJ Φ (.op x t) K σ=a8 Φ x (lJ Φ t K) σ:=propext zA
def QU(Φ:Ctr)(a b:OT)(K:St->Prop)(σ:St):Prop:=lJ Φ a K σ/\lJ Φ b K σ
theorem XD{a b}:lJ Φ (.both a b) K σ=QU Φ a b K σ:=propext zA
theorem QU.mk{a b}(h:lJ Φ a K σ)(h':lJ Φ b K σ):QU Φ a b K σ:=⟨h,h'⟩
def aiq(Q:Ex->St->Prop)(ks:List Nat)(σ:St):Prop:=Q .norm (σ.nrm ks)
theorem afe{ks}:aiq Q ks σ=Q .norm (σ.nrm ks):=propext zA
theorem ajb{t ks}:W Φ (.regF t ks) Q σ=lJ Φ t (aiq Q ks) σ:=propext zA
theorem aee:XJ Φ [] K σ=True:=propext zA
def wallK(Φ:Ctr)(o:List AOp)(os:List (List AOp))(K:St->Prop)(σ:St):Prop:=D7 Φ o K σ/\XJ Φ os K σ
theorem abB{o os}:XJ Φ (o::os) K σ=wallK Φ o os K σ:=propext zA
def aju : Act' -> Bool
  | .s2b _ => false
  | .lit _ _ _ => false
  | .ltr _ _ _ => false
  | .alc _ => false
  | .box _ => false
  | .st _ _ _ => false
  | .app _ _ _ _ _ => false
  | .mks _ _ _ _ _ => false
  | .mk0 _ _ _ _ => false
  | .mkm _ _ _ _ _ => false
  | .call _ _ => false
  | .callv _ _ => false
  | .callH _ _ => false
  | .mkp _ => false
  | .mup _ _ _ _ => false
  | .inv _ _ _ => false
  | .ivp _ _ _ => false
  | .trc _ _ _ => false
  | .yld _ _ => false
  | .rgs _ => false
  | .nxs _ => false
  |_ => true
theorem eb{a}(h:aju a=ť):ak Φ d a K σ=oM (σ.val a) (jh σ d K):=by
 cases a<;>first|(exfalso;revert h;simp only[aju];decide)|skip
 all_goals
  simp only[ak,oM];split<;>rename_i heq<;>simp only[heq]<;>rfl
theorem a_mov{x}:ak Φ d (.mov x) K σ=oM (σ.val (.mov x)) (jh σ d K):=eb rfl
theorem alB{x}:an Φ d (.mov x) K σ=ak Φ d (.mov x) K σ:=propext zA
theorem alk{x y z}:ak Φ d (.pick x y z) K σ=oM (σ.val (.pick x y z)) (jh σ d K):=eb rfl
theorem ai6{x y z}:an Φ d (.pick x y z) K σ=ak Φ d (.pick x y z) K σ:=propext zA
theorem a_fld{x y z w}:ak Φ d (.fld x y z w) K σ=oM (σ.val (.fld x y z w)) (jh σ d K):=eb rfl
theorem alO{x y z w}:an Φ d (.fld x y z w) K σ=ak Φ d (.fld x y z w) K σ:=propext zA
theorem a_fa{x y}:ak Φ d (.fa x y) K σ=oM (σ.val (.fa x y)) (jh σ d K):=eb rfl
theorem aD_fa{x y}:an Φ d (.fa x y) K σ=ak Φ d (.fa x y) K σ:=propext zA
theorem a_ia{x y z}:ak Φ d (.ia x y z) K σ=oM (σ.val (.ia x y z)) (jh σ d K):=eb rfl
theorem aD_ia{x y z}:an Φ d (.ia x y z) K σ=ak Φ d (.ia x y z) K σ:=propext zA
theorem a_iaa{x y z w}:ak Φ d (.iaa x y z w) K σ=oM (σ.val (.iaa x y z w)) (jh σ d K):=eb rfl
theorem alN{x y z w}:an Φ d (.iaa x y z w) K σ=ak Φ d (.iaa x y z w) K σ:=propext zA
theorem a_ld{x y z}:ak Φ d (.ld x y z) K σ=oM (σ.val (.ld x y z)) (jh σ d K):=eb rfl
theorem aD_ld{x y z}:an Φ d (.ld x y z) K σ=ak Φ d (.ld x y z) K σ:=propext zA
theorem a_ixs{x y}:ak Φ d (.ixs x y) K σ=oM (σ.val (.ixs x y)) (jh σ d K):=eb rfl
theorem alL{x y}:an Φ d (.ixs x y) K σ=ak Φ d (.ixs x y) K σ:=propext zA
theorem a_ixa{x y z w u}:ak Φ d (.ixa x y z w u) K σ=oM (σ.val (.ixa x y z w u)) (jh σ d K):=eb rfl
theorem alM{x y z w u}:an Φ d (.ixa x y z w u) K σ=ak Φ d (.ixa x y z w u) K σ:=propext zA
theorem a_bin{x y z}:ak Φ d (.bin x y z) K σ=oM (σ.val (.bin x y z)) (jh σ d K):=eb rfl
theorem alT{x y z}:an Φ d (.bin x y z) K σ=ak Φ d (.bin x y z) K σ:=propext zA
theorem a_un{x y}:ak Φ d (.un x y) K σ=oM (σ.val (.un x y)) (jh σ d K):=eb rfl
theorem aD_un{x y}:an Φ d (.un x y) K σ=ak Φ d (.un x y) K σ:=propext zA
theorem a_cii{x y}:ak Φ d (.cii x y) K σ=oM (σ.val (.cii x y)) (jh σ d K):=eb rfl
theorem alQ{x y}:an Φ d (.cii x y) K σ=ak Φ d (.cii x y) K σ:=propext zA
theorem a_r2s{x}:ak Φ d (.r2s x) K σ=oM (σ.val (.r2s x)) (jh σ d K):=eb rfl
theorem alw{x}:an Φ d (.r2s x) K σ=ak Φ d (.r2s x) K σ:=propext zA
theorem a_b2s{x}:ak Φ d (.b2s x) K σ=oM (σ.val (.b2s x)) (jh σ d K):=eb rfl
theorem alV{x}:an Φ d (.b2s x) K σ=ak Φ d (.b2s x) K σ:=propext zA
theorem a_sls{x y z}:ak Φ d (.sls x y z) K σ=oM (σ.val (.sls x y z)) (jh σ d K):=eb rfl
theorem alr{x y z}:an Φ d (.sls x y z) K σ=ak Φ d (.sls x y z) K σ:=propext zA
theorem a_slq{x y z w}:ak Φ d (.slq x y z w) K σ=oM (σ.val (.slq x y z w)) (jh σ d K):=eb rfl
theorem als{x y z w}:an Φ d (.slq x y z w) K σ=ak Φ d (.slq x y z w) K σ:=propext zA
theorem alm{x}:ak Φ d (.lens x) K σ=oM (σ.val (.lens x)) (jh σ d K):=eb rfl
theorem ai7{x}:an Φ d (.lens x) K σ=ak Φ d (.lens x) K σ:=propext zA
theorem aln{x}:ak Φ d (.lenq x) K σ=oM (σ.val (.lenq x)) (jh σ d K):=eb rfl
theorem ai8{x}:an Φ d (.lenq x) K σ=ak Φ d (.lenq x) K σ:=propext zA
theorem a_beq{x y z}:ak Φ d (.beq x y z) K σ=oM (σ.val (.beq x y z)) (jh σ d K):=eb rfl
theorem alU{x y z}:an Φ d (.beq x y z) K σ=ak Φ d (.beq x y z) K σ:=propext zA
theorem a_ext{x y}:ak Φ d (.ext x y) K σ=oM (σ.val (.ext x y)) (jh σ d K):=eb rfl
theorem alP{x y}:an Φ d (.ext x y) K σ=ak Φ d (.ext x y) K σ:=propext zA
theorem a_bld{x y}:ak Φ d (.bld x y) K σ=oM (σ.val (.bld x y)) (jh σ d K):=eb rfl
theorem alS{x y}:an Φ d (.bld x y) K σ=ak Φ d (.bld x y) K σ:=propext zA
theorem a_mkf{x y z}:ak Φ d (.mkf x y z) K σ=oM (σ.val (.mkf x y z)) (jh σ d K):=eb rfl
theorem alG{x y z}:an Φ d (.mkf x y z) K σ=ak Φ d (.mkf x y z) K σ:=propext zA
theorem a_nlc{x}:ak Φ d (.nlc x) K σ=oM (σ.val (.nlc x)) (jh σ d K):=eb rfl
theorem alz{x}:an Φ d (.nlc x) K σ=ak Φ d (.nlc x) K σ:=propext zA
theorem a_tya{x y z w} : ak Φ d (.tya x y z w) K σ = oM (σ.val (.tya x y z w)) (jh σ d K) := eb rfl
theorem aD_tya{x y z w} : an Φ d (.tya x y z w) K σ = ak Φ d (.tya x y z w) K σ := propext Iff.rfl
theorem a_mki{x y}:ak Φ d (.mki x y) K σ=oM (σ.val (.mki x y)) (jh σ d K):=eb rfl
theorem alF{x y}:an Φ d (.mki x y) K σ=ak Φ d (.mki x y) K σ:=propext zA
theorem a_aeq{x y z w}:ak Φ d (.aeq x y z w) K σ=oM (σ.val (.aeq x y z w)) (jh σ d K):=eb rfl
theorem alY{x y z w}:an Φ d (.aeq x y z w) K σ=ak Φ d (.aeq x y z w) K σ:=propext zA
theorem a_lkp{x y z w u}:ak Φ d (.lkp x y z w u) K σ=oM (σ.val (.lkp x y z w u)) (jh σ d K):=eb rfl
theorem alJ{x y z w u}:an Φ d (.lkp x y z w u) K σ=ak Φ d (.lkp x y z w u) K σ:=propext zA
theorem a_mm{x y z}:ak Φ d (.mm x y z) K σ=oM (σ.val (.mm x y z)) (jh σ d K):=eb rfl
theorem aD_mm{x y z}:an Φ d (.mm x y z) K σ=ak Φ d (.mm x y z) K σ:=propext zA
theorem a_nlq{x y z}:ak Φ d (.nlq x y z) K σ=oM (σ.val (.nlq x y z)) (jh σ d K):=eb rfl
theorem aly{x y z}:an Φ d (.nlq x y z) K σ=ak Φ d (.nlq x y z) K σ:=propext zA
theorem alX{x}:an Φ d (.alc x) K σ=ak Φ d (.alc x) K σ:=propext zA
theorem alR{x}:an Φ d (.box x) K σ=ak Φ d (.box x) K σ:=propext zA
theorem aD_st{x y z}:an Φ d (.st x y z) K σ=ak Φ d (.st x y z) K σ:=propext zA
theorem alW{x y z w u}:an Φ d (.app x y z w u) K σ=ak Φ d (.app x y z w u) K σ:=propext zA
theorem alC{x y z w u}:an Φ d (.mks x y z w u) K σ=ak Φ d (.mks x y z w u) K σ:=propext zA
theorem alH{x y z w}:an Φ d (.mk0 x y z w) K σ=ak Φ d (.mk0 x y z w) K σ:=propext zA
theorem alE{x y z w u}:an Φ d (.mkm x y z w u) K σ=ak Φ d (.mkm x y z w u) K σ:=propext zA
theorem alu{x}:an Φ d (.s2b x) K σ=ak Φ d (.s2b x) K σ:=propext zA
theorem a_alc{z}:ak Φ d (.alc z) K σ=K ({ σ with h:=σ.h++[ś (Ob.box z)] }.put d (.ptr σ.h.length 0)):=propext zA
def alh(σ:St)(x:AO):Option (List V):=match σ.ev x with
 |some v=>if nt v=ť then ś (cl v)else ń
 |none=>ń
def boxK(σ:St)(d:Option Nat)(K:St->Prop)(cs:List V):Prop:=K ({ σ with h:=σ.h++[ś (Ob.box cs)] }.put d (.ptr σ.h.length 0))
theorem agx{cs}:boxK σ d K cs=K ({ σ with h:=σ.h++[ś (Ob.box cs)] }.put d (.ptr σ.h.length 0)):=propext zA
theorem a_box{x}:ak Φ d (.box x) K σ=oM (alh σ x) (boxK σ d K):=by
 simp only[ak,alh];cases σ.ev x with
 |none=>rfl
 |some v=>simp only;split<;>rfl
def stV(σ:St)(n:Nat)(p x:AO):Option St:=match σ.ev p,σ.ev x with
 |some a,ś v=>if nt v=ť then σ.stor n a (cl v)else ń
 |_,_=>ń
theorem a_st{n p x}:ak Φ d (.st n p x) K σ=oM (stV σ n p x) (skK d K):=by
 simp only[ak,stV];cases σ.ev p with
 |none=>rfl
 |some a=>cases σ.ev x with
   |none=>rfl
   |some v=>
     simp only;split
     ·cases σ.stor n a (cl v)<;>rfl
     ·rfl
def akj(σ:St)(x:AO):Option (List UInt8):=match σ.ev x with
 |some (.str s)=>ś s
 |_=>ń
def s2bK(σ:St)(d:Option Nat)(K:St->Prop)(s:List UInt8):Prop:=rqK (s.length<=140737488355328) K (σ.put d (.seq 1 (lg s)))
theorem aeH{s}:s2bK σ d K s=rqK (s.length<=140737488355328) K (σ.put d (.seq 1 (lg s))):=propext zA
theorem a_s2b{x}:ak Φ d (.s2b x) K σ=oM (akj σ x) (s2bK σ d K):=by
 simp only[ak,akj,oM];cases σ.ev x with
 |none=>rfl
 |some v=>cases v<;>rfl
def aiA(σ:St)(d:Option Nat)(sz:Nat)(K:St->Prop)(vs us:List V):Prop:=rqK (cw sz us=ť/\us.length<=16777216) K ((σ.kill (ax vs)).put d (.seq sz us))
theorem afu{sz vs us}:aiA σ d sz K vs us=rqK (cw sz us=ť/\us.length<=16777216) K ((σ.kill (ax vs)).put d (.seq sz us)):=propext zA
def afv(σ:St)(d:Option Nat)(sz:Nat)(K:St->Prop)(vs:List V):Prop:=oM (purs σ.h vs) (aiA σ d sz K vs)
theorem acu{sz vs}:afv σ d sz K vs=oM (purs σ.h vs) (aiA σ d sz K vs):=propext zA
theorem a_lit{e sz xs}:ak Φ d (.lit e sz xs) K σ=oM (σ.evs xs) (afv σ d sz K):=by
 simp only[ak,oM];cases σ.evs xs with
 |none=>rfl
 |some vs=>
   simp only[afv,oM];cases purs σ.h vs with
   |none=>rfl
   |some us=>simp only[aiA,rqK,and_assoc]
def aaU(σ:St)(d:Option Nat)(sz:Nat)(K:St->Prop)(us:List V):Prop:=rqK (cw sz us=ť/\us.length<=16777216) K (σ.put d (.seq sz us))
theorem acv{sz us}:aaU σ d sz K us=rqK (cw sz us=ť/\us.length<=16777216) K (σ.put d (.seq sz us)):=propext zA
def YG(σ:St)(d:Option Nat)(sz:Nat)(K:St->Prop)(vs:List V):Prop:=oM (purs [] vs) (aaU σ d sz K)
theorem YF{sz vs}:YG σ d sz K vs=oM (purs [] vs) (aaU σ d sz K):=propext zA
theorem alK{e sz xs}:an Φ d (.lit e sz xs) K σ=oM (σ.evs xs) (YG σ d sz K):=by
 simp only[an,oM];cases σ.evs xs with
 |none=>rfl
 |some vs=>
   simp only[YG,oM];cases purs [] vs with
   |none=>rfl
   |some us=>simp only[aaU,rqK,and_assoc]
def Z9(σ:St)(x y:AO)(e sz by':Nat):Option (St×V×Nat):=match σ.ev x,σ.ev y with
    |some u,ś v=>match src σ.h v with
      |some (.seq sz' l)=>if sz'=sz then
        (match u with
        | .nil _=>ś ({ σ with h:=σ.h++[ś (Ob.arr e sz l)] },.ref σ.h.length l.length,l.length*by')
        | .ref id n=>match σ.arr? id with
          |some (e',sz',l0)=>if e'=e/\sz'=sz/\n=l0.length then
            ś ({ σ with h:=σ.h.set id (ś (Ob.arr e sz (l0++l))) },.ref id (n+l.length),(n+l.length)*by')else ń
          |none=>ń
        | .mref id i n=>match σ.rws? id with
          |some (e1,e2,sz2,rows)=>match bq rows i with
            |some r=>if e2=e/\sz2=sz/\n=r.length then
              ś ({ σ with h:=σ.h.set id (ś (Ob.mat e1 e2 sz2 (rows.set i (.g r.length))))++[ś (Ob.arr e sz (r++l))] },.ref σ.h.length (n+l.length),(n+l.length)*by')else ń
            |none=>ń
          |none=>ń
        |_=>ń)else ń
      |_=>ń
    |_,_=>ń
def ali(d:Option Nat)(K:St->Prop)(p:St×V×Nat):Prop:=rqK (p.2.2<=140737488355328) K (p.1.put d p.2.1)
theorem agC{τ v n}:ali d K (τ,v,n)=rqK (n<=140737488355328) K (τ.put d v):=propext zA
theorem alp{x y e sz by'}(h:oM (Z9 σ x y e sz by') (ali d K)):ak Φ d (.app x y e sz by') K σ:=by
 simp only[ak,Z9]at h⊢;cases hx:σ.ev x with
 |none=>simp only[hx]at h;exact h
 |some u=>cases hy:σ.ev y with
   |none=>simp only[hx,hy]at h;exact h
   |some v=>
     simp only[hx,hy]at h⊢;cases hp:src σ.h v with
     |none=>simp only[hp]at h;exact h
     |some w=>
       cases w<;>simp only[hp]at h<;>try exact h
       rename_i sz' l;split at h
       ·rename_i hs
        refine⟨hs,?_⟩;cases u<;>simp only at h<;>try exact h
        ·rename_i id n
         cases ha:σ.arr? id with
         |none=>simp only[ha]at h;exact False.elim h
         |some p=>
           obtain⟨e',sz2,l0⟩:=p;simp only[ha]at h⊢;split at h
           ·rename_i hc;exact⟨hc.1,hc.2.1,hc.2.2,h.1,h.2⟩
           ·exact h.elim
        ·rename_i id i n
         cases ha:σ.rws? id with
         |none=>simp only[ha]at h;exact False.elim h
         |some p=>
           obtain⟨e',e2',sz2,rows⟩:=p;simp only[ha]at h⊢;cases hr:bq rows i with
           |none=>simp only[hr]at h;exact False.elim h
           |some r=>
             simp only[hr]at h⊢;split at h
             ·rename_i hc;exact⟨hc.1,hc.2.1,hc.2.2,h.1,h.2⟩
             ·exact h.elim
       ·exact h.elim
theorem a_app{x y e sz by'}:ak Φ d (.app x y e sz by') K σ=oM (Z9 σ x y e sz by') (ali d K):=by
 refine propext ⟨λh=>?_,alp⟩;simp only[ak]at h;split at h
 ·rename_i u v hu hv
  split at h
  ·rename_i sz' l hl
   obtain⟨h0,h⟩:=h;subst h0;split at h
   ·simp only[Z9,hu,hv,hl];exact h
   ·rename_i id n
    split at h
    ·rename_i e' sz2 l0 ha
     obtain⟨h1,h2,h3,h4,h5⟩:=h;simp only[Z9,hu,hv,hl,ha,h1,h2,h3,and_self,if_true];exact⟨by simp_all,by simp_all⟩
    ·exact h.elim
   ·rename_i id i n
    split at h
    ·rename_i e1 e2 sz2 rows ha
     split at h
     ·rename_i r hr
      obtain⟨rfl,rfl,rfl,h4,h5⟩:=h;simp only[Z9,hu,hv,hl,ha,hr,and_self,if_true];exact⟨h4,h5⟩
     ·exact h.elim
    ·exact h.elim
   ·exact h.elim
  ·exact h.elim
 ·exact h.elim
def YB(σ:St)(n:AO):Option Int:=match σ.ev n with
 |some (.int _ m)=>ś m
 |_=>ń
def akW(σ:St)(d:Option Nat)(e sz by':Nat)(z:V)(K:St->Prop)(m:Int):Prop:=
 rqK (0<=m/\m*by'<=140737488355328) K ({ σ with h:=σ.h++[ś (Ob.arr e sz (zAj m.toNat z))] }.put d (.ref σ.h.length m.toNat))
theorem afj{e sz by' z m}:akW σ d e sz by' z K m=
 rqK (0<=m/\m*by'<=140737488355328) K ({ σ with h:=σ.h++[ś (Ob.arr e sz (zAj m.toNat z))] }.put d (.ref σ.h.length m.toNat)):=propext zA
theorem a_mks{e sz by' z n}:ak Φ d (.mks e sz by' z n) K σ=oM (YB σ n) (akW σ d e sz by' z K):=by
 simp only[ak,YB,oM];cases σ.ev n with
 |none=>rfl
 |some v=>cases v<;>first|rfl|simp only[akW,rqK,and_assoc]
def sm(l:List (List V)):List Rw:=l.map .a
theorem akl{l}:(sm l).length=l.length:=by simp[sm]
theorem aeC{l i}:bq (sm l) i=l[i]?:=by
 grind[bq,sm]
theorem IU{sz}:∀{l:List (List V)},nS sz (sm l)=ś (l.map (.seq sz))
 |[]=>rfl
 |r::l=>by
   have:=IU (sz:=sz) (l:=l);simp only[sm]at this;simp[sm,nS,this]
theorem aeB{l i r}:(sm l).set i (.a r)=sm (l.set i r):=by simp[sm]
theorem abP{l i}:vG (sm l) i=(l[i]?).map zG:=by
 grind[vG,sm]
theorem ahX{l i k}(h:i<l.length):vG ((sm l).set i (.g k)) i=ś k:=by
 grind[vG,List.getElem?_set_self,sm]
theorem ahY{l i k r}:((sm l).set i (.g k)).set i (.a r)=sm (l.set i r):=by rw[List.set_set,aeB]
theorem aav:∀{l:List (List V)},Gu (sm l)=l.all λr=>dJ r
 |[]=>rfl
 |r::l=>by
   have:=aav (l:=l);simp only[sm]at this;simp[sm,Gu,this]
def ait(σ:St)(d:Option Nat)(e by' e2 sz:Nat)(K:St->Prop)(m:Int):Prop:=
 rqK (0<=m/\m*by'<=140737488355328) K ({ σ with h:=σ.h++[ś (Ob.mat e e2 sz (zAj m.toNat (.a [])))] }.put d (.ref σ.h.length m.toNat))
theorem afk{e by' e2 sz m}:ait σ d e by' e2 sz K m=
 rqK (0<=m/\m*by'<=140737488355328) K ({ σ with h:=σ.h++[ś (Ob.mat e e2 sz (sm (zAj m.toNat [])))] }.put d (.ref σ.h.length m.toNat)):=by simp[ait,sm]
def akX(σ:St)(d:Option Nat)(e sz by':Nat)(K:St->Prop)(m:Int):Prop:=
 rqK (0<=m/\m*by'<=140737488355328) K ({ σ with h:=σ.h++[ś (Ob.arr e sz [])] }.put d (.ref σ.h.length 0))
theorem afl{e sz by' m}:akX σ d e sz by' K m=
 rqK (0<=m/\m*by'<=140737488355328) K ({ σ with h:=σ.h++[ś (Ob.arr e sz [])] }.put d (.ref σ.h.length 0)):=propext zA
theorem a_mk0{e sz by' n}:ak Φ d (.mk0 e sz by' n) K σ=oM (YB σ n) (akX σ d e sz by' K):=by
 simp only[ak,YB,oM];cases σ.ev n with
 |none=>rfl
 |some v=>cases v<;>first|rfl|simp only[akX,rqK,and_assoc]
theorem a_mkm{e by' e2 sz n}:ak Φ d (.mkm e by' e2 sz n) K σ=oM (YB σ n) (ait σ d e by' e2 sz K):=by
 simp only[ak,YB,oM];cases σ.ev n with
 |none=>rfl
 |some v=>cases v<;>first|rfl|simp only[ait,rqK,and_assoc]
theorem a_mkp{kt}:ak Φ d (.mkp kt) K σ=K ({ σ with h:=σ.h++[ś (Ob.mp kt [])] }.put d (.ref σ.h.length 0)):=propext zA
theorem alD{kt}:an Φ d (.mkp kt) K σ=ak Φ d (.mkp kt) K σ:=propext zA
theorem alA{x y z w}:an Φ d (.mup x y z w) K σ=ak Φ d (.mup x y z w) K σ:=propext zA
def akV(σ:St)(kt:KT)(x k v:AO):Option St:=match σ.ev x,σ.ev k,σ.ev v with
 |some (.ref id _),ś kv,ś u=>match σ.mp? id,pur σ.h u with
   |some (kt',l),ś u'=>if kt'=kt/\bH kt kv=ť/\aF u=[]/\nt u'=ť then ś { σ with h:=σ.h.set id (ś (Ob.mp kt (nq kv u' l))) }else ń
   |_,_=>ń
 |_,_,_=>ń
theorem a_mup{kt x k v}:ak Φ d (.mup kt x k v) K σ=oM (akV σ kt x k v) (skK d K):=by
 simp only[ak,akV];cases σ.ev x with
 |none=>rfl
 |some a=>
   cases σ.ev k with
   |none=>cases a<;>rfl
   |some b=>
     cases σ.ev v with
     |none=>cases a<;>rfl
     |some c=>
       cases a<;>try rfl
       rename_i id n;simp only;cases σ.mp? id with
       |none=>rfl
       |some p=>
         obtain⟨kt',l⟩:=p;cases pur σ.h c with
         |none=>rfl
         |some u'=>
           simp only;by_cases hc:kt'=kt/\bH kt b=ť/\aF c=[]/\nt u'=ť
           ·rw[if_pos hc]
            exact propext ⟨λh=>h.2.2.2.2,λh=>⟨hc.1,hc.2.1,hc.2.2.1,hc.2.2.2,h⟩⟩
           ·rw[if_neg hc]
            exact propext ⟨λh=>(hc ⟨h.1,h.2.1,h.2.2.1,h.2.2.2.1⟩).elim,λh=>h.elim⟩
theorem acT{k n}:bH ⟨ğ,[.i k]⟩ (.int k n)=true:=by simp[bH,gD,cl,b5,kOf,aU]
theorem acS{s}:bH ⟨ğ,[.s]⟩ (.str s)=true:=by simp[bH,gD,cl,b5,kOf,aU]
def clK(Φ:Ctr)(d:Option Nat)(f:FuncId)(vs:List V)(σ:St)(K:St->Prop)(us:List V):Prop:=ry Φ d f vs us K σ
def ale(Φ:Ctr)(d:Option Nat)(f:FuncId)(σ:St)(K:St->Prop)(vs:List V):Prop:=oN (purs σ.h vs) (clK Φ d f vs σ K) (kH Φ d f vs K σ)
theorem aiX{f vs us}:clK Φ d f vs σ K us=ry Φ d f vs us K σ:=propext zA
theorem agj{f vs}:ale Φ d f σ K vs=oN (purs σ.h vs) (clK Φ d f vs σ K) (kH Φ d f vs K σ):=propext zA
theorem alo{f xs}:ak Φ d (.call f xs) K σ=oM (σ.evs xs) (ale Φ d f σ K):=by
 simp only[ak,oM];cases σ.evs xs with
 |none=>rfl
 |some vs=>simp only[ale,oN];cases purs σ.h vs<;>rfl
def chK(Φ:Ctr)(d:Option Nat)(f:FuncId)(σ:St)(K:St->Prop)(vs:List V):Prop:=kH Φ d f vs K σ
theorem aiY{f vs}:chK Φ d f σ K vs=kH Φ d f vs K σ:=propext zA
theorem ai5{f xs}:ak Φ d (.callH f xs) K σ=oM (σ.evs xs) (chK Φ d f σ K):=by
 simp only[ak,oM];cases σ.evs xs<;>rfl
def ajy(σ:St)(g:AO)(xs:List AO):Option (V×List V×List V×St×Bool):=match σ.ev g,σ.evs xs with
 |some (.ref id _),ś vs=>match σ.gh? id,purs σ.h vs with
   |some ((v,b)::l),ś us=>ś (v,us,vs,{ σ with h:=σ.h.set id (ś (Ob.gh l)) },b)
   |_,_=>ń
 |_,_=>ń
def yldK(d:Option Nat)(K:St->Prop)(p:V×List V×List V×St×Bool):Prop:=p.1=.tup p.2.1/\ax p.2.2.1=[]/\K (p.2.2.2.1.put d (.bool p.2.2.2.2))
theorem adB{v us vs τ b}:yldK d K (v,us,vs,τ,b)=(v=.tup us/\ax vs=[]/\K (τ.put d (.bool b))):=propext zA
theorem a_yld{g xs}:ak Φ d (.yld g xs) K σ=oM (ajy σ g xs) (yldK d K):=by
 simp only[ak,ajy];cases σ.ev g with
 |none=>rfl
 |some u=>
   cases σ.evs xs with
   |none=>cases u<;>rfl
   |some vs=>
     cases u<;>try rfl
     rename_i id n;simp only;cases σ.gh? id with
     |none=>rfl
     |some l=>
       cases l with
       |nil=>rfl
       |cons x l=>
         obtain⟨v,b⟩:=x;cases purs σ.h vs<;>rfl
theorem alq{g xs}:an Φ d (.yld g xs) K σ=ak Φ d (.yld g xs) K σ:=propext zA
def akx(σ:St)(x:AO):Option (St×V):=match σ.ev x with
 |some (.str s)=>ś ({ σ with h:=σ.h++[ś (Ob.itr s 0)] },.ref σ.h.length 0)
 |_=>ń
def aky(d:Option Nat)(K:St->Prop)(p:St×V):Prop:=K (p.1.put d p.2)
theorem aeQ{τ v}:aky d K (τ,v)=K (τ.put d v):=propext zA
theorem a_rgs{x}:ak Φ d (.rgs x) K σ=oM (akx σ x) (aky d K):=by
 simp only[ak,akx];cases σ.ev x with
 |none=>rfl
 |some u=>cases u<;>rfl
theorem alv{x}:an Φ d (.rgs x) K σ=ak Φ d (.rgs x) K σ:=propext zA
def akO(σ:St)(x:AO):Option (St×V):=match σ.ev x with
 |some (.ref id _)=>match σ.itr? id with
   |some (s,p)=>ś (if p<s.length then({ σ with h:=σ.h.set id (ś (Ob.itr s (p+(Lt s p).2))) },.tup [.bool ť,.int .i64 p,.int .i32 (Lt s p).1])else(σ,.tup [.bool ğ]))
   |none=>ń
 |_=>ń
theorem a_nxs{x}:ak Φ d (.nxs x) K σ=oM (akO σ x) (aky d K):=by
 simp only[ak,akO];cases σ.ev x with
 |none=>rfl
 |some u=>
   cases u<;>try rfl
   rename_i id n;simp only;cases σ.itr? id with
   |none=>rfl
   |some p=>
     obtain⟨s,p⟩:=p;simp only[oM];split<;>rfl
theorem alx{x}:an Φ d (.nxs x) K σ=ak Φ d (.nxs x) K σ:=propext zA
def agm(Φ:Ctr)(d:Option Nat)(f:FuncId)(vs:List V)(σ:St)(K:St->Prop)(us:List V):Prop:=vm Φ d f vs us K σ
def agl(Φ:Ctr)(d:Option Nat)(f:FuncId)(σ:St)(K:St->Prop)(vs:List V):Prop:=oM (purs σ.h vs) (agm Φ d f vs σ K)
theorem agk{f vs us}:agm Φ d f vs σ K us=vm Φ d f vs us K σ:=propext zA
theorem adk{f vs}:agl Φ d f σ K vs=oM (purs σ.h vs) (agm Φ d f vs σ K):=propext zA
theorem ai9{f xs}:an Φ d (.call f xs) K σ=oM (σ.evs xs) (agl Φ d f σ K):=by
 simp only[an,oM];cases σ.evs xs with
 |none=>rfl
 |some vs=>simp only[agl,oM];cases purs σ.h vs<;>rfl
def fnV(σ:St)(g:AO)(xs:List AO):Option (FuncId×List V):=match σ.ev g,σ.evs xs with
 |some (.fn (.func f) a b),ś vs=>ś (f,a++vs++b)
 |_,_=>ń
def cvK(Φ:Ctr)(d:Option Nat)(σ:St)(K:St->Prop)(p:FuncId×List V):Prop:=oN (purs σ.h p.2) (clK Φ d p.1 p.2 σ K) (kH Φ d p.1 p.2 K σ)
def ak4(σ:St)(tbl:List (Nat×FuncId))(x:AO)(xs:List AO):Option (FuncId×List V):=match σ.ev x,σ.evs xs with
 |some (.iface t v),ś vs=>match lkF tbl t with
   |some f=>ś (f,v::vs)
   |none=>ń
 |_,_=>ń
theorem a_inv{tbl x xs}:ak Φ d (.inv tbl x xs) K σ=oM (ak4 σ tbl x xs) (cvK Φ d σ K):=by
 simp only[ak,ak4];cases σ.ev x with
 |none=>rfl
 |some a=>
   cases σ.evs xs with
   |none=>cases a<;>rfl
   |some vs=>
     cases a<;>try rfl
     rename_i t v;simp only;cases lkF tbl t with
     |none=>rfl
     |some f=>simp only[oM,cvK,oN];cases purs σ.h (v::vs)<;>rfl
def ivK(Φ : Ctr)(d : Option Nat)(σ : St)(K : St -> Prop)(p : FuncId×List V) : Prop := ivpK Φ d p.1 p.2 K σ
theorem a_ivp{tbl x xs} : ak Φ d (.ivp tbl x xs) K σ = oM (σ.ivpV tbl x xs) (ivK Φ d σ K) := by
  simp only[ak];cases σ.ivpV tbl x xs with
  |none => rfl
  |some p => rfl
theorem ivK_app{f vs} : ivK Φ d σ K (f,vs) = oN (purs σ.h vs) (λus => ry Φ d f vs us K σ \/ kH Φ d f vs K σ) (kH Φ d f vs K σ) := by
  simp only[ivK,ivpK,oN];cases purs σ.h vs <;> rfl
theorem aiV{f vs}:cvK Φ d σ K (f,vs)=oN (purs σ.h vs) (clK Φ d f vs σ K) (kH Φ d f vs K σ):=propext zA
theorem ai4{g xs}:ak Φ d (.callv g xs) K σ=oM (fnV σ g xs) (cvK Φ d σ K):=by
 simp only[ak,fnV,oM];cases σ.ev g with
 |none=>rfl
 |some v=>
   cases v with
   |fn f a b=>
     cases f<;>cases σ.evs xs<;>try rfl
     rename_i vs;simp only[cvK,oN];cases purs σ.h (a++vs++b)<;>rfl
   |_=>rfl
theorem aD_inv{tbl x xs} : an Φ d (.inv tbl x xs) K σ = oM (ak4 σ tbl x xs) (λp => oM (purs σ.h p.2) (agm Φ d p.1 p.2 σ K)) := by
  simp only[an,ak4];cases σ.ev x with
  |none => rfl
  |some a =>
    cases σ.evs xs with
    |none => cases a <;> rfl
    |some vs =>
      cases a <;> try rfl
      rename_i t v;simp only;cases lkF tbl t with
      |none => rfl
      |some f => simp only[oM];cases purs σ.h (v :: vs) <;> rfl
def ald(Φ:Ctr)(d:Option Nat)(σ:St)(K:St->Prop)(p:FuncId×List V):Prop:=oM (purs σ.h p.2) (agm Φ d p.1 p.2 σ K)
theorem age{f vs}:ald Φ d σ K (f,vs)=oM (purs σ.h vs) (agm Φ d f vs σ K):=propext zA
theorem agI{g xs}:an Φ d (.callv g xs) K σ=oM (fnV σ g xs) (ald Φ d σ K):=by
 simp only[an,fnV,oM];cases σ.ev g with
 |none=>rfl
 |some v=>
   cases v with
   |fn f a b=>
     cases f<;>cases σ.evs xs<;>try rfl
     rename_i vs;simp only[ald,oM];cases purs σ.h (a++vs++b)<;>rfl
   |_=>rfl
end
def aeS(post:V->Prop)(us:List V):Prop:=post (nc us)
theorem aeR{post us}:aeS post us=post (nc us):=propext zA
def U3(post:V->Prop)(σ:St)(vs:List V):Prop:=oM (purs σ.h vs) (aeS post)
theorem abZ{post σ vs}:U3 post σ vs=oM (purs σ.h vs) (aeS post):=propext zA
theorem agL{rs post σ}:Res rs post .norm σ=oM (σ.rvs rs) (U3 post σ):=by
 grind[Res,U3,oM,purs,aeS]
theorem ajg{rs post σ}:Res rs post .ret σ=oM (σ.rvs rs) (U3 post σ):=by
 grind[Res,U3,oM,purs,aeS]
def U5(σ:St)(ps:List Nat)(us:List V)(r:V)(H':List (Option Ob))(vs:List V):Prop:=U4 σ ps us r H' vs (ir σ.h (B9 (pk σ.r ps)) vs).2
theorem ab0{σ ps us r H' vs}:U5 σ ps us r H' vs=U4 σ ps us r H' vs (ir σ.h (B9 (pk σ.r ps)) vs).2:=propext zA
theorem adA{rs σ ps us r H'}:Xy rs ps us r H' .norm σ=oM (σ.rvs rs) (U5 σ ps us r H'):=by
 grind[Xy,oM,U5]
theorem agN{rs σ ps us r H'}:Xy rs ps us r H' .ret σ=oM (σ.rvs rs) (U5 σ ps us r H'):=by
 grind[Xy,oM,U5]
section
variable{Φ:Ctr}{σ:St}{K:St->Prop}{d:Option Nat}
def ak6(σ:St)(d:Option Nat)(K:St->Prop)(q:Nat)(m:List Nat)(r:V)(H':List (Option Ob)):Prop:=K (St.put ⟨σ.r,σ.back q m H'⟩ d (bck (Fq q m σ.h.length H'.length) r))
theorem afR{q m r H'}:ak6 σ d K q m r H'=K (St.put ⟨σ.r,σ.back q m H'⟩ d (bck (Fq q m σ.h.length H'.length) r)):=propext zA
theorem am(ps : List Nat)(q : Nat)(m : List Nat){f : FuncId}{vs us : List V}{H H' : List (Option Ob)}{r : V}(hc : σ.curs (c9 vs ps) = true)(hl : ir σ.h (c9 vs ps) vs = (q,m))(hu : fq m vs = us)(hH : kN σ.h m m = H)
    (h : Φ.e f ps us H r H') (hk : kin q H H' = true) (k : ok r -> okH H' -> ak6 σ d K q m r H') : kH Φ d f vs K σ := by
  refine .inl ⟨ps,hc,r,H',?_,?_,?_⟩
  ·rw[hl,hH];exact hk
  ·rw[hl,hu,hH];exact h
  ·rw[hl];exact k
theorem wcallH_hid(t id off a n : Nat)(cs : List V)(ps : List Nat)(q : Nat)(m : List Nat){f : FuncId}{vs us : List V}{H H' : Value -> List (Option Ob)}{r : V}(ht : lk σ.r t = some (.ref a n))(hdt : d≠some t)(hn : σ.nowR a n = true)(hb : σ.box? id = some cs)(ho : cs[off]? = some (.ref a n))
    (hc : ∀c,(σ.hide id off cs c).curs (c9 vs ps) = true) (hl : ∀c,ir (σ.hide id off cs c).h (c9 vs ps) vs = (q,m)) (hu : fq m vs = us) (hH : ∀c,kN (σ.hide id off cs c).h m m = H c)
    (h : ∀c,Φ.e f ps us (H c) r (H' c)) (hk : ∀c,kin q (H c) (H' c) = true) (k : ∀c,ok r -> okH (H' c) -> ak6 (σ.hide id off cs c) d (unhideK t id off (.ref a n) c K) q m r (H' c)) : kH Φ d f vs K σ := by
  refine .inr ⟨t,id,off,a,n,cs,ht,hdt,hn,hb,ho,λc => ⟨ps,hc c,r,H' c,?_,?_,?_⟩⟩
  ·rw[hl,hH];exact hk c
  ·rw[hl,hu,hH];exact h c
  ·rw[hl];exact k c
end
def U2(r:V)(us:List V):Prop:=nc us=r
theorem abY{r us}:U2 r us=(nc us=r):=propext zA
def I4(r:V)(σ:St)(vs:List V):Prop:=KU σ.h vs=ť/\oM (purs σ.h vs) (U2 r)
theorem Ye{r σ vs}:I4 r σ vs=(KU σ.h vs=ť/\oM (purs σ.h vs) (U2 r)):=propext zA
theorem adz{rs r σ}:Uw rs r .norm σ=oM (σ.rvs rs) (I4 r σ):=by
 grind[Uw,I4,oM,purs,U2]
theorem agM{rs r σ}:Uw rs r .ret σ=oM (σ.rvs rs) (I4 r σ):=by
 grind[Uw,I4,oM,purs,U2]
theorem tupV0:nc []=.tup []:=rfl
theorem tupV1{v}:nc [v]=v:=rfl
theorem tupV2{v w l}:nc (v::w::l)=.tup (v::w::l):=rfl
theorem so_box{cs} : obI (some (some (.box cs))) = ax cs := by simp only[obI]
theorem sr_box{m}{cs} : gZ m (some (.box cs)) = some (.box (fq m cs)) := by simp only[gZ]
theorem sb_box{m}{cs} : rn m (some (.box cs)) = some (.box (so m cs)) := by simp only[rn]
theorem so_arr{e sz l} : obI (some (some (.arr e sz l))) = [] := by simp only[obI]
theorem sr_arr{m}{e sz l} : gZ m (some (.arr e sz l)) = some (.arr e sz l) := by simp only[gZ]
theorem sb_arr{m}{e sz l} : rn m (some (.arr e sz l)) = some (.arr e sz l) := by simp only[rn]
theorem so_mat{e e2 sz l} : obI (some (some (.mat e e2 sz l))) = [] := by simp only[obI]
theorem sr_mat{m}{e e2 sz l} : gZ m (some (.mat e e2 sz l)) = some (.mat e e2 sz l) := by simp only[gZ]
theorem sb_mat{m}{e e2 sz l} : rn m (some (.mat e e2 sz l)) = some (.mat e e2 sz l) := by simp only[rn]
theorem so_mp{kt l} : obI (some (some (.mp kt l))) = [] := by simp only[obI]
theorem sr_mp{m}{kt l} : gZ m (some (.mp kt l)) = some (.mp kt l) := by simp only[gZ]
theorem sb_mp{m}{kt l} : rn m (some (.mp kt l)) = some (.mp kt l) := by simp only[rn]
theorem so_gh{l} : obI (some (some (.gh l))) = [] := by simp only[obI]
theorem sr_gh{m}{l} : gZ m (some (.gh l)) = some (.gh l) := by simp only[gZ]
theorem sb_gh{m}{l} : rn m (some (.gh l)) = some (.gh l) := by simp only[rn]
theorem so_itr{s p} : obI (some (some (.itr s p))) = [] := by simp only[obI]
theorem sr_itr{m}{s p} : gZ m (some (.itr s p)) = some (.itr s p) := by simp only[gZ]
theorem sb_itr{m}{s p} : rn m (some (.itr s p)) = some (.itr s p) := by simp only[rn]
theorem so_tok{c} : obI (some (some (.tok c))) = [] := by simp only[obI]
theorem sr_tok{m}{c} : gZ m (some (.tok c)) = some (.tok c) := by simp only[gZ]
theorem sb_tok{m}{c} : rn m (some (.tok c)) = some (.tok c) := by simp only[rn]
theorem so_none : obI none = [] := by simp only[obI]
theorem so_no : obI (some none) = [] := by simp only[obI]
theorem sr_no{m} : gZ m none = none := by simp only[gZ]
theorem sb_no{m} : rn m none = none := by simp only[rn]
attribute [simp] abt adD XD afe ajb aje al2 abH Se acA afD acC acB alZ al1 ajd ajc al0 abm al3 W_ret ajf Pg abI ael Sd VN CF XC QP BrK_t BrK_f BrK_n rqK_t aeJ ain aio ai1 aiI afT ak7 agh ah0 aeZ ad5 abw wop_n ad7 abx XF aj2 XG aee abB agx aeH afu acu acv YF agC afj afl afk akl aeC abP ahX ahY IU aeB aav a_mkm a_yld alq adB a_rgs alv a_nxs alx aeQ a_mkp alD alA a_mup a_inv acT acS aiX agj agk adk aiV age aeR abZ ail aim aiY fz fzs ai5 ab0 adA agN afR abY Ye adz agM jk jks fre KU a_mov alk a_fld a_fa a_ia a_iaa a_ld a_ixs a_ixa a_bin a_un a_cii a_r2s a_b2s a_sls a_slq alm aln a_beq a_ext a_bld a_mkf a_nlc a_mki a_aeq a_lkp a_mm a_nlq alB ai6 alO aD_fa aD_ia alN aD_ld alL alM alT aD_un alQ alw alV alr als ai7 ai8 alU alP alS alG alz alF alY alJ aD_mm aly alX alR aD_st alW alC alH alE alu a_alc a_box a_st a_s2b a_lit a_app a_mks a_mk0 alo ai4 alK ai9 agI alh stV akj Z9 YB fnV akV ak4 ajy St.gh? akx akO St.itr? lkF agL ajg tupV0 tupV1 tupV2 St.ev St.evs St.evo St.val St.put lk pk St.fetch St.box? St.arr? St.rws? St.mp? cut ju cl mkc ahR aj7 St.live St.fwd St.stor St.storM St.kill bldV isS nt dA dJ aF ax pur purs pur1 pur2 src Gu Ef cw ez nu St.nrm akw yO Rb ren fq kN jg idx St.mats St.mat ent St.rv St.rvs ok oks okH c9 St.cur St.curA St.cur0 St.curs ir bck so Up wr Fq St.back U4 B9 PG kin a_tya aD_tya a_ivp ivK_app aD_inv lkG St.ivpV St.recv unhideK St.hide St.nowR so_box sr_box sb_box so_arr sr_arr sb_arr so_mat sr_mat sb_mat so_mp sr_mp sb_mp so_gh sr_gh sb_gh so_itr sr_itr sb_itr so_tok sr_tok sb_tok so_none so_no sr_no sb_no
theorem sx(n)(h1:-9223372036854775808<=n)(h2:n<=9223372036854775807):IntKind.i64.wrap n=n:=by
 grind[Go.IntKind.wrap_i64]
theorem max64:IntKind.i64.max=9223372036854775807:=by decide
theorem min64:IntKind.i64.min=-9223372036854775808:=by decide
theorem maxU8:IntKind.u8.max=255:=by decide
theorem minU8:IntKind.u8.min=0:=by decide
theorem QT(n)(h1:0<=n)(h2:n<=255):IntKind.u8.wrap n=n:=by
 grind[Go.IntKind.wrap_u8]
theorem BI(n)(h1:-2147483648<=n)(h2:n<=2147483647):IntKind.i32.wrap n=n:=by
 grind[Go.IntKind.wrap_i32]
theorem akh{a b}(h1:-9223372036854775808<=a+b)(h2:a+b<=9223372036854775807):dx .add .i64 a b=ś (.int .i64 (a+b)):=by grind[dx,sx]
theorem aj5{a b}(h1:-9223372036854775808<=a-b)(h2:a-b<=9223372036854775807):dx .sub .i64 a b=ś (.int .i64 (a-b)):=by grind[dx,sx]
theorem akb{a b}(h1:-9223372036854775808<=a*b)(h2:a*b<=9223372036854775807):dx .mul .i64 a b=ś (.int .i64 (a*b)):=by grind[dx,sx]
theorem vadd8{a b}(h1:0<=a+b)(h2:a+b<=255):dx .add .u8 a b=ś (.int .u8 (a+b)):=by grind[dx,QT]
theorem vsub8{a b}(h1:0<=a-b)(h2:a-b<=255):dx .sub .u8 a b=ś (.int .u8 (a-b)):=by grind[dx,QT]
theorem aki{a b}(h1:-2147483648<=a+b)(h2:a+b<=2147483647):dx .add .i32 a b=ś (.int .i32 (a+b)):=by grind[dx,BI]
theorem aj6{a b}(h1:-2147483648<=a-b)(h2:a-b<=2147483647):dx .sub .i32 a b=ś (.int .i32 (a-b)):=by grind[dx,BI]
theorem akc{a b}(h1:-2147483648<=a*b)(h2:a*b<=2147483647):dx .mul .i32 a b=ś (.int .i32 (a*b)):=by grind[dx,BI]
theorem ake{n}(h1:-9223372036854775808<=n)(h2:n<=9223372036854775807):L4 .i64 n=ś (.int .i64 n):=by grind[L4,sx]
theorem vcii8{n}(h1:0<=n)(h2:n<=255):L4 .u8 n=ś (.int .u8 n):=by grind[L4,QT]
theorem aao{n}(h1:0<=n)(h2:n<128):aeg n=ś (.str [zHi n.toNat]):=by simp_all[aeg,if_pos]
theorem akf{n}(h1:-2147483648<=n)(h2:n<=2147483647):L4 .i32 n=ś (.int .i32 n):=by grind[L4,BI]
theorem aka{n}(h1:-9223372036854775808<=0-n)(h2:0-n<=9223372036854775807):vun .neg (.int .i64 n)=ś (.int .i64 (0-n)):=by grind[vun,sx]
attribute [simp high] akh aj5 akb vadd8 vsub8 aki aj6 akc ake vcii8 akf aao aka
theorem aj9{a b}(h0:0<=a)(h1:0<b)(h2:a<=9223372036854775807):dx .quo .i64 a b=ś (.int .i64 (a/b)):=by
 have h3:0<=a/b:=Int.ediv_nonneg h0 (by omega)
 have h4:a/b<=a:=Int.ediv_le_self _ h0;simp only[dx];rw[if_neg (by omega),Int.tdiv_eq_ediv_of_nonneg h0,sx _ (by omega) (by omega)]
theorem aj8{k a b}(h0:0<=a)(h1:0<b):dx .rem k a b=ś (.int k (a%b)):=by
 simp only[dx];grind
theorem vremt{k a b}(h1:b≠0):dx .rem k a b=ś (.int k (a.tmod b)):=by
 simp_all[dx,if_neg]
theorem veql{k a b}:dx .eql k a b=ś (.bool (decide (a=b))):=rfl
theorem vneq{k a b}:dx .neq k a b=ś (.bool (!decide (a=b))):=rfl
theorem vlss{k a b}:dx .lss k a b=ś (.bool (decide (a<b))):=rfl
theorem vleq{k a b}:dx .leq k a b=ś (.bool (decide (a<=b))):=rfl
theorem vgtr{k a b}:dx .gtr k a b=ś (.bool (decide (b<a))):=rfl
theorem vgeq{k a b}:dx .geq k a b=ś (.bool (decide (b<=a))):=rfl
theorem vnot{b}:vun .not (.bool b)=ś (.bool !b):=rfl
attribute [simp high] aj9 aj8
attribute [simp] veql vneq vlss vleq vgtr vgeq vnot vremt sx QT BI max64 min64 maxU8 minU8
theorem akQ(m n:Nat):((no_index (@OfNat.ofNat Int m instOfNat))<=(n:Int))↔(@OfNat.ofNat Nat m (instOfNatNat m))<=n:=zHd
theorem ak1(m n:Nat):((n:Int)<=(no_index (@OfNat.ofNat Int m instOfNat)))↔n<=(@OfNat.ofNat Nat m (instOfNatNat m)):=zHd
theorem akP(m n:Nat):((no_index (@OfNat.ofNat Int m instOfNat))<(n:Int))↔(@OfNat.ofNat Nat m (instOfNatNat m))<n:=zHe
theorem ak0(m n:Nat):((n:Int)<(no_index (@OfNat.ofNat Int m instOfNat)))↔n<(@OfNat.ofNat Nat m (instOfNatNat m)):=zHe
theorem akR(m n:Nat):((no_index (@OfNat.ofNat Int m instOfNat))=(n:Int))↔(@OfNat.ofNat Nat m (instOfNatNat m))=n:=zGi
theorem ala(m n:Nat):((n:Int)=(no_index (@OfNat.ofNat Int m instOfNat)))↔n=(@OfNat.ofNat Nat m (instOfNatNat m)):=zGi
attribute [simp] akQ ak1 akP ak0 akR ala
theorem get0{α:Type}{x}{l:List α}:(x::l)[0]?=ś x:=rfl
attribute [simp] get0
theorem ite_t{p}[Decidable p]{α}{a b:α}(h:p):(if p then a else b)=a:=if_pos h
theorem ite_f{p}[Decidable p]{α}{a b:α}(h:¬p):(if p then a else b)=b:=if_neg h
attribute [simp] ite_t ite_f
theorem aaI:∀{l:List V},oks l↔∀v∈l,ok v
 |[]=>by simp
 |v::vs=>by simp[aaI]
theorem r5{α:Type}{l:List α}{k x}(h:l[k]?=ś x):l.drop k=x::l.drop (k+1):=by
 grind[zAc,List.drop_eq_getElem_cons]
theorem av{α:Type}{l:List α}{k}(h:k<l.length):∃x,l[k]?=ś x:=⟨_,zDb h⟩
theorem place{α:Type}(l:List α)(k)(h:k<=l.length):(k=l.length/\l.drop k=[])\/(k<l.length/\∃x,l[k]?=ś x/\l.drop k=x::l.drop (k+1)):=by
 rcases zFf k l.length with h'|h'
 ·simp_all
 grind
def Hid(p:Prop):Prop:=p
theorem Hid.out{p}(h:Hid p):p:=h
theorem hid{p}(h:p):Hid p:=h
end Go.Abs
end
