/- From the model's code to that of the abstract machine: what 'W' says of the image holds of the code. No condition. -/
import Derived.Test.YtnnbodoijkbceaaGreatDoorJAbs7
import Derived.Deep.LoopGhost
import Derived.ScopeJumps
set_option linter.all false
set_option maxHeartbeats 0
open Iff renaming rfl→zAa
open Option.some renaming injEq→zAb
open Option renaming map_eq_some_iff→zAc,map_some→zBd
open Bool renaming and_eq_true→zAd,false_eq_true→zBe,false_or→zBh,not_eq_true'→zBi,not_true→zBj,or_eq_true→zCf
open List renaming all_eq_true→zAe,getElem?_eq_some_iff→zAf,replicate→zBa,mem_range→zBb,range→zBf,getElem?_set_ne→zBg,getElem?_append_left→zCc,mapM_cons→zCg,mem_append_left→zCh,mem_cons→zCi,getElem?_map→zDc,any_eq_true→zDe,append_nil→zDf,mem_map→zDh
open Array renaming getElem?_eq_some_iff→zAg,replicate→zAh,ext'→zAi,getElem?_append_left→zAj
open Prod.mk renaming injEq→zBc
open Nat renaming zero_le→zCa,le_refl→zCb,sub_zero→zCd,strongRecOn→zCe,lt_or_ge→zDa,lt_of_le_of_lt→zDb,testBit→zDd
open Exists renaming intro→zCj
open Int renaming ofNat_inj→zDg,ofNat_le→zDi,ofNat_lt→zDj
section
namespace Go.Abs
open Go.RowKit
section
variable{P:Program}{N:Nat}{M0:Mem}{B:Bas}{w0:World}{κ:Kap}{M:Mem}{σ:St}{a:Act}{w w':World}
theorem Rel.nilRow(H:Rel N M0 B w0 κ M σ a w){ms:List Po}{e sz:Nat}(hp:σ.h[0]?=some (some (.pool ms)))(hsz:0<sz):∃κ',κ'.row 0 ms.length=.slice none 0 0/\Rel N M0 B w0 κ' M (σ.setP (ms++[.rw e sz []])) a w/\
 (∀v c,XX κ σ.h v c->XX κ' (σ.setP (ms++[.rw e sz []])).h v c)/\rep M (XX κ' (σ.setP (ms++[.rw e sz []])).h) (.q 1 ms.length 0 0 0) (.slice none 0 0):=by
 obtain⟨κ',e2,H',hX⟩:=H.addMem (m':=.rw e sz []) hp (kv:=.slice none 0 0) (Below.refl _ _) (fun g hg=>by cases hg) (fun κ' X er hX=>by
  simp only[fc];exact⟨hsz,by simp,[],by rw[er];exact World.ownsRow_nil w 0 e sz,by simp[az]⟩)
 have hget:(ms++[Po.rw e sz []])[ms.length]?=some (.rw e sz []):=by simp
 exact⟨κ',e2,H',hX,kG (dx hp) rfl (by
  simp only[qAt,hget,e2];exact⟨fun _=>⟨by simp,fun _=>trivial⟩,fun h=>by simp at h⟩)⟩
theorem Rel.mat(H:Rel N M0 B w0 κ M σ a w){m:Mat}{σ':St}(h:σ.mat m=some σ'):∃κ' M',Rel N M0 B w0 κ' M' σ' a w:=by
 cases m with
 |r t e sz=>
   simp only[St.mat]at h;split at h
   ·rename_i sz0 hlk
    split at h
    ·rename_i hsz
     cases h
     have ho:aE (upd κ σ.h.length (.slice none 0 0)) M (XX (upd κ σ.h.length (.slice none 0 0)) (σ.h++[some (Ob.arr e sz [])])) B w σ.h.length (.arr e sz []):=by
      simp only[aE];exact⟨hsz,by simp,[],by rw[cu];exact World.ownsRow_nil w 0 e sz,by simp[ap],fun g hg=>(by rw[aJ]at hg;cases hg),fun g=>by rw[aJ,be]⟩
     have H':=H.newOb (Below.refl _ _) (kv:=.slice none 0 0) (fun g hg=>by cases hg) ho
     refine⟨_,_,{ dfr:=H'.dfr,jst:=H'.jst,pin:=H'.pin,size:=H'.size,regs:=?_,heap:=H'.heap,inj:=H'.inj,snd:=H'.snd,sep:=H'.sep,sub:=H'.sub,new:=H'.new,base:=H'.base,blw:=H'.blw }⟩;intro t' v hv;simp only[lk]at hv;split at hv
     ·rename_i he
      subst he;cases hv;obtain⟨h1,c,h2,h3⟩:=H.regs _ _ hlk;simp only[rep]at h3;refine⟨h1,c,h2,?_⟩;simp only[rep,XX];rw[h3.1];refine⟨rfl,by simp,fun e2 sz2 l2 h2=>?_,fun e2 sz2 l2 l3 h2=>by simp at h2,fun o2 h2 hn=>by simp at h2;subst h2;cases hn⟩
      simp at h2;obtain⟨rfl,rfl,rfl⟩:=h2;exact⟨by simp,fun _=>cu.symm⟩
     ·exact H'.regs t' v hv
    ·cases h
   ·cases h
 |b id off e sz=>
   simp only[St.mat]at h;split at h
   ·rename_i cs hcs
    split at h
    ·rename_i sz0 hoff
     split at h
     ·rename_i hsz
      cases h
      have ho:aE (upd κ σ.h.length (.slice none 0 0)) M (XX (upd κ σ.h.length (.slice none 0 0)) (σ.h++[some (Ob.arr e sz [])])) B w σ.h.length (.arr e sz []):=by
       simp only[aE];exact⟨hsz,by simp,[],by rw[cu];exact World.ownsRow_nil w 0 e sz,by simp[ap],fun g hg=>(by rw[aJ]at hg;cases hg),fun g=>by rw[aJ,be]⟩
      have H':=H.newOb (Below.refl _ _) (kv:=.slice none 0 0) (fun g hg=>by cases hg) ho
      have hb:=gS hcs;have hlt:id<σ.h.length:=(zAf.1 hb).1;have hb':(σ.h++[some (Ob.arr e sz [])])[id]?=some (some (.box cs)):=by rw[zCc hlt];exact hb
      obtain⟨b,arr,T,h1,h2,h3,h4,h5,h6⟩:=H'.heap id _ hb'
      let κ1:=upd κ σ.h.length (.slice none 0 0)
      have hX:∀u c,XX κ1 (σ.h++[some (Ob.arr e sz [])]) u c->XX (upd κ1 id (κ1 id)) ((σ.h++[some (Ob.arr e sz [])]).set id (some (Ob.box (cs.set off (.ref σ.h.length 0))))) u c:=fun u c hx=>gG hb' hx (fun _ _=>⟨⟨cs,rfl⟩,rfl⟩) (fun _ _ _ h=>by cases h) (fun _ _ _ _ h=>by cases h)
      have H2:=H'.setOb hb' (ob:=.box (cs.set off (.ref σ.h.length 0))) (kv:=κ1 id) (Und.refl _ _) (fun _ _ _=>rfl) (fun g hg=>.inl ((h6 g).2 (by rw[h1]at hg;cases hg;rfl))) hX (by
       simp only[aE];refine⟨b,arr,T,by rw[cu];exact h1,h2,h3,?_,h5,fun g=>by rw[aJ,h1];simp only[blk,zAb];exact eq_comm⟩
       obtain⟨c,g1,g2⟩:=cd (aD (fun _ _ h=>h) hX _ _ h4) hoff;simp only[rep]at g2
       have hs:=si off (aD (fun _ _ h=>h) hX _ _ h4) (v:=.ref σ.h.length 0) (c:=c) (by
        simp only[rep,XX];rw[g2.1];refine⟨rfl,by simp,fun e2 sz2 l2 h2=>?_,fun e2 sz2 l2 l3 h2=>by rw[zBg (by omega)]at h2;simp at h2,fun o2 h2 hn=>by rw[zBg (by omega)]at h2;simp at h2;subst h2;cases hn⟩
        rw[zBg (by omega)]at h2
        simp at h2;obtain⟨rfl,rfl,rfl⟩:=h2;refine⟨by simp,fun _=>?_⟩
        rw[QA (by omega)]
        exact cu.symm)
       have:arr.toList.set off c=arr.toList:=by
        apply List.ext_getElem?;intro j;rw[List.getElem?_set];split
        ·rename_i he;subst he
         split
         ·exact g1.symm
         ·rename_i hn;rw[List.getElem?_eq_none (by omega)]
        ·rfl
       rwa[this]at hs)
      refine⟨upd κ1 id (κ1 id),M,?_⟩
      have e1:(σ.h++[some (Ob.arr e sz [])]).set id (some (Ob.box (cs.set off (.ref σ.h.length 0))))=σ.h.set id (some (Ob.box (cs.set off (.ref σ.h.length 0))))++[some (Ob.arr e sz [])]:=by
       rw[List.set_append_left _ _ hlt]
      rw[<-e1];exact H2
     ·cases h
    ·cases h
   ·cases h
 |z t=>
   simp only[St.mat]at h;split at h
   ·rename_i v hv
    split at h
    ·rename_i u hu
     cases h;obtain⟨H2,hM1⟩:=H.kill (aA v) (KV hu);obtain⟨h1,c,h2,h3⟩:=H.regs t v hv
     have k3:rep (ext M w (gp κ (aA v))) NX u c:=by
      refine mD H hM1 (fun id hid g hg p hpb=>?_) h3 hu;unfold ext;rw[if_pos (cf.2 ⟨id,hid,by rw[hpb];exact hg⟩)]
     refine⟨κ,_,{ dfr:=H2.dfr,jst:=H2.jst,pin:=H2.pin,size:=H2.size,regs:=?_,heap:=H2.heap,inj:=H2.inj,snd:=H2.snd,sep:=H2.sep,sub:=H2.sub,new:=H2.new,base:=H2.base,blw:=H2.blw }⟩;intro t' v' hv';simp only[lk]at hv';split at hv'
     ·rename_i he
      subst he;cases hv';exact⟨h1,c,h2,aB k3⟩
     ·exact H2.regs t' v' (by rw[(oW _ _).1];exact hv')
    ·cases h
   ·cases h
 |q t e sz=>
   simp only[St.mat]at h;split at h
   ·rename_i sz0 ms hlk hms
    split at h
    ·rename_i hsz
     cases h;obtain⟨κ',e1,H',hX,hq⟩:=H.nilRow (e:=e) (bJ hms) hsz;refine⟨κ',M,{ dfr:=H'.dfr,jst:=H'.jst,pin:=H'.pin,size:=H'.size,regs:=?_,heap:=H'.heap,inj:=H'.inj,snd:=H'.snd,sep:=H'.sep,sub:=H'.sub,new:=H'.new,base:=H'.base,blw:=H'.blw }⟩;intro t' v hv;simp only[lk]at hv;split at hv
     ·rename_i he
      subst he;cases hv;obtain⟨h1,c,h2,h3⟩:=H.regs _ _ hlk;simp only[rep]at h3;exact⟨h1,c,h2,by rw[h3.1];exact hq⟩
     ·exact H'.regs t' v hv
    ·cases h
   ·cases h
 |qb id off e sz=>
   simp only[St.mat]at h;split at h
   ·rename_i cs ms hcs hms
    split at h
    ·rename_i sz0 hoff
     split at h
     ·rename_i hsz
      cases h;obtain⟨κ',e1,H',hX,hq⟩:=H.nilRow (e:=e) (bJ hms) hsz;have hb:=gS hcs;have h0:id≠0:=fun e=>by subst e;rw[bJ hms]at hb;cases hb
      obtain⟨κ2,H2,_⟩:=H'.reCell (id:=id) (off:=off) (cs:=cs) (v':=.q 1 ms.length 0 0 0) (by rw[XV,zBg (Ne.symm h0)];exact hb) hoff (fun c hc=>by
       simp only[rep]at hc;rw[hc.1];exact hq)
      exact⟨κ2,M,H2⟩
     ·cases h
    ·cases h
   ·cases h
theorem Rel.mats:∀{ms:List Mat}{σ σ':St}{κ:Kap}{M:Mem},Rel N M0 B w0 κ M σ a w->σ.mats ms=some σ'->∃κ' M',Rel N M0 B w0 κ' M' σ' a w
 |[],σ,σ',κ,M,H,h=>by simp only[St.mats]at h;cases h;exact⟨κ,M,H⟩
 |m::ms,σ,σ',κ,M,H,h=>by
   simp only[St.mats]at h;split at h
   ·rename_i σ1 h1
    obtain⟨κ1,M1,H1⟩:=H.mat h1;exact Rel.mats H1 h
   ·cases h
theorem Rel.nrm(H:Rel N M0 B w0 κ M σ a w)(ks:List Nat):∃κ',Rel N M0 B w0 κ' M (σ.nrm ks) a w:=by
 unfold St.nrm;exact⟨_,H.ren (bN _ _ (bN _ _ (bN _ _ kK))) DP _ (fun t v h=>II h)⟩
structure LO (P:Program) (N:Nat) (ps:List Nat) (ops:Array Oper) (o:Oper) (x:AOp):Prop where
 dst:x.d=o.dst
 lt:∀t,o.dst=some t->t<N/\t ∉ ps
 act:LV P o.type o.op x.a\/LE P o.type o.op x.a\/x.a=.bad
 grd:(o.guard=none/\x.g=none)\/∃j b oj t,o.guard=some (j,b)/\ops[j]?=some oj/\oj.dst=some t/\x.g=some (t,b)
theorem Z7{ty:TypeId}{op:Op}{act:Act'}(h:LV P ty op act)(Φ:Ctr)(d:Option Nat)(K:St->Prop)(σ:St):af Φ d act K σ=match σ.val act with
 |some v=>K (σ.put d v)
 |none=>False:=by cases h<;>rfl
theorem wi(hJC:gw P M0 B){ρ:Option Nat}(H:Rel N M0 B w0 κ M σ a w){ops:Array Oper}{o:Oper}{x:AOp}(hl:LO P N B.ps ops o x){K:St->Prop}(hW:af (Cn P) x.d x.a K σ)
 {Nx:Act->World->Prop} (hK:∀κ' M' σ' a' w',K σ'->Rel N M0 B w0 κ' M' σ' a' w'->Nx a' w') {Q:Exit->Act->World->Prop}:o.wpIn (FR ρ) 0 P a w Nx Q:=by
 have hd:∀t,x.d=some t->t<N/\t ∉ B.ps:=by rw[hl.dst];exact hl.lt
 rcases hl.act with h|h|h
 ·rw[Z7 h]at hW
  split at hW
  ·rename_i v hv
   obtain⟨c,hr,hc⟩:=NS H h hv o rfl rfl;refine MG ?_ (aac h);unfold Oper.wp;rw[hr,Oper.upon_value,<-hl.dst];exact hK _ _ _ _ _ hW (H.put' hd hc)
  ·exact hW.elim
 ·by_cases hy:∃g xs,x.a=.yld g xs
  ·obtain⟨g,xs,hy⟩:=hy
   rw[hy]at h hW;exact NF hJC H h hd hW hK o rfl hl.dst.symm
  ·exact MG (Pr hJC H h (fun g xs e=>hy ⟨g,xs,e⟩) hd hW hK o rfl rfl hl.dst.symm) (Tj h)
 ·rw[h]at hW
  simp only[af,St.val]at hW
theorem Ig(hJC:gw P M0 B){ρ:Option Nat}(H:Rel N M0 B w0 κ M σ a w){ops:Array Oper}{o:Oper}{x:AOp}(hl:LO P N B.ps ops o x){K:St->Prop}(hW:wop (Cn P) x K σ)
 {Nx:Act->World->Prop} (hK:∀κ' M' σ' a' w',K σ'->Rel N M0 B w0 κ' M' σ' a' w'->Nx a' w') {Q:Exit->Act->World->Prop}:
 if Region.wanted o (yielded ops a.tmps)then o.wpIn (FR ρ) 0 P a w Nx Q else Nx (a.put o.dst undef) w:=by
 have hd:∀t,x.d=some t->t<N/\t ∉ B.ps:=by rw[hl.dst];exact hl.lt
 have hu:K (σ.put x.d (.tup []))->Nx (a.put o.dst undef) w:=fun h=>by
  rw[<-hl.dst];exact hK _ _ _ _ _ h (H.undef hd)
 unfold wop at hW;rcases hl.grd with⟨h1,h2⟩|⟨j,b,oj,t,h1,h2,h3,h4⟩
 ·rw[h2]at hW
  have:Region.wanted o (yielded ops a.tmps)=true:=by simp[Region.wanted,h1]
  rw[if_pos this];exact wi hJC H hl hW hK
 ·rw[h4]at hW
  simp only at hW;split at hW
  ·rename_i y hy
   obtain⟨_,c,g1,g2⟩:=H.regs t _ hy;have hc:=gZ g2;subst hc;have hyl:yielded ops a.tmps j=some y:=by simp[yielded,h2,h3,g1]
   have hw:Region.wanted o (yielded ops a.tmps)=decide (y=b):=by
    cases y<;>cases b<;>simp[Region.wanted,h1,hyl]
   rw[hw];cases y<;>cases b<;>simp[Br]at hW⊢
   ·exact wi hJC H hl hW hK
   ·exact hu hW
   ·exact hu hW
   ·exact wi hJC H hl hW hK
  ·rename_i hy
   obtain⟨_,c,g1,g2⟩:=H.regs t _ hy;simp only[rep,ae]at g2;obtain⟨arr,rfl,g3⟩:=g2;have hyl:yielded ops a.tmps j=none:=by simp[yielded,h2,h3,g1]
   have hw:¬Region.wanted o (yielded ops a.tmps)=true:=by simp[Region.wanted,h1,hyl]
   rw[if_neg hw];exact hu hW
  ·exact hW.elim
inductive LOs (P:Program) (N:Nat) (ps:List Nat) (ops:Array Oper):List Oper->List AOp->Prop
 |nil:LOs P N ps ops [] []
 |cons {o os x xs}:LO P N ps ops o x->LOs P N ps ops os xs->LOs P N ps ops (o::os) (x::xs)
theorem DT(hJC:gw P M0 B){ρ:Option Nat}{ops:Array Oper}{Q:Exit->Act->World->Prop}{K:St->Prop}(hK:∀κ' M' σ' a' w',K σ'->Rel N M0 B w0 κ' M' σ' a' w'->Q .normal a' w'):
 ∀{os:List Oper}{xs:List AOp},LOs P N B.ps ops os xs->∀{κ:Kap}{M:Mem}{σ:St}{a:Act}{w:World},Rel N M0 B w0 κ M σ a w->vj (Cn P) xs K σ->wpListIn (FR ρ) 0 P ops Q os a w
 |_,_,.nil,_,_,_,_,_,H,hW=>hK _ _ _ _ _ hW H
 |_,_,.cons hl hs,_,_,_,_,_,H,hW=>by
   refine wpListIn_step fun K' hK'=>?_;have:=Ig hJC (ρ:=ρ) H hl hW (Q:=Q) (fun κ' M' σ' a' w' hk H'=>hK' _ _ (DT hJC hK hs H' hk));split
   ·rename_i hw;rw[if_pos hw]at this;exact this
   ·rename_i hw;rw[if_neg hw]at this;exact⟨fun _ _=>trivial,this⟩
end
end Go.Abs
end
section
namespace Go.Abs
def AO.rd:AO->List Nat
 | .t n=>[n]
 | .v _=>[]
def rdo:Option AO->List Nat
 |none=>[]
 |some x=>x.rd
def rdl:List AO->List Nat
 |[]=>[]
 |x::xs=>x.rd++rdl xs
def rdp:List (Nat×Nat×AO)->List Nat
 |[]=>[]
 |(_,_,x)::ps=>x.rd++rdp ps
def Act'.rds:Act'->List Nat
 | .mov x=>x.rd
 | .pick c a b=>c.rd++(a.rd++b.rd)
 | .fld x _ _ _=>x.rd
 | .fa x _=>x.rd
 | .ia x i _=>x.rd++i.rd
 | .iaa x i _ _=>x.rd++i.rd
 | .ld x _ _=>x.rd
 | .ixs x i=>x.rd++i.rd
 | .ixa x i _ _ _=>x.rd++i.rd
 | .bin _ x y=>x.rd++y.rd
 | .un _ x=>x.rd
 | .cii _ x=>x.rd
 | .r2s x=>x.rd
 | .s2b x=>x.rd
 | .b2s x=>x.rd
 | .sls x lo hi=>x.rd++(rdo lo++rdo hi)
 | .slq x lo hi _=>x.rd++(rdo lo++rdo hi)
 | .lens x=>x.rd
 | .lenq x=>x.rd
 | .beq _ x y=>x.rd++y.rd
 | .ext x _=>x.rd
 | .bld _ ps=>rdp ps
 | .lit _ _ xs=>rdl xs
 | .ltr _ _ xs=>rdl xs
 | .mkf _ a b=>rdl a++rdl b
 | .nlc x=>x.rd
 | .alc _=>[]
 | .box x=>x.rd
 | .st _ a x=>a.rd++x.rd
 | .app x y _ _ _=>x.rd++y.rd
 | .mks _ _ _ _ n=>n.rd
 | .mkm _ _ _ _ n=>n.rd
 | .mk0 _ _ _ n=>n.rd
 | .call _ xs=>rdl xs
 | .callv g xs=>g.rd++rdl xs
 | .callH _ xs=>rdl xs
 | .mki _ x=>x.rd
 | .tya _ _ _ x=>x.rd
 | .aeq _ _ x y=>x.rd++y.rd
 | .mkp _=>[]
 | .lkp _ _ _ x k=>x.rd++k.rd
 | .mup _ x k v=>x.rd++(k.rd++v.rd)
 | .inv _ x xs=>x.rd++rdl xs
 | .ivp _ x xs=>x.rd++rdl xs
 | .mm _ x y=>x.rd++y.rd
 | .trc x hi _=>x.rd++hi.rd
 | .alq _=>[]
 | .bxq x=>x.rd
 | .cvb x=>x.rd
 | .apz y _ _ _=>y.rd
 | .sbq y=>y.rd
 | .aps x y _=>x.rd++y.rd
 | .apb x y _=>x.rd++y.rd
 | .alb _ _ _=>[]
 | .usd x=>x.rd
 | .ust p n _=>p.rd++n.rd
 | .del _ x k=>x.rd++k.rd
 | .mkq _ _ _ _ n=>n.rd
 | .nlq _ _ x=>x.rd
 | .yld g xs=>g.rd++rdl xs
 | .rgs x=>x.rd
 | .nxs x=>x.rd
 | .bad=>[]
def gT:AO->Nat
 | .v (.nil _)=>2
 |_=>3
theorem My(x:AO):2<=gT x:=by unfold gT;split<;>decide
def Act'.kind:Act'->Nat
 | .fa _ _=>1
 | .ia _ _ _=>1
 | .iaa _ _ _ _=>1
 | .ld _ _ _=>1
 | .b2s _=>1
 | .lenq _=>1
 | .nlc _=>1
 | .call _ _=>1
 | .callv _ _=>1
 | .alc _=>2
 | .box _=>2
 | .mks _ _ _ _ _=>2
 | .mkm _ _ _ _ _=>2
 | .mk0 _ _ _ _=>2
 | .st _ _ _=>3
 | .callH _ _=>3
 | .lkp _ _ _ _ _=>1
 | .mkp _=>2
 | .mup _ _ _ _=>3
 | .inv _ _ _=>3
 | .ivp _ _ _=>3
 | .trc _ _ _=>3
 | .alq _=>3
 | .bxq _=>3
 | .cvb _=>3
 | .apz _ _ _ _=>1
 | .sbq _=>3
 | .aps _ _ _=>3
 | .apb _ _ _=>3
 | .alb _ _ _=>3
 | .usd _=>1
 | .ust _ _ _=>3
 | .del _ _ _=>3
 | .mkq _ _ _ _ _=>3
 | .ltr _ _ _=>3
 | .yld _ _=>3
 | .rgs _=>2
 | .nxs _=>3
 | .nlq _ _ _=>1
 | .app x _ _ _ _=>gT x
 |_=>0
def AOp.rds(o:AOp):List Nat:=o.a.rds++(match o.g with
 |none=>[]
 |some (t,_)=>[t])
def Agr(σ σ':St)(rs:List Nat):Prop:=∀t,t∈rs->lk σ'.r t=lk σ.r t
def Ext(σ σ':St):Prop:=∀(id:Nat)(ob:Ob),σ.h[id]?=some (some ob)->σ'.h[id]?=some (some ob)
section
variable{σ σ':St}
theorem Agr.sub{rs ss:List Nat}(h:Agr σ σ' rs)(hs:∀t,t∈ss->t∈rs):Agr σ σ' ss:=fun t ht=>h t (hs t ht)
theorem Agr.l{rs ss:List Nat}(h:Agr σ σ' (rs++ss)):Agr σ σ' rs:=h.sub fun t ht=>zCh _ ht
theorem Agr.r{rs ss:List Nat}(h:Agr σ σ' (rs++ss)):Agr σ σ' ss:=h.sub fun t ht=>List.mem_append_right _ ht
theorem Agr.ev{x:AO}(h:Agr σ σ' x.rd):σ'.ev x=σ.ev x:=by
 cases x with
 |t n=>exact h n (by simp[AO.rd])
 |v x=>rfl
theorem Agr.evo{d:V}{x:Option AO}(h:Agr σ σ' (rdo x)):σ'.evo d x=σ.evo d x:=by
 cases x with
 |none=>rfl
 |some x=>exact Agr.ev (x:=x) h
theorem Agr.evs:∀{xs:List AO},Agr σ σ' (rdl xs)->σ'.evs xs=σ.evs xs
 |[],_=>rfl
 |x::xs,h=>by simp only[St.evs,Agr.ev (Agr.l h),Agr.evs (Agr.r h)]
theorem Agr.bldV:∀{ps:List (Nat×Nat×AO)}{cs:List V},Agr σ σ' (rdp ps)->bldV σ' cs ps=bldV σ cs ps
 |[],_,_=>rfl
 |(off,n,x)::ps,cs,h=>by
   simp only[Abs.bldV,Agr.ev (Agr.l h)];cases σ.ev x with
   |none=>rfl
   |some v=>
     simp only;split
     ·cases iE cs off (cl v)with
      |none=>rfl
      |some cs'=>exact Agr.bldV (Agr.r h)
     ·rfl
theorem Ext.box(h:Ext σ σ'){id cs}(hb:σ.box? id=some cs):σ'.box? id=some cs:=by
 simp only[St.box?,h _ _ (gS hb)]
theorem Ext.arr(h:Ext σ σ'){id x}(hb:σ.arr? id=some x):σ'.arr? id=some x:=by
 simp only[St.arr?,h _ _ (dT hb)]
theorem Ext.mat(h:Ext σ σ'){id x}(hb:σ.rws? id=some x):σ'.rws? id=some x/\σ'.arr? id=none:=by
 constructor
 ·simp only[St.rws?,h _ _ (eY hb)]
 ·simp only[St.arr?,h _ _ (eY hb)]
theorem Ext.mp(h:Ext σ σ'){id x}(hb:σ.mp? id=some x):σ'.mp? id=some x:=by
 simp only[St.mp?,h _ _ (vD hb)]
theorem Yk{ms:List Po}(h:σ.h[0]?=some (some (.pool ms))):σ.pl?=some ms:=by
 unfold St.pl?;cases hh:σ.h with
 |nil=>rw[hh]at h;simp at h
 |cons a l=>rw[hh]at h;simp at h;subst h;rfl
theorem Ext.pl(h:Ext σ σ'){ms}(hb:σ.pl?=some ms):σ'.pl?=some ms:=Yk (h _ _ (bJ hb))
theorem Ext.live(h:Ext σ σ'){v:V}(hv:σ.live v=true):σ'.live v=true:=by
 cases v<;>simp only[St.live]at hv⊢<;>try assumption
 case ptr id off=>
  obtain⟨cs,hc⟩:=Option.isSome_iff_exists.1 hv;rw[h.box hc];rfl
 case eptr id n i off=>
  split at hv
  ·rename_i e sz l hl
   rw[h.arr hl];exact hv
  ·cases hv
 case mptr id i n k off=>
  split at hv
  ·rename_i e e2 sz l hl
   rw[(h.mat hl).1];exact hv
  ·cases hv
 case q k j n i o=>
  split at hv
  ·rename_i ms hms
   rw[h.pl hms];exact hv
  ·cases hv
 case fn f a b=>cases f<;>exact hv
theorem Ext.fetch(h:Ext σ σ'){p:V}{n:Nat}{us:List V}(hv:σ.fetch p n=some us):σ'.fetch p n=some us:=by
 cases p<;>simp only[St.fetch]at hv⊢<;>try assumption
 case ptr id off=>
  split at hv
  ·rename_i cs hc;rw[h.box hc];exact hv
  ·cases hv
 case eptr id m i off=>
  split at hv
  ·rename_i e sz l hl;rw[h.arr hl];exact hv
  ·split at hv
   ·rename_i e e2 sz l hl;simp only[(h.mat hl).1,(h.mat hl).2];exact hv
   ·cases hv
 case mptr id i n k off=>
  split at hv
  ·rename_i e e2 sz l hl
   rw[(h.mat hl).1];exact hv
  ·cases hv
 case q k j m i o=>
  split at hv
  ·rename_i ms hms
   rw[h.pl hms];exact hv
  ·cases hv
theorem Ext.pur1(h:Ext σ σ'){id n:Nat}{u:V}(hv:pur1 σ.h id n=some u):pur1 σ'.h id n=some u:=by
 unfold Abs.pur1 at hv⊢;split at hv
 ·rename_i hb;rw[h _ _ hb];exact hv
 ·rename_i hb;rw[h _ _ hb];exact hv
 ·cases hv
theorem Ext.pur2(h:Ext σ σ'){id i n:Nat}{u:V}(hv:pur2 σ.h id i n=some u):pur2 σ'.h id i n=some u:=by
 unfold Abs.pur2 at hv⊢;split at hv
 ·rename_i hb;rw[h _ _ hb];exact hv
 ·cases hv
mutual
theorem Ext.pur(h:Ext σ σ'):∀{v u:V},pur σ.h v=some u->pur σ'.h v=some u
 | .nil sz,_,hv=>by simp only[Abs.pur]at hv⊢;exact hv
 | .ref id n,_,hv=>by simp only[Abs.pur]at hv⊢;exact h.pur1 hv
 | .mref id i n,_,hv=>by simp only[Abs.pur]at hv⊢;exact h.pur2 hv
 | .fseq _ _,_,hv=>by simp only[Abs.pur]at hv⊢;exact hv
 | .mptr _ _ _ _ _,_,hv=>by simp only[Abs.pur]at hv;cases hv
 | .strct cs,_,hv=>by
   simp only[Abs.pur,zAc]at hv⊢;obtain⟨us,h1,h2⟩:=hv;exact⟨us,Ext.purs h h1,h2⟩
 | .tup cs,_,hv=>by
   simp only[Abs.pur,zAc]at hv⊢;obtain⟨us,h1,h2⟩:=hv;exact⟨us,Ext.purs h h1,h2⟩
 | .fn f a b,_,hv=>by
   simp only[Abs.pur]at hv⊢;split at hv
   ·rename_i a' b' h1 h2;rw[Ext.purs h h1,Ext.purs h h2];exact hv
   ·cases hv
 | .iface t x,_,hv=>by
   simp only[Abs.pur,zAc]at hv⊢;obtain⟨us,h1,h2⟩:=hv;exact⟨us,Ext.pur h h1,h2⟩
 | .ptr _ _,_,hv=>by simp only[Abs.pur]at hv;cases hv
 | .eptr _ _ _ _,_,hv=>by simp only[Abs.pur]at hv;cases hv
 | .int _ _,_,hv=>by simp only[Abs.pur]at hv⊢;exact hv
 | .bool _,_,hv=>by simp only[Abs.pur]at hv⊢;exact hv
 | .str _,_,hv=>by simp only[Abs.pur]at hv⊢;exact hv
 | .seq _ _,_,hv=>by simp only[Abs.pur]at hv⊢;exact hv
 | .sptr _ _,_,hv=>by simp only[Abs.pur]at hv⊢;exact hv
 | .nilptr,_,hv=>by simp only[Abs.pur]at hv⊢;exact hv
 | .nilfn,_,hv=>by simp only[Abs.pur]at hv⊢;exact hv
 | .nilmp,_,hv=>by simp only[Abs.pur]at hv⊢;exact hv
 | .niliface,_,hv=>by simp only[Abs.pur]at hv⊢;exact hv
 | .junk,_,hv=>by simp only[Abs.pur]at hv⊢;exact hv
theorem Ext.purs(h:Ext σ σ'):∀{v u:List V},purs σ.h v=some u->purs σ'.h v=some u
 |[],_,hv=>by simp only[Abs.purs]at hv⊢;exact hv
 |v::vs,_,hv=>by
   simp only[Abs.purs]at hv⊢;split at hv
   ·rename_i a' b' h1 h2;rw[Ext.pur h h1,Ext.purs h h2];exact hv
   ·cases hv
end
theorem Uq{a:Act'}(hk:a.kind=0)(h:Agr σ σ' a.rds):σ'.val a=σ.val a:=by
 cases a<;>simp only[Act'.kind]at hk<;>first|exact absurd hk (by decide)|skip
 all_goals simp only[Act'.rds]at h
 all_goals simp only[St.val]
 case mov x=>exact h.ev
 case pick c a b=>rw[h.l.ev,h.r.l.ev,h.r.r.ev]
 case fld=>rw[h.ev]
 case ixs=>rw[h.l.ev,h.r.ev]
 case ixa=>rw[h.l.ev,h.r.ev]
 case bin=>rw[h.l.ev,h.r.ev]
 case un=>rw[h.ev]
 case cii=>rw[h.ev]
 case r2s=>rw[h.ev]
 case sls=>simp only[h.l.ev,h.r.l.evo,h.r.r.evo]
 case slq=>simp only[h.l.ev,h.r.l.evo,h.r.r.evo]
 case lens=>rw[h.ev]
 case beq=>rw[h.l.ev,h.r.ev]
 case ext=>rw[h.ev]
 case bld=>rw[h.bldV]
 case mkf=>rw[h.l.evs,h.r.evs]
 case mki=>rw[h.ev]
 case tya=>rw[h.ev]
 case aeq=>rw[h.l.ev,h.r.ev]
 case mm=>rw[h.l.ev,h.r.ev]
theorem Ext.isNil(h:Ext σ σ'){k:Nat}{v:V}{b:Bool}(hb:St.isNil k (σ.live v) v=some b):St.isNil k (σ'.live v) v=some b:=by
 cases hl:σ.live v with
 |true=>rw[h.live hl];rw[hl]at hb;exact hb
 |false=>
   rw[hl]at hb;cases v<;>simp[St.isNil]at hb⊢<;>exact hb
theorem Ext.isNilB(h:Ext σ σ'){k:Nat}{v:V}{b:Bool}(hb:(if k=3 then St.isNilM σ v else St.isNil k (σ.live v) v)=some b):(if k=3 then St.isNilM σ' v else St.isNil k (σ'.live v) v)=some b:=by
 by_cases hk:k=3
 ·rw[if_pos hk]at hb⊢
  cases v<;>simp only[St.isNilM]at hb⊢<;>first|exact hb|skip
  split at hb
  ·rename_i hm
   cases hq:σ.mp? _ with
   |none=>rw[hq]at hm;simp at hm
   |some q=>
     obtain⟨kt,l⟩:=q;rw[h.mp hq];exact hb
  ·cases hb
 ·rw[if_neg hk]at hb⊢
  exact h.isNil hb
theorem NT{a:Act'}(hk:a.kind=1)(h:Agr σ σ' a.rds)(hx:Ext σ σ'){v:V}(hv:σ.val a=some v):σ'.val a=some v:=by
 cases a<;>simp only[Act'.kind]at hk<;>first|exact absurd hk (by decide)|skip
 all_goals simp only[Act'.rds]at h
 all_goals simp only[St.val]at hv⊢
 case call=>cases hv
 case callv=>cases hv
 case app=>cases hv
 case apz=>cases hv
 case usd=>cases hv
 case fa x off=>
  rw[h.ev];split at hv
  ·rename_i u hu
   split at hv
   ·rename_i hl;rw[if_pos (hx.live hl)];exact hv
   ·cases hv
  ·cases hv
 case ia x i sz=>
  rw[h.l.ev,h.r.ev];split at hv
  ·exact hv
  ·exact hv
  ·rename_i id m k n h1 h2
   split at hv
   ·rename_i e sz' l hl;rw[hx.arr hl];exact hv
   ·split at hv
    ·rename_i e e2 sz l hl;simp only[(hx.mat hl).1,(hx.mat hl).2];exact hv
    ·cases hv
  ·split at hv
   ·rename_i e e2 sz l hl;rw[(hx.mat hl).1];exact hv
   ·cases hv
  ·split at hv
   ·rename_i ms hms;rw[hx.pl hms];exact hv
   ·cases hv
  ·cases hv
 case iaa x i len sz=>
  rw[h.l.ev,h.r.ev];split at hv
  ·rename_i u k n h1 h2
   split at hv
   ·rename_i hl;rw[if_pos ⟨hx.live hl.1,hl.2⟩];exact hv
   ·cases hv
  ·cases hv
 case ld x n agg=>
  rw[h.ev];split at hv
  ·rename_i p hp
   split at hv
   ·rename_i us hus;simp only[hx.fetch hus];exact hv
   ·cases hv
  ·cases hv
 case b2s x=>
  rw[h.ev];split at hv
  ·split at hv
   ·rename_i ms hms;simp only[hx.pl hms];exact hv
   ·cases hv
  ·rename_i u _ hu
   split at hv
   ·rename_i l hl;simp only[hx.pur hl];exact hv
   ·cases hv
  ·cases hv
 case lenq x=>
  rw[h.ev];split at hv
  ·exact hv
  ·exact hv
  ·exact hv
  ·rename_i id n hu
   split at hv
   ·rename_i e sz l hl;simp only[hx.arr hl];exact hv
   ·split at hv
    ·rename_i e e2 sz l hl;simp only[(hx.mat hl).1,(hx.mat hl).2];exact hv
    ·cases hv
  ·split at hv
   ·rename_i e e2 sz l hl;simp only[(hx.mat hl).1];exact hv
   ·cases hv
  ·split at hv
   ·rename_i ms hms;simp only[hx.pl hms];exact hv
   ·cases hv
  ·cases hv
 case nlc x=>
  rw[h.ev];split at hv
  ·rename_i u hu
   split at hv
   ·rename_i hl;rw[if_pos (hx.live hl)];exact hv
   ·cases hv
  ·cases hv
 case nlq k neg x=>
  rw[h.ev];split at hv
  ·rename_i u hu
   split at hv
   ·rename_i b hb;simp only[hx.isNilB hb];exact hv
   ·cases hv
  ·cases hv
 case lkp kt z okk x k=>
  rw[h.l.ev,h.r.ev];split at hv
  ·rename_i id n kv h1 h2
   split at hv
   ·rename_i kt' l hm
    simp only[hx.mp hm];exact hv
   ·cases hv
  ·exact hv
  ·cases hv
def aaq(k:Nat)(σ σ':St):Prop:=k=0\/(k=1/\Ext σ σ')\/σ'.h=σ.h
def post(k:Nat)(σ':St)(h':List (Option Ob))(d:Option Nat)(v:V):St:=St.put { σ' with h:=if k<=1 then σ'.h else h' } d v
def Kl(T:(St->Prop)->St->Prop)(k:Nat)(rs:List Nat)(d:Option Nat)(σ:St)(K:St->Prop):Prop:=
 ∃h' v,(k<=1->h'=σ.h)/\(k=2->∀(id:Nat)(ob:Ob),σ.h[id]?=some (some ob)->h'[id]?=some (some ob))/\K (St.put { σ with h:=h' } d v)/\
   ∀(σ':St)(K':St->Prop),Agr σ σ' rs->aaq k σ σ'->K' (post k σ' h' d v)->T K' σ'
theorem aaq.ext{k:Nat}(h:aaq k σ σ')(hk:k=1):Ext σ σ':=by
 rcases h with h|h|h
 ·omega
 ·exact h.2
 ·intro i ob h';rw[h];exact h'
theorem aaq.heq{k:Nat}(h:aaq k σ σ')(hk:2<=k):σ'.h=σ.h:=by
 rcases h with h|h|h
 ·omega
 ·omega
 ·exact h
variable{Φ:Ctr}{d:Option Nat}{K:St->Prop}
theorem NQ{a:Act'}{v:V}(h:σ.val a=some v)(hK:K (σ.put d v))(hk:a.kind<=1):ai Φ d a K σ:=by
 cases a<;>simp only[ai,af]<;>simp only[Act'.kind]at hk<;>first|(simp only[h];exact hK)|(exfalso;revert hk;decide)|(simp[St.val]at h)
theorem Sp{a:Act'}(hk:a.kind<=1){v:V}(h:σ.val a=some v)(hK:K (σ.put d v)):Kl (ai Φ d a) a.kind a.rds d σ K:=by
 refine⟨σ.h,v,fun _=>rfl,fun _ _ _ h=>h,hK,fun σ' K' ha hf hK'=>?_⟩;simp only[post,if_pos hk]at hK';refine NQ (v:=v) ?_ hK' hk;rcases Nat.le_one_iff_eq_zero_or_eq_one.1 hk with h0|h1
 ·rw[Uq h0 ha];exact h
 ·exact NT h1 ha (hf.ext h1) h
theorem cc{α:Type}{l:List α}{x y:α}{i:Nat}(h:l[i]?=some x):(l++[y])[i]?=some x:=by
 rw[zCc (zAf.1 h).1];exact h
theorem RP(r:List (Nat×V)):∀(ids:List Nat)(σ:St),({ σ with r:=r }:St).kill ids={ (σ.kill ids)with r:=r }
 |[],σ=>rfl
 |id::ids,σ=>by simp only[St.kill];exact RP r ids { σ with h:=σ.h.set id none }
theorem UB(r:List (Nat×V))(σ:St)(n id m i off:Nat)(us:List V):({ σ with r:=r }:St).storM n id m i off us=(σ.storM n id m i off us).map fun τ=>{ τ with r:=r }:=by
 have e1:∀id,St.arr? { σ with r:=r } id=σ.arr? id:=fun _=>rfl
 have e2:∀id,St.rws? { σ with r:=r } id=σ.rws? id:=fun _=>rfl
 unfold St.storM;split
 ·simp only[e1,e2]
  split
  ·split
   ·split<;>rfl
   ·rfl
  ·rfl
 ·rfl
theorem QL(r:List (Nat×V))(σ:St)(n:Nat)(p:V)(us:List V):({ σ with r:=r }:St).stor n p us=(σ.stor n p us).map fun τ=>{ τ with r:=r }:=by
 have e1:∀(τ:St)id,St.arr? { τ with r:=r } id=τ.arr? id:=fun _ _=>rfl
 have e2:∀(τ:St)id,St.rws? { τ with r:=r } id=τ.rws? id:=fun _ _=>rfl
 have e3:∀(τ:St)id,St.box? { τ with r:=r } id=τ.box? id:=fun _ _=>rfl
 have e4:∀(τ:St),St.pl? { τ with r:=r }=τ.pl?:=fun _=>rfl
 cases p<;>simp only[St.stor,RP,e1,e2,e3,e4,UB]<;>try rfl
 ·split
  ·split
   ·split<;>rfl
   ·rfl
  ·rfl
 ·split
  ·split
   ·split
    ·split
     ·split
      ·split<;>rfl
      ·rfl
     ·rfl
    ·rfl
   ·rfl
  ·rfl
 ·split
  ·split
   ·split
    ·split
     ·split
      ·split
       ·split<;>rfl
       ·rfl
      ·rfl
     ·rfl
    ·rfl
   ·rfl
  ·rfl
 ·split
  ·split
   ·split
    ·split<;>rfl
    ·rfl
   ·split
    ·split
     ·split
      ·split<;>rfl
      ·rfl
     ·rfl
    ·rfl
   ·split
    ·split<;>rfl
    ·rfl
   ·rfl
  ·rfl
theorem UA(σ:St)(n:Nat)(p:V)(us:List V){τ:St}(h:σ.stor n p us=some τ):τ.r=σ.r:=by
 have h1:=QL σ.r σ n p us;have h2:({ σ with r:=σ.r }:St)=σ:=rfl
 rw[h2,h]at h1;simp only[zBd,zAb]at h1;rw[h1]
theorem aY{σ σ':St}(he:σ'.h=σ.h)(v:V):σ'.cur0 v=σ.cur0 v:=by
 cases v<;>simp only[St.cur0,St.box?,St.arr?,St.gh?,St.pl?,he]
mutual
theorem vX{σ σ':St}(he:σ'.h=σ.h):∀v:V,σ'.cur v=σ.cur v
 | .fn _ a b=>by simp only[St.cur,j5 he a,j5 he b]
 | .strct a=>by simp only[St.cur,j5 he a]
 | .tup a=>by simp only[St.cur,j5 he a]
 | .iface _ x=>by simp only[St.cur,vX he x]
 | .int _ _=>by simp only[St.cur,aY he]
 | .bool _=>by simp only[St.cur,aY he]
 | .str _=>by simp only[St.cur,aY he]
 | .nil _=>by simp only[St.cur,aY he]
 | .seq _ _=>by simp only[St.cur,aY he]
 | .fseq _ _=>by simp only[St.cur,aY he]
 | .sptr _ _=>by simp only[St.cur,aY he]
 | .nilptr=>by simp only[St.cur,aY he]
 | .nilfn=>by simp only[St.cur,aY he]
 | .nilmp=>by simp only[St.cur,aY he]
 | .niliface=>by simp only[St.cur,aY he]
 | .junk=>by simp only[St.cur,aY he]
 | .mref _ _ _=>by simp only[St.cur,aY he]
 | .mptr _ _ _ _ _=>by simp only[St.cur,aY he]
 | .ref _ _=>by simp only[St.cur,aY he]
 | .ptr _ _=>by simp only[St.cur,aY he]
 | .eptr _ _ _ _=>by simp only[St.cur,aY he]
 | .q _ _ _ _ _=>by simp only[St.cur,aY he]
theorem j5{σ σ':St}(he:σ'.h=σ.h):∀v:List V,σ'.curA v=σ.curA v
 |[]=>rfl
 |v::vs=>by simp only[St.curA,vX he v,j5 he vs]
end
theorem AQ{σ σ':St}(he:σ'.h=σ.h):∀l:List V,σ'.curs l=σ.curs l
 |[]=>rfl
 |v::l=>by simp only[St.curs,vX he,AQ he l]
theorem zt:∀(l:List Nat){σ σ':St},σ'.h=σ.h->(σ'.kill l).h=(σ.kill l).h
 |[],_,_,he=>he
 |id::l,σ,σ',he=>by
   simp only[St.kill];exact zt l (by simp only[he])
theorem Mt{σ σ':St}(he:σ'.h=σ.h){q:Nat}{m:List Nat}{H':List (Option Ob)}:σ'.back q m H'=σ.back q m H':=by
 simp only[St.back,zt m he,he]
theorem wM:∀(ids:List Nat){σ σ':St},σ'.h=σ.h->(σ'.kill ids).h=(σ.kill ids).h
 |[],_,_,he=>he
 |id::ids,σ,σ',he=>by
   simp only[St.kill];exact wM ids (by simp only[he])
theorem Ext.src(h:Ext σ σ'){v u:V}(hv:src σ.h v=some u):src σ'.h v=some u:=by
 cases v<;>simp only[Abs.src]at hv⊢<;>try exact h.pur hv
 split at hv
 ·rename_i e sz l hl;rw[h _ _ hl];exact hv
 ·cases hv
theorem yA{a:Act'}(h:ai Φ d a K σ):Kl (ai Φ d a) a.kind a.rds d σ K:=by
 cases a with
 |lit e0 sz xs=>
   simp only[ai]at h;split at h
   ·rename_i vs hvs
    split at h
    ·rename_i us hus
     refine⟨σ.h,.seq sz us,fun _=>rfl,fun _ _ _ h=>h,h.2.2,fun σ' K' ha hf hK'=>?_⟩;simp only[Act'.rds]at ha;simp only[ai,ha.evs,hvs,hus];exact⟨h.1,h.2.1,hK'⟩
    ·exact h.elim
   ·exact h.elim
 |call f xs=>
   simp only[ai]at h;split at h
   ·rename_i vs hvs
    split at h
    ·rename_i us hus
     obtain⟨r,h1,h3⟩:=h;refine⟨σ.h,r,fun _=>rfl,fun _ _ _ h=>h,h3,fun σ' K' ha hf hK'=>?_⟩;simp only[Act'.rds]at ha;simp only[ai,ha.evs,hvs,(hf.ext rfl).purs hus];exact zCj r ⟨h1,hK'⟩
    ·exact h.elim
   ·exact h.elim
 |callv g xs=>
   simp only[ai]at h;split at h
   ·rename_i f a b vs hg hvs
    split at h
    ·rename_i us hus
     obtain⟨r,h1,h3⟩:=h;refine⟨σ.h,r,fun _=>rfl,fun _ _ _ h=>h,h3,fun σ' K' ha hf hK'=>?_⟩;simp only[Act'.rds]at ha;simp only[ai,ha.l.ev,hg,ha.r.evs,hvs,(hf.ext rfl).purs hus];exact zCj r ⟨h1,hK'⟩
    ·exact h.elim
   ·exact h.elim
 |alc z=>
   simp only[ai,af]at h;refine⟨_,_,fun h=>absurd h (by simp[Act'.kind]),fun _ id ob h=>cc h,h,fun σ' K' ha hf hK'=>?_⟩
   simp only[ai,af];rw[hf.heq (by simp[Act'.kind])]
   exact hK'
 |box x=>
   simp only[ai,af]at h;split at h
   ·rename_i v hv
    split at h
    ·rename_i hn
     refine⟨_,_,fun h=>absurd h (by simp[Act'.kind]),fun _ id ob h=>cc h,h,fun σ' K' ha hf hK'=>?_⟩
     simp only[Act'.rds]at ha;simp only[ai,af,ha.ev,hv,if_pos hn];rw[hf.heq (by simp[Act'.kind])]
     exact hK'
    ·exact h.elim
   ·exact h.elim
 |mkm e by' e2 sz n=>
   simp only[ai,af]at h;split at h
   ·rename_i k m hm
    obtain⟨h1,h2,h3⟩:=h;refine⟨_,_,fun h=>absurd h (by simp[Act'.kind]),fun _ id ob h=>cc h,h3,fun σ' K' ha hf hK'=>?_⟩
    simp only[Act'.rds]at ha;simp only[ai,af,ha.ev,hm];rw[hf.heq (by simp[Act'.kind])]
    exact⟨h1,h2,hK'⟩
   ·exact h.elim
 |mk0 e sz by' n=>
   simp only[ai,af]at h;split at h
   ·rename_i k m hm
    obtain⟨h1,h2,h3⟩:=h;refine⟨_,_,fun h=>absurd h (by simp[Act'.kind]),fun _ id ob h=>cc h,h3,fun σ' K' ha hf hK'=>?_⟩
    simp only[Act'.rds]at ha;simp only[ai,af,ha.ev,hm];rw[hf.heq (by simp[Act'.kind])]
    exact⟨h1,h2,hK'⟩
   ·exact h.elim
 |mks e sz by' z n=>
   simp only[ai,af]at h;split at h
   ·rename_i k m hm
    obtain⟨h1,h2,h3⟩:=h;refine⟨_,_,fun h=>absurd h (by simp[Act'.kind]),fun _ id ob h=>cc h,h3,fun σ' K' ha hf hK'=>?_⟩
    simp only[Act'.rds]at ha;simp only[ai,af,ha.ev,hm];rw[hf.heq (by simp[Act'.kind])]
    exact⟨h1,h2,hK'⟩
   ·exact h.elim
 |s2b x=>
   simp only[ai,af]at h;split at h
   ·rename_i s hs
    refine⟨σ.h,_,fun _=>rfl,fun _ _ _ h=>h,h.2,fun σ' K' ha hf hK'=>?_⟩;simp only[Act'.rds]at ha;simp only[ai,af,ha.ev,hs];exact⟨h.1,hK'⟩
   ·exact h.elim
 |st n p x=>
   simp only[ai,af]at h;split at h
   ·rename_i a v ha hv
    split at h
    ·rename_i hn
     split at h
     ·rename_i σ1 hs
      have hr:σ1.r=σ.r/\∀σ':St,σ'.h=σ.h->σ'.stor n a (cl v)=some { σ' with h:=σ1.h }:=by
       refine⟨UA _ _ _ _ hs,fun σ' he=>?_⟩;have h1:=QL σ'.r σ n a (cl v);have h2:({ σ with r:=σ'.r }:St)=σ':=by rw[<-he]
       rw[h2,hs]at h1;rw[h1,zBd]
      refine⟨σ1.h,.tup [],fun h=>absurd h (by simp[Act'.kind]),fun h=>absurd h (by simp[Act'.kind]),?_,fun σ' K' hg hf hK'=>?_⟩
      ·have:({ σ with h:=σ1.h }:St)=σ1:=by rw[<-hr.1]
       rw[this];exact h
      ·simp only[Act'.rds]at hg
       simp only[ai,af,hg.l.ev,ha,hg.r.ev,hv,if_pos hn,hr.2 σ' (hf.heq (by simp[Act'.kind]))]
       exact hK'
     ·exact h.elim
    ·exact h.elim
   ·exact h.elim
 |app x y e sz by'=>
   have hk2:∀y' e' sz' b',2<=(Act'.app x y' e' sz' b').kind:=fun _ _ _ _=>My x;have hne:¬(Act'.app x y e sz by').kind<=1:=by have:=hk2 y e sz by';omega
   simp only[ai]at h;split at h
   ·rename_i vy hvy
    split at h
    ·exact h.elim
    rename_i hbad;have hbad:qf x vy=false:=by simpa using hbad
    simp only[af]at h;split at h
    ·rename_i k j n i0 o0 v hu hv
     rw[hvy]at hv;cases hv;unfold G2 at h;split at h
     ·rename_i ms hms
      split at h
      ·rename_i e1 sz1 l0 l hj hsrc
       obtain⟨h1,h2,h3,h4,h5,h6⟩:=h
       have hn2:(Act'.app x y e sz by').kind≠2:=by
        cases x with
        |t n=>simp[Act'.kind,gT]
        |v x=>
          simp only[St.ev,zAb]at hu;subst hu;simp[Act'.kind,gT]
       refine⟨_,_,fun h=>absurd h hne,fun h=>absurd h hn2,h6,fun σ' K' hg hf hK'=>?_⟩;simp only[post,if_neg hne]at hK';simp only[Act'.rds]at hg;have he:=hf.heq (hk2 y e sz by');have hms':σ'.pl?=some ms:=by simp only[St.pl?,he];exact hms
       have hsrc':Bg σ' ms sz vy=some l:=by
        rw[<-hsrc];cases vy<;>simp only[Bg,QT,he]
       simp only[ai,hg.r.ev,hvy,hbad,zBe,if_false,af,hg.l.ev,hu,G2,hms',hj,hsrc'];refine⟨h1,h2,h3,h4,h5,?_⟩;simp only[St.setP,he];exact hK'
      ·exact h.elim
     ·exact h.elim
    ·rename_i s0 k j n i0 o0 hu hv
     rw[hvy]at hv;cases hv;unfold G3 at h;split at h
     ·rename_i ms hms
      split at h
      ·rename_i e1 sz1 l hj
       obtain⟨h1,h2,h3,h4,h5⟩:=h
       have hn2:(Act'.app x y e sz by').kind≠2:=by
        cases x with
        |t n=>simp[Act'.kind,gT]
        |v x=>
          simp only[St.ev,zAb]at hu;subst hu;simp[qf]at hbad
       refine⟨_,_,fun h=>absurd h hne,fun h=>absurd h hn2,h5,fun σ' K' hg hf hK'=>?_⟩;simp only[post,if_neg hne]at hK';simp only[Act'.rds]at hg;have he:=hf.heq (hk2 y e sz by');have hms':σ'.pl?=some ms:=by simp only[St.pl?,he];exact hms
       simp only[ai,hg.r.ev,hvy,hbad,zBe,if_false,af,hg.l.ev,hu,G3,hms',hj];refine⟨h1,h2,h3,h4,?_⟩;simp only[St.setP,he];exact hK'
      ·exact h.elim
     ·exact h.elim
    rotate_left
    ·exact h.elim
    rename_i u v hn1 hn2' hu hv;rw[hvy]at hv;cases hv;have hv:=hvy;split at h
    ·rename_i sz' l hl
     obtain⟨h0,h⟩:=h;split at h
     ·rename_i sz2
      refine⟨_,_,fun h=>absurd h (by have:=hk2 y e sz by';omega),fun _ id ob h=>cc h,h.2,fun σ' K' hg hf hK'=>?_⟩
      simp only[post,if_neg hne]at hK';simp only[Act'.rds]at hg;have he:=hf.heq (hk2 y e sz by');simp only[ai,hg.r.ev,hv,hbad,zBe,if_false,af,hg.l.ev,hu];rw[he];simp only[hl];exact⟨h0,h.1,hK'⟩
     ·rename_i id n
      split at h
      ·rename_i e' sz2 l0 ha
       obtain⟨h1,h2,h3,h4,h5⟩:=h
       have hn2:(Act'.app x y e sz by').kind≠2:=by
        cases x with
        |t n=>simp[Act'.kind,gT]
        |v x=>
          simp only[St.ev,zAb]at hu;subst hu;simp[Act'.kind,gT]
       refine⟨_,_,fun h=>absurd h hne,fun h=>absurd h hn2,h5,fun σ' K' hg hf hK'=>?_⟩;simp only[post,if_neg hne]at hK';simp only[Act'.rds]at hg;have he:=hf.heq (hk2 y e sz by');have ha':σ'.arr? id=some (e',sz2,l0):=by simp only[St.arr?,he];exact ha
       simp only[ai,hg.r.ev,hv,hbad,zBe,if_false,af,hg.l.ev,hu,ha'];rw[he];simp only[hl];exact⟨h0,h1,h2,h3,h4,hK'⟩
      ·exact h.elim
     ·rename_i id i n
      split at h
      ·rename_i e1 e2 sz2 rows ha
       split at h
       ·rename_i r hr
        obtain⟨h1,h2,h3,h4,h5⟩:=h
        have hn2:(Act'.app x y e sz by').kind≠2:=by
         cases x with
         |t n=>simp[Act'.kind,gT]
         |v x=>
           simp only[St.ev,zAb]at hu;subst hu;simp[Act'.kind,gT]
        refine⟨_,_,fun h=>absurd h hne,fun h=>absurd h hn2,h5,fun σ' K' hg hf hK'=>?_⟩;simp only[post,if_neg hne]at hK';simp only[Act'.rds]at hg;have he:=hf.heq (hk2 y e sz by');have ha':σ'.rws? id=some (e1,e2,sz2,rows):=by simp only[St.rws?,he];exact ha
        simp only[ai,hg.r.ev,hv,hbad,zBe,if_false,af,hg.l.ev,hu,ha',hr];rw[he];simp only[hl];exact⟨h0,h1,h2,h3,h4,hK'⟩
       ·exact h.elim
      ·exact h.elim
     ·exact h.elim
    ·exact h.elim
   ·exact h.elim
 |callH f xs=>
   simp only[ai]at h;split at h
   ·rename_i vs hvs
    obtain⟨ps,h1,r,H',h2,h3,h4⟩|⟨r,hz,h4⟩:=h
    ·refine⟨_,_,fun h=>absurd h (by simp[Act'.kind]),fun h=>absurd h (by simp[Act'.kind]),h4,fun σ' K' ha hf hK'=>?_⟩
     simp only[Act'.rds]at ha;have he:=hf.heq (show 2<=(Act'.callH f xs).kind by simp[Act'.kind])
     simp only[ai,ha.evs,hvs];refine .inl ⟨ps,by rw[AQ he];exact h1,r,H',by rw[he];exact h2,by rw[he];exact h3,?_⟩
     rw[he,Mt he];exact hK'
    ·refine⟨σ.h,r,fun _=>rfl,fun _ _ _ h=>h,h4,fun σ' K' ha hf hK'=>?_⟩
     simp only[Act'.rds]at ha;have he:=hf.heq (show 2<=(Act'.callH f xs).kind by simp[Act'.kind])
     simp only[ai,ha.evs,hvs];refine .inr ⟨r,?_,?_⟩
     ·unfold Kt St.pl? at hz⊢
      rwa[he]
     ·rw[<-he]at hK'
      exact hK'
   ·exact h.elim
 |inv tbl x xs=>
   simp only[ai]at h;split at h
   ·rename_i t v vs hx hvs
    split at h
    ·rename_i f hf'
     split at h
     ·rename_i us hus
      obtain⟨r,h1,h3⟩:=h;refine⟨σ.h,r,fun _=>rfl,fun _ _ _ h=>h,h3,fun σ' K' ha hf hK'=>?_⟩;simp only[Act'.rds]at ha;have he:=hf.heq (show 2<=(Act'.inv tbl x xs).kind by simp[Act'.kind])
      simp only[ai,ha.l.ev,hx,ha.r.evs,hvs,hf',he,hus];refine zCj r ⟨h1,?_⟩
      have:post (Act'.inv tbl x xs).kind σ' σ.h d r=St.put σ' d r:=by
       simp only[post,Act'.kind,show ¬(3<=1) by omega,if_false,<-he]
      rw[this]at hK';exact hK'
     ·exact h.elim
    ·exact h.elim
   ·exact h.elim
 |ivp tbl x xs=>exact(show False from h).elim
 |rgs x=>
   simp only[ai,af]at h;split at h
   ·rename_i s hs
    refine⟨_,_,fun h=>absurd h (by simp[Act'.kind]),fun _ id ob h=>cc h,h,fun σ' K' ha hf hK'=>?_⟩
    simp only[Act'.rds]at ha;simp only[ai,af,ha.ev,hs];rw[hf.heq (by simp[Act'.kind])]
    exact hK'
   ·exact h.elim
 |nxs x=>
   simp only[ai,af]at h;split at h
   ·rename_i id n hs
    split at h
    ·rename_i s p hi
     split at h
     ·rename_i hp
      refine⟨_,_,fun h=>absurd h (by simp[Act'.kind]),fun h=>absurd h (by simp[Act'.kind]),h,fun σ' K' ha hf hK'=>?_⟩
      simp only[Act'.rds]at ha;have he:=hf.heq (show 2<=(Act'.nxs x).kind by simp[Act'.kind])
      have hi':σ'.itr? id=some (s,p):=by simp only[St.itr?,he];exact hi
      simp only[ai,af,ha.ev,hs,hi',if_pos hp,he];exact hK'
     ·rename_i hp
      refine⟨σ.h,_,fun h=>absurd h (by simp[Act'.kind]),fun h=>absurd h (by simp[Act'.kind]),h,fun σ' K' ha hf hK'=>?_⟩
      simp only[Act'.rds]at ha;have he:=hf.heq (show 2<=(Act'.nxs x).kind by simp[Act'.kind])
      have hi':σ'.itr? id=some (s,p):=by simp only[St.itr?,he];exact hi
      simp only[ai,af,ha.ev,hs,hi',if_neg hp];simp only[post,show ¬(Act'.nxs x).kind<=1 by simp[Act'.kind],if_false]at hK'
      rw[<-he]at hK';exact hK'
    ·exact h.elim
   ·exact h.elim
 |yld g xs=>
   simp only[ai,af]at h;split at h
   ·rename_i id n vs hg hvs
    split at h
    ·rename_i v b l us hgh hus
     obtain⟨h1,h2,h3⟩:=h;refine⟨_,_,fun h=>absurd h (by simp[Act'.kind]),fun h=>absurd h (by simp[Act'.kind]),h3,fun σ' K' ha hf hK'=>?_⟩
     simp only[Act'.rds]at ha;have he:=hf.heq (show 2<=(Act'.yld g xs).kind by simp[Act'.kind])
     have hgh':σ'.gh? id=some ((v,b)::l):=by simp only[St.gh?,he];exact hgh
     simp only[ai,af,ha.l.ev,hg,ha.r.evs,hvs,hgh',he,hus];exact⟨h1,h2,hK'⟩
    ·exact h.elim
   ·exact h.elim
 |trc x hi sz=>exact(show False from h).elim
 |ltr e sz xs=>
   simp only[ai,af]at h;split at h
   ·rename_i vs hvs
    split at h
    ·rename_i us hus
     obtain⟨h1,h2,h3⟩:=h;rw[Nb]at h3;refine⟨(σ.kill (ak vs)).h++[some (Ob.arr e sz us)],.ref (σ.kill (ak vs)).h.length us.length,fun h=>absurd h (by simp[Act'.kind]),fun h=>absurd h (by simp[Act'.kind]),h3,fun σ' K' ha hf hK'=>?_⟩
     simp only[Act'.rds]at ha;have he:=hf.heq (show 2<=(Act'.ltr e sz xs).kind by simp[Act'.kind])
     have hk:(σ'.kill (ak vs)).h=(σ.kill (ak vs)).h:=wM _ he;simp only[ai,af,ha.evs,hvs,he,hus,hk,Nb];exact⟨h1,h2,hK'⟩
    ·rename_i hpn
     unfold BV at h;split at h
     ·rename_i ms us hms hus
      obtain⟨h1,h2,h3,h4⟩:=h;refine⟨_,_,fun h=>absurd h (by simp[Act'.kind]),fun h=>absurd h (by simp[Act'.kind]),h4,fun σ' K' ha hf hK'=>?_⟩
      simp only[Act'.rds]at ha;have he:=hf.heq (show 2<=(Act'.ltr e sz xs).kind by simp[Act'.kind])
      have hms':σ'.pl?=some ms:=by simp only[St.pl?,he];exact hms
      simp only[ai,af,ha.evs,hvs,he,hpn,BV,hms',hus];refine⟨h1,h2,h3,?_⟩;simp only[St.setP,he];exact hK'
     ·exact h.elim
   ·exact h.elim
 |apz y e sz by'=>
   simp only[ai,af]at h;split at h
   ·rename_i v hv
    split at h
    ·rename_i sz' l hl
     obtain⟨h1,h2,h3⟩:=h;refine⟨σ.h,.seq sz l,fun _=>rfl,fun _ _ _ h=>h,h3,fun σ' K' ha hf hK'=>?_⟩;simp only[Act'.rds]at ha;simp only[ai,af,ha.ev,hv,(hf.ext rfl).src hl];exact⟨h1,h2,hK'⟩
    ·exact h.elim
   ·exact h.elim
 |sbq y=>
   simp only[ai,af]at h;split at h
   ·rename_i s ms hs hms
    refine⟨_,_,fun h=>absurd h (by simp[Act'.kind]),fun h=>absurd h (by simp[Act'.kind]),h.2,fun σ' K' ha hf hK'=>?_⟩
    simp only[Act'.rds]at ha;have he:=hf.heq (show 2<=(Act'.sbq y).kind by simp[Act'.kind])
    have hms':σ'.pl?=some ms:=by simp only[St.pl?,he];exact hms
    simp only[ai,af,ha.ev,hs,hms'];refine⟨h.1,?_⟩;simp only[St.setP,he];exact hK'
   ·exact h.elim
 |aps x y e=>
   simp only[ai,af]at h;split at h
   ·rename_i k j n i0 o0 s hx hs
    unfold vd at h;split at h
    ·rename_i ms hms
     split at h
     ·rename_i e0 s0 hj
      obtain⟨h1,h2,h3,h4,h5⟩:=h;refine⟨_,_,fun h=>absurd h (by simp[Act'.kind]),fun h=>absurd h (by simp[Act'.kind]),h5,fun σ' K' ha hf hK'=>?_⟩
      simp only[Act'.rds]at ha;have he:=hf.heq (show 2<=(Act'.aps x y e).kind by simp[Act'.kind])
      have hms':σ'.pl?=some ms:=by simp only[St.pl?,he];exact hms
      simp only[ai,af,ha.l.ev,hx,ha.r.ev,hs,vd,hms',hj];refine⟨h1,h2,h3,h4,?_⟩;simp only[St.setP,he];exact hK'
     ·exact h.elim
    ·exact h.elim
   ·exact h.elim
 |apb x y e=>
   simp only[ai,af]at h;split at h
   ·rename_i k j n i0 o0 v hx hs
    split at h
    ·rename_i s hsrc
     unfold vd at h;split at h
     ·rename_i ms hms
      split at h
      ·rename_i e0 s0 hj
       obtain⟨h1,h2,h3,h4,h5⟩:=h;refine⟨_,_,fun h=>absurd h (by simp[Act'.kind]),fun h=>absurd h (by simp[Act'.kind]),h5,fun σ' K' ha hf hK'=>?_⟩
       simp only[Act'.rds]at ha;have he:=hf.heq (show 2<=(Act'.apb x y e).kind by simp[Act'.kind])
       have hms':σ'.pl?=some ms:=by simp only[St.pl?,he];exact hms
       have hsrc':HG σ' v=some s:=by simp only[HG,he];exact hsrc
       simp only[ai,af,ha.l.ev,hx,ha.r.ev,hs,hsrc',vd,hms',hj];refine⟨h1,h2,h3,h4,?_⟩;simp only[St.setP,he];exact hK'
      ·exact h.elim
     ·exact h.elim
    ·exact h.elim
   ·exact h.elim
 |alb t e z=>
   simp only[ai,af]at h;split at h
   ·rename_i ms hms
    refine⟨_,_,fun h=>absurd h (by simp[Act'.kind]),fun h=>absurd h (by simp[Act'.kind]),h.2,fun σ' K' ha hf hK'=>?_⟩
    have he:=hf.heq (show 2<=(Act'.alb t e z).kind by simp[Act'.kind])
    have hms':σ'.pl?=some ms:=by simp only[St.pl?,he];exact hms
    simp only[ai,af,hms'];refine⟨h.1,?_⟩;simp only[St.setP,he];exact hK'
   ·exact h.elim
 |usd x=>
   simp only[ai,af]at h;split at h
   ·rename_i k j n i0 o0 ms hx hms
    split at h
    ·rename_i e0 s hj
     obtain⟨h1,h2,h3⟩:=h;refine⟨σ.h,_,fun _=>rfl,fun _ _ _ h=>h,h3,fun σ' K' ha hf hK'=>?_⟩;simp only[Act'.rds]at ha;simp only[ai,af,ha.ev,hx,(hf.ext rfl).pl hms,hj];exact⟨h1,h2,hK'⟩
    ·exact h.elim
   ·exact h.elim
 |ust p n e=>
   simp only[ai,af]at h;split at h
   ·rename_i m hp hn
    refine⟨σ.h,_,fun h=>absurd h (by simp[Act'.kind]),fun h=>absurd h (by simp[Act'.kind]),h.2,fun σ' K' ha hf hK'=>?_⟩
    simp only[Act'.rds]at ha;have he:=hf.heq (show 2<=(Act'.ust p n e).kind by simp[Act'.kind])
    simp only[ai,af,ha.l.ev,hp,ha.r.ev,hn];refine⟨h.1,?_⟩;simp only[post,show ¬(Act'.ust p n e).kind<=1 by simp[Act'.kind],if_false]at hK'
    rw[<-he]at hK';exact hK'
   ·rename_i k j m i0 o0 q hp hn
    split at h
    ·rename_i ms hms
     split at h
     ·rename_i e0 s hj
      obtain⟨h1,h2,h3,h4,h5,h6,h7,h8,h9⟩:=h;refine⟨_,_,fun h=>absurd h (by simp[Act'.kind]),fun h=>absurd h (by simp[Act'.kind]),h9,fun σ' K' ha hf hK'=>?_⟩
      simp only[Act'.rds]at ha;have he:=hf.heq (show 2<=(Act'.ust p n e).kind by simp[Act'.kind])
      have hms':σ'.pl?=some ms:=by simp only[St.pl?,he];exact hms
      simp only[ai,af,ha.l.ev,hp,ha.r.ev,hn,hms',hj];refine⟨h1,h2,h3,h4,h5,h6,h7,h8,?_⟩;simp only[St.setP,he];exact hK'
     ·exact h.elim
    ·exact h.elim
   ·exact h.elim
 |del kt x k=>
   simp only[ai,af]at h;split at h
   ·rename_i id n kv h1 h2
    split at h
    ·rename_i kt' l hm
     obtain⟨g1,g2,g5⟩:=h;refine⟨_,_,fun h=>absurd h (by simp[Act'.kind]),fun h=>absurd h (by simp[Act'.kind]),g5,fun σ' K' hg hf hK'=>?_⟩
     simp only[Act'.rds]at hg;have he:=hf.heq (show 2<=(Act'.del kt x k).kind by simp[Act'.kind])
     have hm':σ'.mp? id=some (kt',l):=by simp only[St.mp?,he];exact hm
     simp only[ai,af,hg.l.ev,h1,hg.r.ev,h2,hm'];rw[he];exact⟨g1,g2,hK'⟩
    ·exact h.elim
   ·exact h.elim
 |alq z=>
   simp only[ai,af]at h;split at h
   ·rename_i ms z' hms hz
    refine⟨_,_,fun h=>absurd h (by simp[Act'.kind]),fun h=>absurd h (by simp[Act'.kind]),h,fun σ' K' ha hf hK'=>?_⟩
    have he:=hf.heq (show 2<=(Act'.alq z).kind by simp[Act'.kind])
    have hms':σ'.pl?=some ms:=by simp only[St.pl?,he];exact hms
    simp only[ai,af,hms',hz];simp only[St.setP,he];exact hK'
   ·exact h.elim
 |cvb x=>
   simp only[ai,af]at h;split at h
   ·rename_i id n hv
    split at h
    ·rename_i e' sz l ha
     obtain⟨h1,h2,h3,h4⟩:=h;refine⟨_,_,fun h=>absurd h (by simp[Act'.kind]),fun h=>absurd h (by simp[Act'.kind]),h4,fun σ' K' hg hf hK'=>?_⟩
     simp only[Act'.rds]at hg;have he:=hf.heq (show 2<=(Act'.cvb x).kind by simp[Act'.kind])
     have ha':σ'.arr? id=some (e',sz,l):=by simp only[St.arr?,he];exact ha
     simp only[ai,af,hg.ev,hv,ha'];rw[he];exact⟨h1,h2,h3,hK'⟩
    ·exact h.elim
   ·exact h.elim
 |bxq x=>
   simp only[ai,af]at h;split at h
   ·rename_i p hp
    obtain⟨pσ,pv⟩:=p
    have hr:pσ.r=σ.r:=by
     simp only[Di]at hp;split at hp
     ·split at hp
      ·split at hp
       ·cases hp;rfl
       ·cases hp
      ·cases hp
     ·cases hp
    have hr':pσ=⟨σ.r,pσ.h⟩:=by rw[<-hr]
    simp only at h;rw[hr']at h;refine⟨_,_,fun h=>absurd h (by simp[Act'.kind]),fun h=>absurd h (by simp[Act'.kind]),h,fun σ' K' ha hf hK'=>?_⟩
    have he:=hf.heq (show 2<=(Act'.bxq x).kind by simp[Act'.kind])
    simp only[Act'.rds]at ha
    have hb:Di σ' x=(Di σ x).map fun q=>({ q.1 with r:=σ'.r },q.2):=by
     have e2:σ'.pl?=σ.pl?:=by simp only[St.pl?,he]
     simp only[Di,ha.ev,e2];cases σ.ev x with
     |none=>rfl
     |some v=>
       cases σ.pl? with
       |none=>rfl
       |some ms=>
         by_cases hn:nt v=true
         ·simp only[if_pos hn]
          cases oU (cl v)with
          |none=>rfl
          |some z=>simp[St.setP,he]
         ·simp only[if_neg hn]
          rfl
    simp only[ai,af,hb,hp,zBd];exact hK'
   ·exact h.elim
 |mkq e sz by' z n=>
   simp only[ai,af]at h;split at h
   ·rename_i k m ms z' hn hms hz
    obtain⟨h1,h2,h3⟩:=h;refine⟨_,_,fun h=>absurd h (by simp[Act'.kind]),fun h=>absurd h (by simp[Act'.kind]),h3,fun σ' K' ha hf hK'=>?_⟩
    simp only[Act'.rds]at ha;have he:=hf.heq (show 2<=(Act'.mkq e sz by' z n).kind by simp[Act'.kind])
    have hms':σ'.pl?=some ms:=by simp only[St.pl?,he];exact hms
    simp only[ai,af,ha.ev,hn,hms',hz];refine⟨h1,h2,?_⟩;simp only[St.setP,he];exact hK'
   ·exact h.elim
 |mkp kt=>
   simp only[ai,af]at h;refine⟨_,_,fun h=>absurd h (by simp[Act'.kind]),fun _ id ob h=>cc h,h,fun σ' K' ha hf hK'=>?_⟩
   simp only[ai,af];rw[hf.heq (by simp[Act'.kind])]
   exact hK'
 |mup kt x k v=>
   simp only[ai,af]at h;split at h
   ·rename_i id n kv u h1 h2 h3
    split at h
    ·rename_i kt' l u' hm hp
     obtain⟨g1,g2,g3,g4,g5⟩:=h;refine⟨_,_,fun h=>absurd h (by simp[Act'.kind]),fun h=>absurd h (by simp[Act'.kind]),g5,fun σ' K' hg hf hK'=>?_⟩
     simp only[Act'.rds]at hg;have he:=hf.heq (show 2<=(Act'.mup kt x k v).kind by simp[Act'.kind])
     have hm':σ'.mp? id=some (kt',l):=by simp only[St.mp?,he];exact hm
     simp only[ai,af,hg.l.ev,h1,hg.r.l.ev,h2,hg.r.r.ev,h3,hm'];rw[he];simp only[hp];exact⟨g1,g2,g3,g4,hK'⟩
    ·exact h.elim
   ·exact h.elim
 |_=>
   simp only[ai,af]at h;split at h
   ·rename_i v hv
    exact Sp (by simp only[Act'.kind];decide) hv h
   ·exact h.elim
theorem jD{x:AOp}(h:aK Φ x K σ):Kl (aK Φ x) x.a.kind x.rds x.d σ K:=by
 have sk:(∀σ'(K':St->Prop),Agr σ σ' x.rds->K' (σ'.put x.d (.tup []))->aK Φ x K' σ')->K (σ.put x.d (.tup []))->Kl (aK Φ x) 0 x.rds x.d σ K:=
  fun h1 h2=>⟨σ.h,.tup [],fun _=>rfl,fun _ _ _ h=>h,h2,fun σ' K' ha _ hK'=>h1 σ' K' ha hK'⟩
 have up:∀{T:(St->Prop)->St->Prop},Kl T 0 x.rds x.d σ K->Kl T x.a.kind x.rds x.d σ K:=by
  rintro T ⟨h',v,h1,_,h3,h4⟩;have e:=h1 (by decide)
  subst e;refine⟨σ.h,v,fun _=>rfl,fun _ _ _ h=>h,h3,fun σ' K' ha hf hK'=>h4 σ' K' ha (.inl rfl) ?_⟩;simp only[post,zCa,if_true]at hK'⊢;split at hK'
  ·exact hK'
  ·rw[hf.heq (by omega)]
   exact hK'
 have lift:∀{T:(St->Prop)->St->Prop}{rs:List Nat},Kl (ai Φ x.d x.a) x.a.kind rs x.d σ K->(∀t,t∈rs->t∈x.rds)->(∀σ' K',Agr σ σ' x.rds->ai Φ x.d x.a K' σ'->T K' σ')->Kl T x.a.kind x.rds x.d σ K:=by
  rintro T rs ⟨h',v,h1,h2,h3,h4⟩ hs hT;exact⟨h',v,h1,h2,h3,fun σ' K' ha hf hK'=>hT _ _ ha (h4 σ' K' (ha.sub hs) hf hK')⟩
 have hsub:∀t,t∈x.a.rds->t∈x.rds:=fun t ht=>zCh _ ht;unfold aK at h;cases hg:x.g with
 |none=>
   simp only[hg]at h;refine lift (yA h) hsub fun σ' K' _ h'=>?_;unfold aK;simp only[hg];exact h'
 |some tb=>
   obtain⟨t,b⟩:=tb;have ht:t∈x.rds:=by simp[AOp.rds,hg]
   simp only[hg]at h;split at h
   ·rename_i y hy
    have hgo:∀σ'(K':St->Prop),Agr σ σ' x.rds->y=b->ai Φ x.d x.a K' σ'->aK Φ x K' σ':=by
     intro σ' K' ha hyb h';subst hyb;unfold aK;simp only[hg,ha t ht,hy];cases y<;>simp[Br,h']
    have hsk:∀σ'(K':St->Prop),Agr σ σ' x.rds->y≠b->K' (σ'.put x.d (.tup []))->aK Φ x K' σ':=by
     intro σ' K' ha hyb h';unfold aK;simp only[hg,ha t ht,hy];cases y<;>cases b<;>first|exact absurd rfl hyb|simp[Br,h']
    by_cases hyb:y=b
    ·have h':ai Φ x.d x.a K σ:=by subst hyb;cases y<;>simp[Br]at h<;>exact h
     exact lift (yA h') hsub fun σ' K' ha h''=>hgo σ' K' ha hyb h''
    ·have h':K (σ.put x.d (.tup [])):=by cases y<;>cases b<;>first|exact absurd rfl hyb|(simp[Br]at h;exact h)
     exact up (sk (fun σ' K' ha h''=>hsk σ' K' ha hyb h'') h')
   ·rename_i hy
    refine up (sk (fun σ' K' ha h''=>?_) h);unfold aK;simp only[hg,ha t ht,hy];exact h''
   ·exact h.elim
def Eqv(σ τ:St):Prop:=τ.h=σ.h/\∀t,lk τ.r t=lk σ.r t
def Inv(R:St->Prop):Prop:=∀σ τ,Eqv σ τ->R σ->R τ
theorem Fy(σ:St)(h':List (Option Ob))(d:Option Nat)(v:V)(t:Nat):lk (St.put { σ with h:=h' } d v).r t=if d=some t then some v else lk σ.r t:=by
 cases d with
 |none=>simp[St.put]
 |some k=>simp only[St.put,lk,zAb]
theorem wR(σ:St)(d:Option Nat)(v:V):(σ.put d v).h=σ.h:=by cases d<;>rfl
theorem Qu{x:AOp}{R:St->Prop}(hR:Inv R):Inv (aK Φ x R):=by
 intro σ τ he h;obtain⟨h',v,h1,h2,h3,h4⟩:=jD h;refine h4 τ R (fun t _=>he.2 t) (.inr (.inr he.1)) (hR _ _ ⟨?_,fun t=>?_⟩ h3)
 ·simp only[post,wR]
  split
  ·rename_i hk;rw[h1 hk];exact he.1
  ·rfl
 ·simp only[post,Fy,he.2]
def wh(x y:AOp):Bool:=
 (match x.d with
  |some d=>!(gm d y.rds)&&decide (y.d≠some d)
  |none=>true)&&
 (match y.d with
  |some d=>!(gm d x.rds)
  |none=>true)&&
 (x.a.kind == 0||y.a.kind == 0||(x.a.kind == 1&&decide (y.a.kind<=2)))
theorem J9{x y:AOp}(h:wh x y=true):
 (∀d,x.d=some d->d ∉ y.rds/\y.d≠some d)/\(∀d,y.d=some d->d ∉ x.rds)/\(x.a.kind=0\/y.a.kind=0\/(x.a.kind=1/\y.a.kind<=2)):=by
 simp only[wh,zAd]at h;obtain⟨⟨h1,h2⟩,h3⟩:=h;refine⟨fun d hd=>?_,fun d hd=>?_,by simpa[or_assoc]using h3⟩
 ·simp only[hd,zAd,zBi,decide_eq_true_eq]at h1
  exact⟨fun hm=>by rw[ij.2 hm]at h1;simp at h1,h1.2⟩
 ·simp only[hd,zBi]at h2
  exact fun hm=>by rw[ij.2 hm]at h2;simp at h2
theorem NM{x y:AOp}(hap:wh x y=true){R:St->Prop}(hR:Inv R)(h:aK Φ x (aK Φ y R) σ):aK Φ y (aK Φ x R) σ:=by
 obtain⟨a1,a2,a3⟩:=J9 hap;obtain⟨hx,vx,x1,x2,x3,x4⟩:=jD h;obtain⟨hy,vy,y1,y2,y3,y4⟩:=jD x3;rw[wR]at y1 y2
 have key:Eqv (St.put { (St.put { σ with h:=hx } x.d vx)with h:=hy } y.d vy) (post x.a.kind (post y.a.kind σ hy y.d vy) hx x.d vx)->aK Φ y (aK Φ x R) σ:=by
  intro he;refine y4 σ _ ?_ ?_ ?_
  ·intro t ht
   rw[Fy];split
   ·rename_i hd;exact absurd ht (a1 t hd).1
   ·rfl
  ·rcases a3 with h|h|h
   ·refine .inr (.inr ?_);rw[wR];exact(x1 (by omega)).symm
   ·exact .inl h
   ·refine .inr (.inr ?_);rw[wR];exact(x1 (by omega)).symm
  ·refine x4 _ _ ?_ ?_ (hR _ _ he y3)
   ·intro t ht
    simp only[post,Fy];split
    ·rename_i hd;exact absurd ht (a2 t hd)
    ·rfl
   ·rcases a3 with h|h|h
    ·exact .inl h
    ·refine .inr (.inr ?_)
     simp only[post,wR,h,zCa,if_true]
    ·by_cases hk:y.a.kind<=1
     ·refine .inr (.inr ?_)
      simp only[post,wR,if_pos hk]
     ·refine .inr (.inl ⟨h.1,?_⟩)
      intro id ob hid;simp only[post,wR,if_neg hk];exact y2 (by omega) id ob (by rw[x1 (by omega)];exact hid)
 apply key;constructor
 ·simp only[post,wR]
  rcases a3 with h|h|h
  ·rw[if_pos (by omega)]
   split
   ·rename_i hk;rw[y1 hk,x1 (by omega)]
   ·rfl
  ·simp only[h,zCa,if_true]
   rw[y1 (by omega)]
   split
   ·rename_i hk;rw[x1 hk]
   ·rfl
  ·rw[if_pos (by omega)]
   split
   ·rename_i hk;rw[y1 hk,x1 (by omega)]
   ·rfl
 ·intro t
  simp only[post,Fy];by_cases hxd:x.d=some t
  ·rw[if_pos hxd,if_neg (a1 t hxd).2,if_pos hxd]
  ·simp only[if_neg hxd]
end
end Go.Abs
end
section
namespace Go.Abs
open Go.RowKit
section
variable{P:Program}{N:Nat}{M0:Mem}{B:Bas}{w0:World}{Φ:Ctr}
theorem jC{x:AOp}{σ:St}{K K':St->Prop}(h:aK Φ x K σ)(hk:∀τ,K τ->K' τ):aK Φ x K' σ:=by
 obtain⟨h',v,h1,h2,h3,h4⟩:=jD h;refine h4 σ K' (fun _ _=>rfl) (.inr (.inr rfl)) (hk _ ?_);simp only[post];split
 ·rename_i hle;rw[h1 hle]at h3;exact h3
 ·exact h3
mutual
theorem Id:∀{v u:V},pur [] v=some u->aA v=[]/\∀h,pur h v=some u
 | .nil sz,_,hv=>⟨rfl,fun h=>by simpa only[pur]using hv⟩
 | .ref id n,_,hv=>by simp[pur,pur1]at hv
 | .strct cs,_,hv=>by
   simp only[pur,zAc]at hv;obtain⟨us,h1,h2⟩:=hv;obtain⟨k1,k2⟩:=fk h1;exact⟨by simpa only[aA]using k1,fun h=>by simp only[pur,k2 h,zBd,h2]⟩
 | .tup cs,_,hv=>by
   simp only[pur,zAc]at hv;obtain⟨us,h1,h2⟩:=hv;obtain⟨k1,k2⟩:=fk h1;exact⟨by simpa only[aA]using k1,fun h=>by simp only[pur,k2 h,zBd,h2]⟩
 | .fn f a b,_,hv=>by
   simp only[pur]at hv;split at hv
   ·rename_i a' b' h1 h2
    obtain⟨k1,k2⟩:=fk h1;obtain⟨k3,k4⟩:=fk h2;exact⟨by simp only[aA,k1,k3,zDf],fun h=>by simp only[pur,k2 h,k4 h];exact hv⟩
   ·cases hv
 | .iface t x,_,hv=>by
   simp only[pur,zAc]at hv;obtain⟨us,h1,h2⟩:=hv;obtain⟨k1,k2⟩:=Id h1;exact⟨by simpa only[aA]using k1,fun h=>by simp only[pur,k2 h,zBd,h2]⟩
 | .ptr _ _,_,hv=>by simp only[pur]at hv;cases hv
 | .eptr _ _ _ _,_,hv=>by simp only[pur]at hv;cases hv
 | .int _ _,_,hv=>⟨rfl,fun h=>by simpa only[pur]using hv⟩
 | .bool _,_,hv=>⟨rfl,fun h=>by simpa only[pur]using hv⟩
 | .str _,_,hv=>⟨rfl,fun h=>by simpa only[pur]using hv⟩
 | .seq _ _,_,hv=>⟨rfl,fun h=>by simpa only[pur]using hv⟩
 | .fseq _ _,_,hv=>⟨rfl,fun h=>by simpa only[pur]using hv⟩
 | .sptr _ _,_,hv=>⟨rfl,fun h=>by simpa only[pur]using hv⟩
 | .nilptr,_,hv=>⟨rfl,fun h=>by simpa only[pur]using hv⟩
 | .nilfn,_,hv=>⟨rfl,fun h=>by simpa only[pur]using hv⟩
 | .nilmp,_,hv=>⟨rfl,fun h=>by simpa only[pur]using hv⟩
 | .niliface,_,hv=>⟨rfl,fun h=>by simpa only[pur]using hv⟩
 | .junk,_,hv=>⟨rfl,fun h=>by simpa only[pur]using hv⟩
theorem fk:∀{v u:List V},purs [] v=some u->ak v=[]/\∀h,purs h v=some u
 |[],_,hv=>⟨rfl,fun h=>by simpa only[purs]using hv⟩
 |v::vs,_,hv=>by
   simp only[purs]at hv;split at hv
   ·rename_i a' b' h1 h2
    obtain⟨k1,k2⟩:=Id h1;obtain⟨k3,k4⟩:=fk h2;exact⟨by simp only[ak,k1,k3,zDf],fun h=>by simp only[purs,k2 h,k4 h];exact hv⟩
   ·cases hv
end
theorem sb{d:Option Nat}{a:Act'}{K:St->Prop}{σ:St}(h:ai Φ d a K σ):af Φ d a K σ:=by
 cases a with
 |lit e0 sz xs=>
   simp only[ai]at h;split at h
   ·rename_i vs hvs
    split at h
    ·rename_i us hus
     obtain⟨k1,k2⟩:=fk hus;simp only[af,hvs,k2 σ.h,k1,St.kill];exact h
    ·exact h.elim
   ·exact h.elim
 |call f xs=>
   simp only[ai]at h;split at h
   ·rename_i vs hvs
    split at h
    ·rename_i us hus
     obtain⟨r,h1,h3⟩:=h;simp only[af,hvs,hus];exact⟨r,.inl ⟨h1,fun _=>h3⟩⟩
    ·exact h.elim
   ·exact h.elim
 |callH f xs=>
   simp only[ai]at h;split at h
   ·rename_i vs hvs
    simp only[af,hvs];obtain⟨ps,h1,r,H',h2,h3,h4⟩|⟨r,hz,h4⟩:=h
    ·exact .inl ⟨ps,h1,r,H',h2,h3,fun _ _=>h4⟩
    ·exact .inr (.inr (.inl ⟨r,hz,fun _=>h4⟩))
   ·exact h.elim
 |inv tbl x xs=>
   simp only[ai]at h;split at h
   ·rename_i t v vs hx hvs
    split at h
    ·rename_i f hf
     split at h
     ·rename_i us hus
      obtain⟨r,h1,h3⟩:=h;simp only[af,hx,hvs,hf,hus];exact⟨r,.inl ⟨h1,fun _=>h3⟩⟩
     ·exact h.elim
    ·exact h.elim
   ·exact h.elim
 |ivp tbl x xs=>exact(show False from h).elim
 |trc x hi sz=>exact(show False from h).elim
 |callv g xs=>
   simp only[ai]at h;split at h
   ·rename_i f a b vs hg hvs
    split at h
    ·rename_i us hus
     obtain⟨r,h1,h3⟩:=h;simp only[af,hg,hvs,hus];exact⟨r,.inl ⟨h1,fun _=>h3⟩⟩
    ·exact h.elim
   ·exact h.elim
 |app x y e sz by'=>
   simp only[ai]at h;split at h
   ·split at h
    ·exact h.elim
    ·exact h
   ·exact h.elim
 |_=>exact h
theorem Qs{x:AOp}{K:St->Prop}{σ:St}(h:aK Φ x K σ):wop Φ x K σ:=by
 unfold aK at h;unfold wop;split at h
 ·exact sb h
 ·split at h
  ·split
   ·rename_i hb;rw[if_pos hb]at h;exact⟨fun hy=>sb (h.1 hy),h.2⟩
   ·rename_i hb;rw[if_neg hb]at h;exact⟨h.1,fun hy=>sb (h.2 hy)⟩
  ·exact h
  ·exact h
def th(Φ:Ctr)(ops:Array Oper)(xs:List AOp)(K:St->Prop):Nat->Array Bool->St->Prop
 |0,listed,σ=>Region.ready .any ops listed=[]/\K σ
 |f+1,listed,σ=>(Region.ready .any ops listed=[]->K σ)/\∀i∈Region.ready .any ops listed,∃x,xs[i]?=some x/\aK Φ x (th Φ ops xs K f (listed.setIfInBounds i true)) σ
def MI(Φ:Ctr)(ops:Array Oper)(xs:List AOp)(K:St->Prop):Nat->Array Bool->St->Prop
 |0,listed,σ=>Region.ready .any ops listed=[]/\K σ
 |f+1,listed,σ=>(Region.ready .any ops listed=[]->K σ)/\∀i∈Region.ready .any ops listed,∃x,xs[i]?=some x/\wop Φ x (MI Φ ops xs K f (listed.setIfInBounds i true)) σ
variable{ops:Array Oper}{xs:List AOp}{K:St->Prop}
theorem Dr(hK:Inv K):∀(f:Nat)(listed:Array Bool),Inv (th Φ ops xs K f listed)
 |0,listed=>fun σ τ he h=>⟨h.1,hK σ τ he h.2⟩
 |f+1,listed=>fun σ τ he h=>⟨fun h0=>hK σ τ he (h.1 h0),fun i hi=>by
   obtain⟨x,hx,hw⟩:=h.2 i hi;exact⟨x,hx,Qu (Dr hK f _) σ τ he hw⟩⟩
def s6(ops:Array Oper)(listed:Array Bool):Prop:=∀j oj,ops[j]?=some oj->listed.getD j false=true->∀e∈oj.after,Region.binds .any e=true->listed.getD e.on false=true
def x7(anc:List Nat)(j i:Nat):Bool:=decide (i<j)&&zDd (anc.getD j 0) i
def EK(ops:Array Oper)(anc:List Nat):Prop:=∀j i oj,ops[j]?=some oj->x7 anc j i=true->∃e∈oj.after,Region.binds .any e=true/\e.on<j/\(e.on=i\/x7 anc e.on i=true)
theorem s6.set{listed:Array Bool}{i:Nat}(h:s6 ops listed)(hi:i∈Region.ready .any ops listed):s6 ops (listed.setIfInBounds i true):=by
 obtain⟨_,oi,hoi,hall⟩:=mem_ready.1 hi;intro j oj hj hl e he hb;by_cases hij:i=j
 ·subst hij
  have:oj=oi:=Option.some.inj (hj.symm.trans hoi);subst this;exact getD_set_true (hall e he hb)
 ·rw[getD_set_ne false hij]at hl
  exact getD_set_true (h j oj hj hl e he hb)
theorem EK.listed{anc:List Nat}(ha:EK ops anc){listed:Array Bool}(hc:s6 ops listed){i:Nat}:∀(j:Nat)(oj:Oper),ops[j]?=some oj->(∀e∈oj.after,Region.binds .any e=true->listed.getD e.on false=true)->
 x7 anc j i=true->(∀e o',e<ops.size->ops[e]?=some o'->True)->(∀e∈oj.after,Region.binds .any e=true->e.on<j->∃o',ops[e.on]?=some o')->listed.getD i false=true:=by
 intro j
 induction j using zCe with
 |_ j ih=>
   intro oj hj hp hanc _ hex;obtain⟨e,he,hb,hlt,h⟩:=ha j i oj hj hanc;have hl:=hp e he hb;rcases h with h|h
   ·rw[<-h];exact hl
   ·obtain⟨o',ho'⟩:=hex e he hb hlt
    refine ih e.on hlt o' ho' (fun e' he' hb'=>hc e.on o' ho' hl e' he' hb') h (fun _ _ _ _=>trivial) (fun e' he' hb' hlt'=>?_)
    have hs:e'.on<ops.size:=by
     have:=(zAg.1 ho').1;omega
    exact⟨ops[e'.on],by simp[hs]⟩
theorem wu{anc:List Nat}(ha:EK ops anc)(hK:Inv K){i:Nat}{x:AOp}(hi:xs[i]?=some x):
 ∀(f:Nat)(listed:Array Bool)(σ:St),s6 ops listed->
   (∀j y,xs[j]?=some y->j≠i->listed.getD j true=false->x7 anc j i=false->wh x y=true)->
   i∈Region.ready .any ops listed->aK Φ x (th Φ ops xs K f (listed.setIfInBounds i true)) σ->th Φ ops xs K (f+1) listed σ:=by
 intro f
 induction f with
 |zero=>
   intro listed σ _ _ hr H;refine⟨fun h=>(by rw[h]at hr;cases hr),fun j hj=>?_⟩
   by_cases hji:j=i
   ·subst hji;exact⟨x,hi,H⟩
   ·obtain⟨h',v,_,_,h3,_⟩:=jD H
    have:=ready_mono hj hji;rw[h3.1]at this;cases this
 |succ f ih=>
   intro listed σ hc hfree hr H;refine⟨fun h=>(by rw[h]at hr;cases hr),fun j hj=>?_⟩
   by_cases hji:j=i
   ·subst hji;exact⟨x,hi,H⟩
   ·obtain⟨h',v,_,_,h3,_⟩:=jD H
    obtain⟨y,hy,_⟩:=h3.2 j (ready_mono hj hji);obtain⟨hjun,oj,hoj,hall⟩:=mem_ready.1 hj;have hiun:=(mem_ready.1 hr).1
    have hnot:x7 anc j i=false:=by
     cases hb:x7 anc j i with
     |false=>rfl
     |true=>
       have hs:j<ops.size:=(zAg.1 hoj).1;have:=ha.listed hc j oj hoj hall hb (fun _ _ _ _=>trivial) (fun e _ _ hlt=>⟨ops[e.on]'(by omega),by simp⟩)
       rcases zDa i listed.size with h'|h'
       ·simp[h']at hiun this;rw[hiun]at this;cases this
       ·simp[Array.getElem?_eq_none h']at this
    have H':aK Φ x (aK Φ y (th Φ ops xs K f ((listed.setIfInBounds i true).setIfInBounds j true))) σ:=jC H fun τ hτ=>by
     obtain⟨y',hy',hw⟩:=hτ.2 j (ready_mono hj hji);rw[hy]at hy';cases hy';exact hw
    have H2:=NM (hfree j y hy hji hjun hnot) (Dr hK f _) H';refine⟨y,hy,jC H2 fun τ hτ=>ih (listed.setIfInBounds j true) τ (hc.set hj) ?_ (ready_mono hr (Ne.symm hji)) ?_⟩
    ·intro k z hz hki hun hno
     refine hfree k z hz hki ?_ hno;by_cases hjk:j=k
     ·subst hjk;exact hjun
     ·rw[getD_set_ne true hjk]at hun;exact hun
    ·rw[Array.setIfInBounds_comm _ _ hji]
     exact hτ
def E6(ops:Array Oper)(xs:List AOp)(anc:List Nat):List Nat->Bool
 |[]=>true
 |i::l=>!(gm i l)&&
   (match ops[i]? with
    |some o=>o.after.toList.all fun e=>!(Region.binds .any e)||(decide (e.on<ops.size)&& !(gm e.on (i::l)))
    |none=>false)&&
   (match xs[i]? with
    |some x=>l.all fun j=>x7 anc j i||(match xs[j]? with
      |some y=>wh x y
      |none=>false)
    |none=>false)&&E6 ops xs anc l
def vU(ops:Array Oper)(xs:List AOp)(anc perm:List Nat):Bool:=
 decide (ops.size=xs.length)&&decide (perm.length=ops.size)&&
 ((zBf ops.size).all fun j=>gm j perm)&&
 ((zBf ops.size).all fun j=>match ops[j]? with
   |some o=>o.after.toList.all fun e=>!(Region.binds .any e)||decide (e.on<j)
   |none=>true)&&
 ((zBf ops.size).all fun j=>match ops[j]? with
   |some o=>(zBf j).all fun i=>!(zDd (anc.getD j 0) i)||o.after.toList.any fun e=>Region.binds .any e&&(decide (e.on=i)||x7 anc e.on i)
   |none=>true)&&E6 ops xs anc perm
def iX(xs:List AOp):List Nat->Option (List AOp)
 |[]=>some []
 |i::l=>match xs[i]?,iX xs l with
   |some x,some ys=>some (x::ys)
   |_,_=>none
theorem Mg{anc perm:List Nat}(hd:vU ops xs anc perm=true):EK ops anc:=by
 simp only[vU,zAd,decide_eq_true_eq]at hd;obtain⟨⟨⟨⟨⟨hsz,hpl⟩,hall⟩,hed⟩,hanc⟩,hap⟩:=hd;intro j i oj hj hb;simp only[x7,zAd,decide_eq_true_eq]at hb;have hs:j<ops.size:=(zAg.1 hj).1;have h1:=zAe.1 hanc j (zBb.2 hs);simp only[hj]at h1;have h2:=zAe.1 h1 i (zBb.2 hb.1);simp only[hb.2,zBj,zBh]at h2;obtain⟨e,he,h3⟩:=zDe.1 h2;simp only[zAd,zCf,decide_eq_true_eq]at h3;have h4:=zAe.1 hed j (zBb.2 hs);simp only[hj]at h4;have h5:=zAe.1 h4 e he;simp only[h3.1,zBj,zBh,decide_eq_true_eq]at h5;exact⟨e,by simpa using he,h3.1,h5,h3.2⟩
theorem NN{anc:List Nat}(ha:EK ops anc)(hK:Inv K):∀(l:List Nat)(ys:List AOp)(listed:Array Bool)(σ:St),E6 ops xs anc l=true->iX xs l=some ys->
 listed.size=ops.size->(∀j,j<ops.size->listed.getD j false=!(gm j l))->s6 ops listed->te Φ ys K σ->th Φ ops xs K l.length listed σ:=by
 intro l
 induction l with
 |nil=>
   intro ys listed σ _ hys hls hl hc h;simp only[iX,zAb]at hys;subst hys;refine⟨?_,h⟩;rw[List.eq_nil_iff_forall_not_mem];intro j hj;obtain⟨h1,o,ho,_⟩:=mem_ready.1 hj;have hs:j<ops.size:=(zAg.1 ho).1;have h2:=hl j hs;have hlt:j<listed.size:=by omega
   simp[hlt,gm]at h1 h2;rw[h1]at h2;simp at h2
 |cons i l ih=>
   intro ys listed σ hp hys hls hl hc h;simp only[E6,zAd,zBi]at hp;obtain⟨⟨⟨hnd,hpre⟩,hap⟩,hrest⟩:=hp;simp only[iX]at hys;split at hys
   ·rename_i x ys' hx hys'
    cases hys;split at hpre
    ·rename_i o ho
     have hks:i<ops.size:=(zAg.1 ho).1
     have hr:i∈Region.ready .any ops listed:=by
      refine mem_ready.2 ⟨?_,o,ho,fun e he hb=>?_⟩
      ·have:=hl i hks
       have hlt:i<listed.size:=by omega
       simp[hlt,gm]at this⊢;exact this
      ·have h5:=zAe.1 hpre e (by simpa using he)
       simp only[hb,zBj,zBh,zAd,decide_eq_true_eq]at h5;rw[hl e.on h5.1];exact h5.2
     refine wu ha hK hx l.length listed σ hc ?_ hr ?_
     ·intro j y hy hji hun hno
      simp only[hx]at hap;by_cases hjs:j<ops.size
      ·have h2:=hl j hjs
       have hlt:j<listed.size:=by omega
       simp[hlt]at hun h2;rw[hun]at h2
       have h3:gm j (i::l)=true:=by
        cases hm:gm j (i::l)with
        |true=>rfl
        |false=>rw[hm]at h2;cases h2
       simp only[gm,if_neg hji]at h3;have h4:=zAe.1 hap j (ij.1 h3);simp only[hno,hy,zBh]at h4;exact h4
      ·have:¬j<listed.size:=by omega
       simp[this]at hun
     ·refine jC h fun τ hτ=>ih ys' _ τ hrest hys' (by simp[hls]) ?_ (hc.set hr) hτ
      intro j hj;by_cases hkj:i=j
      ·subst hkj
       have hlt:i<listed.size:=by omega
       simp[hlt,hnd]
      ·rw[getD_set_ne false hkj,hl j hj]
       have:j≠i:=fun h=>hkj h.symm;simp only[gm,if_neg this]
    ·cases hpre
   ·cases hys
theorem JW{anc perm:List Nat}{ys:List AOp}{σ:St}(hd:vU ops xs anc perm=true)(hp:iX xs perm=some ys)(hK:Inv K)(h:te Φ ys K σ):
 th Φ ops xs K ops.size (zAh ops.size false) σ:=by
 have ha:=Mg hd;simp only[vU,zAd,decide_eq_true_eq]at hd;obtain⟨⟨⟨⟨⟨hsz,hpl⟩,hall⟩,hed⟩,hanc⟩,hap⟩:=hd
 have:=NN ha hK perm ys (zAh ops.size false) σ hap hp (by simp) (fun j hj=>by
  have:=zAe.1 hall j (zBb.2 hj);simp[hj,this]) (fun j oj hj hl=>by
  have hs:=(zAg.1 hj).1;simp[hs]at hl) h
 rw[hpl]at this;exact this
def BW(ops:Array Oper):Nat->Array Bool->List (List Nat)
 |0,listed=>match Region.ready .any ops listed with
   |[]=>[[]]
   |_=>[[ops.size]]
 |f+1,listed=>match Region.ready .any ops listed with
   |[]=>[[]]
   |i::r=>(i::r).flatMap fun i=>(BW ops f (listed.setIfInBounds i true)).map (i::·)
def vz:List AOp->Bool
 |[]=>true
 |x::xs=>(match x.a with
   | .call _ _=>false
   | .callv _ _=>false
   | .callH _ _=>false
   | .inv _ _ _=>false
   | .ivp _ _ _=>false
   |_=>true)&&vz xs
def yV(xs:List AOp):List (List Nat)->Option (List (List AOp))
 |[]=>some []
 |p::ps=>match iX xs p,yV xs ps with
   |some y,some ys=>some (y::ys)
   |_,_=>none
theorem Ho{d:Option Nat}{a:Act'}(hn:(match a with| .call _ _=>false| .callv _ _=>false| .callH _ _=>false| .inv _ _ _=>false| .ivp _ _ _=>false|_=>true)=true){σ:St}{K:St->Prop}(h:af Φ d a K σ):∃τ,∀K',af Φ d a K' σ↔K' τ:=by
 cases a with
 |call=>cases hn
 |callv=>cases hn
 |callH=>cases hn
 |inv=>cases hn
 |ivp=>cases hn
 |mkp kt=>exact⟨_,fun K'=>zAa⟩
 |ltr e sz xs=>
   simp only[af]at h⊢;split at h
   ·split at h
    ·exact⟨_,fun K'=>⟨fun h=>h.2.2,fun h'=>⟨h.1,h.2.1,h'⟩⟩⟩
    ·unfold BV at h⊢
     split at h
     ·exact⟨_,fun K'=>⟨fun h=>h.2.2.2,fun h'=>⟨h.1,h.2.1,h.2.2.1,h'⟩⟩⟩
     ·exact h.elim
   ·exact h.elim
 |apz y e sz by'=>
   simp only[af]at h⊢;split at h
   ·split at h
    ·exact⟨_,fun K'=>⟨fun h=>h.2.2,fun h'=>⟨h.1,h.2.1,h'⟩⟩⟩
    ·exact h.elim
   ·exact h.elim
 |sbq y=>
   simp only[af]at h⊢;split at h
   ·exact⟨_,fun K'=>⟨fun h=>h.2,fun h'=>⟨h.1,h'⟩⟩⟩
   ·exact h.elim
 |aps x y e=>
   simp only[af]at h⊢;split at h
   ·unfold vd at h⊢
    split at h
    ·split at h
     ·exact⟨_,fun K'=>⟨fun h=>h.2.2.2.2,fun h'=>⟨h.1,h.2.1,h.2.2.1,h.2.2.2.1,h'⟩⟩⟩
     ·exact h.elim
    ·exact h.elim
   ·exact h.elim
 |apb x y e=>
   simp only[af]at h⊢;split at h
   ·split at h
    ·unfold vd at h⊢
     split at h
     ·split at h
      ·exact⟨_,fun K'=>⟨fun h=>h.2.2.2.2,fun h'=>⟨h.1,h.2.1,h.2.2.1,h.2.2.2.1,h'⟩⟩⟩
      ·exact h.elim
     ·exact h.elim
    ·exact h.elim
   ·exact h.elim
 |alb t e z=>
   simp only[af]at h⊢;split at h
   ·exact⟨_,fun K'=>⟨fun h=>h.2,fun h'=>⟨h.1,h'⟩⟩⟩
   ·exact h.elim
 |usd x=>
   simp only[af]at h⊢;split at h
   ·split at h
    ·exact⟨_,fun K'=>⟨fun h=>h.2.2,fun h'=>⟨h.1,h.2.1,h'⟩⟩⟩
    ·exact h.elim
   ·exact h.elim
 |ust p n e=>
   simp only[af]at h⊢;split at h
   ·exact⟨_,fun K'=>⟨fun h=>h.2,fun h'=>⟨h.1,h'⟩⟩⟩
   ·split at h
    ·split at h
     ·exact⟨_,fun K'=>⟨fun h=>h.2.2.2.2.2.2.2.2,fun h'=>⟨h.1,h.2.1,h.2.2.1,h.2.2.2.1,h.2.2.2.2.1,h.2.2.2.2.2.1,h.2.2.2.2.2.2.1,h.2.2.2.2.2.2.2.1,h'⟩⟩⟩
     ·exact h.elim
    ·exact h.elim
   ·exact h.elim
 |del kt x k=>
   simp only[af]at h⊢;split at h
   ·split at h
    ·exact⟨_,fun K'=>⟨fun h=>h.2.2,fun h'=>⟨h.1,h.2.1,h'⟩⟩⟩
    ·exact h.elim
   ·exact h.elim
 |cvb x=>
   simp only[af]at h⊢;split at h
   ·split at h
    ·exact⟨_,fun K'=>⟨fun h=>h.2.2.2,fun h'=>⟨h.1,h.2.1,h.2.2.1,h'⟩⟩⟩
    ·exact h.elim
   ·exact h.elim
 |bxq x=>
   simp only[af]at h⊢;split at h
   ·exact⟨_,fun K'=>zAa⟩
   ·exact h.elim
 |alq z=>
   simp only[af]at h⊢;split at h
   ·exact⟨_,fun K'=>zAa⟩
   ·exact h.elim
 |mkq e sz by' z n=>
   simp only[af]at h⊢;split at h
   ·exact⟨_,fun K'=>⟨fun h=>h.2.2,fun h'=>⟨h.1,h.2.1,h'⟩⟩⟩
   ·exact h.elim
 |trc x hi sz=>
   simp only[af]at h⊢;split at h
   ·split at h
    ·split at h
     ·exact⟨_,fun K'=>⟨fun h=>h.2.2.2.2.2,fun h'=>⟨h.1,h.2.1,h.2.2.1,h.2.2.2.1,h.2.2.2.2.1,h'⟩⟩⟩
     ·exact h.elim
    ·exact h.elim
   ·split at h
    ·exact⟨_,fun K'=>⟨fun h=>h.2.2.2.2,fun h'=>⟨h.1,h.2.1,h.2.2.1,h.2.2.2.1,h'⟩⟩⟩
    ·exact h.elim
   ·exact h.elim
 |mup kt x k v=>
   simp only[af]at h⊢;split at h
   ·split at h
    ·exact⟨_,fun K'=>⟨fun h=>h.2.2.2.2,fun h'=>⟨h.1,h.2.1,h.2.2.1,h.2.2.2.1,h'⟩⟩⟩
    ·exact h.elim
   ·exact h.elim
 |alc z=>exact⟨_,fun K'=>zAa⟩
 |box x=>
   simp only[af]at h⊢;split at h
   ·split at h
    ·rename_i hc;simp only[if_pos hc];exact⟨_,fun K'=>zAa⟩
    ·exact h.elim
   ·exact h.elim
 |st n p x=>
   simp only[af]at h⊢;split at h
   ·split at h
    ·rename_i hc
     simp only[if_pos hc];split at h
     ·exact⟨_,fun K'=>zAa⟩
     ·exact h.elim
    ·exact h.elim
   ·exact h.elim
 |s2b x=>
   simp only[af]at h⊢;split at h
   ·exact⟨_,fun K'=>⟨fun h=>h.2,fun h'=>⟨h.1,h'⟩⟩⟩
   ·exact h.elim
 |lit e0 sz xs=>
   simp only[af]at h⊢;split at h
   ·split at h
    ·exact⟨_,fun K'=>⟨fun h=>h.2.2,fun h'=>⟨h.1,h.2.1,h'⟩⟩⟩
    ·exact h.elim
   ·exact h.elim
 |app x y e sz by'=>
   simp only[af]at h⊢;split at h
   ·unfold G2 at h⊢
    split at h
    ·split at h
     ·exact⟨_,fun K'=>⟨fun h=>h.2.2.2.2.2,fun h'=>⟨h.1,h.2.1,h.2.2.1,h.2.2.2.1,h.2.2.2.2.1,h'⟩⟩⟩
     ·exact h.elim
    ·exact h.elim
   ·unfold G3 at h⊢
    split at h
    ·split at h
     ·exact⟨_,fun K'=>⟨fun h=>h.2.2.2.2,fun h'=>⟨h.1,h.2.1,h.2.2.1,h.2.2.2.1,h'⟩⟩⟩
     ·exact h.elim
    ·exact h.elim
   ·split at h
    ·obtain⟨h0,h⟩:=h
     split at h
     ·exact⟨_,fun K'=>⟨fun h=>h.2.2,fun h'=>⟨h0,h.1,h'⟩⟩⟩
     ·split at h
      ·exact⟨_,fun K'=>⟨fun h=>h.2.2.2.2.2,fun h'=>⟨h0,h.1,h.2.1,h.2.2.1,h.2.2.2.1,h'⟩⟩⟩
      ·exact h.elim
     ·split at h
      ·split at h
       ·exact⟨_,fun K'=>⟨fun h=>h.2.2.2.2.2,fun h'=>⟨h0,h.1,h.2.1,h.2.2.1,h.2.2.2.1,h'⟩⟩⟩
       ·exact h.elim
      ·exact h.elim
     ·exact h.elim
    ·exact h.elim
   ·exact h.elim
 |rgs x=>
   simp only[af]at h⊢;split at h
   ·exact⟨_,fun K'=>zAa⟩
   ·exact h.elim
 |nxs x=>
   simp only[af]at h⊢;split at h
   ·split at h
    ·split at h
     ·rename_i hp;simp only[if_pos hp];exact⟨_,fun K'=>zAa⟩
     ·rename_i hp;simp only[if_neg hp];exact⟨_,fun K'=>zAa⟩
    ·exact h.elim
   ·exact h.elim
 |yld g xs=>
   simp only[af]at h⊢;split at h
   ·split at h
    ·exact⟨_,fun K'=>⟨fun h=>h.2.2,fun h'=>⟨h.1,h.2.1,h'⟩⟩⟩
    ·exact h.elim
   ·exact h.elim
 |mkm e by' e2 sz n=>
   simp only[af]at h⊢;split at h
   ·exact⟨_,fun K'=>⟨fun h=>h.2.2,fun h'=>⟨h.1,h.2.1,h'⟩⟩⟩
   ·exact h.elim
 |mk0 e sz by' n=>
   simp only[af]at h⊢;split at h
   ·exact⟨_,fun K'=>⟨fun h=>h.2.2,fun h'=>⟨h.1,h.2.1,h'⟩⟩⟩
   ·exact h.elim
 |mks e sz by' z n=>
   simp only[af]at h⊢;split at h
   ·exact⟨_,fun K'=>⟨fun h=>h.2.2,fun h'=>⟨h.1,h.2.1,h'⟩⟩⟩
   ·exact h.elim
 |_=>
   simp only[af]at h⊢;split at h
   ·exact⟨_,fun K'=>zAa⟩
   ·exact h.elim
theorem TQ{x:AOp}(hn:(match x.a with| .call _ _=>false| .callv _ _=>false| .callH _ _=>false| .inv _ _ _=>false| .ivp _ _ _=>false|_=>true)=true){σ:St}{K:St->Prop}(h:wop Φ x K σ):∃τ,∀K',wop Φ x K' σ↔K' τ:=by
 unfold wop at h⊢;split at h
 ·exact Ho hn h
 ·split at h
  ·rename_i t b _ _ y hy
   cases y<;>cases b<;>simp[Br]at h⊢<;>first|exact Ho hn h|exact⟨_,fun K'=>zAa⟩
  ·exact⟨_,fun K'=>zAa⟩
  ·exact h.elim
theorem Nh(ops:Array Oper):∀(f:Nat)(listed:Array Bool),BW ops f listed≠[]
 |0,listed=>by unfold BW;split<;>simp
 |f+1,listed=>by
   unfold BW;split
   ·simp
   ·rename_i i r _
    have:=Nh ops f (listed.setIfInBounds i true);intro h;rw[List.flatMap_cons]at h;exact this (List.map_eq_nil_iff.1 (List.append_eq_nil_iff.1 h).1)
theorem yY{i:Nat}{x:AOp}:∀{xs:List AOp},vz xs=true->xs[i]?=some x->(match x.a with| .call _ _=>false| .callv _ _=>false| .callH _ _=>false| .inv _ _ _=>false| .ivp _ _ _=>false|_=>true)=true
 |[],_,h=>by simp at h
 |y::ys,hn,h=>by
   simp only[vz,zAd]at hn;revert h;revert i;intro i h;cases i with
   |zero=>simp at h;subst h;exact hn.1
   |succ i=>simp at h;exact yY hn.2 h
theorem OP (hn:vz xs=true) (hsz:ops.size=xs.length):∀ (f:Nat) (listed:Array Bool) (σ:St),(∀ p∈BW ops f listed,∃ ys,iX xs p=some ys∧vj Φ ys K σ)→
 MI Φ ops xs K f listed σ:=by
 intro f
 induction f with
 | zero=>
   intro listed σ h
   unfold BW at h
   split at h
   · rename_i hr
     obtain ⟨ys,h1,h2⟩:=h [] (by simp)
     simp only [iX,zAb] at h1
     subst h1
     exact ⟨hr,h2⟩
   · obtain ⟨ys,h1,_⟩:=h [ops.size] (by simp)
     simp [iX,hsz] at h1
 | succ f ih=>
   intro listed σ h
   unfold BW at h
   split at h
   · rename_i hr
     obtain ⟨ys,h1,h2⟩:=h [] (by simp)
     simp only [iX,zAb] at h1
     subst h1
     refine ⟨fun _=>h2,fun i hi=>?_⟩
     rw [hr] at hi
     cases hi
   · rename_i i0 r hr
     refine ⟨fun h0=>(by rw [hr] at h0; cases h0),fun i hi=>?_⟩
     rw [hr] at hi
     have hall:∀ p∈BW ops f (listed.setIfInBounds i true),∃ ys,iX xs (i::p)=some ys∧vj Φ ys K σ:=fun p hp=>h (i::p) (List.mem_flatMap.2 ⟨i,hi,zDh.2 ⟨p,hp,rfl⟩⟩)
     obtain ⟨p0,hp0⟩:=List.exists_mem_of_ne_nil _ (Nh ops f (listed.setIfInBounds i true))
     obtain ⟨ys0,h0,hw0⟩:=hall p0 hp0
     simp only [iX] at h0
     split at h0
     · rename_i x ys1 hx hy1
       cases h0
       obtain ⟨τ,hτ⟩:=TQ (yY hn hx) hw0
       refine ⟨x,hx,(hτ _).2 (ih _ τ (fun p hp=>?_))⟩
       obtain ⟨ys,h2,hw⟩:=hall p hp
       simp only [iX,hx] at h2
       split at h2
       · rename_i x' ys2 hx' hy2
         cases hx'
         cases h2
         exact ⟨ys2,hy2,(hτ _).1 hw⟩
       · cases h2
     · cases h0
theorem Qq{x:AOp}{σ:St}{K K':St->Prop}(h:aK Φ x K σ)(hk:∀τ,K τ->K' τ):wop Φ x K' σ:=Qs (jC h hk)
theorem ER:∀(f:Nat)(listed:Array Bool){σ:St},th Φ ops xs K f listed σ->MI Φ ops xs K f listed σ
 |0,_,_,h=>h
 |f+1,_,_,h=>⟨h.1,fun i hi=>by
   obtain⟨x,hx,hw⟩:=h.2 i hi;exact⟨x,hx,Qq hw fun τ hτ=>ER f _ hτ⟩⟩
def LI(xs:List AOp)(anc:List Nat)(listed:Array Bool)(i:Nat):Bool:=match xs[i]? with
 |some x=>(zBf xs.length).all fun j=>decide (j=i)||listed.getD j true||x7 anc j i||(match xs[j]? with
   |some y=>wh x y
   |none=>true)
 |none=>false
def GC(xs:List AOp)(anc:List Nat)(listed:Array Bool):List Nat->Option Nat
 |[]=>none
 |i::l=>if LI xs anc listed i=true then some i else GC xs anc listed l
def Ed:List (Option OT)->Option OT
 |[]=>none
 |[t]=>t
 |t::ts=>match t,Ed ts with
   |some a,some b=>some (.both a b)
   |_,_=>none
def opT:Option AOp->Option OT->Option OT
 |some x,some t=>some (.op x t)
 |_,_=>none
def Lm(ops:Array Oper)(xs:List AOp)(anc:List Nat):Nat->Array Bool->Option OT
 |0,listed=>match Region.ready .any ops listed with
   |[]=>some .nil
   |_=>none
 |f+1,listed=>match Region.ready .any ops listed with
   |[]=>some .nil
   |i::r=>match GC xs anc listed (i::r)with
     |some k=>opT xs[k]? (Lm ops xs anc f (listed.setIfInBounds k true))
     |none=>Ed ((i::r).map fun k=>opT xs[k]? (Lm ops xs anc f (listed.setIfInBounds k true)))
theorem Ih{x:Option AOp}{t:Option OT}{u:OT}(h:opT x t=some u):∃y v,x=some y/\t=some v/\u=.op y v:=by
 unfold opT at h;split at h
 ·cases h;exact⟨_,_,rfl,rfl,rfl⟩
 ·cases h
theorem Ec{K:St->Prop}{σ:St}:∀{ts:List (Option OT)}{t:OT},Ed ts=some t->gW Φ t K σ->∀u∈ts,∃v,u=some v/\gW Φ v K σ
 |[],_,h,_,_,_=>by cases h
 |[t0],t,h,hW,u,hu=>by
   simp only[Ed]at h;simp only[List.mem_singleton]at hu;subst hu;exact⟨t,h,hW⟩
 |t0::t1::ts,t,h,hW,u,hu=>by
   simp only[Ed]at h;cases t0 with
   |none=>cases h
   |some a=>
     cases h2:Ed (t1::ts)with
     |none=>simp[h2]at h
     |some b=>
       simp only[h2,zAb]at h;subst h;rcases zCi.1 hu with rfl|hu
       ·exact⟨a,rfl,hW.1⟩
       ·exact Ec h2 hW.2 u hu
theorem LP{anc:List Nat}{listed:Array Bool}{l:List Nat}{k:Nat}(h:GC xs anc listed l=some k):k∈l/\LI xs anc listed k=true:=by
 induction l with
 |nil=>cases h
 |cons i l ih=>
   simp only[GC]at h;split at h
   ·rename_i hf;cases h;exact⟨by simp,hf⟩
   ·exact⟨List.mem_cons_of_mem _ (ih h).1,(ih h).2⟩
theorem OO{anc:List Nat}(ha:EK ops anc)(hK:Inv K):∀(f:Nat)(listed:Array Bool)(σ:St)(t:OT),s6 ops listed->Lm ops xs anc f listed=some t->gW Φ t K σ->
 th Φ ops xs K f listed σ:=by
 intro f
 induction f with
 |zero=>
   intro listed σ l hc h hW;unfold Lm at h;split at h
   ·rename_i hr
    cases h;exact⟨hr,hW⟩
   ·cases h
 |succ f ih=>
   intro listed σ l hc h hW;unfold Lm at h;split at h
   ·rename_i hr
    cases h;exact⟨fun _=>hW,fun i hi=>by rw[hr]at hi;cases hi⟩
   ·rename_i i r hr
    split at h
    ·rename_i k hk
     obtain⟨x,l',hx,hl',rfl⟩:=Ih h;obtain⟨hk1,hfree⟩:=LP hk;have hkr:k∈Region.ready .any ops listed:=by rw[hr];exact hk1
     refine wu ha hK hx f listed σ hc ?_ hkr (jC hW fun τ hτ=>ih _ τ l' (hc.set hkr) hl' hτ);intro j y hy hjk hun hno;unfold LI at hfree;rw[hx]at hfree;have:=zAe.1 hfree j (zBb.2 (zAf.1 hy).1);simp only[hun,hno,hy,Bool.or_false,zCf,decide_eq_true_eq,hjk,false_or]at this;exact this
    ·refine⟨fun h0=>(by rw[hr]at h0;cases h0),fun k hk=>?_⟩
     obtain⟨v,hv,hWv⟩:=Ec h hW _ (zDh.2 ⟨k,by rw[hr]at hk;exact hk,rfl⟩)
     obtain⟨x,l',hx,hl',rfl⟩:=Ih hv;exact⟨x,hx,jC hWv fun τ hτ=>ih _ τ l' (hc.set hk) hl' hτ⟩
def G4(ops:Array Oper)(anc:List Nat):Bool:=
 ((zBf ops.size).all fun j=>match ops[j]? with
   |some o=>o.after.toList.all fun e=>!(Region.binds .any e)||decide (e.on<j)
   |none=>true)&&
 ((zBf ops.size).all fun j=>match ops[j]? with
   |some o=>(zBf j).all fun i=>!(zDd (anc.getD j 0) i)||o.after.toList.any fun e=>Region.binds .any e&&(decide (e.on=i)||x7 anc e.on i)
   |none=>true)
theorem Mz{anc:List Nat}(hd:G4 ops anc=true):EK ops anc:=by
 simp only[G4,zAd]at hd;obtain⟨hed,hanc⟩:=hd;intro j i oj hj hb;simp only[x7,zAd,decide_eq_true_eq]at hb;have hs:j<ops.size:=(zAg.1 hj).1;have h1:=zAe.1 hanc j (zBb.2 hs);simp only[hj]at h1;have h2:=zAe.1 h1 i (zBb.2 hb.1);simp only[hb.2,zBj,zBh]at h2;obtain⟨e,he,h3⟩:=zDe.1 h2;simp only[zAd,zCf,decide_eq_true_eq]at h3;have h4:=zAe.1 hed j (zBb.2 hs);simp only[hj]at h4;have h5:=zAe.1 h4 e he;simp only[h3.1,zBj,zBh,decide_eq_true_eq]at h5;exact⟨e,by simpa using he,h3.1,h5,h3.2⟩
theorem s6.start{n:Nat}:s6 ops (zAh n false):=by
 intro j oj hj hl;by_cases hjn:j<n
 ·simp[hjn]at hl
 ·simp[hjn]at hl
theorem Wj{ps:List Nat}{os:List Oper}{ys:List AOp}(h:LOs P N ps ops os ys):∀{i:Nat}{o:Oper}{y:AOp},os[i]?=some o->ys[i]?=some y->LO P N ps ops o y:=by
 induction h with
 |nil=>intro i o y h;simp at h
 |cons hl hs ih=>
   intro i o y h1 h2;cases i with
   |zero=>simp at h1 h2;subst h1;subst h2;exact hl
   |succ i=>simp at h1 h2;exact ih h1 h2
theorem qG(hJC:gw P M0 B){ρ:Option Nat}{Q:Exit->Act->World->Prop}{K:St->Prop}(hL:LOs P N B.ps ops ops.toList xs)(hK:∀κ' M' σ' a' w',K σ'->Rel N M0 B w0 κ' M' σ' a' w'->Q .normal a' w'):
 ∀(f:Nat)(listed:Array Bool){κ:Kap}{M:Mem}{σ:St}{a:Act}{w:World},Rel N M0 B w0 κ M σ a w->MI (Cn P) ops xs K f listed σ->wpAnyIn (FR ρ) 0 P .any ops Q f listed a w
 |0,_,_,_,_,_,_,H,hW=>⟨hW.1,hK _ _ _ _ _ hW.2 H⟩
 |f+1,listed,_,_,_,_,_,H,hW=>by
   refine⟨fun h0=>hK _ _ _ _ _ (hW.1 h0) H,fun i hi=>?_⟩;obtain⟨x,hx,hw⟩:=hW.2 i hi;obtain⟨_,o,ho,_⟩:=mem_ready.1 hi;have hl:=Wj hL (by simpa using ho) hx
   have:=Ig hJC (ρ:=ρ) H hl hw (Q:=Q) (fun κ' M' σ' a' w' hk H'=>qG (ρ:=ρ) hJC hL hK f _ H' hk);unfold wpOpIn;simp only[ho];split
   ·rename_i hwd;rw[if_pos hwd]at this;exact this
   ·rename_i hwd;rw[if_neg hwd]at this;exact⟨fun _ _=>trivial,this⟩
theorem Rel.draw{κ:Kap}{M:Mem}{σ:St}{a:Act}{w:World}(H:Rel N M0 B w0 κ M σ a w)(n:Nat):Rel N M0 B w0 κ M σ a { w with drawn:=n }:=
 { dfr:=H.dfr,jst:=H.jst,pin:=H.pin,size:=H.size,regs:=H.regs,heap:=fun id ob h=>by
    have:=H.heap id ob h;cases ob with
    |gh l=>
      simp only[aE]at this⊢;obtain⟨k,h1,h2,h3⟩:=this;exact⟨k,h1,H.jst _ _ _ _ _ _ _ h2 ⟨rfl,rfl,rfl,zCb _,fun _ _ _=>rfl,fun _ cur T z h=>⟨cur,T,z,h,rfl⟩⟩ (fun _ _=>rfl) (fun _ _ h=>h) H.snd,h3⟩
    |_=>exact this
   inj:=H.inj,snd:=H.snd,sep:=H.sep,sub:=H.sub,new:=H.new,base:=H.base,blw:=⟨H.blw.os,H.blw.tape,H.blw.output,H.blw.size,H.blw.block,H.blw.siz⟩ }
inductive LC (P:Program) (N:Nat) (ps:List Nat):Code->AC->Prop
 |skip:LC P N ps .skip .skip
 |reg {id ops xs ks}:LOs P N ps ops ops.toList xs->LC P N ps (.region id ops false) (.reg xs ks)
 |regD {id ops xs ys anc perm ks}:LOs P N ps ops ops.toList xs->vU ops xs anc perm=true->iX xs perm=some ys->LC P N ps (.region id ops true) (.regD ys ks)
 |regE {id ops xs yss ks}:LOs P N ps ops ops.toList xs->vz xs=true->ops.size=xs.length->yV xs (BW ops ops.size (zAh ops.size false))=some yss->LC P N ps (.region id ops true) (.regE yss ks)
 |regF {id ops xs yss anc ks}:LOs P N ps ops ops.toList xs->G4 ops anc=true->Lm ops xs anc ops.size (zAh ops.size false)=some yss->LC P N ps (.region id ops true) (.regF yss ks)
 |scope {c rest a b l ks}:LC P N ps c a->findLabel c l=some rest->LC P N ps rest b->LC P N ps (.scope c) (.scope l ks a b)
 |label {l}:LC P N ps (.label l) (.label l)
 |goto {l}:LC P N ps (.goto l) (.goto l)
 |bad {x}:LC P N ps x .bad
 |seq {x y a b}:LC P N ps x a->LC P N ps y b->LC P N ps (.seq x y) (.seq a b)
 |cond {c c' x y a b t}:cO P t c=some c'->LC P N ps x a->LC P N ps y b->LC P N ps (.cond c x y) (.cond c' a b)
 |block {id x a}:LC P N ps x a->LC P N ps (.block id x) (.block id a)
 |loop {x a ks}:LC P N ps x a->LC P N ps (.loop x) (.loop ks a)
 |exit {id}:LC P N ps (.exit id) (.exit id)
 |ret:LC P N ps .ret .ret
def Ex.out:Ex->Exit
 | .norm=>.normal
 | .exit id=>.exit id
 | .goto l=>.goto l
 | .ret=>.ret
theorem vY{κ:Kap}{M:Mem}{σ σ':St}{a:Act}{w:World}(H:Rel N M0 B w0 κ M σ' a w)(ks:List Nat):Rel N M0 B w0 κ M (σ.cls σ' ks) a w:=H.forget _ fun t v h=>II h
theorem yU{r s:List (Nat×V)}(h:∀t,lk s t=lk r t):∀ks,pk s ks=pk r ks
 |[]=>rfl
 |k::ks=>by simp only[pk,h k,yU h ks]
theorem Vb{R:St->Prop}(ks:List Nat):Inv (fun σ'=>R (σ'.nrm ks)):=by
 intro σ1 τ he h1
 have:τ.nrm ks=σ1.nrm ks:=by
  simp only[St.nrm,he.1,yU he.2]
 show R (τ.nrm ks)
 rw[this];exact h1
theorem IK{p:Nat->Prop}(h:∃n,p n):∃n,p n/\∀m,p m->n<=m:=by
 obtain⟨n,hn⟩:=h
 induction n using zCe with
 |_ n ih=>
   by_cases hm:∃m,m<n/\p m
   ·obtain⟨m,h1,h2⟩:=hm
    exact ih m h1 h2
   ·exact⟨n,hn,fun m h=>by
     rcases zDa m n with h1|h1
     ·exact(hm ⟨m,h1,h⟩).elim
     ·exact h1⟩
open Classical in
noncomputable def sA(p:Nat->Prop):Nat:=if h:∃n,p n then(IK h).choose else 0
theorem kS{p:Nat->Prop}(h:∃n,p n):p (sA p)/\∀m,p m->sA p<=m:=by
 unfold sA;rw[dif_pos h];exact(IK h).choose_spec
theorem HE{b:Frame}{a:Act}{c:Code}{k:List Item}{cs:List Frame}{w:World}:step P (lone (b.atR a (.code (.scope c)::k)) cs w)=.next (lone (b.atR a (.code c::.inScope c::k)) cs w):=
 step_lone_go (by simp[stepG,stepG.exec,Frame.atR])
theorem rc{b:Frame}{a:Act}{c:Code}{k:List Item}{cs:List Frame}{w:World}:step P (lone (b.atR a (.inScope c::k)) cs w)=.next (lone (b.atR a k) cs w):=
 step_lone_go (by simp[stepG,stepG.exec,Frame.atR])
theorem vi{F:Fence}{n:Nat}{Q:Exit->Act->World->Prop}{a:Act}{w:World}{c rest:Code}(l:Nat)(J:Act->World->Prop)(μ:Act->World->Nat)(hf:findLabel c l=some rest)
 (first:c.wpIn F n P (Exit.jump l J Q) a w)
 (pass:∀a w,J a w->rest.wpIn F n P (Exit.jump l (fun a' w'=>J a' w'/\μ a' w'<μ a w) Q) a w):(Code.scope c).wpIn F n P Q a w:=by
 intro b k cs hro hb hr;have hg:gotoIn l (.inScope c::k)=some (.code rest::.inScope c::k):=by simp[gotoIn,hf]
 have hS:∀{I:Machine->Prop}{m:Machine}{e:Exit}{a₁:Act}{w₁:World},(∀l',e≠.goto l')->e≠.normal->ArrivesIn I P m b (.inScope c::k) cs e a₁ w₁->ArrivesIn I P m b k cs e a₁ w₁:=by
  intro I m e a₁ w₁ hng hnn harr;cases e with
  |normal=>exact absurd rfl hnn
  |exit id=>exact⟨fun k' hk=>harr.1 k' (by simp[exitTo,hk]),fun hr hk=>harr.2 hr (by simp[exitTo,hk])⟩
  |goto l'=>exact absurd rfl (hng l')
  |ret=>exact harr
  |panic ch=>exact harr
  |outgrown=>exact harr
 have key:∀n a w,μ a w=n->J a w->∃e a' w',Q e a' w'/\ArrivesIn (Machine.fenced P F) P (lone (b.atR a (.code rest::.inScope c::k)) cs w) b k cs e a' w':=by
  intro n
  induction n using zCe with
  |_ n ih=>
    intro a w hn hJ;obtain⟨e,a₁,w₁,hq,harr⟩:=pass a w hJ b (.inScope c::k) cs hro hb hr;cases e with
    |normal=>exact⟨.normal,a₁,w₁,hq,StepsIn.trans harr (.one (fenced_calm hb hr rfl) rc)⟩
    |exit id=>exact⟨.exit id,a₁,w₁,hq,hS (fun _ h=>by cases h) (fun h=>by cases h) harr⟩
    |goto l'=>
      obtain⟨rfl,hJ',hlt⟩:=hq;obtain⟨e₂,a₂,w₂,hq₂,harr₂⟩:=ih _ (by omega) a₁ w₁ rfl hJ'
      exact⟨e₂,a₂,w₂,hq₂,.of_steps (harr.1 _ hg) harr₂⟩
    |ret=>exact⟨_,a₁,w₁,hq,hS (fun _ h=>by cases h) (fun h=>by cases h) harr⟩
    |panic ch=>exact⟨_,a₁,w₁,hq,hS (fun _ h=>by cases h) (fun h=>by cases h) harr⟩
    |outgrown=>exact⟨_,a₁,w₁,hq,hS (fun _ h=>by cases h) (fun h=>by cases h) harr⟩
 have h0:StepsIn (Machine.fenced P F) P (lone (b.atR a (.code (.scope c)::k)) cs w) (lone (b.atR a (.code c::.inScope c::k)) cs w):=.one (fenced_calm hb hr rfl) HE;obtain⟨e,a₁,w₁,hq,harr⟩:=first b (.inScope c::k) cs hro hb hr
 cases e with
 |normal=>exact⟨.normal,a₁,w₁,hq,StepsIn.trans h0 (StepsIn.trans harr (.one (fenced_calm hb hr rfl) rc))⟩
 |exit id=>exact⟨.exit id,a₁,w₁,hq,.of_steps h0 (hS (fun _ h=>by cases h) (fun h=>by cases h) harr)⟩
 |goto l'=>
   obtain⟨rfl,hJ'⟩:=hq;obtain⟨e₂,a₂,w₂,hq₂,harr₂⟩:=key _ a₁ w₁ rfl hJ';exact⟨e₂,a₂,w₂,hq₂,.of_steps (StepsIn.trans h0 (harr.1 _ hg)) harr₂⟩
 |ret=>exact⟨_,a₁,w₁,hq,.of_steps h0 (hS (fun _ h=>by cases h) (fun h=>by cases h) harr)⟩
 |panic ch=>exact⟨_,a₁,w₁,hq,.of_steps h0 (hS (fun _ h=>by cases h) (fun h=>by cases h) harr)⟩
 |outgrown=>exact⟨_,a₁,w₁,hq,.of_steps h0 (hS (fun _ h=>by cases h) (fun h=>by cases h) harr)⟩
theorem xx{F:Fence}{n:Nat}{Q:Exit->Act->World->Prop}{a:Act}{w:World}{c:Code}(I:Nat->Act->World->Prop)(n₀:Nat)(h₀:I n₀ a w)
 (round:∀k a w,I k a w->c.wpIn F n P (Exit.then (fun a' w'=>∃k',k'<k/\I k' a' w') Q) a w):(Code.loop c).wpIn F n P Q a w:=by
 refine wpIn_loop (fun a w=>∃k,I k a w) (fun a w=>sA (fun k=>I k a w)) ⟨n₀,h₀⟩ ?_;intro a w hI;refine wpIn_mono (round _ a w (kS hI).1) ?_;intro e a' w' hq;cases e with
 |normal=>
   obtain⟨k',hlt,hI'⟩:=hq;exact show(∃k,I k a' w')/\sA (fun k=>I k a' w')<sA (fun k=>I k a w)from⟨⟨k',hI'⟩,zDb ((kS ⟨k',hI'⟩).2 k' hI') hlt⟩
 |exit id=>exact hq
 |goto l=>exact hq
 |ret=>exact hq
 |panic ch=>exact hq
 |outgrown=>exact hq
theorem nd(hm:P.follows .mixedOrders=true)(hJC:gw P M0 B){ρ:Option Nat}{c:Code}{x:AC}(h:LC P N B.ps c x):∀{Q:Exit->Act->World->Prop}{R:Ex->St->Prop},
 (∀e κ M σ a w,R e σ->Rel N M0 B w0 κ M σ a w->Q e.out a w)->∀{κ:Kap}{M:Mem}{σ:St}{a:Act}{w:World},Rel N M0 B w0 κ M σ a w->W (Cn P) x R σ->c.wpIn (FR ρ) 0 P Q a w:=by
 induction h with
 |skip=>intro Q R hQ κ M σ a w H hW;exact wpIn_skip (hQ .norm _ _ _ _ _ hW H)
 |reg hL=>
   intro Q R hQ κ M σ a w H hW;refine wpIn_region_list (DT hJC (fun κ' M' σ' a' w' hk H'=>?_) hL H hW);exact hQ .norm _ _ _ _ _ hk (vY H' _)
 | @regD id ops xs ys anc perm ks hL hd hp=>
   intro Q R hQ κ M σ a w H hW;refine wpIn_region_any hm ?_
   have hinv:Inv (fun σ'=>R .norm (σ.cls σ' ks)):=by
    intro σ1 τ he h1
    have:σ.cls τ ks=σ.cls σ1 ks:=by
     simp only[St.cls,he.1,yU he.2]
    rw[this];exact h1
   refine qG hJC hL (fun κ' M' σ' a' w' hk H'=>?_) _ _ (H.draw _) (ER _ _ (JW hd hp hinv hW));exact hQ .norm _ _ _ _ _ hk (vY H' _)
 | @regE id ops xs yss ks hL hn hsz hp=>
   intro Q R hQ κ M σ a w H hW;refine wpIn_region_any hm ?_
   have key:∀(ps:List (List Nat))(yss:List (List AOp)),yV xs ps=some yss->Kv (Cn P) yss (fun σ'=>R .norm (σ.cls σ' ks)) σ->∀p∈ps,∃ys,iX xs p=some ys/\vj (Cn P) ys (fun σ'=>R .norm (σ.cls σ' ks)) σ:=by
    intro ps
    induction ps with
    |nil=>intro _ _ _ p hp;cases hp
    |cons q ps ih=>
      intro yss h1 h2 p hp;simp only[yV]at h1;split at h1
      ·rename_i y ys hy hys
       cases h1;rcases zCi.1 hp with rfl|hp
       ·exact⟨y,hy,h2.1⟩
       ·exact ih ys hys h2.2 p hp
      ·cases h1
   refine qG hJC hL (fun κ' M' σ' a' w' hk H'=>?_) _ _ (H.draw _) (OP hn hsz _ _ σ (key _ _ hp hW));exact hQ .norm _ _ _ _ _ hk (vY H' _)
 | @regF id ops xs yss anc ks hL hanc hp=>
   intro Q R hQ κ M σ a w H hW;refine wpIn_region_any hm ?_;refine qG hJC hL (fun κ' M' σ' a' w' hk H'=>?_) _ _ (H.draw _) (ER _ _ (OO (Mz hanc) (Vb (R:=R .norm) ks) _ _ σ _ s6.start hp hW));obtain⟨κ2,H2⟩:=H'.nrm ks;exact hQ .norm _ _ _ _ _ hk H2
 | @scope c rest x y l ks _ hf _ iha ihb=>
   intro Q R hQ κ M σ a w H hW;obtain⟨I,h1,h2⟩:=hW;have G:∀a w,(∃n κ M τ,I n τ/\Rel N M0 B w0 κ M τ a w)->∃n,∃κ M τ,I n τ/\Rel N M0 B w0 κ M τ a w:=fun _ _ h=>h;refine vi l (fun a w=>∃n κ M τ,I n τ/\Rel N M0 B w0 κ M τ a w) (fun a w=>sA fun n=>∃κ M τ,I n τ/\Rel N M0 B w0 κ M τ a w) hf (iha ?_ H h1) ?_
   ·intro e κ M σ a w hR H
    cases e with
    |norm=>exact hQ .norm _ _ _ _ _ hR H
    |exit id=>exact hQ (.exit id) _ _ _ _ _ hR H
    |ret=>exact hQ .ret _ _ _ _ _ hR H
    |goto l'=>
      obtain⟨rfl,n,ms,τ'',g1,g2⟩:=hR;obtain⟨κ',M',H'⟩:=H.mats g1;obtain⟨κ2,H2⟩:=H'.nrm ks;exact⟨rfl,n,_,_,_,g2,H2⟩
   ·intro a w hJ
    obtain⟨⟨κ,M,τ,hI,H⟩,hmin⟩:=kS hJ;refine ihb ?_ H (h2 _ τ hI);intro e κ M σ a w hR H;cases e with
    |norm=>exact hQ .norm _ _ _ _ _ hR H
    |exit id=>exact hQ (.exit id) _ _ _ _ _ hR H
    |ret=>exact hQ .ret _ _ _ _ _ hR H
    |goto l'=>
      obtain⟨rfl,m,ms,τ'',g1,g2,g3⟩:=hR;obtain⟨κ',M',H'⟩:=H.mats g1;obtain⟨κ2,H2⟩:=H'.nrm ks;have hJ':∃n,∃κ M τ,I n τ/\Rel N M0 B w0 κ M τ a w:=⟨m,_,_,_,g2,H2⟩;exact⟨rfl,hJ',zDb ((kS hJ').2 m ⟨_,_,_,g2,H2⟩) g3⟩
 |label=>intro Q R hQ κ M σ a w H hW;exact wpIn_label (hQ .norm _ _ _ _ _ hW H)
 |goto=>intro Q R hQ κ M σ a w H hW;exact wpIn_goto (hQ (.goto _) _ _ _ _ _ hW H)
 |bad=>
   intro Q R hQ κ M σ a w H hW;exact hW.elim
 |seq _ _ iha ihb=>
   intro Q R hQ κ M σ a w H hW;refine wpIn_seq (iha ?_ H hW);intro e κ M σ a w hR H;cases e with
   |norm=>exact ihb hQ H hR
   |exit id=>exact hQ (.exit id) _ _ _ _ _ hR H
   |goto l=>exact hQ (.goto l) _ _ _ _ _ hR H
   |ret=>exact hQ .ret _ _ _ _ _ hR H
 |cond hc _ _ iha ihb=>
   intro Q R hQ κ M σ a w H hW;simp only[W]at hW;split at hW
   ·rename_i t ht
    have hv:=H.op hc ht;exact wpIn_cond_split (gZ hv) (fun h=>iha hQ H (hW.1 h)) (fun h=>ihb hQ H (hW.2 h))
   ·exact hW.elim
 | @block id x a _ ih=>
   intro Q R hQ κ M σ a w H hW;refine wpIn_block (ih ?_ H hW);intro e κ M σ a w hR H;cases e with
   |norm=>exact hQ .norm _ _ _ _ _ hR H
   |exit id'=>
     simp only[Ex.inBlock]at hR;simp only[Ex.out,Exit.inBlock];split
     ·rename_i he;rw[if_pos he]at hR;exact hQ .norm _ _ _ _ _ hR H
     ·rename_i he;rw[if_neg he]at hR;exact hQ (.exit id') _ _ _ _ _ hR H
   |goto l=>exact hQ (.goto l) _ _ _ _ _ hR H
   |ret=>exact hQ .ret _ _ _ _ _ hR H
 | @loop x a ks _ ih=>
   intro Q R hQ κ M σ a w H hW;obtain⟨I,⟨n,ms,σ',hms,hI⟩,hr⟩:=hW;obtain⟨κ',M',H'⟩:=H.mats hms;obtain⟨κ2,H2⟩:=H'.nrm ks;refine xx (fun n a w=>∃κ M τ,I n τ/\Rel N M0 B w0 κ M τ a w) n ⟨_,_,_,hI,H2⟩ ?_;rintro n a w ⟨κ,M,τ,hI,H⟩;refine ih ?_ H (hr n τ hI);intro e κ M σ a w hR H;cases e with
   |norm=>
     obtain⟨m,ms,τ',h1,h2,h3⟩:=hR;obtain⟨κ',M',H'⟩:=H.mats h1;obtain⟨κ2,H2⟩:=H'.nrm ks;exact⟨m,h3,_,_,_,h2,H2⟩
   |exit id=>exact hQ (.exit id) _ _ _ _ _ hR H
   |goto l=>exact hQ (.goto l) _ _ _ _ _ hR H
   |ret=>exact hQ .ret _ _ _ _ _ hR H
 |exit=>intro Q R hQ κ M σ a w H hW;exact wpIn_exit (hQ (.exit _) _ _ _ _ _ hW H)
 |ret=>intro Q R hQ κ M σ a w H hW;exact wpIn_ret (hQ .ret _ _ _ _ _ hW H)
end
def Y3(P:Program)(op:BinOp)(xt:TypeId)(u v:AO):Act':=
 match P.underlying xt,op with
 |some .bool,.eql=>.beq false u v
 |some .bool,.neq=>.beq true u v
 |some (.struct _),.eql=>match ktT P xt with
   |some kt=>if kt.agg=true then .aeq false kt u v else .bin op u v
   |none=>.bin op u v
 |some (.struct _),.neq=>match ktT P xt with
   |some kt=>if kt.agg=true then .aeq true kt u v else .bin op u v
   |none=>.bin op u v
 |some (.array _ _),.eql=>match ktT P xt with
   |some kt=>if kt.agg=true then .aeq false kt u v else .bin op u v
   |none=>.bin op u v
 |some (.array _ _),.neq=>match ktT P xt with
   |some kt=>if kt.agg=true then .aeq true kt u v else .bin op u v
   |none=>.bin op u v
 |_,_=>.bin op u v
def Dy(P:Program)(t:TypeId):Option (Nat×Bool):=
 match dM P t,r7 P t with
 |some n,some g=>if g=true\/n=1 then some (n,g)else none
 |_,_=>none
def Nv(P:Program)(t:TypeId)(i:Nat):Option (Nat×TypeId):=
 match P.underlying t with
 |some (.struct fs)=>match fs[i]? with
   |some f=>some (f.offset,f.type)
   |none=>none
 |_=>none
def SM(P:Program)(c:Call):Option Act':=
 match c with
 | { callee:=.builtin .len,args:=args,argTypes:=ts }=>match args.toList,ts.toList with
   |[x],[t]=>match cO P t x,P.underlying t with
     |some u,some .string=>some (.lens u)
     |some u,some (.slice _)=>some (.lenq u)
     |_,_=>none
   |_,_=>none
 | { callee:=.builtin .append,args:=args,argTypes:=ts }=>match args.toList,ts.toList with
   |[x,y],[t,t']=>if t=t' then(match P.underlying t with
     |some (.slice e)=>match P.info? e with
       |some i=>match i.zero,cO P t x,cO P t y with
         |some z,some x',some y'=>if 0<i.bytes/\z.cells.size=i.size/\0<i.size then some (.app x' y' e i.size i.bytes)else none
         |_,_,_=>none
       |none=>none
     |_=>none)else(match P.underlying t,P.underlying t' with
     |some (.slice e),some .string=>match P.info? e with
       |some i=>match i.zero,cO P t x,cO P t' y with
         |some (.int .u8 0),some x',some y'=>if i.size=1/\i.bytes=1 then some (.aps x' y' e)else none
         |_,_,_=>none
       |none=>none
     |_,_=>none)
   |_,_=>none
 | { callee:=.builtin .delete,args:=args,argTypes:=ts }=>match args.toList,ts.toList with
   |[x,k],[t,t']=>match P.underlying t with
     |some (.map K _)=>if t'=K then(match ktT P K,cO P t x,cO P K k with
       |some kt,some u,some b=>some (.del kt u b)
       |_,_,_=>none)else none
     |_=>none
   |_,_=>none
 | { callee:=.builtin .unsafeSliceData,args:=args,argTypes:=ts }=>match args.toList,ts.toList with
   |[x],[t]=>match cO P t x,P.underlying t with
     |some u,some (.slice _)=>some (.usd u)
     |_,_=>none
   |_,_=>none
 | { callee:=.builtin .unsafeString,args:=args,argTypes:=ts }=>match args.toList,ts.toList with
   |[p,n],[pt,it]=>match P.underlying pt,cO P pt p,cO P it n with
     |some (.pointer e),some u,some v=>if P.cellsOf e=1 then some (.ust u v e)else none
     |_,_,_=>none
   |_,_=>none
 | { callee:=.builtin .max,args:=args,argTypes:=ts }=>match args.toList,ts.toList with
   |[x,y],[t,t']=>match cO P t x,cO P t' y with
     |some u,some v=>some (.mm true u v)
     |_,_=>none
   |_,_=>none
 | { callee:=.builtin .min,args:=args,argTypes:=ts }=>match args.toList,ts.toList with
   |[x,y],[t,t']=>match cO P t x,cO P t' y with
     |some u,some v=>some (.mm false u v)
     |_,_=>none
   |_,_=>none
 | { callee:=.invoke r name,args:=args,argTypes:=ts }=>match cO P 0 r,cOs P ts.toList args.toList with
   |some x,some xs=>some (if((Vs P name).any fun y=>y.2.2.isSome)=true then .ivp (Vs P name) x xs else .inv (YL P name) x xs)
   |_,_=>none
 | { callee:=.value (.func f),args:=args,argTypes:=ts }=>match cOs P ts.toList args.toList with
   |some xs=>some (.call f xs)
   |none=>none
 | { callee:=.value (.tmp g),args:=args,argTypes:=ts }=>match cOs P ts.toList args.toList with
   |some xs=>some (.callv (.t g) xs)
   |none=>none
 |_=>none
def Q4:Operand->Operand->Bool
 | .tmp a,.tmp b=>decide (a=b)
 | .const (.int k n),.const (.int k' n')=>decide (k=k'/\n=n')
 |_,_=>false
theorem KI{x y:Operand}(h:Q4 x y=true):x=y:=by
 unfold Q4 at h;split at h
 ·simp at h;rw[h]
 ·simp at h;rw[h.1,h.2]
 ·cases h
def Y2(P:Program)(op:BinOp)(xt:TypeId)(y:Operand):Option (Nat×Bool):=match y,op with
 | .const c,.eql=>match E7 P xt c with
   |some k=>some (k,false)
   |none=>none
 | .const c,.neq=>match E7 P xt c with
   |some k=>some (k,true)
   |none=>none
 |_,_=>none
theorem PA{P:Program}{op:BinOp}{xt:TypeId}{y:Operand}{k:Nat}{neg:Bool}(h:Y2 P op xt y=some (k,neg)):∃c,y=.const c/\E7 P xt c=some k/\((op=.eql/\neg=false)\/(op=.neq/\neg=true)):=by
 unfold Y2 at h;split at h
 ·split at h
  ·cases h;exact⟨_,rfl,‹_›,.inl ⟨rfl,rfl⟩⟩
  ·cases h
 ·split at h
  ·cases h;exact⟨_,rfl,‹_›,.inr ⟨rfl,rfl⟩⟩
  ·cases h
 ·cases h
def dh(P:Program)(ty:TypeId):Op->Option Act'
 | .move x=>(cO P ty x).map .mov
 | .assign x=>(cO P ty x).map .mov
 | .pick c a b=>match cO P ty c,cO P ty a,cO P ty b with
   |some c',some a',some b'=>some (.pick c' a' b')
   |_,_,_=>none
 | .field t x i=>match cO P t x,Nv P t i with
   |some y,some (off,ft)=>match Dy P ft with
     |some (n,g)=>some (.fld y off n g)
     |none=>none
   |_,_=>none
 | .fieldAddr t x i=>match cO P 0 x,Nv P t i with
   |some y,some (off,ft)=>match dM P ft with
     |some n=>if n≠0 then some (.fa y off)else none
     |none=>none
   |_,_=>none
 | .indexAddr t x i=>match cO P 0 i,P.underlying t with
   |some j,some (.slice e)=>match cO P t x,dM P e with
     |some y,some n=>some (.ia y j n)
     |_,_=>none
   |some j,some (.array m e)=>match cO P 0 x,dM P e with
     |some y,some n=>some (.iaa y j m n)
     |_,_=>none
   |_,_=>none
 | .load t x=>match cO P 0 x,Dy P t with
   |some y,some (n,g)=>some (.ld y n g)
   |_,_=>none
 | .index t x i=>match cO P t x,cO P 0 i,P.underlying t with
   |some y,some j,some .string=>some (.ixs y j)
   |some y,some j,some (.array m e)=>match Dy P e with
     |some (n,g)=>some (.ixa y j m n g)
     |none=>none
   |_,_,_=>none
 | .binOp op xt x y yt=>match cO P xt x,Y2 P op xt y with
   |some u,some (k,neg)=>some (.nlq k neg u)
   |some u,none=>match cO P yt y with
     |some v=>some (Y3 P op xt u v)
     |none=>none
   |none,_=>none
 | .unOp op t x=>(cO P t x).map (.un op)
 | .convert s d x=>match cO P s x,P.underlying s,P.underlying d with
   |some u,some (.slice e),some .string=>match P.underlying e with
     |some (.int .u8)=>some (.b2s u)
     |_=>none
   |some u,some _,some (.int k)=>some (.cii k u)
   |some u,some (.int _),some .string=>some (.r2s u)
   |some u,some .string,some (.slice e)=>match P.underlying e with
     |some (.int .u8)=>some (.s2b u)
     |_=>none
   |some u,some (.slice e),some (.slice _)=>match P.underlying e with
     |some (.int .u8)=>if s=d then some (.cvb u)else none
     |_=>none
   |_,_,_=>none
 | .slice t x lo hi none=>match cO P t x,cOo P 0 lo,cOo P 0 hi with
   |some u,some lo',some hi'=>match P.underlying t with
     |some .string=>some (.sls u lo' hi')
     |some (.slice e)=>match dM P e with
       |some n=>some (.slq u lo' hi' n)
       |none=>none
     |_=>none
   |_,_,_=>none
 | .extract x i=>(cO P 0 x).map fun u=>.ext u i
 | .build t parts=>match P.built t [],P.info? t with
   |some _,some i=>match i.zero with
     |some (.agg z)=>match Jz P 20 t with
       |some zc=>match cSs P zc z.toList,wb P t parts.toList with
         |some zs,some ps=>some (.bld zs ps)
         |_,_=>none
       |none=>none
     |_=>none
   |_,_=>none
 | .makeFunc f a b=>match cOs P (zBa a.size 0) a.toList,cOs P (zBa b.size 0) b.toList with
   |some a',some b'=>some (.mkf f a' b')
   |_,_=>none
 | .nilCheck x=>(cO P 0 x).map .nlc
 | .alloc e=>match P.info? e with
   |some i=>match i.zero with
     |some z=>match cV P e z with
       |some v=>if nt v=true then some (.alb e 0 (cl v))else none
       |none=>none
     |none=>none
   |none=>none
 | .box e x=>(cO P e x).map .box
 | .store t p x=>match cO P 0 p,cO P t x,dM P t with
   |some p',some x',some n=>some (.st n p' x')
   |_,_,_=>none
 | .buildSlice t len parts=>match P.underlying t with
   |some (.slice e)=>match P.info? e with
     |some i=>match i.zero with
       |some z=>match cOs P (zBa len e) (parts.toList.map (·.2))with
         |some xs=>if 0<i.size/\z.cells.size=i.size/\len*i.size<=16777216/\parts.toList.map (·.1)=zBf len then some (.lit e i.size xs)else none
         |none=>none
       |none=>none
     |none=>none
   |_=>none
 | .makeSlice t l l'=>if Q4 l l'=true then(match P.underlying t with
    |some (.slice e)=>match P.info? e with
      |some i=>match i.zero with
        |some (.slice none 0 0)=>match P.underlying e with
          |some (.slice e2)=>match P.info? e2,cO P 0 l with
            |some i2,some u=>if 0<i.bytes/\i.size=1/\0<i2.size then some (.mkm e i.bytes e2 i2.size u)else none
            |_,_=>none
          |_=>none
        |some z=>match cV P e z,cO P 0 l with
          |some v,some u=>match pur [] v with
            |some v'=>if nt v=true/\0<i.bytes/\0<i.size/\z.cells.size=i.size then some (.mks e i.size i.bytes v' u)else none
            |none=>none
          |_,_=>none
        |none=>none
      |none=>none
    |_=>none)else(match l with
      | .const (.int _ 0)=>(match P.underlying t with
        |some (.slice e)=>match P.info? e with
          |some i=>match i.zero,cO P 0 l' with
            |some _,some u=>if 0<i.bytes/\0<i.size then some (.mk0 e i.size i.bytes u)else none
            |_,_=>none
          |none=>none
        |_=>none)
      |_=>none)
 | .makeInterface t x=>match cO P t x,P.underlying t with
   |some u,some ds=>match ds with
     | .interface _=>none
     |_=>some (.mki t u)
   |_,_=>none
 | .typeAssert x xt t okk=>match P.underlying t,cO P xt x,P.info? t with
   |some ds,some u,some i=>match i.zero with
     |some z=>match cV P t z with
       |some zv=>match ds with
         | .interface _=>none
         |_=>some (.tya t zv okk u)
       |none=>none
     |none=>none
   |_,_,_=>none
 | .range t x=>match cO P t x,P.underlying t with
   |some u,some .string=>some (.rgs u)
   |_,_=>none
 | .next x true=>(cO P 0 x).map .nxs
 | .makeMap t none=>match P.underlying t with
   |some (.map K _)=>match ktT P K with
     |some kt=>some (.mkp kt)
     |none=>none
   |_=>none
 | .lookup t x k okk=>match P.underlying t with
   |some (.map K E)=>match ktT P K,cO P t x,cO P K k,P.info? E with
     |some kt,some u,some v,some i=>match i.zero with
       |some z=>match cV P E z with
         |some zv=>some (.lkp kt zv okk u v)
         |none=>none
       |none=>none
     |_,_,_,_=>none
   |_=>none
 | .mapUpdate t x k v=>match P.underlying t with
   |some (.map K E)=>match ktT P K,cO P t x,cO P K k,cO P E v with
     |some kt,some u,some b,some c=>some (.mup kt u b c)
     |_,_,_,_=>none
   |_=>none
 | .insert t x k v=>match P.underlying t with
   |some (.map K E)=>match ktT P K,cO P t x,cO P K k,cO P E v with
     |some kt,some u,some b,some c=>some (.mup kt u b c)
     |_,_,_,_=>none
   |_=>none
 | .call c=>SM P c
 |_=>none
theorem mr {P:Program} {t:TypeId} {n:Nat} {g:Bool} (h:Dy P t=some (n,g)):dM P t=some n∧r7 P t=some g∧(g=false→n=1):=by
 unfold Dy at h
 split at h
 · rename_i n' g' h1 h2
   split at h
   · rename_i hc
     cases h
     exact ⟨h1,h2,fun hg=>by rcases hc with h | h; · rw [hg] at h; cases h
                             · exact h⟩
   · cases h
 · cases h
theorem A4{P:Program}{t:TypeId}{i off:Nat}{ft:TypeId}(h:Nv P t i=some (off,ft)):∃fs f,P.underlying t=some (.struct fs)/\fs[i]?=some f/\off=f.offset/\ft=f.type:=by
 unfold Nv at h;split at h
 ·rename_i fs h1
  split at h
  ·rename_i f h2;cases h;exact⟨fs,f,h1,h2,rfl,rfl⟩
  ·cases h
 ·cases h
theorem PB {P:Program} {ty xt yt:TypeId} {op:BinOp} {x y:Operand} {u v:AO} (hu:cO P xt x=some u) (hv:cO P yt y=some v):LV P ty (.binOp op xt x y yt) (Y3 P op xt u v):=by
 unfold Y3
 split
 · exact .beq ‹_› hu hv
 · exact .bne ‹_› hu hv
 all_goals
  first
   | exact .bin hu hv
   | (split
      · split
        · first | exact .aeq ‹_› ‹_› hu hv | exact .ane ‹_› ‹_› hu hv
        · exact .bin hu hv
      · exact .bin hu hv)
theorem Mp{P:Program}{ty:TypeId}{c:Call}{x:Act'}(h:SM P c=some x):LV P ty (.call c) x\/LE P ty (.call c) x:=by
 unfold SM at h;split at h
 ·rename_i args ts
  split at h
  ·rename_i x t hx ht
   have e1:args=#[x]:=by apply zAi;simpa using hx
   have e2:ts=#[t]:=by apply zAi;simpa using ht
   subst e1;subst e2;split at h
   ·cases h;exact .inl (.lens ‹_› ‹_›)
   ·cases h;exact .inl (.lenq ‹_› ‹_›)
   ·cases h
  ·cases h
 ·rename_i args ts
  split at h
  ·rename_i x y t t' hx ht
   have e1:args=#[x,y]:=by apply zAi;simpa using hx
   have e2:ts=#[t,t']:=by apply zAi;simpa using ht
   subst e1;subst e2;split at h
   ·rename_i ett
    subst ett;split at h
    ·split at h
     ·split at h
      ·split at h
       ·rename_i hc;cases h;exact .inr (.app ‹_› ‹_› ‹_› rfl rfl hc.1 hc.2.1 hc.2.2 ‹_› ‹_›)
       ·cases h
      ·cases h
     ·cases h
    ·cases h
   ·split at h
    ·rename_i h1 h2
     split at h
     ·rename_i h3
      split at h
      ·rename_i h4 h5 h6
       split at h
       ·rename_i hc;cases h;exact .inr (.aps h1 h2 h3 h4 hc.1 hc.2 h5 h6)
       ·cases h
      ·cases h
     ·cases h
    ·cases h
  ·cases h
 ·rename_i args ts
  split at h
  ·rename_i x k t t' hx ht
   have e1:args=#[x,k]:=by apply zAi;simpa using hx
   have e2:ts=#[t,t']:=by apply zAi;simpa using ht
   subst e1;subst e2;split at h
   ·rename_i h1
    split at h
    ·rename_i ett
     subst ett;split at h
     ·rename_i h2 h3 h4
      cases h;exact .inr (.del h1 h2 h3 h4)
     ·cases h
    ·cases h
   ·cases h
  ·cases h
 ·rename_i args ts
  split at h
  ·rename_i x t hx ht
   have e1:args=#[x]:=by apply zAi;simpa using hx
   have e2:ts=#[t]:=by apply zAi;simpa using ht
   subst e1;subst e2;split at h
   ·rename_i h1 h2
    cases h;exact .inr (.usd h1 h2)
   ·cases h
  ·cases h
 ·rename_i args ts
  split at h
  ·rename_i p n pt it hx ht
   have e1:args=#[p,n]:=by apply zAi;simpa using hx
   have e2:ts=#[pt,it]:=by apply zAi;simpa using ht
   subst e1;subst e2;split at h
   ·rename_i h1 h2 h3
    split at h
    ·rename_i hc
     cases h;exact .inr (.ust h1 hc h2 h3)
    ·cases h
   ·cases h
  ·cases h
 ·rename_i args ts
  split at h
  ·rename_i x y t t' hx ht
   have e1:args=#[x,y]:=by apply zAi;simpa using hx
   have e2:ts=#[t,t']:=by apply zAi;simpa using ht
   subst e1;subst e2;split at h
   ·cases h;exact .inl (.mmx ‹_› ‹_›)
   ·cases h
  ·cases h
 ·rename_i args ts
  split at h
  ·rename_i x y t t' hx ht
   have e1:args=#[x,y]:=by apply zAi;simpa using hx
   have e2:ts=#[t,t']:=by apply zAi;simpa using ht
   subst e1;subst e2;split at h
   ·cases h;exact .inl (.mmn ‹_› ‹_›)
   ·cases h
  ·cases h
 ·split at h
  ·simp only[zAb]at h
   subst h;split
   ·exact .inr (.ivp ‹_› rfl ‹_›)
   ·exact .inr (.inv ‹_› rfl ‹_›)
  ·cases h
 ·split at h
  ·cases h;exact .inr (.call ‹_›)
  ·cases h
 ·split at h
  ·cases h;exact .inr (.callv ‹_›)
  ·cases h
 ·cases h
theorem PC{P:Program}{ty:TypeId}{o:Op}{x:Act'}(h:dh P ty o=some x):LV P ty o x\/LE P ty o x:=by
 cases o with
 |move x=>simp only[dh,zAc]at h;obtain⟨y,hy,rfl⟩:=h;exact .inl (.move hy)
 |assign x=>simp only[dh,zAc]at h;obtain⟨y,hy,rfl⟩:=h;exact .inl (.assign hy)
 |pick c a b=>
   simp only[dh]at h;split at h
   ·cases h;exact .inl (.pick ‹_› ‹_› ‹_›)
   ·cases h
 |field t x i=>
   simp only[dh]at h;split at h
   ·rename_i y off ft hy hs
    obtain⟨fs,f,h1,h2,rfl,rfl⟩:=A4 hs;split at h
    ·rename_i n g hn
     obtain⟨k1,k2,k3⟩:=mr hn;cases h;exact .inl (.field hy h1 h2 k1 k2 k3)
    ·cases h
   ·cases h
 |fieldAddr t x i=>
   simp only[dh]at h;split at h
   ·rename_i y off ft hy hs
    obtain⟨fs,f,h1,h2,rfl,rfl⟩:=A4 hs;split at h
    ·split at h
     ·cases h;exact .inl (.fieldAddr hy h1 h2 ‹_› ‹_›)
     ·cases h
    ·cases h
   ·cases h
 |indexAddr t x i=>
   simp only[dh]at h;split at h
   ·split at h
    ·cases h;exact .inl (.indexAddr ‹_› ‹_› ‹_› ‹_›)
    ·cases h
   ·split at h
    ·cases h;exact .inl (.indexAddrA ‹_› ‹_› ‹_› ‹_›)
    ·cases h
   ·cases h
 |load t x=>
   simp only[dh]at h;split at h
   ·rename_i y n g hy hs
    obtain⟨k1,k2,k3⟩:=mr hs;cases h;exact .inl (.load hy k1 k2 k3)
   ·cases h
 |index t x i=>
   simp only[dh]at h;split at h
   ·cases h;exact .inl (.indexS ‹_› ‹_› ‹_›)
   ·split at h
    ·rename_i n g hs
     obtain⟨k1,k2,k3⟩:=mr hs;cases h;exact .inl (.indexA ‹_› ‹_› ‹_› k1 k2 k3)
    ·cases h
   ·cases h
 |binOp op xt x y yt=>
   simp only[dh]at h;split at h
   ·rename_i hn
    cases h;obtain⟨c,rfl,h1,h2⟩:=PA hn;exact .inl (.nlq h1 h2 ‹_›)
   ·split at h
    ·cases h;exact .inl (PB ‹_› ‹_›)
    ·cases h
   ·cases h
 |unOp op t x=>simp only[dh,zAc]at h;obtain⟨y,hy,rfl⟩:=h;exact .inl (.un hy)
 |convert s d x=>
   simp only[dh]at h;split at h
   ·split at h
    ·cases h;exact .inr (.b2s ‹_› ‹_› ‹_› ‹_›)
    ·cases h
   ·cases h;exact .inl (.cii ‹_› ‹_› ‹_›)
   ·cases h;exact .inl (.r2s ‹_› ‹_› ‹_›)
   ·split at h
    ·cases h;exact .inr (.s2b ‹_› ‹_› ‹_› ‹_›)
    ·cases h
   ·split at h
    ·split at h
     ·rename_i e
      subst e;cases h;have h8:=‹P.underlying _=some (TypeDesc.int IntKind.u8)›;exact .inr (.cvb ‹_› (by assumption) h8)
     ·cases h
    ·cases h
   ·cases h
 |slice t x lo hi m=>
   cases m with
   |some m=>simp only[dh]at h;cases h
   |none=>
     simp only[dh]at h;split at h
     ·split at h
      ·cases h;exact .inl (.sls ‹_› ‹_› ‹_› ‹_›)
      ·split at h
       ·cases h;exact .inl (.slq ‹_› ‹_› ‹_› ‹_› ‹_›)
       ·cases h
      ·cases h
     ·cases h
 |extract x i=>simp only[dh,zAc]at h;obtain⟨y,hy,rfl⟩:=h;exact .inl (.ext hy)
 |build t parts=>
   simp only[dh]at h;split at h
   ·split at h
    ·split at h
     ·split at h
      ·cases h;exact .inl (.bld ‹_› ‹_› ‹_› ‹_› ‹_› ‹_›)
      ·cases h
     ·cases h
    ·cases h
   ·cases h
 |makeFunc f a b=>
   simp only[dh]at h;split at h
   ·cases h;exact .inl (.mkf ‹_› ‹_›)
   ·cases h
 |nilCheck x=>simp only[dh,zAc]at h;obtain⟨y,hy,rfl⟩:=h;exact .inl (.nlc hy)
 |alloc e=>
   simp only[dh]at h;split at h
   ·split at h
    ·split at h
     ·split at h
      ·cases h;exact .inr (.alb ‹_› ‹_› ‹_› ‹_›)
      ·cases h
     ·cases h
    ·cases h
   ·cases h
 |box e x=>simp only[dh,zAc]at h;obtain⟨y,hy,rfl⟩:=h;exact .inr (.box hy)
 |store t p x=>
   simp only[dh]at h;split at h
   ·cases h;exact .inr (.store ‹_› ‹_› ‹_›)
   ·cases h
 |buildSlice t len parts=>
   simp only[dh]at h;split at h
   ·split at h
    ·split at h
     ·split at h
      ·split at h
       ·rename_i hc;cases h;exact .inr (.lit ‹_› ‹_› rfl hc.1 ‹_› hc.2.1 hc.2.2.1 hc.2.2.2 ‹_›)
       ·cases h
      ·cases h
     ·cases h
    ·cases h
   ·cases h
 |makeSlice t l l'=>
   simp only[dh]at h;split at h
   ·rename_i hab
    have hab:=KI hab;subst hab;split at h
    ·split at h
     ·split at h
      ·split at h
       ·split at h
        ·split at h
         ·rename_i hc;cases h;exact .inr (.mkm ‹_› ‹_› ‹_› hc.2.1 rfl hc.1 ‹_› ‹_› rfl hc.2.2 ‹_›)
         ·cases h
        ·cases h
       ·cases h
      ·split at h
       ·split at h
        ·split at h
         ·rename_i hc;cases h;exact .inr (.mks ‹_› ‹_› ‹_› ‹_› hc.1 ‹_› rfl rfl hc.2.1 hc.2.2.1 ‹_› hc.2.2.2)
         ·cases h
        ·cases h
       ·cases h
      ·cases h
     ·cases h
    ·cases h
   ·split at h
    ·split at h
     ·split at h
      ·split at h
       ·split at h
        ·rename_i hc;cases h;exact .inr (.mk0 ‹_› ‹_› ‹_› rfl rfl hc.1 hc.2 ‹_›)
        ·cases h
       ·cases h
      ·cases h
     ·cases h
    ·cases h
 |makeInterface t x=>
   simp only[dh]at h;split at h
   ·rename_i u ds hu hds
    split at h
    ·cases h
    ·rename_i hne
     cases h;exact .inl (.mki hu hds (fun ms e=>hne ms e))
   ·cases h
 |typeAssert x xt t okk=>
   simp only[dh]at h;split at h
   ·rename_i ds u i hds hu hi
    split at h
    ·rename_i z hz
     split at h
     ·rename_i zv hzv
      split at h
      ·cases h
      ·rename_i hne
       cases h;exact .inl (.tya hds (fun ms e=>hne ms e) hu hi hz hzv)
     ·cases h
    ·cases h
   ·cases h
 |range t x=>
   simp only[dh]at h;split at h
   ·cases h;exact .inr (.rgs ‹_› ‹_›)
   ·cases h
 |next x b=>
   cases b with
   |true=>
     simp only[dh,zAc]at h;obtain⟨u,hu,rfl⟩:=h;exact .inr (.nxs hu)
   |false=>simp only[dh]at h;cases h
 |makeMap t r=>
   cases r with
   |some r=>simp only[dh]at h;cases h
   |none=>
     simp only[dh]at h;split at h
     ·split at h
      ·cases h;exact .inr (.mkp ‹_› ‹_›)
      ·cases h
     ·cases h
 |lookup t x k okk=>
   simp only[dh]at h;split at h
   ·split at h
    ·split at h
     ·split at h
      ·cases h;exact .inl (.lkp ‹_› ‹_› ‹_› ‹_› ‹_› ‹_› ‹_›)
      ·cases h
     ·cases h
    ·cases h
   ·cases h
 |mapUpdate t x k v=>
   simp only[dh]at h;split at h
   ·split at h
    ·cases h;exact .inr (.mup ‹_› ‹_› ‹_› ‹_› ‹_›)
    ·cases h
   ·cases h
 |insert t x k v=>
   simp only[dh]at h;split at h
   ·split at h
    ·cases h;exact .inr (.mui ‹_› ‹_› ‹_› ‹_› ‹_›)
    ·cases h
   ·cases h
 |call c=>simp only[dh]at h;exact Mp h
 |_=>simp only[dh]at h;cases h
def SJ(P:Program)(N:Nat)(ps:List Nat)(ops:Array Oper)(o:Oper):Option AOp:=
 match(dh P o.type o.op).getD .bad,(match o.dst with
  |some t=>decide (t<N)&& !gm t ps
  |none=>true)with
 |a,true=>match o.guard with
   |none=>some ⟨o.dst,a,none⟩
   |some (j,b)=>match ops[j]? with
     |some oj=>match oj.dst with
       |some t=>some ⟨o.dst,a,some (t,b)⟩
       |none=>none
     |none=>none
 |_,_=>none
def nc(P:Program)(N:Nat)(ps:List Nat)(ops:Array Oper):List Oper->Option (List AOp)
 |[]=>some []
 |o::os=>match SJ P N ps ops o,nc P N ps ops os with
   |some x,some xs=>some (x::xs)
   |_,_=>none
def mkD(E:List Nat)(d:Option Nat):Bool:=match d with
 |some t=>gm (3000000+t) E
 |none=>false
def mkC(E:List Nat)(d:Option Nat):Bool:=match d with
 |some t=>gm (5000000+t) E
 |none=>false
def mkB(E:List Nat)(d:Option Nat):Option Nat:=match d with
 |some t=>(E.find? fun m=>decide (m/1000000=1000000+t)).map (· %1000000)
 |none=>none
def YQ(E:List Nat)(x:AOp):AOp:=match x.a with
 | .call f xs=>if(gm f E||mkC E x.d)=true then⟨x.d,.callH f xs,x.g⟩else x
 | .slq y none (some hi) sz=>if gm 1000000 E=true then⟨x.d,.trc y hi sz,x.g⟩else x
 | .callv g xs=>if gm 1000002 E=true then⟨x.d,.yld g xs,x.g⟩else x
 | .lit e sz ys=>if(gm 1000001 E||(gm (2000000+e) E||mkD E x.d))=true then⟨x.d,.ltr e sz ys,x.g⟩else x
 | .alb t _ z=>if mkD E x.d=true then⟨x.d,.alq z,x.g⟩else match mkB E x.d with
   |some e=>⟨x.d,.alb t e z,x.g⟩
   |none=>⟨x.d,.alc z,x.g⟩
 | .mks e sz by' z n=>if mkD E x.d=true then⟨x.d,.mkq e sz by' z n,x.g⟩else x
 | .s2b y=>if mkD E x.d=true then⟨x.d,.sbq y,x.g⟩else x
 | .box y=>if mkD E x.d=true then⟨x.d,.bxq y,x.g⟩else x
 | .app (.v (.nil _)) y e sz by'=>if mkD E x.d=true then⟨x.d,.apz y e sz by',x.g⟩else x
 | .app (.t r) y e sz by'=>if(mkD E x.d&&(decide (sz=1)&&decide (by'=1)))=true then⟨x.d,.apb (.t r) y e,x.g⟩else x
 |_=>x
def fHs(E:List Nat):List AOp->List AOp
 |[]=>[]
 |x::xs=>YQ E x::fHs E xs
section
variable{P:Program}
theorem Wi{ty:TypeId}{op:Op}{f:FuncId}{xs:List AO}(h:LV P ty op (.call f xs)):False:=by cases h
theorem Tk{ty:TypeId}{op:Op}{f:FuncId}{xs:List AO}(h:LE P ty op (.call f xs)):LE P ty op (.callH f xs):=by
 cases h;exact .callH ‹_›
theorem Th{ty:TypeId}{op:Op}{f:AO}{xs:List AO}(h:LV P ty op (.callv f xs)):False:=by cases h
theorem aae{ty:TypeId}{op:Op}{f:AO}{xs:List AO}(h:LE P ty op (.callv f xs)):LE P ty op (.yld f xs):=by
 cases h;exact .yld ‹_›
theorem aab{ty:TypeId}{op:Op}{e sz:Nat}{xs:List AO}(h:LV P ty op (.lit e sz xs)):False:=by cases h
theorem aai{ty:TypeId}{op:Op}{e sz:Nat}{xs:List AO}(h:LE P ty op (.lit e sz xs)):LE P ty op (.ltr e sz xs):=by
 cases h with
 |lit h1 h2 h3 h4 h5 h6 h7 h8 h9=>exact .ltr h1 h2 h3 h4 h5 h6 h7 h8 h9
theorem ME{ty:TypeId}{op:Op}{z:List V}{t q:Nat}(h:LV P ty op (.alb t q z)):False:=by cases h
theorem aam{ty:TypeId}{op:Op}{z:List V}{t q:Nat}(h:LE P ty op (.alb t q z)):LE P ty op (.alq z):=by
 cases h with
 |alb h1 h2 h3 h4=>exact .alq h1 h2 h3 h4
theorem aan{ty:TypeId}{op:Op}{z:List V}{t q:Nat}(h:LE P ty op (.alb t q z)):LE P ty op (.alc z):=by
 cases h with
 |alb h1 h2 h3 h4=>exact .alloc h1 h2 h3 h4
theorem aao{ty:TypeId}{op:Op}{z:List V}{t p q:Nat}(h:LE P ty op (.alb t p z)):LE P ty op (.alb t q z):=by
 cases h with
 |alb h1 h2 h3 h4=>exact .alb h1 h2 h3 h4
theorem aal{ty:TypeId}{op:Op}{x y:AO}{e:Nat}(h:LE P ty op (.app x y e 1 1)):LE P ty op (.apb x y e):=by
 cases h with
 |app h1 h2 h3 h4 h5 h6 h7 h8 h9 h10=>exact .apb h1 h2 h3 h4 h5 h7 h9 h10
theorem aaa{ty:TypeId}{op:Op}{e sz by':Nat}{z:V}{n:AO}(h:LV P ty op (.mks e sz by' z n)):False:=by cases h
theorem aah{ty:TypeId}{op:Op}{e sz by':Nat}{z:V}{n:AO}(h:LE P ty op (.mks e sz by' z n)):LE P ty op (.mkq e sz by' z n):=by
 cases h with
 |mks h1 h2 h3 h4 h5 h6 h7 h8 h9 h10 h11 h12=>exact .mkq h1 h2 h3 h4 h5 h6 h7 h8 h9 h10 h11 h12
theorem Z9{ty:TypeId}{op:Op}{y:AO}(h:LV P ty op (.s2b y)):False:=by cases h
theorem aag{ty:TypeId}{op:Op}{y:AO}(h:LE P ty op (.s2b y)):LE P ty op (.sbq y):=by
 cases h with
 |s2b h1 h2 h3 h4=>exact .sbq h1 h2 h3 h4
theorem aad{ty:TypeId}{op:Op}{y:AO}(h:LV P ty op (.box y)):False:=by cases h
theorem aaj{ty:TypeId}{op:Op}{y:AO}(h:LE P ty op (.box y)):LE P ty op (.bxq y):=by
 cases h with
 |box h1=>exact .bxq h1
theorem Ti{ty:TypeId}{op:Op}{x y:AO}{e sz by':Nat}(h:LV P ty op (.app x y e sz by')):False:=by cases h
theorem aak{ty:TypeId}{op:Op}{s0:Nat}{y:AO}{e sz by':Nat}(h:LE P ty op (.app (.v (.nil s0)) y e sz by')):LE P ty op (.apz y e sz by'):=by
 cases h with
 |app h1 h2 h3 h4 h5 h6 h7 h8 h9 h10=>exact .apz h1 h2 h3 h4 h5 h6 h7 h8 h9 h10
theorem aaf{ty:TypeId}{op:Op}{y:AO}{lo hi:Option AO}{sz:Nat}(h:LE P ty op (.slq y lo hi sz)):False:=by cases h
theorem SL{t:TypeId}{o:Option Operand}(h:cOo P t o=some none):o=none:=by
 cases o with
 |none=>rfl
 |some o=>simp only[cOo,zAc]at h;obtain⟨_,_,h⟩:=h;cases h
theorem SK{t:TypeId}{o:Option Operand}{y:AO}(h:cOo P t o=some (some y)):∃o',o=some o'/\cO P t o'=some y:=by
 cases o with
 |none=>simp only[cOo,zAb]at h;cases h
 |some o=>simp only[cOo,zAc]at h;obtain⟨z,h,e⟩:=h;cases e;exact⟨o,rfl,h⟩
theorem Z8{ty:TypeId}{op:Op}{y hi:AO}{sz:Nat}(h:LV P ty op (.slq y none (some hi) sz)):LE P ty op (.trc y hi sz):=by
 cases h with
 |slq h1 h2 h3 h4 h5=>
   have e1:=SL h2;obtain⟨o',e2,h6⟩:=SK h3;subst e1;subst e2;exact .trc h1 h6 h4 h5
theorem Pi{E ps:List Nat}{N:Nat}{ops:Array Oper}{o:Oper}{x:AOp}(h:LO P N ps ops o x):LO P N ps ops o (YQ E x):=by
 unfold YQ;split
 ·rename_i f xs hx
  split
  ·refine⟨h.dst,h.lt,.inr (.inl ?_),h.grd⟩
   rcases h.act with h1|h1|h1
   ·rw[hx]at h1;exact(Wi h1).elim
   ·rw[hx]at h1;exact Tk h1
   ·rw[hx]at h1;cases h1
  ·exact h
 ·rename_i y hi sz hx
  split
  ·refine⟨h.dst,h.lt,.inr (.inl ?_),h.grd⟩
   rcases h.act with h1|h1|h1
   ·rw[hx]at h1;exact Z8 h1
   ·rw[hx]at h1;exact(aaf h1).elim
   ·rw[hx]at h1;cases h1
  ·exact h
 ·rename_i g xs hx
  split
  ·refine⟨h.dst,h.lt,.inr (.inl ?_),h.grd⟩
   rcases h.act with h1|h1|h1
   ·rw[hx]at h1;exact(Th h1).elim
   ·rw[hx]at h1;exact aae h1
   ·rw[hx]at h1;cases h1
  ·exact h
 ·rename_i e sz ys hx
  split
  ·refine⟨h.dst,h.lt,.inr (.inl ?_),h.grd⟩
   rcases h.act with h1|h1|h1
   ·rw[hx]at h1;exact(aab h1).elim
   ·rw[hx]at h1;exact aai h1
   ·rw[hx]at h1;cases h1
  ·exact h
 ·rename_i t q z hx
  split
  ·refine⟨h.dst,h.lt,.inr (.inl ?_),h.grd⟩
   rcases h.act with h1|h1|h1
   ·rw[hx]at h1;exact(ME h1).elim
   ·rw[hx]at h1;exact aam h1
   ·rw[hx]at h1;cases h1
  ·split
   ·refine⟨h.dst,h.lt,.inr (.inl ?_),h.grd⟩
    rcases h.act with h1|h1|h1
    ·rw[hx]at h1;exact(ME h1).elim
    ·rw[hx]at h1;exact aao h1
    ·rw[hx]at h1;cases h1
   ·refine⟨h.dst,h.lt,.inr (.inl ?_),h.grd⟩
    rcases h.act with h1|h1|h1
    ·rw[hx]at h1;exact(ME h1).elim
    ·rw[hx]at h1;exact aan h1
    ·rw[hx]at h1;cases h1
 ·rename_i e sz by' z n hx
  split
  ·refine⟨h.dst,h.lt,.inr (.inl ?_),h.grd⟩
   rcases h.act with h1|h1|h1
   ·rw[hx]at h1;exact(aaa h1).elim
   ·rw[hx]at h1;exact aah h1
   ·rw[hx]at h1;cases h1
  ·exact h
 ·rename_i y hx
  split
  ·refine⟨h.dst,h.lt,.inr (.inl ?_),h.grd⟩
   rcases h.act with h1|h1|h1
   ·rw[hx]at h1;exact(Z9 h1).elim
   ·rw[hx]at h1;exact aag h1
   ·rw[hx]at h1;cases h1
  ·exact h
 ·rename_i y hx
  split
  ·refine⟨h.dst,h.lt,.inr (.inl ?_),h.grd⟩
   rcases h.act with h1|h1|h1
   ·rw[hx]at h1;exact(aad h1).elim
   ·rw[hx]at h1;exact aaj h1
   ·rw[hx]at h1;cases h1
  ·exact h
 ·rename_i s0 y e sz by' hx
  split
  ·refine⟨h.dst,h.lt,.inr (.inl ?_),h.grd⟩
   rcases h.act with h1|h1|h1
   ·rw[hx]at h1;exact(Ti h1).elim
   ·rw[hx]at h1;exact aak h1
   ·rw[hx]at h1;cases h1
  ·exact h
 ·rename_i r y e sz by' hx
  split
  ·rename_i hc
   simp only[zAd,decide_eq_true_eq]at hc;obtain⟨_,rfl,rfl⟩:=hc;refine⟨h.dst,h.lt,.inr (.inl ?_),h.grd⟩;rcases h.act with h1|h1|h1
   ·rw[hx]at h1;exact(Ti h1).elim
   ·rw[hx]at h1;exact aal h1
   ·rw[hx]at h1;cases h1
  ·exact h
 ·exact h
theorem Sg{E ps:List Nat}{N:Nat}{ops:Array Oper}{os:List Oper}{xs:List AOp}(h:LOs P N ps ops os xs):LOs P N ps ops os (fHs E xs):=by
 induction h with
 |nil=>exact .nil
 |cons h1 _ ih=>exact .cons (Pi h1) ih
end
def yX:AC->Bool
 | .seq a b=>yX a&&yX b
 | .label _=>false
 | .bad=>false
 |_=>true
def sO(l:Nat):AC->Option AC
 | .seq a b=>match sO l a with
   |some r=>some (.seq r b)
   |none=>if yX a=true then sO l b else none
 | .label l'=>if(l' == l)=true then some .skip else none
 |_=>none
theorem K7{P:Program}{N:Nat}{ps:List Nat}{c:Code}{a:AC}(h:LC P N ps c a)(l:Nat):yX a=true->findLabel c l=none:=by
 induction h with
 |seq _ _ ih1 ih2=>
   intro hn;simp only[yX,zAd]at hn;simp only[findLabel,ih1 hn.1,ih2 hn.2]
 |label=>intro hn;simp[yX]at hn
 |bad=>intro hn;simp[yX]at hn
 |_=>intro _;rfl
theorem JF{P:Program}{N:Nat}{ps:List Nat}{c:Code}{a:AC}(h:LC P N ps c a){l:Nat}:∀{b:AC},sO l a=some b->∃rest,findLabel c l=some rest/\LC P N ps rest b:=by
 induction h with
 |seq h1 h2 ih1 ih2=>
   intro b hb;simp only[sO]at hb;split at hb
   ·cases hb
    obtain⟨r,g1,g2⟩:=ih1 ‹_›;exact⟨_,by simp only[findLabel,g1],.seq g2 h2⟩
   ·split at hb
    ·rename_i hn
     obtain⟨r,g1,g2⟩:=ih2 hb;exact⟨r,by simp only[findLabel,K7 h1 l hn,g1],g2⟩
    ·cases hb
 | @label l'=>
   intro b hb;simp only[sO]at hb;split at hb
   ·rename_i he
    cases hb;exact⟨.skip,by simp only[findLabel,he,if_true],.skip⟩
   ·cases hb
 |_=>intro b hb;simp[sO]at hb
def bL(P:Program)(N:Nat)(ps E:List Nat):Code->List (List Nat)->Option (AC×List (List Nat))
 | .skip,K=>some (.skip,K)
 | .region _ ops false,ks::K=>match(nc P N ps ops ops.toList).map (fHs E)with
   |some xs=>some (.reg xs ks,K)
   |none=>none
 | .region _ ops true,[]::ks::K=>match(nc P N ps ops ops.toList).map (fHs E)with
   |some xs=>if vz xs=true/\ops.size=xs.length then(match yV xs (BW ops ops.size (zAh ops.size false))with
     |some yss=>some (.regE yss ks,K)
     |none=>none)else some (.bad,K)
   |none=>none
 | .region _ ops true,(1::anc)::ks::K=>match(nc P N ps ops ops.toList).map (fHs E)with
   |some xs=>if G4 ops anc=true then(match Lm ops xs anc ops.size (zAh ops.size false)with
     |some yss=>some (.regF yss ks,K)
     |none=>none)else none
   |none=>none
 | .region _ ops true,(0::anc)::perm::ks::K=>match(nc P N ps ops ops.toList).map (fHs E)with
   |some xs=>if vU ops xs anc perm=true then(match iX xs perm with
     |some ys=>some (.regD ys ks,K)
     |none=>none)else none
   |none=>none
 | .seq x y,K=>match bL P N ps E x K with
   |some (a,K')=>match bL P N ps E y K' with
     |some (b,K'')=>some (.seq a b,K'')
     |none=>none
   |none=>none
 | .cond c x y,K=>match cO P 0 c,bL P N ps E x K with
   |some c',some (a,K')=>match bL P N ps E y K' with
     |some (b,K'')=>some (.cond c' a b,K'')
     |none=>none
   |_,_=>none
 | .block id x,K=>match bL P N ps E x K with
   |some (a,K')=>some (.block id a,K')
   |none=>none
 | .loop x,ks::K=>match bL P N ps E x K with
   |some (a,K')=>some (.loop ks a,K')
   |none=>none
 | .exit id,K=>some (.exit id,K)
 | .ret,K=>some (.ret,K)
 | .rangeFunc _ _ _ _,K=>some (.bad,K)
 | .scope x,(l::ks)::K=>match bL P N ps E x K with
   |some (a,K')=>match sO l a with
     |some b=>some (.scope l ks a b,K')
     |none=>some (.bad,K')
   |none=>none
 | .scope _,[]::K=>some (.bad,K)
 | .label l,K=>some (.label l,K)
 | .goto l,K=>some (.goto l,K)
 | .refuse _,K=>some (.bad,K)
 | .region _ _ _,_=>none
 | .loop _,_=>none
 | .scope _,_=>none
section
variable{P:Program}{N:Nat}{ps:List Nat}
theorem Mo{ops:Array Oper}{o:Oper}{x:AOp}(h:SJ P N ps ops o=some x):LO P N ps ops o x:=by
 unfold SJ at h;split at h
 ·rename_i a hd
  have ha:LV P o.type o.op ((dh P o.type o.op).getD .bad)\/LE P o.type o.op ((dh P o.type o.op).getD .bad)\/(dh P o.type o.op).getD .bad=.bad:=by
   cases hc:dh P o.type o.op with
   |none=>exact .inr (.inr rfl)
   |some y=>exact(PC hc).elim .inl (fun h=>.inr (.inl h))
  have hlt:∀t,o.dst=some t->t<N/\t ∉ ps:=by
   intro t ht;rw[ht]at hd;simp only[zAd,decide_eq_true_eq,zBi]at hd;exact⟨hd.1,fun hm=>by rw[ij.2 hm]at hd;cases hd.2⟩
  split at h
  ·rename_i hg
   cases h;exact⟨rfl,hlt,ha,.inl ⟨hg,rfl⟩⟩
  ·rename_i j b hg
   split at h
   ·rename_i oj hj
    split at h
    ·rename_i t ht
     cases h;exact⟨rfl,hlt,ha,.inr ⟨j,b,oj,t,hg,hj,ht,rfl⟩⟩
    ·cases h
   ·cases h
 ·cases h
theorem xq{ops:Array Oper}:∀{os:List Oper}{xs:List AOp},nc P N ps ops os=some xs->LOs P N ps ops os xs
 |[],xs,h=>by simp only[nc,zAb]at h;subst h;exact .nil
 |o::os,xs,h=>by
   simp only[nc]at h;split at h
   ·rename_i x ys hx hy;cases h;exact .cons (Mo hx) (xq hy)
   ·cases h
theorem tU{E:List Nat}{ops:Array Oper}{xs:List AOp}(h:(nc P N ps ops ops.toList).map (fHs E)=some xs):LOs P N ps ops ops.toList xs:=by
 obtain⟨ys,h1,rfl⟩:=zAc.1 h;exact Sg (xq h1)
theorem dw{E:List Nat}:∀{c:Code}{K K':List (List Nat)}{a:AC},bL P N ps E c K=some (a,K')->LC P N ps c a:=by
 intro c
 induction c with
 |skip=>intro K K' a h;simp only[bL,zAb,zBc]at h;rw[<-h.1];exact .skip
 |region id ops d=>
   intro K K' a h;cases d with
   |false=>
     cases K with
     |nil=>simp only[bL]at h;cases h
     |cons ks K=>
       simp only[bL]at h;split at h
       ·cases h;exact .reg (tU ‹_›)
       ·cases h
   |true=>
     match K,h with
     |[],h=>simp only[bL]at h;cases h
     |[[]],h=>simp only[bL]at h;cases h
     |[_::_],h=>simp only[bL]at h;cases h
     |[]::ks::K,h=>
       simp only[bL]at h;split at h
       ·split at h
        ·rename_i hc
         split at h
         ·cases h;exact .regE (tU ‹_›) hc.1 hc.2 ‹_›
         ·cases h
        ·cases h;exact .bad
       ·cases h
     |[0::anc,perm],h=>simp only[bL]at h;cases h
     |(1::anc)::ks::K,h=>
       simp only[bL]at h;split at h
       ·split at h
        ·rename_i hc
         split at h
         ·cases h;exact .regF (tU ‹_›) hc ‹_›
         ·cases h
        ·cases h
       ·cases h
     |((n+2)::l)::k::K,h=>simp only[bL]at h;cases h
     |(0::anc)::perm::ks::K,h=>
       simp only[bL]at h;split at h
       ·split at h
        ·rename_i hc
         split at h
         ·cases h;exact .regD (tU ‹_›) hc ‹_›
         ·cases h
        ·cases h
       ·cases h
 |seq x y ihx ihy=>
   intro K K' a h;simp only[bL]at h;split at h
   ·split at h
    ·cases h;exact .seq (ihx ‹_›) (ihy ‹_›)
    ·cases h
   ·cases h
 |cond c x y ihx ihy=>
   intro K K' a h;simp only[bL]at h;split at h
   ·split at h
    ·cases h;exact .cond (t:=0) ‹_› (ihx ‹_›) (ihy ‹_›)
    ·cases h
   ·cases h
 |block id x ih=>
   intro K K' a h;simp only[bL]at h;split at h
   ·cases h;exact .block (ih ‹_›)
   ·cases h
 |loop x ih=>
   intro K K' a h;cases K with
   |nil=>simp only[bL]at h;cases h
   |cons ks K=>
     simp only[bL]at h;split at h
     ·cases h;exact .loop (ih ‹_›)
     ·cases h
 |scope x ih=>
   intro K K' a h
   match K,h with
   |[],h=>simp only[bL]at h;cases h
   |[]::K,h=>simp only[bL,zAb,zBc]at h;rw[<-h.1];exact .bad
   |(l::ks)::K,h=>
     simp only[bL]at h;split at h
     ·split at h
      ·cases h
       have hx:=ih ‹_›;obtain⟨rest,g1,g2⟩:=JF hx ‹_›;exact .scope hx g1 g2
      ·cases h;exact .bad
     ·cases h
 |label l=>intro K K' a h;simp only[bL,zAb,zBc]at h;rw[<-h.1];exact .label
 |goto l=>intro K K' a h;simp only[bL,zAb,zBc]at h;rw[<-h.1];exact .goto
 |exit id=>intro K K' a h;simp only[bL,zAb,zBc]at h;rw[<-h.1];exact .exit
 |ret=>intro K K' a h;simp only[bL,zAb,zBc]at h;rw[<-h.1];exact .ret
 |_=>intro K K' a h;simp only[bL,zAb,zBc]at h;rw[<-h.1];exact .bad
inductive RV where
 |t (n:Nat)
 |c (a n:Nat) (agg:Bool)
def u9(P:Program):List ResultVar->Option (List RV)
 |[]=>some []
 | .tmp t::rs=>(u9 P rs).map (.t t::·)
 | .cell a t::rs=>match Dy P t,u9 P rs with
   |some (n,g),some xs=>some (.c a n g::xs)
   |_,_=>none
def St.rv(σ:St):RV->Option V
 | .t n=>match lk σ.r n with
   |some v=>if nt v=true then some v else none
   |none=>none
 | .c a n g=>match lk σ.r a with
   |some p=>match σ.fetch p n with
     |some us=>mkc g us
     |none=>none
   |none=>none
def St.rvs(σ:St):List RV->Option (List V)
 |[]=>some []
 |x::xs=>match σ.rv x,σ.rvs xs with
   |some v,some vs=>some (v::vs)
   |_,_=>none
def fw:List V->V
 |[v]=>v
 |vs=>.tup vs
def Res(rs:List RV)(post:V->Prop):Ex->St->Prop:=fun e σ=>(match e with
    | .exit _=>False
    | .goto _=>False
    |_=>True)/\match σ.rvs rs with
    |some vs=>match purs σ.h vs with
      |some us=>post (fw us)
      |none=>False
    |none=>False
def ent:Nat->List V->List (Nat×V)
 |_,[]=>[]
 |k,v::vs=>(k,v)::ent (k+1) vs
theorem vG:∀{vs:List V}{k t:Nat}{v:V},lk (ent k vs) t=some v->k<=t/\vs[t-k]?=some v
 |[],k,t,v,h=>by simp[ent,lk]at h
 |u::us,k,t,v,h=>by
   simp only[ent,lk]at h;split at h
   ·rename_i he;subst he;cases h;exact⟨zCb _,by simp⟩
   ·rename_i he
    obtain⟨h1,h2⟩:=vG h;refine⟨by omega,?_⟩
    rw[show t-k=(t-(k+1))+1 by omega]
    simpa using h2
variable{M0:Mem}{B:Bas}{w0:World}{κ:Kap}{M:Mem}{σ:St}{a:Act}{w:World}
def H6(a:Act):ResultVar->Sem Value
 | .tmp t=>pure (a.tmps.getD t undef)
 | .cell x t=>do loadVar t (<-asAddr (a.tmps.getD x undef))
theorem gY{fn:Func}{rs:List RV}(hr:u9 P fn.results.toList=some rs)(H:Rel N M0 B w0 κ M σ a w){vs:List V}(hv:σ.rvs rs=some vs):
 ∃cs:List Value,ae M (XX κ σ.h) vs cs/\(results fn a.tmps).run P w=.ok (if h:cs.length=1 then cs[0]else .tuple cs.toArray) w:=by
 have key:∀(l:List ResultVar)(rs:List RV)(vs:List V),u9 P l=some rs->σ.rvs rs=some vs->
  ∃cs:List Value,ae M (XX κ σ.h) vs cs/\(l.mapM (H6 a)).run P w=.ok cs w:=by
  intro l
  induction l with
  |nil=>
    intro rs vs h1 h2;simp only[u9,zAb]at h1;subst h1;simp only[St.rvs,zAb]at h2;subst h2;exact⟨[],by simp[ae],by simp⟩
  |cons x l ih=>
    intro rs vs h1 h2;cases x with
    |tmp t=>
      simp only[u9,zAc]at h1;obtain⟨rs',h1,rfl⟩:=h1;simp only[St.rvs]at h2;split at h2
      ·rename_i v us g1 g2
       cases h2;obtain⟨cs,k1,k2⟩:=ih rs' us h1 g2;simp only[St.rv]at g1;split at g1
       ·rename_i u hu
        split at g1
        ·cases g1
         obtain⟨_,c,e1,e2⟩:=H.regs _ _ hu;refine⟨c::cs,by simp only[ae];exact⟨c,cs,rfl,e2,k1⟩,?_⟩
         have hF:(H6 a (.tmp t)).run P w=.ok c w:=by simp[H6,e1]
         rw[zCg,Sem.run_bind,hF,Result.andThen_ok,Sem.run_bind,k2,Result.andThen_ok,Sem.run_pure]
        ·cases g1
       ·cases g1
      ·cases h2
    |cell t ty=>
      simp only[u9]at h1;split at h1
      ·rename_i n g xs hs hx
       cases h1;simp only[St.rvs]at h2;split at h2
       ·rename_i v us g1 g2
        cases h2;obtain⟨cs,k1,k2⟩:=ih _ us hx g2;simp only[St.rv]at g1;split at g1
        ·rename_i p hp
         split at g1
         ·rename_i vs' hf
          obtain⟨s1,s2,s3⟩:=mr hs;obtain⟨_,c,e1,e2⟩:=H.regs _ _ hp;obtain⟨b,o',ds,e,f1,f2,f3,f4⟩:=pA H e2 hf;subst e;rcases qu g1 f1 f2 with⟨rfl,hk⟩|⟨rfl,c,hk1,hk2⟩
          ·refine⟨.agg ds.toArray::cs,by simp only[ae];exact⟨_,cs,rfl,hk,k1⟩,?_⟩
           have:=run_loadCells_list (P:=P) w ⟨b,o',none⟩ ds f4;rw[f3]at this;have hF:(H6 a (.cell t ty)).run P w=.ok (.agg ds.toArray) w:=by simp[H6,e1,asAddr,loadVar,fj s2,aM s1,this]
           rw[zCg,Sem.run_bind,hF,Result.andThen_ok,Sem.run_bind,k2,Result.andThen_ok,Sem.run_pure]
          ·refine⟨c::cs,by simp only[ae];exact⟨c,cs,rfl,hk2,k1⟩,?_⟩
           have:=f4 0 c (by simp[hk1])
           rw[Addr.add_lit]at this;simp at this;have hF:(H6 a (.cell t ty)).run P w=.ok c w:=by simp[H6,e1,asAddr,loadVar,fj s2,this]
           rw[zCg,Sem.run_bind,hF,Result.andThen_ok,Sem.run_bind,k2,Result.andThen_ok,Sem.run_pure]
         ·cases g1
        ·cases g1
       ·cases h2
      ·cases h1
 obtain⟨cs,k1,k2⟩:=key _ _ _ hr hv;refine⟨cs,k1,?_⟩
 have e:results fn a.tmps=(do
  let vs <-fn.results.mapM (H6 a)
  pure (if h:vs.size=1 then vs[0]else .tuple vs)):=by
  unfold results;congr 2
 rw[e,Array.mapM_eq_mapM_toList];simp[Sem.run_bind,k2]
theorem s9{c:Code}{Q:Exit->Act->World->Prop}{a:Act}{w:World}(h:c.wpIn (FR none) 0 P Q a w):c.wp P Q a w:=wpIn_wide.1 h
theorem FnE.of_W{f:FuncId}{fn:Func}{c:Code}{us:List V}{r:V}{x:AC}{rs:List RV}(hm:P.follows .mixedOrders=true)(hf:P.funcs[f]?=some fn)(hb:fn.body=some c)
 (hn:(fn.name == "runtime.NumGoroutine")=false) (hc:LC P fn.ntmps [] c x) (hr:u9 P fn.results.toList=some rs) (hs:us.length<=fn.ntmps)
 (hW:oks us->W (Cn P) x (Res rs (·=r)) ⟨ent 0 us,[]⟩):FnE P f us r where
 call:=fun args w=>by
  unfold callFunc;simp only[beq_eq_false_iff_ne,ne_eq]at hn;simp[Sem.run_bind,hf,hb,hn]
 does:=fun M w cs hM hus=>by
  have hl:cs.size=us.length:=by have:=aC hus;simpa using this
  refine calls_of_wp hf hb ?_
  have H:Rel fn.ntmps M ⟨w.heap.size,fun _=>False,[],#[],w.heap.size,noJ,[],fun _ _ _ _ _ _=>False⟩ w ⟨fun _=>undef,fun _ _=>undef,fun _ _=>False,fun _=>none⟩ M ⟨ent 0 us,[]⟩ { tmps:=cs++zAh (fn.ntmps-cs.size) undef,defers:=[] } w:=
   { dfr:=rfl,jst:=jO rfl,pin:=fun i hi=>by cases hi
     size:=by simp;omega
     regs:=fun t v ht=>by
      obtain⟨_,h2⟩:=vG ht;simp only[zCd]at h2;have hlt:t<us.length:=(zAf.1 h2).1;obtain⟨c,h3,h4⟩:=cd hus h2;refine⟨by omega,c,?_,aw (fun _ _ h=>h) (fun _ _ h=>h.elim) _ _ h4⟩
      rw[zAj (by omega)]
      simpa using h3
     heap:=fun id ob h=>by simp at h
     inj:=fun i j oi oj g h=>by simp at h
     snd:=hM.snd
     sep:=fun p v _ id ob h=>by simp at h
     sub:=⟨fun _ _ h=>h,fun _ _ h=>(by cases h),fun _ _ h=>(by cases h),zCb _,hM.gl⟩
     new:=fun _ _ h=>.inl h
     base:=rfl
     blw:=Und.refl _ _ }
  refine s9 (nd hm (jP rfl) (B:=⟨w.heap.size,fun _=>False,[],#[],w.heap.size,noJ,[],fun _ _ _ _ _ _=>False⟩) hc ?_ H (hW (c8 hus)));intro e κ M1 σ a w1 hR H1;simp only[Res]at hR;obtain⟨he,hR⟩:=hR;split at hR
  ·rename_i vs hvs
   split at hR
   ·rename_i ws hws
    obtain⟨ds,k1,k2⟩:=gY hr H1 hvs;obtain⟨H2,hM1⟩:=H1.kill (ak vs) (dr hws)
    have k3:ae (ext M1 w1 (gp κ (ak vs))) NX ws ds:=by
     refine bo H1 hM1 (fun id hid g hg p hpb=>?_) k1 hws;unfold ext;rw[if_pos (cf.2 ⟨id,hid,by rw[hpb];exact hg⟩)]
    have fin:bodyPost P fn (fun e w'=>∃(c:Value)(M':Mem),e=.returned c/\rep M' NX r c/\Below w.heap.size w w'/\(∀p v,M' p=some v->w'.cell? p=some v)/\
     (∀p v,M p=some v->M' p=some v)/\∀p v,M' p=some v->M p=some v\/w.heap.size<=p.block) .normal a w1:=by
     refine⟨H1.dfr,_,k2,_,_,rfl,?_,⟨H1.blw.os,H1.blw.tape,H1.blw.output,H1.blw.size,fun k hk=>H1.blw.block k hk id⟩,H2.snd,H2.sub.sub,fun p v h=>(H2.new p v h).imp_right fun h=>h.elim id False.elim⟩;subst hR
     match ws,ds,k3 with
     |[],[],k3=>simp only[fw,rep];exact⟨#[],rfl,by simp[ae]⟩
     |[v],[d],k3=>
       simp only[ae]at k3;obtain⟨_,_,h1,h2,_⟩:=k3;cases h1;simpa[fw]using h2
     |v::v'::vs',d::d'::ds',k3=>
       have e:(if h:(d::d'::ds').length=1 then(d::d'::ds')[0]else .tuple (d::d'::ds').toArray)=.tuple (d::d'::ds').toArray:=dif_neg (by simp)
       rw[e];simp only[fw,rep];exact⟨_,rfl,by simpa using k3⟩
     |[],d::ds,k3=>simp[ae]at k3
     |v::vs,[],k3=>simp[ae]at k3
     |[v],d::d'::ds,k3=>simp[ae]at k3
     |v::v'::vs,[d],k3=>
       simp only[ae]at k3;obtain⟨c,cs',h1,_,c2,cs2,h2,_⟩:=k3;cases h1;cases h2
    cases e with
    |norm=>exact fin
    |ret=>exact fin
    |exit id=>exact he.elim
    |goto l=>exact he.elim
   ·exact hR.elim
  ·exact hR.elim
def G6(rs:List RV)(r:V):Ex->St->Prop:=fun e σ=>(match e with
    | .exit _=>False
    | .goto _=>False
    |_=>True)/\match σ.rvs rs with
    |some vs=>Ar σ.h vs=true/\(match purs σ.h vs with
      |some us=>fw us=r
      |none=>False)
    |none=>False
theorem Hu{M:Mem}{X:V->Value->Prop}:∀{ws:List V}{ds:List Value},ae M X ws ds->rep M X (fw ws) (if h:ds.length=1 then ds[0]else .tuple ds.toArray)
 |[],[],k3=>by simp only[fw,rep];exact⟨#[],rfl,by simp[ae]⟩
 |[v],[d],k3=>by
   simp only[ae]at k3;obtain⟨_,_,h1,h2,_⟩:=k3;cases h1;simpa[fw]using h2
 |v::v'::vs',d::d'::ds',k3=>by
   have e:(if h:(d::d'::ds').length=1 then(d::d'::ds')[0]else .tuple (d::d'::ds').toArray)=.tuple (d::d'::ds').toArray:=dif_neg (by simp)
   rw[e];simp only[fw,rep];exact⟨_,rfl,by simpa using k3⟩
 |[],d::ds,k3=>by simp[ae]at k3
 |v::vs,[],k3=>by simp[ae]at k3
 |[v],d::d'::ds,k3=>by simp[ae]at k3
 |v::v'::vs,[d],k3=>by
   simp only[ae]at k3;obtain⟨c,cs',h1,_,c2,cs2,h2,_⟩:=k3;cases h1;cases h2
theorem FnN.of_W{f:FuncId}{fn:Func}{c:Code}{us:List V}{r:V}{x:AC}{rs:List RV}(hm:P.follows .mixedOrders=true)(hf:P.funcs[f]?=some fn)(hb:fn.body=some c)
 (hn:(fn.name == "runtime.NumGoroutine")=false) (hc:LC P fn.ntmps [] c x) (hr:u9 P fn.results.toList=some rs) (hs:us.length<=fn.ntmps)
 (hW:oks us->W (Cn P) x (G6 rs r) ⟨ent 0 us,[]⟩):FnN P f us r:=by
 intro M w cs hM hus o a Nx Q hN
 have hcall:(callFunc f cs).run P w=.ok (.enter f cs) w:=by
  unfold callFunc;simp only[beq_eq_false_iff_ne,ne_eq]at hn;simp[Sem.run_bind,hf,hb,hn]
 have hl:cs.size=us.length:=by have:=aC hus;simpa using this
 rw[hcall,Oper.upon_enter]
 have key:Calls P f cs w fun e w'=>∃(c:Value)(M':Mem),e=.returned c/\rep (sl w M') NX r c/\Below w.heap.size w w'/\∀p v,M' p=some v->w'.cell? p=some v:=by
  refine calls_of_wp hf hb ?_
  have H:Rel fn.ntmps M ⟨w.heap.size,fun _=>False,[],#[],w.heap.size,noJ,[],fun _ _ _ _ _ _=>False⟩ w ⟨fun _=>undef,fun _ _=>undef,fun _ _=>False,fun _=>none⟩ M ⟨ent 0 us,[]⟩ { tmps:=cs++zAh (fn.ntmps-cs.size) undef,defers:=[] } w:=
   { dfr:=rfl,jst:=jO rfl,pin:=fun i hi=>by cases hi
     size:=by simp;omega
     regs:=fun t v ht=>by
      obtain⟨_,h2⟩:=vG ht;simp only[zCd]at h2;have hlt:t<us.length:=(zAf.1 h2).1;obtain⟨c,h3,h4⟩:=cd hus h2;refine⟨by omega,c,?_,aw (fun _ _ h=>h) (fun _ _ h=>h.elim) _ _ h4⟩
      rw[zAj (by omega)]
      simpa using h3
     heap:=fun id ob h=>by simp at h
     inj:=fun i j oi oj g h=>by simp at h
     snd:=hM.snd
     sep:=fun p v _ id ob h=>by simp at h
     sub:=⟨fun _ _ h=>h,fun _ _ h=>(by cases h),fun _ _ h=>(by cases h),zCb _,hM.gl⟩
     new:=fun _ _ h=>.inl h
     base:=rfl
     blw:=Und.refl _ _ }
  refine s9 (nd hm (jP rfl) (B:=⟨w.heap.size,fun _=>False,[],#[],w.heap.size,noJ,[],fun _ _ _ _ _ _=>False⟩) hc ?_ H (hW (c8 hus)));intro e κ M1 σ a w1 hR H1;simp only[G6]at hR;obtain⟨he,hR⟩:=hR;split at hR
  ·rename_i vs hvs
   obtain⟨hfr,hR⟩:=hR;split at hR
   ·rename_i ws hws
    obtain⟨ds,k1,k2⟩:=gY hr H1 hvs;obtain⟨H2,hM1⟩:=H1.kill (ak vs) (dr hws)
    have k3:ae (sl w (ext M1 w1 (gp κ (ak vs)))) NX ws ds:=by
     refine ur H1 (fun p v hp=>by unfold sl;rw[if_pos (H1.sub.fmN p v hp)];exact hM1 p v (H1.sub.fmS p v hp)) (fun id hid g hg p hpb=>?_) hfr k1 hws
     obtain⟨ob,hob⟩:=dr hws id hid
     have hgw:w.heap.size<=g:=by
      rcases(H1.blk_lt hob hg).1 with h|h
      ·exact h
      ·exact h.elim
     unfold sl;rw[if_pos (by omega)]
     unfold ext;rw[if_pos (cf.2 ⟨id,hid,by rw[hpb];exact hg⟩)]
    have fin:bodyPost P fn (fun e w'=>∃(c:Value)(M':Mem),e=.returned c/\rep (sl w M') NX r c/\Below w.heap.size w w'/\∀p v,M' p=some v->w'.cell? p=some v) .normal a w1:=by
     refine⟨H1.dfr,_,k2,_,_,rfl,?_,⟨H1.blw.os,H1.blw.tape,H1.blw.output,H1.blw.size,fun k hk=>H1.blw.block k hk id⟩,H2.snd⟩;subst hR;exact Hu k3
    cases e with
    |norm=>exact fin
    |ret=>exact fin
    |exit id=>exact he.elim
    |goto l=>exact he.elim
   ·exact hR.elim
  ·exact hR.elim
 refine key.mono ?_;rintro e w' ⟨c,M',rfl,h1,h2,h3⟩;exact hN c M' w' h1 h2 h3
mutual
def jk:V->V
 | .seq sz l=>if l.isEmpty=true then .seq sz l else .junk
 | .strct cs=>.strct (jks cs)
 | .tup cs=>.tup (jks cs)
 | .sptr _ _=>.junk
 |v=>v
def jks:List V->List V
 |[]=>[]
 |v::vs=>jk v::jks vs
end
mutual
theorem RS{M:Mem}{X:V->Value->Prop}:∀{v:V}{c:Value},rep M X v c->rep M X (jk v) c
 | .seq sz l,c,h=>by
   simp only[jk];split
   ·exact h
   ·simp only[rep]at h⊢
    obtain⟨a,cap,rfl,_⟩:=h;rfl
 | .strct cs,c,h=>by
   simp only[rep,jk]at h⊢;obtain⟨arr,h1,h2,h3⟩:=h;exact⟨arr,h1,FB h2,h3⟩
 | .tup cs,c,h=>by
   simp only[rep,jk]at h⊢;obtain⟨arr,h1,h2⟩:=h;exact⟨arr,h1,FB h2⟩
 | .sptr _ _,c,h=>by
   simp only[rep,jk]at h⊢;obtain⟨b,o,y,rfl,_⟩:=h;rfl
 | .int _ _,_,h=>h
 | .bool _,_,h=>h
 | .str _,_,h=>h
 | .nil _,_,h=>h
 | .ref _ _,_,h=>h
 | .ptr _ _,_,h=>h
 | .eptr _ _ _ _,_,h=>h
 | .mref _ _ _,_,h=>h
 | .fseq _ _,_,h=>h
 | .mptr _ _ _ _ _,_,h=>h
 | .q _ _ _ _ _,_,h=>h
 | .nilptr,_,h=>h
 | .fn _ _ _,_,h=>h
 | .nilfn,_,h=>h
 | .nilmp,_,h=>h
 | .iface _ _,_,h=>h
 | .niliface,_,h=>h
 | .junk,_,h=>h
theorem FB{M:Mem}{X:V->Value->Prop}:∀{vs:List V}{cs:List Value},ae M X vs cs->ae M X (jks vs) cs
 |[],_,h=>h
 |v::vs,cs,h=>by
   simp only[ae,jks]at h⊢;obtain⟨c,cs',h1,h2,h3⟩:=h;exact⟨c,cs',h1,RS h2,FB h3⟩
end
theorem Fn.weak{f:FuncId}{us:List V}{r r':V}(h:Fn P f us r)(hr:∀M c,rep M NX r c->rep M NX r' c):Fn P f us r':=
 fun M w cs hM hus o a Nx Q hN=>h M w cs hM hus o a Nx Q fun c M' w' h1=>hN c M' w' (hr M' c h1)
theorem Fn.jk{f:FuncId}{us:List V}{r:V}(h:Fn P f us r):Fn P f us (jk r):=h.weak fun _ _=>RS
def al(P:Program)(fn:Func)(K:List (List Nat))(n:Nat):Option (AC×List RV):=
 match fn.body with
 |some c=>match bL P fn.ntmps [] [] c K,u9 P fn.results.toList with
   |some (x,[]),some rs=>if(fn.name == "runtime.NumGoroutine")=false/\n<=fn.ntmps then some (x,rs)else none
   |_,_=>none
 |none=>none
theorem FnE.of_image{f:FuncId}{fn:Func}{us:List V}{r:V}{x:AC}{K:List (List Nat)}{rs:List RV}{n:Nat}(hm:P.follows .mixedOrders=true)(hf:P.funcs[f]?=some fn)
 (hi:al P fn K n=some (x,rs)) (hn:us.length=n) (hW:oks us->W (Cn P) x (Res rs (·=r)) ⟨ent 0 us,[]⟩):FnE P f us r:=by
 unfold al at hi;split at hi
 ·split at hi
  ·split at hi
   ·rename_i hc
    cases hi;exact FnE.of_W hm hf ‹_› hc.1 (dw ‹_›) ‹_› (by rw[hn];exact hc.2) hW
   ·cases hi
  ·cases hi
 ·cases hi
theorem Fn.of_image{f:FuncId}{fn:Func}{us:List V}{r:V}{x:AC}{K:List (List Nat)}{rs:List RV}{n:Nat}(hm:P.follows .mixedOrders=true)(hf:P.funcs[f]?=some fn)
 (hi:al P fn K n=some (x,rs)) (hn:us.length=n) (hW:oks us->W (Cn P) x (Res rs (·=r)) ⟨ent 0 us,[]⟩):Fn P f us r:=(FnE.of_image hm hf hi hn hW).fn
theorem FnN.of_image{f:FuncId}{fn:Func}{us:List V}{r:V}{x:AC}{K:List (List Nat)}{rs:List RV}{n:Nat}(hm:P.follows .mixedOrders=true)(hf:P.funcs[f]?=some fn)
 (hi:al P fn K n=some (x,rs)) (hn:us.length=n) (hW:oks us->W (Cn P) x (G6 rs r) ⟨ent 0 us,[]⟩):FnN P f us r:=by
 unfold al at hi;split at hi
 ·split at hi
  ·split at hi
   ·rename_i hc
    cases hi;exact FnN.of_W hm hf ‹_› hc.1 (dw ‹_›) ‹_› (by rw[hn];exact hc.2) hW
   ·cases hi
  ·cases hi
 ·cases hi
def tI:List (Nat×V)->List V
 |[]=>[]
 |(_,v)::r=>v::tI r
def DS(m:List Nat)(r:List (Nat×V))(us:List V):List Nat->Prop
 |[]=>True
 |i::is=>(match lk r i,us[i]? with
   |some v,some u=>ren m v=u
   |_,_=>False)/\DS m r us is
def HZ(σ:St)(ps:List Nat)(us:List V)(r:V)(H':List (Option Ob))(vs:List V)(m:List Nat):Prop:=
 DS m σ.r us ps/\fw (dO m vs)=r/\fL σ.h m m=H'
def G7(rs:List RV)(ps:List Nat)(us:List V)(r:V)(H':List (Option Ob)):Ex->St->Prop:=fun e σ=>(match e with
    | .exit _=>False
    | .goto _=>False
    |_=>True)/\match σ.rvs rs with
    |some vs=>HZ σ ps us r H' vs (cU σ.h (tI (pk σ.r ps)) vs).2
    |none=>False
theorem DR{m:List Nat}{r:List (Nat×V)}{us:List V}:∀{is:List Nat},DS m r us is->∀i,i∈is->∃v u,lk r i=some v/\us[i]?=some u/\ren m v=u
 |[],_,i,hi=>by cases hi
 |j::is,h,i,hi=>by
   simp only[DS]at h;rcases zCi.1 hi with rfl|hi
   ·have h1:=h.1
    split at h1
    ·exact⟨_,_,by assumption,by assumption,h1⟩
    ·exact h1.elim
   ·exact DR h.2 i hi
def Z4(rs:List RV)(ps:List Nat)(us:List V)(Z:V->List (Option Ob)->Prop):Ex->St->Prop:=fun e σ=>∃r H',Z r H'/\G7 rs ps us r H' e σ
theorem Ta{rs:List RV}{ps:List Nat}{us:List V}{r:V}{H':List (Option Ob)}:Z4 rs ps us (fun r1 H1=>r1=r/\H1=H')=G7 rs ps us r H':=by
 funext e σ;exact propext ⟨fun⟨_,_,⟨e1,e2⟩,h⟩=>by subst e1 e2;exact h,fun h=>⟨_,_,⟨rfl,rfl⟩,h⟩⟩
theorem FnX.of_W{f:FuncId}{fn:Func}{c:Code}{ps:List Nat}{us:List V}{H:List (Option Ob)}{Z:V->List (Option Ob)->Prop}{x:AC}{rs:List RV}(hm:P.follows .mixedOrders=true)(hf:P.funcs[f]?=some fn)(hb:fn.body=some c)
 (hn:(fn.name == "runtime.NumGoroutine")=false) (hc:LC P fn.ntmps ps c x) (hr:u9 P fn.results.toList=some rs) (hs:us.length<=fn.ntmps) (hps:∀i∈ps,i<us.length)
 (hW:oks us->okH H->W (Cn P) x (Z4 rs ps us Z) ⟨ent 0 us,H⟩):FnX P f ps us H Z:=by
 intro M w κ cs J hJC hp hus o a Nx Q hN
 have hcall:(callFunc f cs).run P w=.ok (.enter f cs) w:=by
  unfold callFunc;simp only[beq_eq_false_iff_ne,ne_eq]at hn;simp[Sem.run_bind,hf,hb,hn]
 have hl:cs.size=us.length:=by have:=aC hus;simpa using this
 rw[hcall,Oper.upon_enter]
 have key:Calls P f cs w fun e w'=>∃(r:V)(H':List (Option Ob))(c:Value)(M':Mem)(κ':Kap),Z r H'/\e=.returned c/\rep M' (XX κ' H') r c/\Und (cg κ H w ps cs J) w w'/\Heap κ' M' (cg κ H w ps cs J) w' H'/\
  (∀p v,M p=some v->M' p=some v)/\(∀p v,M' p=some v->M p=some v\/(cg κ H w ps cs J).own p.block)/\
  (∀i,i∈ps->∀u d,us[i]?=some u->cs[i]?=some d->rep M' (XX κ' H') u d):=by
  refine calls_of_wp hf hb ?_
  have H0:Rel fn.ntmps M (cg κ H w ps cs J) w κ M ⟨ent 0 us,H⟩ { tmps:=cs++zAh (fn.ntmps-cs.size) undef,defers:=[] } w:=
   { dfr:=rfl
     jst:=hp.jst
     pin:=fun i hi=>by
      have hi:i∈ps:=hi;have:=hps i hi
      show(cs++zAh (fn.ntmps-cs.size) undef)[i]?=cs[i]?
      rw[zAj (by omega)]
     size:=by simp;omega
     regs:=fun t v ht=>by
      obtain⟨_,h2⟩:=vG ht;simp only[zCd]at h2;have hlt:t<us.length:=(zAf.1 h2).1;obtain⟨c,h3,h4⟩:=cd hus h2;refine⟨by omega,c,?_,h4⟩
      rw[zAj (by omega)]
      simpa using h3
     heap:=hp.heap
     inj:=hp.inj
     snd:=hp.snd
     sep:=hp.sep
     sub:=⟨fun _ _ h=>h,hp.fmS,fun _ _ _=>zCa _,zCa _,hp.gl⟩
     new:=fun _ _ h=>.inl h
     base:=rfl
     blw:=Und.refl _ _ }
  refine s9 (nd hm hJC (B:=cg κ H w ps cs J) hc ?_ H0 (hW (c8 hus) (Nm hp.heap)));intro e κ1 M1 σ a w1 hR H1;obtain⟨r,H',hZ,hR⟩:=hR;simp only[G7]at hR;obtain⟨he,hR⟩:=hR;split at hR
  ·rename_i vs hvs
   obtain⟨ds,k1,k2⟩:=gY hr H1 hvs;obtain⟨hmn,_,_,hpf⟩:=D6 (h:=σ.h) (pvs:=tI (pk σ.r ps)) (vs:=vs);generalize(cU σ.h (tI (pk σ.r ps)) vs).2=m at *;obtain⟨hR1,hR2,hR3⟩:=hR;have H2:=H1.ren hmn hpf [] (fun t v h=>by simp[lk]at h)
   have k3:=hY (wj (M:=M1) (κ:=κ1) (h:=σ.h) hmn) k1;simp only[Bm]at H2;rw[hR3]at H2 k3
   have hpin:∀i,i∈ps->∀u d,us[i]?=some u->cs[i]?=some d->rep M1 (XX (κ1.ren m) H') u d:=by
    intro i hi u d hu hd;obtain⟨v,u',e1,e2,e3⟩:=DR hR1 i hi;rw[hu]at e2;cases e2;obtain⟨_,c,g2,g3⟩:=H1.regs i v e1;rw[H1.pin i hi]at g2;have g2:cs[i]?=some c:=g2;rw[hd]at g2;cases g2;rw[<-e3,<-hR3];exact ye (wj hmn) g3
   generalize hk':κ1.ren m=κ' at *
   have fin:bodyPost P fn (fun e w'=>∃(r:V)(H':List (Option Ob))(c:Value)(M':Mem)(κ':Kap),Z r H'/\e=.returned c/\rep M' (XX κ' H') r c/\Und (cg κ H w ps cs J) w w'/\Heap κ' M' (cg κ H w ps cs J) w' H'/\
    (∀p v,M p=some v->M' p=some v)/\(∀p v,M' p=some v->M p=some v\/(cg κ H w ps cs J).own p.block)/\
    (∀i,i∈ps->∀u d,us[i]?=some u->cs[i]?=some d->rep M' (XX κ' H') u d)) .normal a w1:=by
    refine⟨H1.dfr,_,k2,r,H',_,M1,κ',hZ,rfl,?_,H1.blw,⟨H2.heap,H2.inj,H2.snd,H2.sep,H2.sub.fmS,H2.sub.gl.mono H2.sub.sub,H2.jst⟩,H1.sub.sub,H1.new,hpin⟩;subst hR2;generalize dO m vs=ws at *
    match ws,ds,k3 with
    |[],[],k3=>simp only[fw,rep];exact⟨#[],rfl,by simp[ae]⟩
    |[v],[d],k3=>
      simp only[ae]at k3;obtain⟨_,_,h1,h2,_⟩:=k3;cases h1;simpa[fw]using h2
    |v::v'::vs',d::d'::ds',k3=>
      have e:(if h:(d::d'::ds').length=1 then(d::d'::ds')[0]else .tuple (d::d'::ds').toArray)=.tuple (d::d'::ds').toArray:=dif_neg (by simp)
      rw[e];simp only[fw,rep];exact⟨_,rfl,by simpa using k3⟩
    |[],d::ds,k3=>simp[ae]at k3
    |v::vs,[],k3=>simp[ae]at k3
    |[v],d::d'::ds,k3=>simp[ae]at k3
    |v::v'::vs,[d],k3=>
      simp only[ae]at k3;obtain⟨c,cs',h1,_,c2,cs2,h2,_⟩:=k3;cases h1;cases h2
   cases e with
   |norm=>exact fin
   |ret=>exact fin
   |exit id=>exact he.elim
   |goto l=>exact he.elim
  ·exact hR.elim
 refine key.mono ?_;rintro e w' ⟨r,H',c,M',κ',hZ,rfl,h1,h2,h3,h4,h5,h6⟩;exact hN r H' c M' w' κ' hZ h1 h2 h3 h4 h5 h6
def aq(P:Program)(fn:Func)(ps E:List Nat)(K:List (List Nat))(n:Nat):Option (AC×List RV):=
 match fn.body with
 |some c=>match bL P fn.ntmps ps E c K,u9 P fn.results.toList with
   |some (x,[]),some rs=>if(fn.name == "runtime.NumGoroutine")=false/\n<=fn.ntmps/\ps.all (fun i=>decide (i<n))=true then some (x,rs)else none
   |_,_=>none
 |none=>none
theorem FnX.of_image{f:FuncId}{fn:Func}{ps E:List Nat}{us:List V}{H:List (Option Ob)}{Z:V->List (Option Ob)->Prop}{x:AC}{K:List (List Nat)}{rs:List RV}{n:Nat}(hm:P.follows .mixedOrders=true)(hf:P.funcs[f]?=some fn)
 (hi:aq P fn ps E K n=some (x,rs)) (hn:us.length=n) (hW:oks us->okH H->W (Cn P) x (Z4 rs ps us Z) ⟨ent 0 us,H⟩):FnX P f ps us H Z:=by
 unfold aq at hi;split at hi
 ·split at hi
  ·split at hi
   ·rename_i hc
    cases hi;exact FnX.of_W hm hf ‹_› hc.1 (dw ‹_›) ‹_› (by rw[hn];exact hc.2.1) (fun i hi=>by have:=zAe.1 hc.2.2 i hi;simp at this;omega) hW
   ·cases hi
  ·cases hi
 ·cases hi
theorem FnH.of_image{f:FuncId}{fn:Func}{ps E:List Nat}{us:List V}{H H':List (Option Ob)}{r:V}{x:AC}{K:List (List Nat)}{rs:List RV}{n:Nat}(hm:P.follows .mixedOrders=true)(hf:P.funcs[f]?=some fn)
 (hi:aq P fn ps E K n=some (x,rs)) (hn:us.length=n) (hW:oks us->okH H->W (Cn P) x (G7 rs ps us r H') ⟨ent 0 us,H⟩):FnH P f ps us H r H':=
 FnX.h (FnX.of_image hm hf hi hn fun h1 h2=>by rw[Ta];exact hW h1 h2)
theorem Fn.of_imageE{f:FuncId}{fn:Func}{E:List Nat}{us:List V}{r:V}{x:AC}{K:List (List Nat)}{rs:List RV}{n:Nat}(hm:P.follows .mixedOrders=true)(hf:P.funcs[f]?=some fn)
 (hi:aq P fn [] E K n=some (x,rs)) (hn:us.length=n) (hW:oks us->W (Cn P) x (Res rs (·=r)) ⟨ent 0 us,[]⟩):Fn P f us r:=by
 unfold aq at hi;split at hi
 ·split at hi
  ·split at hi
   ·rename_i hc
    cases hi;exact(FnE.of_W hm hf ‹_› hc.1 (dw ‹_›) ‹_› (by rw[hn];exact hc.2.1) hW).fn
   ·cases hi
  ·cases hi
 ·cases hi
end
end Go.Abs
end
section
namespace Go.Abs
def oM{α:Type}(x:Option α)(k:α->Prop):Prop:=match x with
 |some v=>k v
 |none=>False
def oN{α:Type}(x:Option α)(k:α->Prop)(e:Prop):Prop:=match x with
 |some v=>k v
 |none=>e
theorem U6{α:Type}{v:α}{k:α->Prop}{e:Prop}:oN (some v) k e=k v:=propext zAa
theorem U7{α:Type}{k:α->Prop}{e:Prop}:oN none k e=e:=propext zAa
def BrK(t:Bool)(A B:St->Prop)(σ:St):Prop:=Br t (A σ) (B σ)
def rqK(p:Prop)(K:St->Prop)(σ:St):Prop:=p/\K σ
def cM(x:Option V)(A B:St->Prop)(σ:St):Prop:=match x with
 |some (.bool t)=>Br t (A σ) (B σ)
 |_=>False
def gM(x:Option V)(b:Bool)(A B:St->Prop)(σ:St):Prop:=match x with
 |some (.bool y)=>if b=true then Br y (A σ) (B σ)else Br y (B σ) (A σ)
 |some (.tup [])=>B σ
 |_=>False
def VM(Q:Ex->St->Prop)(ks:List Nat)(σ:St):Prop:=Q .norm { σ with r:=pk σ.r ks }
def skK(d:Option Nat)(K:St->Prop)(σ:St):Prop:=K (σ.put d (.tup []))
def eL(σ:St)(d:Option Nat)(K:St->Prop)(v:V):Prop:=K (σ.put d v)
theorem BrK.mk{t:Bool}{A B:St->Prop}{σ:St}(h:t=true->A σ)(h':t=false->B σ):BrK t A B σ:=⟨h,h'⟩
theorem Km{A B:St->Prop}{σ:St}:BrK true A B σ=A σ:=by simp[BrK,Br]
theorem EJ{A B:St->Prop}{σ:St}:BrK false A B σ=B σ:=by simp[BrK,Br]
theorem BrKd.mk{p:Prop}[Decidable p]{A B:St->Prop}{σ:St}(h:p->A σ)(h':¬p->B σ):BrK (decide p) A B σ:=⟨fun e=>h (of_decide_eq_true e),fun e=>h' (of_decide_eq_false e)⟩
theorem BrK_t{p:Prop}[Decidable p]{A B:St->Prop}{σ:St}(h:p):BrK (decide p) A B σ=A σ:=by rw[decide_eq_true h];exact Km
theorem BrK_f{p:Prop}[Decidable p]{A B:St->Prop}{σ:St}(h:¬p):BrK (decide p) A B σ=B σ:=by rw[decide_eq_false h];exact EJ
theorem BrK_n{b:Bool}{A B:St->Prop}{σ:St}:BrK (!b) A B σ=BrK b B A σ:=by cases b<;>simp[BrK,Br]
theorem rqK_t{p:Prop}{K:St->Prop}{σ:St}(h:p):rqK p K σ=K σ:=by simp[rqK,h]
theorem Q7{K:St->Prop}{σ:St}:rqK True K σ=K σ:=by simp[rqK]
theorem U8{α:Type}{v:α}{k:α->Prop}:oM (some v) k=k v:=propext zAa
theorem U9{α:Type}{k:α->Prop}:oM none k=False:=propext zAa
theorem VR{t:Bool}{A B:St->Prop}{σ:St}:cM (some (.bool t)) A B σ=BrK t A B σ:=propext zAa
theorem Vv{y:Bool}{A B:St->Prop}{σ:St}:gM (some (.bool y)) true A B σ=BrK y A B σ:=propext zAa
theorem R7{y:Bool}{A B:St->Prop}{σ:St}:gM (some (.bool y)) false A B σ=BrK y B A σ:=propext zAa
theorem YP{b:Bool}{A B:St->Prop}{σ:St}:gM (some (.tup [])) b A B σ=B σ:=by cases b<;>rfl
section
variable{Φ:Ctr}{Q:Ex->St->Prop}{σ:St}{K:St->Prop}{d:Option Nat}
theorem Sz{ks:List Nat}:VM Q ks σ=Q .norm { σ with r:=pk σ.r ks }:=propext zAa
theorem UK:skK d K σ=K (σ.put d (.tup [])):=propext zAa
theorem Rn{v:V}:eL σ d K v=K (σ.put d v):=propext zAa
theorem ZZ{ops ks}:W Φ (.reg ops ks) Q σ=vj Φ ops (VM Q ks) σ:=propext zAa
theorem V9{ops ks}:W Φ (.regD ops ks) Q σ=te Φ ops (VM Q ks) σ:=propext zAa
theorem V8{alts ks}:W Φ (.regE alts ks) Q σ=Kv Φ alts (VM Q ks) σ:=propext zAa
theorem Wc{c:AO}{a b:AC}:W Φ (.cond c a b) Q σ=cM (σ.ev c) (W Φ a Q) (W Φ b Q) σ:=propext zAa
theorem ZY{a b:AC}:W Φ (.seq a b) Q σ=W Φ a (Ex.then (W Φ b Q) Q) σ:=propext zAa
theorem Qp:vj Φ [] K σ=K σ:=propext zAa
theorem NK{o:AOp}{os:List AOp}:vj Φ (o::os) K σ=wop Φ o (vj Φ os K) σ:=propext zAa
theorem wop_n{d:Option Nat}{a:Act'}:wop Φ ⟨d,a,none⟩ K σ=af Φ d a K σ:=propext zAa
theorem Qr{d:Option Nat}{a:Act'}{t:Nat}{b:Bool}:wop Φ ⟨d,a,some (t,b)⟩ K σ=gM (lk σ.r t) b (af Φ d a K) (skK d K) σ:=by
 simp only[wop,gM];split<;>rename_i heq<;>simp only[heq]<;>rfl
theorem NL:te Φ [] K σ=K σ:=propext zAa
theorem Kp{o:AOp}{os:List AOp}:te Φ (o::os) K σ=aK Φ o (te Φ os K) σ:=propext zAa
theorem Xl{d:Option Nat}{a:Act'}:aK Φ ⟨d,a,none⟩ K σ=ai Φ d a K σ:=propext zAa
theorem Kq{d:Option Nat}{a:Act'}{t:Nat}{b:Bool}:aK Φ ⟨d,a,some (t,b)⟩ K σ=gM (lk σ.r t) b (ai Φ d a K) (skK d K) σ:=by
 simp only[aK,gM];split<;>rename_i heq<;>simp only[heq]<;>rfl
theorem NH:gW Φ .nil K σ=K σ:=propext zAa
theorem PV{x:AOp}{t:OT}:gW Φ (.op x t) K σ=aK Φ x (gW Φ t K) σ:=propext zAa
def vk(Φ:Ctr)(a b:OT)(K:St->Prop)(σ:St):Prop:=gW Φ a K σ/\gW Φ b K σ
theorem Ko{a b:OT}:gW Φ (.both a b) K σ=vk Φ a b K σ:=propext zAa
theorem vk.mk{a b:OT}(h:gW Φ a K σ)(h':gW Φ b K σ):vk Φ a b K σ:=⟨h,h'⟩
def Ox(Q:Ex->St->Prop)(ks:List Nat)(σ:St):Prop:=Q .norm (σ.nrm ks)
theorem Rv{ks:List Nat}:Ox Q ks σ=Q .norm (σ.nrm ks):=propext zAa
theorem V7{t ks}:W Φ (.regF t ks) Q σ=gW Φ t (Ox Q ks) σ:=propext zAa
theorem Qx:Kv Φ [] K σ=True:=propext zAa
def wallK(Φ:Ctr)(o:List AOp)(os:List (List AOp))(K:St->Prop)(σ:St):Prop:=vj Φ o K σ/\Kv Φ os K σ
theorem NO{o:List AOp}{os:List (List AOp)}:Kv Φ (o::os) K σ=wallK Φ o os K σ:=propext zAa
def Ws:Act'->Bool
 | .s2b _=>false
 | .lit _ _ _=>false
 | .ltr _ _ _=>false
 | .alc _=>false
 | .box _=>false
 | .st _ _ _=>false
 | .app _ _ _ _ _=>false
 | .mks _ _ _ _ _=>false
 | .mk0 _ _ _ _=>false
 | .mkm _ _ _ _ _=>false
 | .call _ _=>false
 | .callv _ _=>false
 | .callH _ _=>false
 | .mkp _=>false
 | .mup _ _ _ _=>false
 | .inv _ _ _=>false
 | .ivp _ _ _=>false
 | .trc _ _ _=>false
 | .alq _=>false
 | .bxq _=>false
 | .cvb _=>false
 | .apz _ _ _ _=>false
 | .sbq _=>false
 | .aps _ _ _=>false
 | .apb _ _ _=>false
 | .alb _ _ _=>false
 | .usd _=>false
 | .ust _ _ _=>false
 | .del _ _ _=>false
 | .mkq _ _ _ _ _=>false
 | .yld _ _=>false
 | .rgs _=>false
 | .nxs _=>false
 |_=>true
theorem cP{a:Act'}(h:Ws a=true):af Φ d a K σ=oM (σ.val a) (eL σ d K):=by
 cases a<;>first|(exfalso;revert h;simp only[Ws];decide)|skip
 all_goals
  simp only[af,oM];split<;>rename_i heq<;>simp only[heq]<;>rfl
theorem a_mov{x}:af Φ d (.mov x) K σ=oM (σ.val (.mov x)) (eL σ d K):=cP rfl
theorem Zr{x}:ai Φ d (.mov x) K σ=af Φ d (.mov x) K σ:=propext zAa
theorem Y9{x y z}:af Φ d (.pick x y z) K σ=oM (σ.val (.pick x y z)) (eL σ d K):=cP rfl
theorem V3{x y z}:ai Φ d (.pick x y z) K σ=af Φ d (.pick x y z) K σ:=propext zAa
theorem a_fld{x y z w}:af Φ d (.fld x y z w) K σ=oM (σ.val (.fld x y z w)) (eL σ d K):=cP rfl
theorem ZF{x y z w}:ai Φ d (.fld x y z w) K σ=af Φ d (.fld x y z w) K σ:=propext zAa
theorem a_fa{x y}:af Φ d (.fa x y) K σ=oM (σ.val (.fa x y)) (eL σ d K):=cP rfl
theorem aD_fa{x y}:ai Φ d (.fa x y) K σ=af Φ d (.fa x y) K σ:=propext zAa
theorem a_ia{x y z}:af Φ d (.ia x y z) K σ=oM (σ.val (.ia x y z)) (eL σ d K):=cP rfl
theorem aD_ia{x y z}:ai Φ d (.ia x y z) K σ=af Φ d (.ia x y z) K σ:=propext zAa
theorem a_iaa{x y z w}:af Φ d (.iaa x y z w) K σ=oM (σ.val (.iaa x y z w)) (eL σ d K):=cP rfl
theorem ZE{x y z w}:ai Φ d (.iaa x y z w) K σ=af Φ d (.iaa x y z w) K σ:=propext zAa
theorem a_ld{x y z}:af Φ d (.ld x y z) K σ=oM (σ.val (.ld x y z)) (eL σ d K):=cP rfl
theorem aD_ld{x y z}:ai Φ d (.ld x y z) K σ=af Φ d (.ld x y z) K σ:=propext zAa
theorem a_ixs{x y}:af Φ d (.ixs x y) K σ=oM (σ.val (.ixs x y)) (eL σ d K):=cP rfl
theorem ZB{x y}:ai Φ d (.ixs x y) K σ=af Φ d (.ixs x y) K σ:=propext zAa
theorem a_ixa{x y z w u}:af Φ d (.ixa x y z w u) K σ=oM (σ.val (.ixa x y z w u)) (eL σ d K):=cP rfl
theorem ZC{x y z w u}:ai Φ d (.ixa x y z w u) K σ=af Φ d (.ixa x y z w u) K σ:=propext zAa
theorem a_bin{x y z}:af Φ d (.bin x y z) K σ=oM (σ.val (.bin x y z)) (eL σ d K):=cP rfl
theorem ZN{x y z}:ai Φ d (.bin x y z) K σ=af Φ d (.bin x y z) K σ:=propext zAa
theorem a_un{x y}:af Φ d (.un x y) K σ=oM (σ.val (.un x y)) (eL σ d K):=cP rfl
theorem aD_un{x y}:ai Φ d (.un x y) K σ=af Φ d (.un x y) K σ:=propext zAa
theorem a_cii{x y}:af Φ d (.cii x y) K σ=oM (σ.val (.cii x y)) (eL σ d K):=cP rfl
theorem ZJ{x y}:ai Φ d (.cii x y) K σ=af Φ d (.cii x y) K σ:=propext zAa
theorem a_r2s{x}:af Φ d (.r2s x) K σ=oM (σ.val (.r2s x)) (eL σ d K):=cP rfl
theorem Zm{x}:ai Φ d (.r2s x) K σ=af Φ d (.r2s x) K σ:=propext zAa
theorem a_b2s{x}:af Φ d (.b2s x) K σ=oM (σ.val (.b2s x)) (eL σ d K):=cP rfl
theorem ZP{x}:ai Φ d (.b2s x) K σ=af Φ d (.b2s x) K σ:=propext zAa
theorem a_sls{x y z}:af Φ d (.sls x y z) K σ=oM (σ.val (.sls x y z)) (eL σ d K):=cP rfl
theorem Zh{x y z}:ai Φ d (.sls x y z) K σ=af Φ d (.sls x y z) K σ:=propext zAa
theorem a_slq{x y z w}:af Φ d (.slq x y z w) K σ=oM (σ.val (.slq x y z w)) (eL σ d K):=cP rfl
theorem Zi{x y z w}:ai Φ d (.slq x y z w) K σ=af Φ d (.slq x y z w) K σ:=propext zAa
theorem Za{x}:af Φ d (.lens x) K σ=oM (σ.val (.lens x)) (eL σ d K):=cP rfl
theorem V4{x}:ai Φ d (.lens x) K σ=af Φ d (.lens x) K σ:=propext zAa
theorem Zb{x}:af Φ d (.lenq x) K σ=oM (σ.val (.lenq x)) (eL σ d K):=cP rfl
theorem V5{x}:ai Φ d (.lenq x) K σ=af Φ d (.lenq x) K σ:=propext zAa
theorem a_beq{x y z}:af Φ d (.beq x y z) K σ=oM (σ.val (.beq x y z)) (eL σ d K):=cP rfl
theorem ZO{x y z}:ai Φ d (.beq x y z) K σ=af Φ d (.beq x y z) K σ:=propext zAa
theorem a_ext{x y}:af Φ d (.ext x y) K σ=oM (σ.val (.ext x y)) (eL σ d K):=cP rfl
theorem ZG{x y}:ai Φ d (.ext x y) K σ=af Φ d (.ext x y) K σ:=propext zAa
theorem a_bld{x y}:af Φ d (.bld x y) K σ=oM (σ.val (.bld x y)) (eL σ d K):=cP rfl
theorem ZM{x y}:ai Φ d (.bld x y) K σ=af Φ d (.bld x y) K σ:=propext zAa
theorem a_mkf{x y z}:af Φ d (.mkf x y z) K σ=oM (σ.val (.mkf x y z)) (eL σ d K):=cP rfl
theorem Zx{x y z}:ai Φ d (.mkf x y z) K σ=af Φ d (.mkf x y z) K σ:=propext zAa
theorem a_nlc{x}:af Φ d (.nlc x) K σ=oM (σ.val (.nlc x)) (eL σ d K):=cP rfl
theorem Zp{x}:ai Φ d (.nlc x) K σ=af Φ d (.nlc x) K σ:=propext zAa
theorem a_tya{x y z w}:af Φ d (.tya x y z w) K σ=oM (σ.val (.tya x y z w)) (eL σ d K):=cP rfl
theorem Zg{x y z w}:ai Φ d (.tya x y z w) K σ=af Φ d (.tya x y z w) K σ:=propext zAa
theorem a_mki{x y}:af Φ d (.mki x y) K σ=oM (σ.val (.mki x y)) (eL σ d K):=cP rfl
theorem Zw{x y}:ai Φ d (.mki x y) K σ=af Φ d (.mki x y) K σ:=propext zAa
theorem a_aeq{x y z w}:af Φ d (.aeq x y z w) K σ=oM (σ.val (.aeq x y z w)) (eL σ d K):=cP rfl
theorem ZW{x y z w}:ai Φ d (.aeq x y z w) K σ=af Φ d (.aeq x y z w) K σ:=propext zAa
theorem a_lkp{x y z w u}:af Φ d (.lkp x y z w u) K σ=oM (σ.val (.lkp x y z w u)) (eL σ d K):=cP rfl
theorem Zz{x y z w u}:ai Φ d (.lkp x y z w u) K σ=af Φ d (.lkp x y z w u) K σ:=propext zAa
theorem a_mm{x y z}:af Φ d (.mm x y z) K σ=oM (σ.val (.mm x y z)) (eL σ d K):=cP rfl
theorem aD_mm{x y z}:ai Φ d (.mm x y z) K σ=af Φ d (.mm x y z) K σ:=propext zAa
theorem a_nlq{x y z}:af Φ d (.nlq x y z) K σ=oM (σ.val (.nlq x y z)) (eL σ d K):=cP rfl
theorem Zo{x y z}:ai Φ d (.nlq x y z) K σ=af Φ d (.nlq x y z) K σ:=propext zAa
theorem ZU{x}:ai Φ d (.alc x) K σ=af Φ d (.alc x) K σ:=propext zAa
theorem ZL{x}:ai Φ d (.box x) K σ=af Φ d (.box x) K σ:=propext zAa
theorem aD_st{x y z}:ai Φ d (.st x y z) K σ=af Φ d (.st x y z) K σ:=propext zAa
def yq(σ:St)(x y:AO):Option Bool:=match σ.ev y with
 |some v=>some (qf x v)
 |none=>none
def SY(A:Prop)(b:Bool):Prop:=match b with
 |true=>False
 |false=>A
theorem PJ{A:Prop}:SY A false=A:=propext zAa
theorem S7{x y z w u}:ai Φ d (.app x y z w u) K σ=oM (yq σ x y) (SY (af Φ d (.app x y z w u) K σ)):=by
 simp only[ai,yq];cases σ.ev y with
 |none=>rfl
 |some v=>simp only[oM];cases qf x v<;>simp[SY]
theorem ZT{z}:ai Φ d (.alq z) K σ=af Φ d (.alq z) K σ:=propext zAa
theorem Zt{e sz by' z n}:ai Φ d (.mkq e sz by' z n) K σ=af Φ d (.mkq e sz by' z n) K σ:=propext zAa
theorem S4{e sz xs}:ai Φ d (.ltr e sz xs) K σ=af Φ d (.ltr e sz xs) K σ:=propext zAa
theorem Zs{x y z w u}:ai Φ d (.mks x y z w u) K σ=af Φ d (.mks x y z w u) K σ:=propext zAa
theorem Zy{x y z w}:ai Φ d (.mk0 x y z w) K σ=af Φ d (.mk0 x y z w) K σ:=propext zAa
theorem Zv{x y z w u}:ai Φ d (.mkm x y z w u) K σ=af Φ d (.mkm x y z w u) K σ:=propext zAa
theorem Zk{x}:ai Φ d (.s2b x) K σ=af Φ d (.s2b x) K σ:=propext zAa
theorem a_alc{z}:af Φ d (.alc z) K σ=K ({ σ with h:=σ.h++[some (Ob.box z)] }.put d (.ptr σ.h.length 0)):=propext zAa
def Y4(σ:St)(x:AO):Option (List V):=match σ.ev x with
 |some v=>if nt v=true then some (cl v)else none
 |none=>none
def boxK(σ:St)(d:Option Nat)(K:St->Prop)(cs:List V):Prop:=K ({ σ with h:=σ.h++[some (Ob.box cs)] }.put d (.ptr σ.h.length 0))
theorem SO{cs:List V}:boxK σ d K cs=K ({ σ with h:=σ.h++[some (Ob.box cs)] }.put d (.ptr σ.h.length 0)):=propext zAa
theorem a_box{x}:af Φ d (.box x) K σ=oM (Y4 σ x) (boxK σ d K):=by
 simp only[af,Y4];cases σ.ev x with
 |none=>rfl
 |some v=>simp only;split<;>rfl
def stV(σ:St)(n:Nat)(p x:AO):Option St:=match σ.ev p,σ.ev x with
 |some a,some v=>if nt v=true then σ.stor n a (cl v)else none
 |_,_=>none
theorem a_st{n p x}:af Φ d (.st n p x) K σ=oM (stV σ n p x) (skK d K):=by
 simp only[af,stV];cases σ.ev p with
 |none=>rfl
 |some a=>cases σ.ev x with
   |none=>rfl
   |some v=>
     simp only;split
     ·cases σ.stor n a (cl v)<;>rfl
     ·rfl
def XH(σ:St)(x:AO):Option (List UInt8):=match σ.ev x with
 |some (.str s)=>some s
 |_=>none
def s2bK(σ:St)(d:Option Nat)(K:St->Prop)(s:List UInt8):Prop:=rqK (s.length<=140737488355328) K (σ.put d (.seq 1 (eU s)))
theorem Q5{s:List UInt8}:s2bK σ d K s=rqK (s.length<=140737488355328) K (σ.put d (.seq 1 (eU s))):=propext zAa
theorem a_s2b{x}:af Φ d (.s2b x) K σ=oM (XH σ x) (s2bK σ d K):=by
 simp only[af,XH,oM];cases σ.ev x with
 |none=>rfl
 |some v=>cases v<;>rfl
def Vl(σ:St)(d:Option Nat)(sz:Nat)(K:St->Prop)(vs us:List V):Prop:=rqK (aV sz us=true/\us.length<=16777216) K ((σ.kill (ak vs)).put d (.seq sz us))
theorem RM{sz:Nat}{vs us:List V}:Vl σ d sz K vs us=rqK (aV sz us=true/\us.length<=16777216) K ((σ.kill (ak vs)).put d (.seq sz us)):=propext zAa
def RN(σ:St)(d:Option Nat)(sz:Nat)(K:St->Prop)(vs:List V):Prop:=oM (purs σ.h vs) (Vl σ d sz K vs)
theorem OM{sz:Nat}{vs:List V}:RN σ d sz K vs=oM (purs σ.h vs) (Vl σ d sz K vs):=propext zAa
theorem a_lit{e sz xs}:af Φ d (.lit e sz xs) K σ=oM (σ.evs xs) (RN σ d sz K):=by
 simp only[af,oM];cases σ.evs xs with
 |none=>rfl
 |some vs=>
   simp only[RN,oM];cases purs σ.h vs with
   |none=>rfl
   |some us=>simp only[Vl,rqK,and_assoc]
def Nf(σ:St)(d:Option Nat)(sz:Nat)(K:St->Prop)(us:List V):Prop:=rqK (aV sz us=true/\us.length<=16777216) K (σ.put d (.seq sz us))
theorem ON{sz:Nat}{us:List V}:Nf σ d sz K us=rqK (aV sz us=true/\us.length<=16777216) K (σ.put d (.seq sz us)):=propext zAa
def Ll(σ:St)(d:Option Nat)(sz:Nat)(K:St->Prop)(vs:List V):Prop:=oM (purs [] vs) (Nf σ d sz K)
theorem Lk{sz:Nat}{vs:List V}:Ll σ d sz K vs=oM (purs [] vs) (Nf σ d sz K):=propext zAa
theorem ZA{e sz xs}:ai Φ d (.lit e sz xs) K σ=oM (σ.evs xs) (Ll σ d sz K):=by
 simp only[ai,oM];cases σ.evs xs with
 |none=>rfl
 |some vs=>
   simp only[Ll,oM];cases purs [] vs with
   |none=>rfl
   |some us=>simp only[Nf,rqK,and_assoc]
def J8(σ:St)(e sz by':Nat)(u v:V):Option (St×V×Nat):=match src σ.h v with
 |some (.seq sz' l)=>if sz'=sz then
   (match u with
   | .nil _=>some ({ σ with h:=σ.h++[some (Ob.arr e sz l)] },.ref σ.h.length l.length,l.length*by')
   | .ref id n=>match σ.arr? id with
     |some (e',sz',l0)=>if e'=e/\sz'=sz/\n=l0.length then
       some ({ σ with h:=σ.h.set id (some (Ob.arr e sz (l0++l))) },.ref id (n+l.length),(n+l.length)*by')else none
     |none=>none
   | .mref id i n=>match σ.rws? id with
     |some (e1,e2,sz2,rows)=>match aT rows i with
       |some r=>if e2=e/\sz2=sz/\n=r.length then
         some ({ σ with h:=σ.h.set id (some (Ob.mat e1 e2 sz2 (rows.set i (.g r.length))))++[some (Ob.arr e sz (r++l))] },.ref σ.h.length (n+l.length),(n+l.length)*by')else none
       |none=>none
     |none=>none
   |_=>none)else none
 |_=>none
def J5(σ:St)(e sz by' k j n:Nat)(v:V):Option (St×V×Nat):=match σ.pl? with
 |some ms=>match ms[j]?,Bg σ ms sz v with
   |some (.rw e' sz' l0),some l=>if k=1/\e'=e/\sz'=sz/\n=l0.length then some (σ.setP (ms.set j (.rw e sz (l0++l))),.q 1 j (n+l.length) 0 0,(n+l.length)*by')else none
   |_,_=>none
 |none=>none
def J6(σ:St)(e sz by' k j n:Nat):Option (St×V×Nat):=match σ.pl? with
 |some ms=>match ms[j]? with
   |some (.rw _ sz' l)=>if k=1/\sz'=sz/\n=l.length then some (σ.setP (ms++[.rw e sz l]),.q 1 ms.length n 0 0,n*by')else none
   |_=>none
 |none=>none
def VV(σ:St)(x y:AO)(e sz by':Nat):Option (St×V×Nat):=match σ.ev x,σ.ev y with
 |some (.q k j n _ _),some v=>J5 σ e sz by' k j n v
 |some (.nil _),some (.q k j n _ _)=>J6 σ e sz by' k j n
 |some u,some v=>J8 σ e sz by' u v
 |_,_=>none
def Dk(d:Option Nat)(K:St->Prop)(p:St×V×Nat):Prop:=rqK (p.2.2<=140737488355328) K (p.1.put d p.2.1)
theorem SX{τ:St}{v:V}{n:Nat}:Dk d K (τ,v,n)=rqK (n<=140737488355328) K (τ.put d v):=propext zAa
theorem VW{e sz by' k j n v}:G2 σ d e sz by' k j n v K=oM (J5 σ e sz by' k j n v) (Dk d K):=by
 simp only[G2,J5];cases σ.pl? with
 |none=>rfl
 |some ms=>
   simp only;cases ms[j]? with
   |none=>rfl
   |some m=>
     cases m with
     |bx e cs=>rfl
     |byt e s=>rfl
     |no=>rfl
     |rw e' sz' l0=>
       cases Bg σ ms sz v with
       |none=>rfl
       |some l=>
         simp only;split
         ·rename_i hc
          simp only[oM,Dk,rqK,hc.1,hc.2.1,hc.2.2.1,hc.2.2.2,true_and]
         ·rename_i hc
          simp only[oM];exact propext ⟨fun h=>hc ⟨h.1,h.2.1,h.2.2.1,h.2.2.2.1⟩,fun h=>h.elim⟩
theorem VX{e sz by' k j n}:G3 σ d e sz by' k j n K=oM (J6 σ e sz by' k j n) (Dk d K):=by
 simp only[G3,J6];cases σ.pl? with
 |none=>rfl
 |some ms=>
   simp only;cases ms[j]? with
   |none=>rfl
   |some m=>
     cases m with
     |bx e cs=>rfl
     |byt e s=>rfl
     |no=>rfl
     |rw e' sz' l=>
       simp only;split
       ·rename_i hc
        simp only[oM,Dk,rqK,hc.1,hc.2.1,hc.2.2,true_and]
       ·rename_i hc
        simp only[oM];exact propext ⟨fun h=>hc ⟨h.1,h.2.1,h.2.2.1⟩,fun h=>h.elim⟩
def J7(σ:St)(d:Option Nat)(e sz by':Nat)(u v:V)(K:St->Prop):Prop:=match src σ.h v with
 |some (.seq sz' l)=>sz'=sz/\
   (match u with
   | .nil _=>l.length*by'<=140737488355328/\K ({ σ with h:=σ.h++[some (Ob.arr e sz l)] }.put d (.ref σ.h.length l.length))
   | .ref id n=>match σ.arr? id with
     |some (e',sz',l0)=>e'=e/\sz'=sz/\n=l0.length/\(n+l.length)*by'<=140737488355328/\
       K ({ σ with h:=σ.h.set id (some (Ob.arr e sz (l0++l))) }.put d (.ref id (n+l.length)))
     |none=>False
   | .mref id i n=>match σ.rws? id with
     |some (e1,e2,sz2,rows)=>match aT rows i with
       |some r=>e2=e/\sz2=sz/\n=r.length/\(n+l.length)*by'<=140737488355328/\
         K ({ σ with h:=σ.h.set id (some (Ob.mat e1 e2 sz2 (rows.set i (.g r.length))))++[some (Ob.arr e sz (r++l))] }.put d (.ref σ.h.length (n+l.length)))
       |none=>False
     |none=>False
   |_=>False)
 |_=>False
theorem Nz{e sz by' u v}:J7 σ d e sz by' u v K=oM (J8 σ e sz by' u v) (Dk d K):=by
 simp only[J7,J8];cases src σ.h v with
 |none=>rfl
 |some w=>
   cases w<;>try rfl
   rename_i sz' l;simp only;by_cases hs:sz'=sz
   ·simp only[hs,true_and,if_true]
    cases u<;>try rfl
    ·rename_i id n
     cases ha:σ.arr? id with
     |none=>simp only[ha];rfl
     |some p=>
       obtain⟨e',sz2,l0⟩:=p;simp only[ha];split
       ·rename_i hc
        simp only[oM,Dk,rqK,hc.1,hc.2.1,hc.2.2,true_and]
       ·rename_i hc
        simp only[oM];exact propext ⟨fun h=>hc ⟨h.1,h.2.1,h.2.2.1⟩,fun h=>h.elim⟩
    ·rename_i id i n
     cases ha:σ.rws? id with
     |none=>simp only[ha];rfl
     |some p=>
       obtain⟨e1,e2,sz2,rows⟩:=p;simp only[ha];cases hr:aT rows i with
       |none=>simp only[hr];rfl
       |some r=>
         simp only[hr];split
         ·rename_i hc
          simp only[oM,Dk,rqK,hc.1,hc.2.1,hc.2.2,true_and]
         ·rename_i hc
          simp only[oM];exact propext ⟨fun h=>hc ⟨h.1,h.2.1,h.2.2.1⟩,fun h=>h.elim⟩
   ·rw[if_neg hs]
    simp only[oM];exact propext ⟨fun h=>hs h.1,fun h=>h.elim⟩
theorem WH{x y e sz by'}:af Φ d (.app x y e sz by') K σ=oM (VV σ x y e sz by') (Dk d K):=by
 have key:∀u v:V,(∀k j n i o,u≠V.q k j n i o)->(∀z k j n i o,u=V.nil z->v≠V.q k j n i o)->(match some u,some v with
  |some (.q k j n i o),some v=>G2 σ d e sz by' k j n v K
  |some (.nil _),some (.q k j n i o)=>G3 σ d e sz by' k j n K
  |some u,some v=>J7 σ d e sz by' u v K
  |_,_=>False)=oM (match some u,some v with
  |some (.q k j n _ _),some v=>J5 σ e sz by' k j n v
  |some (.nil _),some (.q k j n _ _)=>J6 σ e sz by' k j n
  |some u,some v=>J8 σ e sz by' u v
  |_,_=>none) (Dk d K):=by
  intro u v h1 h2;cases u<;>try exact Nz
  ·cases v<;>first|exact Nz|exact(h2 _ _ _ _ _ _ rfl rfl).elim
  ·exact(h1 _ _ _ _ _ rfl).elim
 simp only[af,VV];cases σ.ev x with
 |none=>cases σ.ev y<;>rfl
 |some u=>cases σ.ev y with
   |none=>cases u<;>rfl
   |some v=>
     by_cases hq:∃k j n i o,u=.q k j n i o
     ·obtain⟨k,j,n,i,o,rfl⟩:=hq
      exact VW
     ·by_cases hn:∃z k j n i o,u=.nil z/\v=.q k j n i o
      ·obtain⟨z,k,j,n,i,o,rfl,rfl⟩:=hn
       exact VX
      ·exact key u v (fun k j n i o e=>hq ⟨k,j,n,i,o,e⟩) (fun z k j n i o e e'=>hn ⟨z,k,j,n,i,o,e,e'⟩)
def pK(d:Option Nat)(K:St->Prop)(p:St×V):Prop:=K (p.1.put d p.2)
theorem Yt{τ:St}{v:V}:pK d K (τ,v)=K (τ.put d v):=propext zAa
def VY(σ:St)(z:List V):Option (St×V):=match σ.pl?,oU z with
 |some ms,some z'=>some (σ.setP (ms++[.bx 0 z']),.q 0 ms.length 0 0 0)
 |_,_=>none
def VJ(σ:St)(x:AO):Option (Nat×Nat×Nat×List V):=match σ.ev x with
 |some (.ref id n)=>match σ.arr? id with
   |some (_,sz,l)=>some (id,n,sz,l)
   |none=>none
 |_=>none
def cvbK(σ:St)(d:Option Nat)(K:St->Prop)(p:Nat×Nat×Nat×List V):Prop:=rqK (p.2.2.1=1/\p.2.1=p.2.2.2.length/\p.2.2.2≠[]) K ({ σ with h:=σ.h.set p.1 none }.put d (.seq 1 p.2.2.2))
theorem JY{id n sz l}:cvbK σ d K (id,n,sz,l)=rqK (sz=1/\n=l.length/\l≠[]) K ({ σ with h:=σ.h.set id none }.put d (.seq 1 l)):=propext zAa
theorem WD{x}:af Φ d (.cvb x) K σ=oM (VJ σ x) (cvbK σ d K):=by
 simp only[af,VJ];cases σ.ev x with
 |none=>rfl
 |some v=>
   cases v with
   |ref id n=>
     simp only;cases σ.arr? id with
     |none=>rfl
     |some p=>
       obtain⟨e,sz,l⟩:=p;simp only[oM,JY,rqK,and_assoc]
   |_=>rfl
theorem ZI{x}:ai Φ d (.cvb x) K σ=af Φ d (.cvb x) K σ:=propext zAa
theorem WE{x}:af Φ d (.bxq x) K σ=oM (Di σ x) (pK d K):=by
 simp only[af];cases Di σ x<;>rfl
theorem ZK{x}:ai Φ d (.bxq x) K σ=af Φ d (.bxq x) K σ:=propext zAa
theorem WJ{z}:af Φ d (.alq z) K σ=oM (VY σ z) (pK d K):=by
 simp only[af,VY];cases σ.pl?<;>cases oU z<;>rfl
def Vd(σ:St)(z:V)(n:AO):Option (Int×List Po×V):=match σ.ev n,σ.pl?,low z with
 |some (.int _ m),some ms,some z'=>some (m,ms,z')
 |_,_,_=>none
def YD(σ:St)(d:Option Nat)(e sz by':Nat)(K:St->Prop)(p:Int×List Po×V):Prop:=rqK (0<=p.1/\p.1*by'<=140737488355328) K ((σ.setP (p.2.1++[.rw e sz (zBa p.1.toNat p.2.2)])).put d (.q 1 p.2.1.length p.1.toNat 0 0))
theorem RD{e sz by'}{m:Int}{ms z}:YD σ d e sz by' K (m,ms,z)=rqK (0<=m/\m*by'<=140737488355328) K ((σ.setP (ms++[.rw e sz (zBa m.toNat z)])).put d (.q 1 ms.length m.toNat 0 0)):=propext zAa
theorem WB{e sz by' z n}:af Φ d (.mkq e sz by' z n) K σ=oM (Vd σ z n) (YD σ d e sz by' K):=by
 simp only[af,Vd];cases σ.ev n with
 |none=>cases σ.pl?<;>cases low z<;>rfl
 |some v=>cases v<;>cases σ.pl?<;>cases low z<;>first|rfl|simp only[oM,YD,rqK,and_assoc]
def Na(σ:St)(e sz:Nat)(vs:List V):Option (St×V×List V):=match σ.pl?,oU vs with
 |some ms,some us=>some (σ.setP (ms++[.rw e sz us]),.q 1 ms.length us.length 0 0,us)
 |_,_=>none
def RK(d:Option Nat)(sz:Nat)(K:St->Prop)(p:St×V×List V):Prop:=rqK (aV sz p.2.2=true/\p.2.2.length<=16777216/\0<sz) K (p.1.put d p.2.1)
theorem OK{sz:Nat}{τ:St}{v:V}{us:List V}:RK d sz K (τ,v,us)=rqK (aV sz us=true/\us.length<=16777216/\0<sz) K (τ.put d v):=propext zAa
theorem IG{e sz:Nat}{vs:List V}:BV σ d e sz vs K=oM (Na σ e sz vs) (RK d sz K):=by
 simp only[BV,Na];cases σ.pl?<;>cases oU vs<;>first|rfl|simp only[oM,RK,rqK,and_assoc]
def Vi(σ:St)(d:Option Nat)(e sz:Nat)(K:St->Prop)(vs us:List V):Prop:=rqK (aV sz us=true/\us.length<=16777216) K (St.put ⟨(σ.kill (ak vs)).r,(σ.kill (ak vs)).h++[some (Ob.arr e sz us)]⟩ d (.ref (σ.kill (ak vs)).h.length us.length))
theorem IH{e sz:Nat}{vs us:List V}:Vi σ d e sz K vs us=rqK (aV sz us=true/\us.length<=16777216) K (St.put ⟨(σ.kill (ak vs)).r,(σ.kill (ak vs)).h++[some (Ob.arr e sz us)]⟩ d (.ref (σ.kill (ak vs)).h.length us.length)):=propext zAa
def RL(σ:St)(d:Option Nat)(e sz:Nat)(K:St->Prop)(vs:List V):Prop:=oN (purs σ.h vs) (Vi σ d e sz K vs) (BV σ d e sz vs K)
theorem vE{e sz:Nat}{vs:List V}:RL σ d e sz K vs=oN (purs σ.h vs) (Vi σ d e sz K vs) (BV σ d e sz vs K):=propext zAa
theorem S3{e sz xs}:af Φ d (.ltr e sz xs) K σ=oM (σ.evs xs) (RL σ d e sz K):=by
 simp only[af];cases σ.evs xs with
 |none=>rfl
 |some vs=>
   simp only[RL,oM];cases purs σ.h vs with
   |none=>rfl
   |some us=>simp only[oN,Vi,rqK,and_assoc]
def VS(σ:St)(y:AO)(sz:Nat):Option (List V):=match σ.ev y with
 |some v=>match src σ.h v with
   |some (.seq sz' l)=>if sz'=sz then some l else none
   |_=>none
 |none=>none
def Y6(σ:St)(d:Option Nat)(sz by':Nat)(K:St->Prop)(l:List V):Prop:=rqK (l.length*by'<=140737488355328) K (σ.put d (.seq sz l))
theorem SU{sz by':Nat}{l:List V}:Y6 σ d sz by' K l=rqK (l.length*by'<=140737488355328) K (σ.put d (.seq sz l)):=propext zAa
theorem WF{y e sz by'}:af Φ d (.apz y e sz by') K σ=oM (VS σ y sz) (Y6 σ d sz by' K):=by
 simp only[af,VS];cases σ.ev y with
 |none=>rfl
 |some v=>
   simp only;cases src σ.h v with
   |none=>rfl
   |some u=>
     cases u<;>try rfl
     simp only;split
     ·rename_i h;simp only[oM,Y6,rqK,h,true_and]
     ·rename_i h;simp only[oM];exact propext ⟨fun g=>h g.1,fun g=>g.elim⟩
theorem ZQ{y e sz by'}:ai Φ d (.apz y e sz by') K σ=af Φ d (.apz y e sz by') K σ:=propext zAa
def UM(σ:St)(y:AO):Option (List UInt8×List Po):=match σ.ev y,σ.pl? with
 |some (.str s),some ms=>some (s,ms)
 |_,_=>none
def sbqK(σ:St)(d:Option Nat)(K:St->Prop)(p:List UInt8×List Po):Prop:=rqK (p.1≠[]/\p.1.length<=140737488355328) K ((σ.setP (p.2++[.byt 0 p.1])).put d (.q 1 p.2.length p.1.length 0 0))
theorem Q2{s ms}:sbqK σ d K (s,ms)=rqK (s≠[]/\s.length<=140737488355328) K ((σ.setP (ms++[.byt 0 s])).put d (.q 1 ms.length s.length 0 0)):=propext zAa
theorem Wy{y}:af Φ d (.sbq y) K σ=oM (UM σ y) (sbqK σ d K):=by
 simp only[af,UM];cases σ.ev y with
 |none=>cases σ.pl?<;>rfl
 |some v=>cases v<;>cases σ.pl?<;>rfl
theorem Zj{y}:ai Φ d (.sbq y) K σ=af Φ d (.sbq y) K σ:=propext zAa
def SV(σ:St)(e k j n:Nat)(s:List UInt8):Option (Nat×Nat×St×V):=match σ.pl? with
 |some ms=>match ms[j]? with
   |some (.byt e0 s0)=>if k=1/\n=s0.length then some (e0,n+s.length,σ.setP (ms.set j (.byt e0 (s0++s))),.q 1 j (n+s.length) 0 0)else none
   |_=>none
 |none=>none
def Y7(d:Option Nat)(e:Nat)(K:St->Prop)(p:Nat×Nat×St×V):Prop:=rqK ((p.1=0\/p.1=e)/\p.2.1<=140737488355328) K (p.2.2.1.put d p.2.2.2)
theorem SW{e e0 n:Nat}{τ:St}{v:V}:Y7 d e K (e0,n,τ,v)=rqK ((e0=0\/e0=e)/\n<=140737488355328) K (τ.put d v):=propext zAa
theorem A9{e k j n s}:vd σ d e k j n s K=oM (SV σ e k j n s) (Y7 d e K):=by
 simp only[vd,SV];cases σ.pl? with
 |none=>rfl
 |some ms=>
   simp only;cases ms[j]? with
   |none=>rfl
   |some m=>
     cases m<;>try rfl
     simp only;split
     ·rename_i hc
      simp only[oM,Y7,rqK,hc.1,hc.2,true_and,and_assoc]
     ·rename_i hc
      simp only[oM];exact propext ⟨fun h=>hc ⟨h.1,h.2.2.1⟩,fun h=>h.elim⟩
def VU(σ:St)(x y:AO):Option (Nat×Nat×Nat×List UInt8):=match σ.ev x,σ.ev y with
 |some (.q k j n _ _),some (.str s)=>some (k,j,n,s)
 |_,_=>none
def VT(σ:St)(x y:AO):Option (Nat×Nat×Nat×List UInt8):=match σ.ev x,σ.ev y with
 |some (.q k j n _ _),some v=>match HG σ v with
   |some s=>some (k,j,n,s)
   |none=>none
 |_,_=>none
def Y8(σ:St)(d:Option Nat)(e:Nat)(K:St->Prop)(p:Nat×Nat×Nat×List UInt8):Prop:=vd σ d e p.1 p.2.1 p.2.2.1 p.2.2.2 K
theorem Ba{e k j n:Nat}{s:List UInt8}:Y8 σ d e K (k,j,n,s)=vd σ d e k j n s K:=propext zAa
theorem WG{x y e}:af Φ d (.aps x y e) K σ=oM (VU σ x y) (Y8 σ d e K):=by
 simp only[af,VU];cases σ.ev x with
 |none=>cases σ.ev y<;>rfl
 |some u=>cases u<;>(cases σ.ev y with|none=>rfl|some v=>cases v<;>rfl)
theorem ZR{x y e}:ai Φ d (.aps x y e) K σ=af Φ d (.aps x y e) K σ:=propext zAa
theorem WI{x y e}:af Φ d (.apb x y e) K σ=oM (VT σ x y) (Y8 σ d e K):=by
 simp only[af,VT];cases σ.ev x with
 |none=>cases σ.ev y<;>rfl
 |some u=>cases u<;>(cases σ.ev y with|none=>rfl|some v=>first|rfl|(simp only;cases HG σ v<;>rfl))
theorem ZS{x y e}:ai Φ d (.apb x y e) K σ=af Φ d (.apb x y e) K σ:=propext zAa
def albK(σ:St)(d:Option Nat)(t e:Nat)(z:List V)(K:St->Prop)(ms:List Po):Prop:=rqK (z=[.nilptr,.nil 1]) K ((σ.setP (ms++[.byt e [],.bx t [.nilptr,.q 1 ms.length 0 0 0]])).put d (.q 0 (ms.length+1) 0 0 0))
theorem S2{t e z ms}:albK σ d t e z K ms=rqK (z=[.nilptr,.nil 1]) K ((σ.setP (ms++[.byt e [],.bx t [.nilptr,.q 1 ms.length 0 0 0]])).put d (.q 0 (ms.length+1) 0 0 0)):=propext zAa
theorem WK{t e z}:af Φ d (.alb t e z) K σ=oM σ.pl? (albK σ d t e z K):=by
 simp only[af];cases σ.pl?<;>rfl
theorem ZV{t e z}:ai Φ d (.alb t e z) K σ=af Φ d (.alb t e z) K σ:=propext zAa
def Qz(σ:St)(x:AO):Option V:=match σ.ev x,σ.pl? with
 |some (.q k j n _ _),some ms=>match ms[j]? with
   |some (.byt _ s)=>if k=1/\n=s.length then some (if s=[]then .nilptr else .q 2 j n 0 0)else none
   |_=>none
 |_,_=>none
theorem Ww{x}:af Φ d (.usd x) K σ=oM (Qz σ x) (eL σ d K):=by
 simp only[af,Qz];split
 ·rename_i k j n i0 o0 ms hx hms
  simp only[hx,hms];cases ms[j]? with
  |none=>rfl
  |some m=>
    cases m<;>try rfl
    rename_i e0 s;by_cases hc:k=1/\n=s.length
    ·simp only[if_pos hc,oM,eL]
     exact propext ⟨fun h=>h.2.2,fun h=>⟨hc.1,hc.2,h⟩⟩
    ·simp only[if_neg hc,oM]
     exact propext ⟨fun h=>hc ⟨h.1,h.2.1⟩,fun h=>h.elim⟩
 ·rename_i h
  split
  ·rename_i k j n i0 o0 ms hx hms
   exact(h _ _ _ _ _ _ hx hms).elim
  ·rfl
theorem Zf{x}:ai Φ d (.usd x) K σ=af Φ d (.usd x) K σ:=propext zAa
def KA(σ:St)(p n:AO):Option (Prop×Nat×St×List UInt8):=match σ.ev p,σ.ev n with
 |some .nilptr,some (.int .i64 m)=>some (m=0,0,σ,[])
 |some (.q k j m i o),some (.int .i64 q)=>match σ.pl? with
   |some ms=>match ms[j]? with
     |some (.byt e0 s)=>some (k=2/\i=0/\o=0/\m=s.length/\q=s.length/\s≠[],e0,σ.setP (ms.set j .no),s)
     |_=>none
   |none=>none
 |_,_=>none
def Ur(d:Option Nat)(e:Nat)(K:St->Prop)(p:Prop×Nat×St×List UInt8):Prop:=rqK (p.1/\(p.2.2.2=[]\/(e≠0/\p.2.1=e))) K (p.2.2.1.put d (.str p.2.2.2))
theorem Qy{e:Nat}{c:Prop}{e0:Nat}{τ:St}{s:List UInt8}:Ur d e K (c,e0,τ,s)=rqK (c/\(s=[]\/(e≠0/\e0=e))) K (τ.put d (.str s)):=propext zAa
theorem Wv{p n e}:af Φ d (.ust p n e) K σ=oM (KA σ p n) (Ur d e K):=by
 refine propext ⟨fun h=>?_,fun h=>?_⟩
 ·simp only[af]at h
  split at h
  ·rename_i m h1 h2
   simp only[KA,h1,h2,oM,Ur];exact⟨⟨h.1,.inl trivial⟩,h.2⟩
  ·rename_i k j m i0 o0 q h1 h2
   split at h
   ·rename_i ms h3
    split at h
    ·rename_i e0 s hj
     obtain⟨g1,g2,g3,g4,g5,g6,g7,g8,g9⟩:=h;simp only[KA,h1,h2,h3,hj,oM,Ur];exact⟨⟨⟨g1,g2,g3,g6,g7,g8⟩,.inr ⟨g4,g5⟩⟩,g9⟩
    ·exact h.elim
   ·exact h.elim
  ·exact h.elim
 ·unfold KA at h
  split at h
  ·rename_i m h1 h2
   simp only[af,h1,h2];exact⟨h.1.1,h.2⟩
  ·rename_i k j m i0 o0 q h1 h2
   split at h
   ·rename_i ms h3
    split at h
    ·rename_i e0 s hj
     obtain⟨⟨⟨g1,g2,g3,g6,g7,g8⟩,g45⟩,g9⟩:=h;have g45:=g45.resolve_left g8;simp only[af,h1,h2,h3,hj];exact⟨g1,g2,g3,g45.1,g45.2,g6,g7,g8,g9⟩
    ·exact h.elim
   ·exact h.elim
  ·exact h.elim
theorem Ze{p n e}:ai Φ d (.ust p n e) K σ=af Φ d (.ust p n e) K σ:=propext zAa
def Ss(σ:St)(kt:KT)(x k:AO):Option (V×St):=match σ.ev x,σ.ev k with
 |some (.ref id _),some kv=>match σ.mp? id with
   |some (kt',l)=>if kt'=kt then some (kv,{ σ with h:=σ.h.set id (some (Ob.mp kt (xG kv l))) })else none
   |none=>none
 |_,_=>none
def delK(d:Option Nat)(kt:KT)(K:St->Prop)(p:V×St):Prop:=rqK (a8 kt p.1=true) K (p.2.put d (.tup []))
theorem Su{kt:KT}{kv:V}{τ:St}:delK d kt K (kv,τ)=rqK (a8 kt kv=true) K (τ.put d (.tup [])):=propext zAa
theorem WC{kt x k}:af Φ d (.del kt x k) K σ=oM (Ss σ kt x k) (delK d kt K):=by
 refine propext ⟨fun h=>?_,fun h=>?_⟩
 ·simp only[af]at h
  split at h
  ·rename_i id n kv h1 h2
   split at h
   ·rename_i kt' l hm
    simp only[Ss,h1,h2,hm];rw[if_pos h.1];exact⟨h.2.1,h.2.2⟩
   ·exact h.elim
  ·exact h.elim
 ·unfold Ss at h
  split at h
  ·rename_i id n kv h1 h2
   split at h
   ·rename_i kt' l hm
    split at h
    ·rename_i hc
     simp only[af,h1,h2,hm];exact⟨hc,h.1,h.2⟩
    ·exact h.elim
   ·exact h.elim
  ·exact h.elim
theorem ZH{kt x k}:ai Φ d (.del kt x k) K σ=af Φ d (.del kt x k) K σ:=propext zAa
def KB(σ:St)(x hi:AO)(sz:Nat):Option (Int×Nat×St×V):=match σ.ev x,σ.ev hi with
 |some (.q k j n _ _),some (.int _ b)=>match σ.pl? with
   |some ms=>match ms[j]? with
     |some (.rw e sz' l)=>if k=1/\sz'=sz/\n=l.length then some (b,n,σ.setP (ms.set j .no++[.rw e sz (l.take b.toNat)]),.q 1 ms.length b.toNat 0 0)else none
     |_=>none
   |none=>none
 |some (.ref id n),some (.int _ b)=>match σ.arr? id with
   |some (e,sz',l)=>if sz'=sz/\n=l.length then some (b,n,{ σ with h:=σ.h.set id none++[some (Ob.arr e sz (l.take b.toNat))] },.ref σ.h.length b.toNat)else none
   |none=>none
 |_,_=>none
def trcK(d:Option Nat)(K:St->Prop)(p:Int×Nat×St×V):Prop:=rqK (0<=p.1/\p.1<=p.2.1) K (p.2.2.1.put d p.2.2.2)
theorem HA{b:Int}{n:Nat}{τ:St}{v:V}:trcK d K (b,n,τ,v)=rqK (0<=b/\b<=n) K (τ.put d v):=propext zAa
theorem Wx{x hi sz}:af Φ d (.trc x hi sz) K σ=oM (KB σ x hi sz) (trcK d K):=by
 refine propext ⟨fun h=>?_,fun h=>?_⟩
 ·simp only[af]at h
  split at h
  ·rename_i k j n i0 o0 kk b h1 h2
   split at h
   ·rename_i ms hms
    split at h
    ·rename_i e sz' l hj
     obtain⟨g1,g2,g3,g4,g5,g6⟩:=h;simp only[KB,h1,h2,hms,hj,g1,g2,and_self,if_true,true_and];rw[if_pos g3];exact⟨⟨g4,g5⟩,g6⟩
    ·exact h.elim
   ·exact h.elim
  ·rename_i id n kk b h1 h2
   split at h
   ·rename_i e sz' l ha
    obtain⟨g2,g3,g4,g5,g6⟩:=h;simp only[KB,h1,h2,ha,g2,true_and];rw[if_pos g3];exact⟨⟨g4,g5⟩,g6⟩
   ·exact h.elim
  ·exact h.elim
 ·unfold KB at h
  split at h
  ·rename_i k j n i0 o0 kk b h1 h2
   split at h
   ·rename_i ms hms
    split at h
    ·rename_i e sz' l hj
     split at h
     ·rename_i hc
      simp only[af,h1,h2,hms,hj];exact⟨hc.1,hc.2.1,hc.2.2,h.1.1,h.1.2,h.2⟩
     ·exact h.elim
    ·exact h.elim
   ·exact h.elim
  ·rename_i id n kk b h1 h2
   split at h
   ·rename_i e sz' l ha
    split at h
    ·rename_i hc
     simp only[af,h1,h2,ha];exact⟨hc.1,hc.2,h.1.1,h.1.2,h.2⟩
    ·exact h.elim
   ·exact h.elim
  ·exact h.elim
def Ld(σ:St)(n:AO):Option Int:=match σ.ev n with
 |some (.int _ m)=>some m
 |_=>none
def YC(σ:St)(d:Option Nat)(e sz by':Nat)(z:V)(K:St->Prop)(m:Int):Prop:=
 rqK (0<=m/\m*by'<=140737488355328) K ({ σ with h:=σ.h++[some (Ob.arr e sz (zBa m.toNat z))] }.put d (.ref σ.h.length m.toNat))
theorem RC{e sz by' z}{m:Int}:YC σ d e sz by' z K m=
 rqK (0<=m/\m*by'<=140737488355328) K ({ σ with h:=σ.h++[some (Ob.arr e sz (zBa m.toNat z))] }.put d (.ref σ.h.length m.toNat)):=propext zAa
theorem a_mks{e sz by' z n}:af Φ d (.mks e sz by' z n) K σ=oM (Ld σ n) (YC σ d e sz by' z K):=by
 simp only[af,Ld,oM];cases σ.ev n with
 |none=>rfl
 |some v=>cases v<;>first|rfl|simp only[YC,rqK,and_assoc]
def sm(l:List (List V)):List Rw:=l.map .a
theorem XU{l:List (List V)}:(sm l).length=l.length:=by simp[sm]
theorem QV{l:List (List V)}{i:Nat}:aT (sm l) i=l[i]?:=by
 unfold aT sm;rw[zDc];cases l[i]?<;>rfl
theorem yK{sz:Nat}:∀{l:List (List V)},jA sz (sm l)=some (l.map (.seq sz))
 |[]=>rfl
 |r::l=>by
   have:=yK (sz:=sz) (l:=l);simp only[sm]at this;simp[sm,jA,this]
theorem QU{l:List (List V)}{i:Nat}{r:List V}:(sm l).set i (.a r)=sm (l.set i r):=by simp[sm]
theorem N7{l:List (List V)}{i:Nat}:ow (sm l) i=(l[i]?).map List.length:=by
 unfold ow sm;rw[zDc];cases l[i]?<;>rfl
theorem UH{l:List (List V)}{i k:Nat}(h:i<l.length):ow ((sm l).set i (.g k)) i=some k:=by
 unfold ow;rw[List.getElem?_set_self (by simpa[sm]using h)]
theorem UI{l:List (List V)}{i k:Nat}{r:List V}:((sm l).set i (.g k)).set i (.a r)=sm (l.set i r):=by rw[List.set_set,QU]
theorem MP:∀{l:List (List V)},wT (sm l)=l.all fun r=>dB r
 |[]=>rfl
 |r::l=>by
   have:=MP (l:=l);simp only[sm]at this;simp[sm,wT,this]
def Ve(σ:St)(d:Option Nat)(e by' e2 sz:Nat)(K:St->Prop)(m:Int):Prop:=
 rqK (0<=m/\m*by'<=140737488355328) K ({ σ with h:=σ.h++[some (Ob.mat e e2 sz (zBa m.toNat (.a [])))] }.put d (.ref σ.h.length m.toNat))
theorem RE{e by' e2 sz}{m:Int}:Ve σ d e by' e2 sz K m=
 rqK (0<=m/\m*by'<=140737488355328) K ({ σ with h:=σ.h++[some (Ob.mat e e2 sz (sm (zBa m.toNat [])))] }.put d (.ref σ.h.length m.toNat)):=by simp[Ve,sm]
def YE(σ:St)(d:Option Nat)(e sz by':Nat)(K:St->Prop)(m:Int):Prop:=
 rqK (0<=m/\m*by'<=140737488355328) K ({ σ with h:=σ.h++[some (Ob.arr e sz [])] }.put d (.ref σ.h.length 0))
theorem RF{e sz by'}{m:Int}:YE σ d e sz by' K m=
 rqK (0<=m/\m*by'<=140737488355328) K ({ σ with h:=σ.h++[some (Ob.arr e sz [])] }.put d (.ref σ.h.length 0)):=propext zAa
theorem a_mk0{e sz by' n}:af Φ d (.mk0 e sz by' n) K σ=oM (Ld σ n) (YE σ d e sz by' K):=by
 simp only[af,Ld,oM];cases σ.ev n with
 |none=>rfl
 |some v=>cases v<;>first|rfl|simp only[YE,rqK,and_assoc]
theorem a_mkm{e by' e2 sz n}:af Φ d (.mkm e by' e2 sz n) K σ=oM (Ld σ n) (Ve σ d e by' e2 sz K):=by
 simp only[af,Ld,oM];cases σ.ev n with
 |none=>rfl
 |some v=>cases v<;>first|rfl|simp only[Ve,rqK,and_assoc]
theorem a_mkp{kt}:af Φ d (.mkp kt) K σ=K ({ σ with h:=σ.h++[some (Ob.mp kt [])] }.put d (.ref σ.h.length 0)):=propext zAa
theorem Zu{kt}:ai Φ d (.mkp kt) K σ=af Φ d (.mkp kt) K σ:=propext zAa
theorem Zq{x y z w}:ai Φ d (.mup x y z w) K σ=af Φ d (.mup x y z w) K σ:=propext zAa
def YB(σ:St)(kt:KT)(x k v:AO):Option St:=match σ.ev x,σ.ev k,σ.ev v with
 |some (.ref id _),some kv,some u=>match σ.mp? id,pur σ.h u with
   |some (kt',l),some u'=>if kt'=kt/\a8 kt kv=true/\aA u=[]/\nt u'=true then some { σ with h:=σ.h.set id (some (Ob.mp kt (nU kv u' l))) }else none
   |_,_=>none
 |_,_,_=>none
theorem a_mup{kt x k v}:af Φ d (.mup kt x k v) K σ=oM (YB σ kt x k v) (skK d K):=by
 simp only[af,YB];cases σ.ev x with
 |none=>rfl
 |some a=>
   cases σ.ev k with
   |none=>cases a<;>rfl
   |some b=>
     cases σ.ev v with
     |none=>cases a<;>rfl
     |some c=>
       cases a<;>try rfl
       rename_i id n;simp only;cases σ.mp? id with
       |none=>rfl
       |some p=>
         obtain⟨kt',l⟩:=p;cases pur σ.h c with
         |none=>rfl
         |some u'=>
           simp only;by_cases hc:kt'=kt/\a8 kt b=true/\aA c=[]/\nt u'=true
           ·rw[if_pos hc]
            exact propext ⟨fun h=>h.2.2.2.2,fun h=>⟨hc.1,hc.2.1,hc.2.2.1,hc.2.2.2,h⟩⟩
           ·rw[if_neg hc]
            exact propext ⟨fun h=>(hc ⟨h.1,h.2.1,h.2.2.1,h.2.2.2.1⟩).elim,fun h=>h.elim⟩
theorem O8{k:IntKind}{n:Int}:a8 ⟨false,[.i k]⟩ (.int k n)=true:=by simp[a8,gk,cl,bI,kOf,aQ]
theorem O7{s:List UInt8}:a8 ⟨false,[.s]⟩ (.str s)=true:=by simp[a8,gk,cl,bI,kOf,aQ]
def clK(Φ:Ctr)(d:Option Nat)(f:FuncId)(vs:List V)(σ:St)(K:St->Prop)(us:List V):Prop:=kB Φ d f vs us K σ
def YZ(Φ:Ctr)(d:Option Nat)(f:FuncId)(σ:St)(K:St->Prop)(vs:List V):Prop:=oN (purs σ.h vs) (clK Φ d f vs σ K) (dL Φ d f vs K σ)
theorem VP{f vs us}:clK Φ d f vs σ K us=kB Φ d f vs us K σ:=propext zAa
theorem SB{f vs}:YZ Φ d f σ K vs=oN (purs σ.h vs) (clK Φ d f vs σ K) (dL Φ d f vs K σ):=propext zAa
theorem Zc{f xs}:af Φ d (.call f xs) K σ=oM (σ.evs xs) (YZ Φ d f σ K):=by
 simp only[af,oM];cases σ.evs xs with
 |none=>rfl
 |some vs=>simp only[YZ,oN];cases purs σ.h vs<;>rfl
def chK(Φ:Ctr)(d:Option Nat)(f:FuncId)(σ:St)(K:St->Prop)(vs:List V):Prop:=dL Φ d f vs K σ
theorem VQ{f vs}:chK Φ d f σ K vs=dL Φ d f vs K σ:=propext zAa
theorem V0{f xs}:af Φ d (.callH f xs) K σ=oM (σ.evs xs) (chK Φ d f σ K):=by
 simp only[af,oM];cases σ.evs xs<;>rfl
def WL(σ:St)(g:AO)(xs:List AO):Option (V×List V×List V×St×Bool):=match σ.ev g,σ.evs xs with
 |some (.ref id _),some vs=>match σ.gh? id,purs σ.h vs with
   |some ((v,b)::l),some us=>some (v,us,vs,{ σ with h:=σ.h.set id (some (Ob.gh l)) },b)
   |_,_=>none
 |_,_=>none
def yldK(d:Option Nat)(K:St->Prop)(p:V×List V×List V×St×Bool):Prop:=p.1=.tup p.2.1/\ak p.2.2.1=[]/\K (p.2.2.2.1.put d (.bool p.2.2.2.2))
theorem PR{v:V}{us vs:List V}{τ:St}{b:Bool}:yldK d K (v,us,vs,τ,b)=(v=.tup us/\ak vs=[]/\K (τ.put d (.bool b))):=propext zAa
theorem a_yld{g xs}:af Φ d (.yld g xs) K σ=oM (WL σ g xs) (yldK d K):=by
 simp only[af,WL];cases σ.ev g with
 |none=>rfl
 |some u=>
   cases σ.evs xs with
   |none=>cases u<;>rfl
   |some vs=>
     cases u<;>try rfl
     rename_i id n;simp only;cases σ.gh? id with
     |none=>rfl
     |some l=>
       cases l with
       |nil=>rfl
       |cons x l=>
         obtain⟨v,b⟩:=x;cases purs σ.h vs<;>rfl
theorem Zd{g xs}:ai Φ d (.yld g xs) K σ=af Φ d (.yld g xs) K σ:=propext zAa
def US(σ:St)(x:AO):Option (St×V):=match σ.ev x with
 |some (.str s)=>some ({ σ with h:=σ.h++[some (Ob.itr s 0)] },.ref σ.h.length 0)
 |_=>none
def Ye(d:Option Nat)(K:St->Prop)(p:St×V):Prop:=K (p.1.put d p.2)
theorem Rf{τ:St}{v:V}:Ye d K (τ,v)=K (τ.put d v):=propext zAa
theorem Wz{x}:af Φ d (.rgs x) K σ=oM (US σ x) (Ye d K):=by
 simp only[af,US];cases σ.ev x with
 |none=>rfl
 |some u=>cases u<;>rfl
theorem Zl{x}:ai Φ d (.rgs x) K σ=af Φ d (.rgs x) K σ:=propext zAa
def Va(σ:St)(x:AO):Option (St×V):=match σ.ev x with
 |some (.ref id _)=>match σ.itr? id with
   |some (s,p)=>some (if p<s.length then({ σ with h:=σ.h.set id (some (Ob.itr s (p+(uI s p).2))) },.tup [.bool true,.int .i64 p,.int .i32 (uI s p).1])else(σ,.tup [.bool false]))
   |none=>none
 |_=>none
theorem WA{x}:af Φ d (.nxs x) K σ=oM (Va σ x) (Ye d K):=by
 simp only[af,Va];cases σ.ev x with
 |none=>rfl
 |some u=>
   cases u<;>try rfl
   rename_i id n;simp only;cases σ.itr? id with
   |none=>rfl
   |some p=>
     obtain⟨s,p⟩:=p;simp only[oM];split<;>rfl
theorem Zn{x}:ai Φ d (.nxs x) K σ=af Φ d (.nxs x) K σ:=propext zAa
def Py(Φ:Ctr)(d:Option Nat)(f:FuncId)(vs:List V)(σ:St)(K:St->Prop)(us:List V):Prop:=mj Φ d f vs us K σ
def SD(Φ:Ctr)(d:Option Nat)(f:FuncId)(σ:St)(K:St->Prop)(vs:List V):Prop:=oM (purs σ.h vs) (Py Φ d f vs σ K)
theorem SC{f vs us}:Py Φ d f vs σ K us=mj Φ d f vs us K σ:=propext zAa
theorem Px{f vs}:SD Φ d f σ K vs=oM (purs σ.h vs) (Py Φ d f vs σ K):=propext zAa
theorem V6{f xs}:ai Φ d (.call f xs) K σ=oM (σ.evs xs) (SD Φ d f σ K):=by
 simp only[ai,oM];cases σ.evs xs with
 |none=>rfl
 |some vs=>simp only[SD,oM];cases purs σ.h vs<;>rfl
def fnV(σ:St)(g:AO)(xs:List AO):Option (FuncId×List V):=match σ.ev g,σ.evs xs with
 |some (.fn (.func f) a b),some vs=>some (f,a++vs++b)
 |_,_=>none
def cvK(Φ:Ctr)(d:Option Nat)(σ:St)(K:St->Prop)(p:FuncId×List V):Prop:=oN (purs σ.h p.2) (clK Φ d p.1 p.2 σ K) (dL Φ d p.1 p.2 K σ)
def RY(σ:St)(tbl:List (Nat×FuncId))(x:AO)(xs:List AO):Option (FuncId×List V):=match σ.ev x,σ.evs xs with
 |some (.iface t v),some vs=>match lkF tbl t with
   |some f=>some (f,v::vs)
   |none=>none
 |_,_=>none
theorem a_inv{tbl x xs}:af Φ d (.inv tbl x xs) K σ=oM (RY σ tbl x xs) (cvK Φ d σ K):=by
 simp only[af,RY];cases σ.ev x with
 |none=>rfl
 |some a=>
   cases σ.evs xs with
   |none=>cases a<;>rfl
   |some vs=>
     cases a<;>try rfl
     rename_i t v;simp only;cases lkF tbl t with
     |none=>rfl
     |some f=>simp only[oM,cvK,oN];cases purs σ.h (v::vs)<;>rfl
def ivK(Φ:Ctr)(d:Option Nat)(σ:St)(K:St->Prop)(p:FuncId×List V):Prop:=Vp Φ d p.1 p.2 K σ
theorem a_ivp{tbl x xs}:af Φ d (.ivp tbl x xs) K σ=oM (σ.ivpV tbl x xs) (ivK Φ d σ K):=by
 simp only[af];cases σ.ivpV tbl x xs with
 |none=>rfl
 |some p=>rfl
theorem Vq{f vs}:ivK Φ d σ K (f,vs)=oN (purs σ.h vs) (fun us=>kB Φ d f vs us K σ\/dL Φ d f vs K σ) (dL Φ d f vs K σ):=by
 simp only[ivK,Vp,oN];cases purs σ.h vs<;>rfl
theorem VK{f vs}:cvK Φ d σ K (f,vs)=oN (purs σ.h vs) (clK Φ d f vs σ K) (dL Φ d f vs K σ):=propext zAa
theorem VZ{g xs}:af Φ d (.callv g xs) K σ=oM (fnV σ g xs) (cvK Φ d σ K):=by
 simp only[af,fnV,oM];cases σ.ev g with
 |none=>rfl
 |some v=>
   cases v with
   |fn f a b=>
     cases f<;>cases σ.evs xs<;>try rfl
     rename_i vs;simp only[cvK,oN];cases purs σ.h (a++vs++b)<;>rfl
   |_=>rfl
theorem ZD{tbl x xs}:ai Φ d (.inv tbl x xs) K σ=oM (RY σ tbl x xs) (fun p=>oM (purs σ.h p.2) (Py Φ d p.1 p.2 σ K)):=by
 simp only[ai,RY];cases σ.ev x with
 |none=>rfl
 |some a=>
   cases σ.evs xs with
   |none=>cases a<;>rfl
   |some vs=>
     cases a<;>try rfl
     rename_i t v;simp only;cases lkF tbl t with
     |none=>rfl
     |some f=>simp only[oM];cases purs σ.h (v::vs)<;>rfl
def YV(Φ:Ctr)(d:Option Nat)(σ:St)(K:St->Prop)(p:FuncId×List V):Prop:=oM (purs σ.h p.2) (Py Φ d p.1 p.2 σ K)
theorem Sw{f vs}:YV Φ d σ K (f,vs)=oM (purs σ.h vs) (Py Φ d f vs σ K):=propext zAa
theorem S5{g xs}:ai Φ d (.callv g xs) K σ=oM (fnV σ g xs) (YV Φ d σ K):=by
 simp only[ai,fnV,oM];cases σ.ev g with
 |none=>rfl
 |some v=>
   cases v with
   |fn f a b=>
     cases f<;>cases σ.evs xs<;>try rfl
     rename_i vs;simp only[YV,oM];cases purs σ.h (a++vs++b)<;>rfl
   |_=>rfl
end
def Ri(post:V->Prop)(us:List V):Prop:=post (fw us)
theorem Rh{post:V->Prop}{us:List V}:Ri post us=post (fw us):=propext zAa
def HY(post:V->Prop)(σ:St)(vs:List V):Prop:=oM (purs σ.h vs) (Ri post)
theorem Ok{post:V->Prop}{σ:St}{vs:List V}:HY post σ vs=oM (purs σ.h vs) (Ri post):=propext zAa
theorem S9{rs:List RV}{post:V->Prop}{σ:St}:Res rs post .norm σ=oM (σ.rvs rs) (HY post σ):=by
 unfold Res HY oM;cases σ.rvs rs with
 |none=>simp
 |some vs=>simp only;cases purs σ.h vs<;>simp[Ri]
theorem Wd{rs:List RV}{post:V->Prop}{σ:St}:Res rs post .ret σ=oM (σ.rvs rs) (HY post σ):=by
 unfold Res HY oM;cases σ.rvs rs with
 |none=>simp
 |some vs=>simp only;cases purs σ.h vs<;>simp[Ri]
def H5(σ:St)(ps:List Nat)(us:List V)(r:V)(H':List (Option Ob))(vs:List V):Prop:=HZ σ ps us r H' vs (cU σ.h (tI (pk σ.r ps)) vs).2
theorem Ol{σ:St}{ps:List Nat}{us:List V}{r:V}{H':List (Option Ob)}{vs:List V}:H5 σ ps us r H' vs=HZ σ ps us r H' vs (cU σ.h (tI (pk σ.r ps)) vs).2:=propext zAa
theorem PO{rs:List RV}{σ:St}{ps:List Nat}{us:List V}{r:V}{H':List (Option Ob)}:G7 rs ps us r H' .norm σ=oM (σ.rvs rs) (H5 σ ps us r H'):=by
 unfold G7 oM;cases σ.rvs rs<;>simp[H5]
theorem Td{rs:List RV}{σ:St}{ps:List Nat}{us:List V}{r:V}{H':List (Option Ob)}:G7 rs ps us r H' .ret σ=oM (σ.rvs rs) (H5 σ ps us r H'):=by
 unfold G7 oM;cases σ.rvs rs<;>simp[H5]
section
variable{Φ:Ctr}{σ:St}{K:St->Prop}{d:Option Nat}
def YM(σ:St)(d:Option Nat)(K:St->Prop)(q:Nat)(m:List Nat)(r:V)(H':List (Option Ob)):Prop:=K (St.put ⟨σ.r,σ.back q m H'⟩ d (bck (vV q m σ.h.length H'.length) r))
theorem R6{q:Nat}{m:List Nat}{r:V}{H':List (Option Ob)}:YM σ d K q m r H'=K (St.put ⟨σ.r,σ.back q m H'⟩ d (bck (vV q m σ.h.length H'.length) r)):=propext zAa
theorem ar(ps:List Nat)(q:Nat)(m:List Nat){f:FuncId}{vs us:List V}{H H':List (Option Ob)}{r:V}(hc:σ.curs (bk vs ps)=true)(hl:cU σ.h (bk vs ps) vs=(q,m))(hu:dO m vs=us)(hH:fL σ.h m m=H)
 (h:Φ.e f ps us H r H') (hk:kin q H H'=true) (k:ok r->okH H'->YM σ d K q m r H'):dL Φ d f vs K σ:=by
 refine .inl ⟨ps,hc,r,H',?_,?_,?_⟩
 ·rw[hl,hH];exact hk
 ·rw[hl,hu,hH];exact h
 ·rw[hl];exact k
theorem Dp(ps:List Nat)(q:Nat)(m:List Nat){f:FuncId}{vs us:List V}{H:List (Option Ob)}{Z:V->List (Option Ob)->Prop}(hc:σ.curs (bk vs ps)=true)(hl:cU σ.h (bk vs ps) vs=(q,m))(hu:dO m vs=us)(hH:fL σ.h m m=H)
 (h:Φ.x f ps us H Z) (k:∀r H',Z r H'->kin q H H'=true/\(ok r->okH H'->YM σ d K q m r H')):dL Φ d f vs K σ:=by
 refine .inr (.inr (.inr ⟨ps,Z,hc,?_,?_⟩))
 ·rw[hl,hu,hH];exact h
 ·rw[hl,hH];exact k
end
def HX(r:V)(us:List V):Prop:=fw us=r
theorem Oj{r:V}{us:List V}:HX r us=(fw us=r):=propext zAa
def yP(r:V)(σ:St)(vs:List V):Prop:=Ar σ.h vs=true/\oM (purs σ.h vs) (HX r)
theorem KU{r:V}{σ:St}{vs:List V}:yP r σ vs=(Ar σ.h vs=true/\oM (purs σ.h vs) (HX r)):=propext zAa
theorem PN{rs:List RV}{r:V}{σ:St}:G6 rs r .norm σ=oM (σ.rvs rs) (yP r σ):=by
 unfold G6 yP oM;cases σ.rvs rs with
 |none=>simp
 |some vs=>simp only;cases purs σ.h vs<;>simp[HX]
theorem Tc{rs:List RV}{r:V}{σ:St}:G6 rs r .ret σ=oM (σ.rvs rs) (yP r σ):=by
 unfold G6 yP oM;cases σ.rvs rs with
 |none=>simp
 |some vs=>simp only;cases purs σ.h vs<;>simp[HX]
theorem tupV0:fw []=.tup []:=rfl
theorem tupV1{v:V}:fw [v]=v:=rfl
theorem tupV2{v w:V}{l:List V}:fw (v::w::l)=.tup (v::w::l):=rfl
theorem XS{cs}:obI (some (some (.box cs)))=ak cs:=by simp only[obI]
theorem XN{m}{cs}:bH m (some (.box cs))=some (.box (dO m cs)):=by simp only[bH]
theorem X1{m}{cs}:cW m (some (.box cs))=some (.box (lI m cs)):=by simp only[cW]
theorem XT{e sz l}:obI (some (some (.arr e sz l)))=[]:=by simp only[obI]
theorem XO{m}{e sz l}:bH m (some (.arr e sz l))=some (.arr e sz l):=by simp only[bH]
theorem X2{m}{e sz l}:cW m (some (.arr e sz l))=some (.arr e sz l):=by simp only[cW]
theorem XQ{e e2 sz l}:obI (some (some (.mat e e2 sz l)))=[]:=by simp only[obI]
theorem XL{m}{e e2 sz l}:bH m (some (.mat e e2 sz l))=some (.mat e e2 sz l):=by simp only[bH]
theorem XZ{m}{e e2 sz l}:cW m (some (.mat e e2 sz l))=some (.mat e e2 sz l):=by simp only[cW]
theorem so_mp{kt l}:obI (some (some (.mp kt l)))=[]:=by simp only[obI]
theorem sr_mp{m}{kt l}:bH m (some (.mp kt l))=some (.mp kt l):=by simp only[bH]
theorem sb_mp{m}{kt l}:cW m (some (.mp kt l))=some (.mp kt l):=by simp only[cW]
theorem so_gh{l}:obI (some (some (.gh l)))=[]:=by simp only[obI]
theorem sr_gh{m}{l}:bH m (some (.gh l))=some (.gh l):=by simp only[bH]
theorem sb_gh{m}{l}:cW m (some (.gh l))=some (.gh l):=by simp only[cW]
theorem XR{s p}:obI (some (some (.itr s p)))=[]:=by simp only[obI]
theorem XM{m}{s p}:bH m (some (.itr s p))=some (.itr s p):=by simp only[bH]
theorem X0{m}{s p}:cW m (some (.itr s p))=some (.itr s p):=by simp only[cW]
theorem XP{c}:obI (some (some (.tok c)))=[]:=by simp only[obI]
theorem XK{m}{c}:bH m (some (.tok c))=some (.tok c):=by simp only[bH]
theorem XY{m}{c}:cW m (some (.tok c))=some (.tok c):=by simp only[cW]
theorem UF{ms}:obI (some (some (.pool ms)))=[]:=by simp only[obI]
theorem UE{m}{ms}:bH m (some (.pool ms))=some (.pool ms):=by simp only[bH]
theorem UN{m}{ms}:cW m (some (.pool ms))=some (.pool ms):=by simp only[cW]
theorem UG:obI none=[]:=by simp only[obI]
theorem so_no:obI (some none)=[]:=by simp only[obI]
theorem sr_no{m}:bH m none=none:=by simp only[bH]
theorem sb_no{m}:cW m none=none:=by simp only[cW]
attribute [simp] NH PV Ko Rv V7 Wb Z0 NW FF OW RR OY OX ZX ZZ V9 V8 ZY NA Z1 W_ret Wc Dv NY QD FE IM tY Km EJ BrK_t BrK_f BrK_n rqK_t Q7 U8 U9 VR Vv R7 YP Sz UK Rn Qp NK wop_n Qr NL Kp Xl Kq Qx NO SO Q5 RM OM ON Lk SX RC RF RE XU QV N7 UH UI yK QU MP a_mkm a_yld Zd PR Wz Zl WA Zn Rf a_mkp Zu Zq a_mup a_inv ZD a_ivp Vq St.ivpV St.recv lkG O8 O7 VP SB SC Px VK Sw Rh Ok U6 U7 VQ fz fzs V0 Ol PO Td R6 Oj KU PN Tc jk jks fre Ar a_mov Y9 a_fld a_fa a_ia a_iaa a_ld a_ixs a_ixa a_bin a_un a_cii a_r2s a_b2s a_sls a_slq Za Zb a_beq a_ext a_bld a_mkf a_nlc a_mki a_tya Zg a_aeq a_lkp a_mm a_nlq Zr V3 ZF aD_fa aD_ia ZE aD_ld ZB ZC ZN aD_un ZJ Zm ZP Zh Zi V4 V5 ZO ZG ZM Zx Zp Zw ZW Zz aD_mm Zo ZU ZL aD_st S7 Zs Zy Zv Zk a_alc a_box a_st a_s2b a_lit WH a_mks a_mk0 Zc VZ ZA V6 S5 Y4 stV XH VV Ld fnV YB RY WL St.gh? US Va St.itr? lkF S9 Wd tupV0 tupV1 tupV2 St.ev St.evs St.evo St.val St.put lk pk St.fetch St.box? St.arr? St.rws? St.mp? cut iE cl mkc Up Xp St.live St.fwd St.stor St.storM St.kill bldV isS nt cI dB aA ak pur purs pur1 pur2 src wT vn aV ce gm St.isNilM ML St.hide St.nowR St.nrm KS XS XN X1 XT XO X2 XQ XL XZ so_mp sr_mp sb_mp so_gh sr_gh sb_gh XR XM X0 XP XK XY UF UE UN UG so_no sr_no sb_no nY Bm ren dO fL bY idx St.mats St.mat ent St.rv St.rvs ok oks okH bk St.cur St.curA St.cur0 St.curs cU bck lI G0 wr vV St.back HZ tI DS kin lP di St.pl? St.setP low oU Bg QT J5 J6 J8 yq qf PJ Yt VY WJ ZT Di WE ZK VJ JY WD ZI Vd RD WB Zt Na OK IG KB HA VS SU WF ZQ UM Q2 Wy Zj SV SW A9 VU VT Ba HG WG ZR WI ZS S2 WK ZV Qz Ww Zf KA Qy Wv Ze Ss Su WC ZH xG
theorem mg(n:Int)(h1:-9223372036854775808<=n)(h2:n<=9223372036854775807):IntKind.i64.wrap n=n:=by
 rw[Go.IntKind.wrap_i64];omega
theorem max64:IntKind.i64.max=9223372036854775807:=by decide
theorem min64:IntKind.i64.min=-9223372036854775808:=by decide
theorem maxU8:IntKind.u8.max=255:=by decide
theorem minU8:IntKind.u8.min=0:=by decide
theorem EO(n:Int)(h1:0<=n)(h2:n<=255):IntKind.u8.wrap n=n:=by
 rw[Go.IntKind.wrap_u8];omega
theorem s8(n:Int)(h1:-2147483648<=n)(h2:n<=2147483647):IntKind.i32.wrap n=n:=by
 rw[Go.IntKind.wrap_i32];omega
theorem Xz{a b:Int}(h1:-9223372036854775808<=a+b)(h2:a+b<=9223372036854775807):ct .add .i64 a b=some (.int .i64 (a+b)):=by simp only[ct,mg _ h1 h2]
theorem Xn{a b:Int}(h1:-9223372036854775808<=a-b)(h2:a-b<=9223372036854775807):ct .sub .i64 a b=some (.int .i64 (a-b)):=by simp only[ct,mg _ h1 h2]
theorem Xt{a b:Int}(h1:-9223372036854775808<=a*b)(h2:a*b<=9223372036854775807):ct .mul .i64 a b=some (.int .i64 (a*b)):=by simp only[ct,mg _ h1 h2]
theorem vadd8{a b:Int}(h1:0<=a+b)(h2:a+b<=255):ct .add .u8 a b=some (.int .u8 (a+b)):=by simp only[ct,EO _ h1 h2]
theorem vsub8{a b:Int}(h1:0<=a-b)(h2:a-b<=255):ct .sub .u8 a b=some (.int .u8 (a-b)):=by simp only[ct,EO _ h1 h2]
theorem XA{a b:Int}(h1:-2147483648<=a+b)(h2:a+b<=2147483647):ct .add .i32 a b=some (.int .i32 (a+b)):=by simp only[ct,s8 _ h1 h2]
theorem Xo{a b:Int}(h1:-2147483648<=a-b)(h2:a-b<=2147483647):ct .sub .i32 a b=some (.int .i32 (a-b)):=by simp only[ct,s8 _ h1 h2]
theorem Xu{a b:Int}(h1:-2147483648<=a*b)(h2:a*b<=2147483647):ct .mul .i32 a b=some (.int .i32 (a*b)):=by simp only[ct,s8 _ h1 h2]
theorem Xw{n:Int}(h1:-9223372036854775808<=n)(h2:n<=9223372036854775807):ET .i64 n=some (.int .i64 n):=by simp only[ET,mg _ h1 h2]
theorem vcii8{n:Int}(h1:0<=n)(h2:n<=255):ET .u8 n=some (.int .u8 n):=by simp only[ET,EO _ h1 h2]
theorem Un{n:Int}(h1:0<=n)(h2:n<128):Uo n=some (.str [UInt8.ofNat n.toNat]):=by simp only[Uo,if_pos (And.intro h1 h2)]
theorem Xx{n:Int}(h1:-2147483648<=n)(h2:n<=2147483647):ET .i32 n=some (.int .i32 n):=by simp only[ET,s8 _ h1 h2]
theorem Xs{n:Int}(h1:-9223372036854775808<=0-n)(h2:0-n<=9223372036854775807):vun .neg (.int .i64 n)=some (.int .i64 (0-n)):=by simp only[vun,mg _ h1 h2]
attribute [simp high] Xz Xn Xt vadd8 vsub8 XA Xo Xu Xw vcii8 Xx Un Xs
theorem Xr{a b:Int}(h0:0<=a)(h1:0<b)(h2:a<=9223372036854775807):ct .quo .i64 a b=some (.int .i64 (a/b)):=by
 have h3:0<=a/b:=Int.ediv_nonneg h0 (by omega)
 have h4:a/b<=a:=Int.ediv_le_self _ h0;simp only[ct];rw[if_neg (by omega),Int.tdiv_eq_ediv_of_nonneg h0,mg _ (by omega) (by omega)]
theorem Xq{k:IntKind}{a b:Int}(h0:0<=a)(h1:0<b):ct .rem k a b=some (.int k (a%b)):=by
 simp only[ct];rw[if_neg (by omega),Int.tmod_eq_emod_of_nonneg h0]
theorem vremt{k:IntKind}{a b:Int}(h1:b≠0):ct .rem k a b=some (.int k (a.tmod b)):=by
 simp only[ct];rw[if_neg h1]
theorem veql{k:IntKind}{a b:Int}:ct .eql k a b=some (.bool (decide (a=b))):=rfl
theorem vneq{k:IntKind}{a b:Int}:ct .neq k a b=some (.bool (!decide (a=b))):=rfl
theorem vlss{k:IntKind}{a b:Int}:ct .lss k a b=some (.bool (decide (a<b))):=rfl
theorem vleq{k:IntKind}{a b:Int}:ct .leq k a b=some (.bool (decide (a<=b))):=rfl
theorem vgtr{k:IntKind}{a b:Int}:ct .gtr k a b=some (.bool (decide (b<a))):=rfl
theorem vgeq{k:IntKind}{a b:Int}:ct .geq k a b=some (.bool (decide (b<=a))):=rfl
theorem vnot{b:Bool}:vun .not (.bool b)=some (.bool !b):=rfl
attribute [simp high] Xr Xq
attribute [simp] veql vneq vlss vleq vgtr vgeq vnot vremt mg EO s8 max64 min64 maxU8 minU8
theorem Yx(m n:Nat):((no_index (@OfNat.ofNat Int m instOfNat))<=(n:Int))↔(@OfNat.ofNat Nat m (instOfNatNat m))<=n:=zDi
theorem YI(m n:Nat):((n:Int)<=(no_index (@OfNat.ofNat Int m instOfNat)))↔n<=(@OfNat.ofNat Nat m (instOfNatNat m)):=zDi
theorem Yw(m n:Nat):((no_index (@OfNat.ofNat Int m instOfNat))<(n:Int))↔(@OfNat.ofNat Nat m (instOfNatNat m))<n:=zDj
theorem YG(m n:Nat):((n:Int)<(no_index (@OfNat.ofNat Int m instOfNat)))↔n<(@OfNat.ofNat Nat m (instOfNatNat m)):=zDj
theorem Yy(m n:Nat):((no_index (@OfNat.ofNat Int m instOfNat))=(n:Int))↔(@OfNat.ofNat Nat m (instOfNatNat m))=n:=zDg
theorem YT(m n:Nat):((n:Int)=(no_index (@OfNat.ofNat Int m instOfNat)))↔n=(@OfNat.ofNat Nat m (instOfNatNat m)):=zDg
attribute [simp] Yx YI Yw YG Yy YT
theorem get0{α:Type}{x:α}{l:List α}:(x::l)[0]?=some x:=rfl
attribute [simp] get0
theorem ite_t{p:Prop}[Decidable p]{α:Sort _}{a b:α}(h:p):(if p then a else b)=a:=if_pos h
theorem ite_f{p:Prop}[Decidable p]{α:Sort _}{a b:α}(h:¬p):(if p then a else b)=b:=if_neg h
attribute [simp] ite_t ite_f
theorem eE{α:Type}{l:List α}{k:Nat}{x:α}(h:l[k]?=some x):l.drop k=x::l.drop (k+1):=by
 obtain⟨h1,h2⟩:=zAf.1 h;rw[List.drop_eq_getElem_cons h1,h2]
theorem bq{α:Type}{l:List α}{k:Nat}(h:k<l.length):∃x,l[k]?=some x:=⟨_,List.getElem?_eq_getElem h⟩
theorem place{α:Type}(l:List α)(k:Nat)(h:k<=l.length):(k=l.length/\l.drop k=[])\/(k<l.length/\∃x,l[k]?=some x/\l.drop k=x::l.drop (k+1)):=by
 rcases zDa k l.length with h'|h'
 ·obtain⟨x,hx⟩:=bq h'
  exact .inr ⟨h',x,hx,eE hx⟩
 ·have:k=l.length:=by omega
  exact .inl ⟨this,by simp[this]⟩
def Hid(p:Prop):Prop:=p
theorem Hid.out{p:Prop}(h:Hid p):p:=h
theorem hid{p:Prop}(h:p):Hid p:=h
theorem Cn_p{P:Program}:(Cn P).p=Fn P:=rfl
theorem Cn_n{P:Program}:(Cn P).n=FnN P:=rfl
theorem Cn_e{P:Program}:(Cn P).e=FnH P:=rfl
def o1(d:Nat)(a:Act'):AOp:=⟨some d,a,none⟩
def o0(a:Act'):AOp:=⟨none,a,none⟩
def gt(t:Nat)(o:AOp):AOp:=⟨o.d,o.a,some (t,true)⟩
def gf(t:Nat)(o:AOp):AOp:=⟨o.d,o.a,some (t,false)⟩
def ts:List Nat->List AO
 |[]=>[]
 |t::l=>.t t::ts l
def m(d x:Nat):AOp:=⟨some d,.mov (.t x),none⟩
def mv(d:Nat)(v:V):AOp:=⟨some d,.mov (.v v),none⟩
def mi(d:Nat)(n:Int):AOp:=⟨some d,.mov (.v (.int .i64 n)),none⟩
def mb(d:Nat)(b:Bool):AOp:=⟨some d,.mov (.v (.bool b)),none⟩
def bt(d:Nat)(op:BinOp)(x y:Nat):AOp:=⟨some d,.bin op (.t x) (.t y),none⟩
def bi(d:Nat)(op:BinOp)(x:Nat)(n:Int):AOp:=⟨some d,.bin op (.t x) (.v (.int .i64 n)),none⟩
def bu(d:Nat)(op:BinOp)(x:Nat)(n:Int):AOp:=⟨some d,.bin op (.t x) (.v (.int .u8 n)),none⟩
def bs(d:Nat)(op:BinOp)(x:Nat)(s:List UInt8):AOp:=⟨some d,.bin op (.t x) (.v (.str s)),none⟩
def nt'(d x:Nat):AOp:=⟨some d,.un .not (.t x),none⟩
def ls(d x:Nat):AOp:=⟨some d,.lens (.t x),none⟩
def lq(d x:Nat):AOp:=⟨some d,.lenq (.t x),none⟩
def fa(d x o:Nat):AOp:=⟨some d,.fa (.t x) o,none⟩
def fl(d x o:Nat):AOp:=⟨some d,.fld (.t x) o 1 false,none⟩
def l1(d x:Nat):AOp:=⟨some d,.ld (.t x) 1 false,none⟩
def la(d x n:Nat):AOp:=⟨some d,.ld (.t x) n true,none⟩
def ia(d x i s:Nat):AOp:=⟨some d,.ia (.t x) (.t i) s,none⟩
def ix(d x i:Nat):AOp:=⟨some d,.ixs (.t x) (.t i),none⟩
def pa(d x y:Nat):AOp:=⟨some d,.pick (.t x) (.t y) (.v (.bool false)),none⟩
def po(d x y:Nat):AOp:=⟨some d,.pick (.t x) (.v (.bool true)) (.t y),none⟩
def ex(d x i:Nat):AOp:=⟨some d,.ext (.t x) i,none⟩
def bx(d x:Nat):AOp:=⟨some d,.box (.t x),none⟩
def st(n x y:Nat):AOp:=⟨none,.st n (.t x) (.t y),none⟩
def ca(d f:Nat)(l:List Nat):AOp:=⟨some d,.call f (ts l),none⟩
def ch(d f:Nat)(l:List Nat):AOp:=⟨some d,.callH f (ts l),none⟩
def cv(d g:Nat)(l:List Nat):AOp:=⟨some d,.callv (.t g) (ts l),none⟩
def Q:List AC->AC
 |[]=>.skip
 |[a]=>a
 |a::l=>.seq a (Q l)
def OQ:List AOp->OT->OT
 |[],t=>t
 |x::xs,t=>.op x (OQ xs t)
def C(c:Nat)(a b:AC):AC:=.cond (.t c) a b
theorem OQ0{t:OT}:OQ [] t=t:=rfl
theorem OQ1{x:AOp}{xs:List AOp}{t:OT}:OQ (x::xs) t=.op x (OQ xs t):=rfl
attribute [simp] OQ0 OQ1
section
variable{Φ:Ctr}{K:St->Prop}{σ:St}{Q':Ex->St->Prop}
theorem WT{d:Nat}{a:Act'}:wop Φ (o1 d a) K σ=af Φ (some d) (a) K σ:=propext zAa
theorem TU{d:Nat}{a:Act'}:aK Φ (o1 d a) K σ=ai Φ (some d) (a) K σ:=propext zAa
theorem WU{a:Act'}:wop Φ (o0 a) K σ=af Φ (none) (a) K σ:=propext zAa
theorem TV{a:Act'}:aK Φ (o0 a) K σ=ai Φ (none) (a) K σ:=propext zAa
theorem wop_m{d x:Nat}:wop Φ (m d x) K σ=af Φ (some d) (.mov (.t x)) K σ:=propext zAa
theorem Xm{d x:Nat}:aK Φ (m d x) K σ=ai Φ (some d) (.mov (.t x)) K σ:=propext zAa
theorem WV{d:Nat}{v:V}:wop Φ (mv d v) K σ=af Φ (some d) (.mov (.v v)) K σ:=propext zAa
theorem TW{d:Nat}{v:V}:aK Φ (mv d v) K σ=ai Φ (some d) (.mov (.v v)) K σ:=propext zAa
theorem WX{d:Nat}{n:Int}:wop Φ (mi d n) K σ=af Φ (some d) (.mov (.v (.int .i64 n))) K σ:=propext zAa
theorem TX{d:Nat}{n:Int}:aK Φ (mi d n) K σ=ai Φ (some d) (.mov (.v (.int .i64 n))) K σ:=propext zAa
theorem WY{d:Nat}{b:Bool}:wop Φ (mb d b) K σ=af Φ (some d) (.mov (.v (.bool b))) K σ:=propext zAa
theorem TY{d:Nat}{b:Bool}:aK Φ (mb d b) K σ=ai Φ (some d) (.mov (.v (.bool b))) K σ:=propext zAa
theorem Xi{d:Nat}{op:BinOp}{x y:Nat}:wop Φ (bt d op x y) K σ=af Φ (some d) (.bin op (.t x) (.t y)) K σ:=propext zAa
theorem Uh{d:Nat}{op:BinOp}{x y:Nat}:aK Φ (bt d op x y) K σ=ai Φ (some d) (.bin op (.t x) (.t y)) K σ:=propext zAa
theorem Xk{d:Nat}{op:BinOp}{x:Nat}{n:Int}:wop Φ (bi d op x n) K σ=af Φ (some d) (.bin op (.t x) (.v (.int .i64 n))) K σ:=propext zAa
theorem Uj{d:Nat}{op:BinOp}{x:Nat}{n:Int}:aK Φ (bi d op x n) K σ=ai Φ (some d) (.bin op (.t x) (.v (.int .i64 n))) K σ:=propext zAa
theorem Xh{d:Nat}{op:BinOp}{x:Nat}{n:Int}:wop Φ (bu d op x n) K σ=af Φ (some d) (.bin op (.t x) (.v (.int .u8 n))) K σ:=propext zAa
theorem Ug{d:Nat}{op:BinOp}{x:Nat}{n:Int}:aK Φ (bu d op x n) K σ=ai Φ (some d) (.bin op (.t x) (.v (.int .u8 n))) K σ:=propext zAa
theorem Xj{d:Nat}{op:BinOp}{x:Nat}{s:List UInt8}:wop Φ (bs d op x s) K σ=af Φ (some d) (.bin op (.t x) (.v (.str s))) K σ:=propext zAa
theorem Ui{d:Nat}{op:BinOp}{x:Nat}{s:List UInt8}:aK Φ (bs d op x s) K σ=ai Φ (some d) (.bin op (.t x) (.v (.str s))) K σ:=propext zAa
theorem TP{d x:Nat}:wop Φ (nt' d x) K σ=af Φ (some d) (.un .not (.t x)) K σ:=propext zAa
theorem Qt{d x:Nat}:aK Φ (nt' d x) K σ=ai Φ (some d) (.un .not (.t x)) K σ:=propext zAa
theorem WZ{d x:Nat}:wop Φ (ls d x) K σ=af Φ (some d) (.lens (.t x)) K σ:=propext zAa
theorem TZ{d x:Nat}:aK Φ (ls d x) K σ=ai Φ (some d) (.lens (.t x)) K σ:=propext zAa
theorem W3{d x:Nat}:wop Φ (lq d x) K σ=af Φ (some d) (.lenq (.t x)) K σ:=propext zAa
theorem T0{d x:Nat}:aK Φ (lq d x) K σ=ai Φ (some d) (.lenq (.t x)) K σ:=propext zAa
theorem Xb{d x o:Nat}:wop Φ (fa d x o) K σ=af Φ (some d) (.fa (.t x) o) K σ:=propext zAa
theorem Ua{d x o:Nat}:aK Φ (fa d x o) K σ=ai Φ (some d) (.fa (.t x) o) K σ:=propext zAa
theorem Xa{d x o:Nat}:wop Φ (fl d x o) K σ=af Φ (some d) (.fld (.t x) o 1 false) K σ:=propext zAa
theorem T9{d x o:Nat}:aK Φ (fl d x o) K σ=ai Φ (some d) (.fld (.t x) o 1 false) K σ:=propext zAa
theorem W5{d x:Nat}:wop Φ (l1 d x) K σ=af Φ (some d) (.ld (.t x) 1 false) K σ:=propext zAa
theorem T4{d x:Nat}:aK Φ (l1 d x) K σ=ai Φ (some d) (.ld (.t x) 1 false) K σ:=propext zAa
theorem W4{d x n:Nat}:wop Φ (la d x n) K σ=af Φ (some d) (.ld (.t x) n true) K σ:=propext zAa
theorem T3{d x n:Nat}:aK Φ (la d x n) K σ=ai Φ (some d) (.ld (.t x) n true) K σ:=propext zAa
theorem W7{d x i s:Nat}:wop Φ (ia d x i s) K σ=af Φ (some d) (.ia (.t x) (.t i) s) K σ:=propext zAa
theorem T6{d x i s:Nat}:aK Φ (ia d x i s) K σ=ai Φ (some d) (.ia (.t x) (.t i) s) K σ:=propext zAa
theorem W6{d x i:Nat}:wop Φ (ix d x i) K σ=af Φ (some d) (.ixs (.t x) (.t i)) K σ:=propext zAa
theorem T5{d x i:Nat}:aK Φ (ix d x i) K σ=ai Φ (some d) (.ixs (.t x) (.t i)) K σ:=propext zAa
theorem WS{d x y:Nat}:wop Φ (pa d x y) K σ=af Φ (some d) (.pick (.t x) (.t y) (.v (.bool false))) K σ:=propext zAa
theorem TT{d x y:Nat}:aK Φ (pa d x y) K σ=ai Φ (some d) (.pick (.t x) (.t y) (.v (.bool false))) K σ:=propext zAa
theorem WR{d x y:Nat}:wop Φ (po d x y) K σ=af Φ (some d) (.pick (.t x) (.v (.bool true)) (.t y)) K σ:=propext zAa
theorem TS{d x y:Nat}:aK Φ (po d x y) K σ=ai Φ (some d) (.pick (.t x) (.v (.bool true)) (.t y)) K σ:=propext zAa
theorem Xc{d x i:Nat}:wop Φ (ex d x i) K σ=af Φ (some d) (.ext (.t x) i) K σ:=propext zAa
theorem Ub{d x i:Nat}:aK Φ (ex d x i) K σ=ai Φ (some d) (.ext (.t x) i) K σ:=propext zAa
theorem Xg{d x:Nat}:wop Φ (bx d x) K σ=af Φ (some d) (.box (.t x)) K σ:=propext zAa
theorem Uf{d x:Nat}:aK Φ (bx d x) K σ=ai Φ (some d) (.box (.t x)) K σ:=propext zAa
theorem WQ{n x y:Nat}:wop Φ (st n x y) K σ=af Φ (none) (.st n (.t x) (.t y)) K σ:=propext zAa
theorem TR{n x y:Nat}:aK Φ (st n x y) K σ=ai Φ (none) (.st n (.t x) (.t y)) K σ:=propext zAa
theorem Xf{d f:Nat}{l:List Nat}:wop Φ (ca d f l) K σ=af Φ (some d) (.call f (ts l)) K σ:=propext zAa
theorem Ue{d f:Nat}{l:List Nat}:aK Φ (ca d f l) K σ=ai Φ (some d) (.call f (ts l)) K σ:=propext zAa
theorem Xe{d f:Nat}{l:List Nat}:wop Φ (ch d f l) K σ=af Φ (some d) (.callH f (ts l)) K σ:=propext zAa
theorem Ud{d f:Nat}{l:List Nat}:aK Φ (ch d f l) K σ=ai Φ (some d) (.callH f (ts l)) K σ:=propext zAa
theorem Xd{d g:Nat}{l:List Nat}:wop Φ (cv d g l) K σ=af Φ (some d) (.callv (.t g) (ts l)) K σ:=propext zAa
theorem Uc{d g:Nat}{l:List Nat}:aK Φ (cv d g l) K σ=ai Φ (some d) (.callv (.t g) (ts l)) K σ:=propext zAa
def skO(o:AOp)(K:St->Prop)(σ:St):Prop:=K (σ.put o.d (.tup []))
theorem UJ{o:AOp}:skO o K σ=K (σ.put o.d (.tup [])):=propext zAa
def un(o:AOp):AOp:=⟨o.d,o.a,none⟩
theorem W8{t:Nat}{o:AOp}:wop Φ (gt t o) K σ=gM (lk σ.r t) true (wop Φ (un o) K) (skO o K) σ:=by
 simp only[gt,Qr];rfl
theorem W9{t:Nat}{o:AOp}:wop Φ (gf t o) K σ=gM (lk σ.r t) false (wop Φ (un o) K) (skO o K) σ:=by
 simp only[gf,Qr];rfl
theorem T7{t:Nat}{o:AOp}:aK Φ (gt t o) K σ=gM (lk σ.r t) true (aK Φ (un o) K) (skO o K) σ:=by
 simp only[gt,Kq];rfl
theorem T8{t:Nat}{o:AOp}:aK Φ (gf t o) K σ=gM (lk σ.r t) false (aK Φ (un o) K) (skO o K) σ:=by
 simp only[gf,Kq];rfl
theorem Tr{d:Nat}{a:Act'}:wop Φ (un (o1 d a)) K σ=af Φ (some d) (a) K σ:=propext zAa
theorem P3{d:Nat}{a:Act'}:aK Φ (un (o1 d a)) K σ=ai Φ (some d) (a) K σ:=propext zAa
theorem Ts{a:Act'}:wop Φ (un (o0 a)) K σ=af Φ (none) (a) K σ:=propext zAa
theorem P4{a:Act'}:aK Φ (un (o0 a)) K σ=ai Φ (none) (a) K σ:=propext zAa
theorem WP{d x:Nat}:wop Φ (un (m d x)) K σ=af Φ (some d) (.mov (.t x)) K σ:=propext zAa
theorem TO{d x:Nat}:aK Φ (un (m d x)) K σ=ai Φ (some d) (.mov (.t x)) K σ:=propext zAa
theorem Tt{d:Nat}{v:V}:wop Φ (un (mv d v)) K σ=af Φ (some d) (.mov (.v v)) K σ:=propext zAa
theorem P5{d:Nat}{v:V}:aK Φ (un (mv d v)) K σ=ai Φ (some d) (.mov (.v v)) K σ:=propext zAa
theorem Tu{d:Nat}{n:Int}:wop Φ (un (mi d n)) K σ=af Φ (some d) (.mov (.v (.int .i64 n))) K σ:=propext zAa
theorem P6{d:Nat}{n:Int}:aK Φ (un (mi d n)) K σ=ai Φ (some d) (.mov (.v (.int .i64 n))) K σ:=propext zAa
theorem Tv{d:Nat}{b:Bool}:wop Φ (un (mb d b)) K σ=af Φ (some d) (.mov (.v (.bool b))) K σ:=propext zAa
theorem P7{d:Nat}{b:Bool}:aK Φ (un (mb d b)) K σ=ai Φ (some d) (.mov (.v (.bool b))) K σ:=propext zAa
theorem TL{d:Nat}{op:BinOp}{x y:Nat}:wop Φ (un (bt d op x y)) K σ=af Φ (some d) (.bin op (.t x) (.t y)) K σ:=propext zAa
theorem Qm{d:Nat}{op:BinOp}{x y:Nat}:aK Φ (un (bt d op x y)) K σ=ai Φ (some d) (.bin op (.t x) (.t y)) K σ:=propext zAa
theorem TN{d:Nat}{op:BinOp}{x:Nat}{n:Int}:wop Φ (un (bi d op x n)) K σ=af Φ (some d) (.bin op (.t x) (.v (.int .i64 n))) K σ:=propext zAa
theorem Qo{d:Nat}{op:BinOp}{x:Nat}{n:Int}:aK Φ (un (bi d op x n)) K σ=ai Φ (some d) (.bin op (.t x) (.v (.int .i64 n))) K σ:=propext zAa
theorem TK{d:Nat}{op:BinOp}{x:Nat}{n:Int}:wop Φ (un (bu d op x n)) K σ=af Φ (some d) (.bin op (.t x) (.v (.int .u8 n))) K σ:=propext zAa
theorem Ql{d:Nat}{op:BinOp}{x:Nat}{n:Int}:aK Φ (un (bu d op x n)) K σ=ai Φ (some d) (.bin op (.t x) (.v (.int .u8 n))) K σ:=propext zAa
theorem TM{d:Nat}{op:BinOp}{x:Nat}{s:List UInt8}:wop Φ (un (bs d op x s)) K σ=af Φ (some d) (.bin op (.t x) (.v (.str s))) K σ:=propext zAa
theorem Qn{d:Nat}{op:BinOp}{x:Nat}{s:List UInt8}:aK Φ (un (bs d op x s)) K σ=ai Φ (some d) (.bin op (.t x) (.v (.str s))) K σ:=propext zAa
theorem PZ{d x:Nat}:wop Φ (un (nt' d x)) K σ=af Φ (some d) (.un .not (.t x)) K σ:=propext zAa
theorem NJ{d x:Nat}:aK Φ (un (nt' d x)) K σ=ai Φ (some d) (.un .not (.t x)) K σ:=propext zAa
theorem Tw{d x:Nat}:wop Φ (un (ls d x)) K σ=af Φ (some d) (.lens (.t x)) K σ:=propext zAa
theorem P8{d x:Nat}:aK Φ (un (ls d x)) K σ=ai Φ (some d) (.lens (.t x)) K σ:=propext zAa
theorem Tx{d x:Nat}:wop Φ (un (lq d x)) K σ=af Φ (some d) (.lenq (.t x)) K σ:=propext zAa
theorem P9{d x:Nat}:aK Φ (un (lq d x)) K σ=ai Φ (some d) (.lenq (.t x)) K σ:=propext zAa
theorem TD{d x o:Nat}:wop Φ (un (fa d x o)) K σ=af Φ (some d) (.fa (.t x) o) K σ:=propext zAa
theorem Qf{d x o:Nat}:aK Φ (un (fa d x o)) K σ=ai Φ (some d) (.fa (.t x) o) K σ:=propext zAa
theorem TC{d x o:Nat}:wop Φ (un (fl d x o)) K σ=af Φ (some d) (.fld (.t x) o 1 false) K σ:=propext zAa
theorem Qe{d x o:Nat}:aK Φ (un (fl d x o)) K σ=ai Φ (some d) (.fld (.t x) o 1 false) K σ:=propext zAa
theorem Tz{d x:Nat}:wop Φ (un (l1 d x)) K σ=af Φ (some d) (.ld (.t x) 1 false) K σ:=propext zAa
theorem Qb{d x:Nat}:aK Φ (un (l1 d x)) K σ=ai Φ (some d) (.ld (.t x) 1 false) K σ:=propext zAa
theorem Ty{d x n:Nat}:wop Φ (un (la d x n)) K σ=af Φ (some d) (.ld (.t x) n true) K σ:=propext zAa
theorem Qa{d x n:Nat}:aK Φ (un (la d x n)) K σ=ai Φ (some d) (.ld (.t x) n true) K σ:=propext zAa
theorem TB{d x i s:Nat}:wop Φ (un (ia d x i s)) K σ=af Φ (some d) (.ia (.t x) (.t i) s) K σ:=propext zAa
theorem Qd{d x i s:Nat}:aK Φ (un (ia d x i s)) K σ=ai Φ (some d) (.ia (.t x) (.t i) s) K σ:=propext zAa
theorem TA{d x i:Nat}:wop Φ (un (ix d x i)) K σ=af Φ (some d) (.ixs (.t x) (.t i)) K σ:=propext zAa
theorem Qc{d x i:Nat}:aK Φ (un (ix d x i)) K σ=ai Φ (some d) (.ixs (.t x) (.t i)) K σ:=propext zAa
theorem Tq{d x y:Nat}:wop Φ (un (pa d x y)) K σ=af Φ (some d) (.pick (.t x) (.t y) (.v (.bool false))) K σ:=propext zAa
theorem P2{d x y:Nat}:aK Φ (un (pa d x y)) K σ=ai Φ (some d) (.pick (.t x) (.t y) (.v (.bool false))) K σ:=propext zAa
theorem Tp{d x y:Nat}:wop Φ (un (po d x y)) K σ=af Φ (some d) (.pick (.t x) (.v (.bool true)) (.t y)) K σ:=propext zAa
theorem P1{d x y:Nat}:aK Φ (un (po d x y)) K σ=ai Φ (some d) (.pick (.t x) (.v (.bool true)) (.t y)) K σ:=propext zAa
theorem TE{d x i:Nat}:wop Φ (un (ex d x i)) K σ=af Φ (some d) (.ext (.t x) i) K σ:=propext zAa
theorem Qg{d x i:Nat}:aK Φ (un (ex d x i)) K σ=ai Φ (some d) (.ext (.t x) i) K σ:=propext zAa
theorem TJ{d x:Nat}:wop Φ (un (bx d x)) K σ=af Φ (some d) (.box (.t x)) K σ:=propext zAa
theorem Qk{d x:Nat}:aK Φ (un (bx d x)) K σ=ai Φ (some d) (.box (.t x)) K σ:=propext zAa
theorem To{n x y:Nat}:wop Φ (un (st n x y)) K σ=af Φ (none) (.st n (.t x) (.t y)) K σ:=propext zAa
theorem P0{n x y:Nat}:aK Φ (un (st n x y)) K σ=ai Φ (none) (.st n (.t x) (.t y)) K σ:=propext zAa
theorem TH{d f:Nat}{l:List Nat}:wop Φ (un (ca d f l)) K σ=af Φ (some d) (.call f (ts l)) K σ:=propext zAa
theorem Qj{d f:Nat}{l:List Nat}:aK Φ (un (ca d f l)) K σ=ai Φ (some d) (.call f (ts l)) K σ:=propext zAa
theorem TG{d f:Nat}{l:List Nat}:wop Φ (un (ch d f l)) K σ=af Φ (some d) (.callH f (ts l)) K σ:=propext zAa
theorem Qi{d f:Nat}{l:List Nat}:aK Φ (un (ch d f l)) K σ=ai Φ (some d) (.callH f (ts l)) K σ:=propext zAa
theorem TF{d g:Nat}{l:List Nat}:wop Φ (un (cv d g l)) K σ=af Φ (some d) (.callv (.t g) (ts l)) K σ:=propext zAa
theorem Qh{d g:Nat}{l:List Nat}:aK Φ (un (cv d g l)) K σ=ai Φ (some d) (.callv (.t g) (ts l)) K σ:=propext zAa
theorem d_o1{d:Nat}{a:Act'}:(o1 d a).d=some d:=rfl
theorem d_o0{a:Act'}:(o0 a).d=none:=rfl
theorem d_m{d x:Nat}:(m d x).d=some d:=rfl
theorem d_mv{d:Nat}{v:V}:(mv d v).d=some d:=rfl
theorem d_mi{d:Nat}{n:Int}:(mi d n).d=some d:=rfl
theorem d_mb{d:Nat}{b:Bool}:(mb d b).d=some d:=rfl
theorem d_bt{d:Nat}{op:BinOp}{x y:Nat}:(bt d op x y).d=some d:=rfl
theorem d_bi{d:Nat}{op:BinOp}{x:Nat}{n:Int}:(bi d op x n).d=some d:=rfl
theorem d_bu{d:Nat}{op:BinOp}{x:Nat}{n:Int}:(bu d op x n).d=some d:=rfl
theorem d_bs{d:Nat}{op:BinOp}{x:Nat}{s:List UInt8}:(bs d op x s).d=some d:=rfl
theorem d_ntp{d x:Nat}:(nt' d x).d=some d:=rfl
theorem d_ls{d x:Nat}:(ls d x).d=some d:=rfl
theorem d_lq{d x:Nat}:(lq d x).d=some d:=rfl
theorem d_fa{d x o:Nat}:(fa d x o).d=some d:=rfl
theorem d_fl{d x o:Nat}:(fl d x o).d=some d:=rfl
theorem d_l1{d x:Nat}:(l1 d x).d=some d:=rfl
theorem d_la{d x n:Nat}:(la d x n).d=some d:=rfl
theorem d_ia{d x i s:Nat}:(ia d x i s).d=some d:=rfl
theorem d_ix{d x i:Nat}:(ix d x i).d=some d:=rfl
theorem d_pa{d x y:Nat}:(pa d x y).d=some d:=rfl
theorem d_po{d x y:Nat}:(po d x y).d=some d:=rfl
theorem d_ex{d x i:Nat}:(ex d x i).d=some d:=rfl
theorem d_bx{d x:Nat}:(bx d x).d=some d:=rfl
theorem d_st{n x y:Nat}:(st n x y).d=none:=rfl
theorem d_ca{d f:Nat}{l:List Nat}:(ca d f l).d=some d:=rfl
theorem d_ch{d f:Nat}{l:List Nat}:(ch d f l).d=some d:=rfl
theorem d_cv{d g:Nat}{l:List Nat}:(cv d g l).d=some d:=rfl
theorem d_un{o:AOp}:(un o).d=o.d:=rfl
theorem W_Q1{a:AC}:W Φ (Q [a]) Q' σ=W Φ a Q' σ:=propext zAa
theorem W_Q2{a b:AC}{l:List AC}:W Φ (Q (a::b::l)) Q' σ=W Φ a (Ex.then (W Φ (Q (b::l)) Q') Q') σ:=propext zAa
theorem W_C{c:Nat}{a b:AC}:W Φ (C c a b) Q' σ=cM (lk σ.r c) (W Φ a Q') (W Φ b Q') σ:=propext zAa
end
attribute [simp] UJ W8 W9 T7 T8 W_Q1 W_Q2 W_C WT TU Tr P3 WU TV Ts P4 wop_m Xm WP TO WV TW Tt P5 WX TX Tu P6 WY TY Tv P7 Xi Uh TL Qm Xk Uj TN Qo Xh Ug TK Ql Xj Ui TM Qn TP Qt PZ NJ WZ TZ Tw P8 W3 T0 Tx P9 Xb Ua TD Qf Xa T9 TC Qe W5 T4 Tz Qb W4 T3 Ty Qa W7 T6 TB Qd W6 T5 TA Qc WS TT Tq P2 WR TS Tp P1 Xc Ub TE Qg Xg Uf TJ Qk WQ TR To P0 Xf Ue TH Qj Xe Ud TG Qi Xd Uc TF Qh
attribute [simp] Cn_p Cn_n Cn_e ts d_o1 d_o0 d_m d_mv d_mi d_mb d_bt d_bi d_bu d_bs d_ntp d_ls d_lq d_fa d_fl d_l1 d_la d_ia d_ix d_pa d_po d_ex d_bx d_st d_ca d_ch d_cv d_un
end Go.Abs
end
section
namespace Go.Abs
open Go.RowKit
def MC(rs:List RV)(r:V):Ex->St->Prop:=fun e σ=>(match e with
    | .exit _=>False
    | .goto _=>False
    |_=>True)/\match σ.rvs rs with
    |some vs=>∃ms F ws,σ.pl?=some ms/\fY (frz ms F) vs=some ws/\fw ws=r
    |none=>False
section
variable{P:Program}
theorem FnE.of_WQ{f:FuncId}{fn:Func}{c:Code}{us:List V}{r:V}{x:AC}{rs:List RV}(hm:P.follows .mixedOrders=true)(hf:P.funcs[f]?=some fn)(hb:fn.body=some c)
 (hn:(fn.name == "runtime.NumGoroutine")=false) (hc:LC P fn.ntmps [] c x) (hr:u9 P fn.results.toList=some rs) (hs:us.length<=fn.ntmps)
 (hW:oks us->W (Cn P) x (MC rs r) ⟨ent 0 us,[some (.pool [])]⟩):FnE P f us r where
 call:=fun args w=>by
  unfold callFunc;simp only[beq_eq_false_iff_ne,ne_eq]at hn;simp[Sem.run_bind,hf,hb,hn]
 does:=fun M w cs hM hus=>by
  have hl:cs.size=us.length:=by have:=aC hus;simpa using this
  refine calls_of_wp hf hb ?_
  have H:Rel fn.ntmps M ⟨w.heap.size,fun _=>False,[],#[],w.heap.size,noJ,[],fun _ _ _ _ _ _=>False⟩ w ⟨fun _=>undef,fun _ _=>undef,fun _ _=>False,fun _=>none⟩ M ⟨ent 0 us,[some (.pool [])]⟩ { tmps:=cs++zAh (fn.ntmps-cs.size) undef,defers:=[] } w:=
   { dfr:=rfl,jst:=jO rfl,pin:=fun i hi=>by cases hi
     size:=by simp;omega
     regs:=fun t v ht=>by
      obtain⟨_,h2⟩:=vG ht;simp only[zCd]at h2;have hlt:t<us.length:=(zAf.1 h2).1;obtain⟨c,h3,h4⟩:=cd hus h2;refine⟨by omega,c,?_,aw (fun _ _ h=>h) (fun _ _ h=>h.elim) _ _ h4⟩
      rw[zAj (by omega)]
      simpa using h3
     heap:=fun id ob h=>by
      cases id with
      |succ id=>simp at h
      |zero=>
        simp at h;subst h;simp only[aE];exact⟨trivial,fun j m hm=>by simp at hm,fun i j m m' g hm=>by simp at hm,fun g hg=>hg.elim,fun g=>⟨fun h=>h.elim,fun⟨j,m,hm,_⟩=>by simp at hm⟩,fun k j n i off c h=>h.elim⟩
     inj:=fun i j oi oj g h h' hg=>hg.elim
     snd:=hM.snd
     sep:=fun p v _ id ob h hg=>hg
     sub:=⟨fun _ _ h=>h,fun _ _ h=>(by cases h),fun _ _ h=>(by cases h),zCb _,hM.gl⟩
     new:=fun _ _ h=>.inl h
     base:=rfl
     blw:=Und.refl _ _ }
  refine s9 (nd hm (jP rfl) (B:=⟨w.heap.size,fun _=>False,[],#[],w.heap.size,noJ,[],fun _ _ _ _ _ _=>False⟩) hc ?_ H (hW (c8 hus)));intro e κ M1 σ a w1 hR H1;simp only[MC]at hR;obtain⟨he,hR⟩:=hR;split at hR
  ·rename_i vs hvs
   obtain⟨ms,F,ws,hms,hws,hR⟩:=hR
   ·have hp:=bJ hms
    obtain⟨ds,k1,k2⟩:=gY hr H1 hvs;obtain⟨H2,hM1⟩:=H1.kill [0] (fun id hid=>by simp at hid;subst hid;exact⟨_,hp⟩)
    have k3:ae (ext M1 w1 (gp κ [0])) NX ws ds:=Jx H1 hp hM1 hws k1
    have fin:bodyPost P fn (fun e w'=>∃(c:Value)(M':Mem),e=.returned c/\rep M' NX r c/\Below w.heap.size w w'/\(∀p v,M' p=some v->w'.cell? p=some v)/\
     (∀p v,M p=some v->M' p=some v)/\∀p v,M' p=some v->M p=some v\/w.heap.size<=p.block) .normal a w1:=by
     refine⟨H1.dfr,_,k2,_,_,rfl,?_,⟨H1.blw.os,H1.blw.tape,H1.blw.output,H1.blw.size,fun k hk=>H1.blw.block k hk id⟩,H2.snd,H2.sub.sub,fun p v h=>(H2.new p v h).imp_right fun h=>h.elim id False.elim⟩;subst hR
     match ws,ds,k3 with
     |[],[],k3=>simp only[fw,rep];exact⟨#[],rfl,by simp[ae]⟩
     |[v],[d],k3=>
       simp only[ae]at k3;obtain⟨_,_,h1,h2,_⟩:=k3;cases h1;simpa[fw]using h2
     |v::v'::vs',d::d'::ds',k3=>
       have e:(if h:(d::d'::ds').length=1 then(d::d'::ds')[0]else .tuple (d::d'::ds').toArray)=.tuple (d::d'::ds').toArray:=dif_neg (by simp)
       rw[e];simp only[fw,rep];exact⟨_,rfl,by simpa using k3⟩
     |[],d::ds,k3=>simp[ae]at k3
     |v::vs,[],k3=>simp[ae]at k3
     |[v],d::d'::ds,k3=>simp[ae]at k3
     |v::v'::vs,[d],k3=>
       simp only[ae]at k3;obtain⟨c,cs',h1,_,c2,cs2,h2,_⟩:=k3;cases h1;cases h2
    cases e with
    |norm=>exact fin
    |ret=>exact fin
    |exit id=>exact he.elim
    |goto l=>exact he.elim
  ·exact hR.elim
theorem FnE.of_imageQ{f:FuncId}{fn:Func}{E:List Nat}{us:List V}{r:V}{x:AC}{K:List (List Nat)}{rs:List RV}{n:Nat}(hm:P.follows .mixedOrders=true)(hf:P.funcs[f]?=some fn)
 (hi:aq P fn [] E K n=some (x,rs)) (hn:us.length=n) (hW:oks us->W (Cn P) x (MC rs r) ⟨ent 0 us,[some (.pool [])]⟩):FnE P f us r:=by
 unfold aq at hi;split at hi
 ·split at hi
  ·split at hi
   ·rename_i hc
    cases hi;exact FnE.of_WQ hm hf ‹_› hc.1 (dw ‹_›) ‹_› (by rw[hn];exact hc.2.1) hW
   ·cases hi
  ·cases hi
 ·cases hi
end
def MZ(r:V)(σ:St)(vs:List V):Prop:=∃ms F ws,σ.pl?=some ms/\fY (frz ms F) vs=some ws/\fw ws=r
theorem PM{rs:List RV}{r:V}{σ:St}:MC rs r .norm σ=oM (σ.rvs rs) (MZ r σ):=by
 unfold MC oM;cases σ.rvs rs<;>simp[MZ]
theorem Tb{rs:List RV}{r:V}{σ:St}:MC rs r .ret σ=oM (σ.rvs rs) (MZ r σ):=by
 unfold MC oM;cases σ.rvs rs<;>simp[MZ]
attribute [simp] PM Tb
end Go.Abs
end
